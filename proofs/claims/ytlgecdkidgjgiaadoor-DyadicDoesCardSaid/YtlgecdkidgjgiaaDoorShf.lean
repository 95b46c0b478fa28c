/- Plain lemmas: digits that are moved up and down by bits; how many twos a number has. No program in sight. -/
import Derived.Test.YtlgecdkidgjgiaaDoorNum
import Derived.Laws.BitsAllLaws
namespace Go.Proofs.YtlgecdkidgjgiaaDoor

theorem two_pos (r : Nat) : (0 : Int) < 2 ^ r := Int.pow_pos (by decide)
theorem B64_two (r : Nat) (h : r ≤ 64) : B64 = 2 ^ (64 - r) * 2 ^ r := by
  rw [← Int.pow_add, Nat.sub_add_cancel h]; rfl
theorem B64_two' (r : Nat) (h : r ≤ 64) : B64 = 2 ^ r * 2 ^ (64 - r) := by rw [Int.mul_comm]; exact B64_two r h

/-- what is carried into limb k of a number that is moved up by r bits -/
def upc (r : Nat) (xs : List Int) : Nat → Int
  | 0 => 0
  | k + 1 => xs[k]?.getD 0 / 2 ^ (64 - r)
/-- limb k of a number that is moved up by r bits -/
def up (r : Nat) (xs : List Int) (k : Nat) : Int := xs[k]?.getD 0 * 2 ^ r % B64 + upc r xs k
theorem upc_bd {r : Nat} (hr : r ≤ 64) {xs : List Int} (h : Dg B64 xs) (k : Nat) : 0 ≤ upc r xs k ∧ upc r xs k < 2 ^ r := by
  cases k with
  | zero => exact ⟨Int.le_refl _, two_pos r⟩
  | succ k =>
    have hk := h k
    rw [B64_two' r hr] at hk
    exact ⟨Int.ediv_nonneg hk.1 (Int.le_of_lt (two_pos _)), Int.ediv_lt_of_lt_mul (two_pos _) hk.2⟩
theorem up_hi {r : Nat} (hr : r ≤ 64) (x : Int) : x * 2 ^ r % B64 = (x % 2 ^ (64 - r)) * 2 ^ r := by
  rw [B64_two r hr, Int.mul_comm x, Int.mul_comm (2 ^ (64 - r)), Int.mul_emod_mul_of_pos _ _ (two_pos r), Int.mul_comm]
theorem up_div {r : Nat} (hr : r ≤ 64) (x : Int) : x * 2 ^ r / B64 = x / 2 ^ (64 - r) := by
  rw [B64_two r hr, Int.mul_ediv_mul_of_pos_left _ _ (two_pos r)]
theorem up_step {r : Nat} (hr : r ≤ 64) (xs : List Int) (k : Nat) : up r xs k + B64 * upc r xs (k + 1) = xs[k]?.getD 0 * 2 ^ r + upc r xs k := by
  have e : upc r xs (k + 1) = xs[k]?.getD 0 * 2 ^ r / B64 := (up_div hr _).symm
  rw [e]
  unfold up
  have := Int.mul_ediv_add_emod (xs[k]?.getD 0 * 2 ^ r) B64
  omega
theorem hi_bd {r : Nat} (hr : r ≤ 64) (x : Int) : 0 ≤ x * 2 ^ r % B64 ∧ x * 2 ^ r % B64 + 2 ^ r ≤ B64 := by
  rw [up_hi hr]
  have h0 := Int.emod_nonneg x (Int.ne_of_gt (two_pos (64 - r)))
  have h1 := Int.emod_lt_of_pos x (two_pos (64 - r))
  generalize x % 2 ^ (64 - r) = y at *
  refine ⟨Int.mul_nonneg h0 (Int.le_of_lt (two_pos r)), ?_⟩
  rw [B64_two r hr]
  have : (y + 1) * 2 ^ r ≤ 2 ^ (64 - r) * 2 ^ r := Int.mul_le_mul_of_nonneg_right (by omega) (Int.le_of_lt (two_pos r))
  grind
theorem up_bd {r : Nat} (hr : r ≤ 64) {xs : List Int} (h : Dg B64 xs) (k : Nat) : 0 ≤ up r xs k ∧ up r xs k < B64 := by
  have a := upc_bd hr h k
  have b := hi_bd hr (xs[k]?.getD 0)
  unfold up
  omega
theorem or_add (r : Nat) (a l : Int) (ha : 0 ≤ a) (h0 : 0 ≤ l) (h1 : l < 2 ^ r) (h2 : a * 2 ^ r + l < B64) : bits .or .u64 (a * 2 ^ r) l = a * 2 ^ r + l := by
  have hp := two_pos r
  have h3 : 0 ≤ a * 2 ^ r := Int.mul_nonneg ha (Int.le_of_lt hp)
  unfold B64 at h2
  rw [u64_or _ _ h3 (by omega) h0 (by omega)]
  obtain ⟨A, rfl⟩ := Int.eq_ofNat_of_zero_le ha
  obtain ⟨L, rfl⟩ := Int.eq_ofNat_of_zero_le h0
  have e : ((A : Int) * 2 ^ r).toNat = 2 ^ r * A := by
    rw [show (A : Int) * 2 ^ r = ((2 ^ r * A : Nat) : Int) by push_cast; rw [Int.mul_comm]]
    rfl
  rw [e]
  have hL : L < 2 ^ r := by exact_mod_cast h1
  have := Nat.two_pow_add_eq_or_of_lt hL A
  rw [Int.toNat_natCast, ← this]
  push_cast
  rw [Int.mul_comm]
theorem up_or {r : Nat} (hr : r ≤ 64) {xs : List Int} (h : Dg B64 xs) (k : Nat) : bits .or .u64 (xs[k]?.getD 0 * 2 ^ r % B64) (upc r xs k) = up r xs k := by
  have a := upc_bd hr h k
  have b := up_bd hr h k
  unfold up at *
  rw [up_hi hr] at *
  exact or_add r _ _ (Int.emod_nonneg _ (Int.ne_of_gt (two_pos _))) a.1 a.2 b.2
theorem up_next {r : Nat} (hr : r < 64) (x : Int) : x / 2 / 2 ^ (63 - r) = x / 2 ^ (64 - r) := by
  show x / 2 ^ 1 / 2 ^ (63 - r) = x / 2 ^ (64 - r)
  rw [Int.ediv_ediv_of_nonneg (by decide), ← Int.pow_add, show 1 + (63 - r) = 64 - r by omega]
theorem up_sum {r : Nat} (hr : r ≤ 64) (xs : List Int) (k : Nat) : sm B64 (up r xs) k + upc r xs k * B64 ^ k = 2 ^ r * vl B64 (xs.take k) := by
  induction k with
  | zero => simp [sm, upc, vl]
  | succ k ih =>
    have e := up_step hr xs k
    rw [vl_take_succ]
    show sm B64 (up r xs) k + up r xs k * B64 ^ k + _ = _
    rw [Int.pow_succ]
    generalize upc r xs (k + 1) = c at *
    generalize up r xs k = u at *
    grind
theorem up_val {r : Nat} (hr : r ≤ 64) {xs : List Int} (h : Dg B64 xs) (m : Nat) :
    Dg B64 (List.replicate m 0 ++ rowOf (up r xs) (xs.length + 1)) ∧ vl B64 (List.replicate m 0 ++ rowOf (up r xs) (xs.length + 1)) = 2 ^ (64 * m + r) * vl B64 xs := by
  refine ⟨(Dg.zeros (by decide) m).append (Dg.rowOf (by decide) fun j _ => up_bd hr h j), ?_⟩
  rw [vl_append, vl_zeros, vl_rowOf, List.length_replicate]
  have e := up_sum hr xs (xs.length + 1)
  have e2 : upc r xs (xs.length + 1) = 0 := by
    show xs[xs.length]?.getD 0 / _ = 0
    rw [List.getElem?_eq_none (Nat.le_refl _)]; simp
  rw [e2, List.take_of_length_le (by omega)] at e
  rw [Int.pow_add, Int.pow_mul, show (2 : Int) ^ 64 = B64 from rfl]
  grind

/-- limb k of a number that is moved down by r bits, r below 64 -/
def dn (r : Nat) (xs : List Int) (k : Nat) : Int := xs[k]?.getD 0 / 2 ^ r + (xs[k + 1]?.getD 0 % 2 ^ r) * 2 ^ (64 - r)
theorem dn_step {r : Nat} (hr : r ≤ 64) (xs : List Int) (k : Nat) : 2 ^ r * dn r xs k = xs[k]?.getD 0 - xs[k]?.getD 0 % 2 ^ r + B64 * (xs[k + 1]?.getD 0 % 2 ^ r) := by
  unfold dn
  rw [B64_two r hr]
  have := Int.mul_ediv_add_emod (xs[k]?.getD 0) (2 ^ r)
  grind
theorem dn_bd {r : Nat} (hr : r ≤ 64) {xs : List Int} (h : Dg B64 xs) (k : Nat) : 0 ≤ dn r xs k ∧ dn r xs k < B64 := by
  have hk := h k
  have p := two_pos r
  have q := two_pos (64 - r)
  have e0 := Int.emod_nonneg (xs[k + 1]?.getD 0) (Int.ne_of_gt p)
  have e1 := Int.emod_lt_of_pos (xs[k + 1]?.getD 0) p
  have d0 : 0 ≤ xs[k]?.getD 0 / 2 ^ r := Int.ediv_nonneg hk.1 (Int.le_of_lt p)
  have d1 : xs[k]?.getD 0 / 2 ^ r < 2 ^ (64 - r) := by
    refine Int.ediv_lt_of_lt_mul p ?_
    rw [← B64_two r hr]; exact hk.2
  unfold dn
  generalize xs[k + 1]?.getD 0 % 2 ^ r = y at *
  generalize xs[k]?.getD 0 / 2 ^ r = z at *
  have m0 := Int.mul_nonneg e0 (Int.le_of_lt q)
  have m1 : (y + 1) * 2 ^ (64 - r) ≤ 2 ^ r * 2 ^ (64 - r) := Int.mul_le_mul_of_nonneg_right (by omega) (Int.le_of_lt q)
  rw [← B64_two' r hr] at m1
  constructor
  · omega
  · grind
theorem dn_hi {r : Nat} (hr : r < 64) (x : Int) : x * 2 % B64 * 2 ^ (63 - r) % B64 = (x % 2 ^ r) * 2 ^ (64 - r) := by
  show x * 2 ^ 1 % B64 * 2 ^ (63 - r) % B64 = _
  rw [Int.mul_emod, Int.emod_emod, ← Int.mul_emod, Int.mul_assoc, ← Int.pow_add, show 1 + (63 - r) = 64 - r by omega]
  have := up_hi (r := 64 - r) (by omega) x
  rw [this, show 64 - (64 - r) = r by omega]
theorem dn_or {r : Nat} (hr : r ≤ 64) {xs : List Int} (h : Dg B64 xs) (k : Nat) : bits .or .u64 (xs[k]?.getD 0 / 2 ^ r) ((xs[k + 1]?.getD 0 % 2 ^ r) * 2 ^ (64 - r)) = dn r xs k := by
  have hk := h k
  have b := dn_bd hr h k
  have p := two_pos r
  have d0 : 0 ≤ xs[k]?.getD 0 / 2 ^ r := Int.ediv_nonneg hk.1 (Int.le_of_lt p)
  have d1 : xs[k]?.getD 0 / 2 ^ r < 2 ^ (64 - r) := by
    refine Int.ediv_lt_of_lt_mul p ?_
    rw [← B64_two r hr]; exact hk.2
  have e0 := Int.emod_nonneg (xs[k + 1]?.getD 0) (Int.ne_of_gt p)
  unfold dn at *
  have m0 := Int.mul_nonneg e0 (Int.le_of_lt (two_pos (64 - r)))
  have key := or_add (64 - r) (xs[k + 1]?.getD 0 % 2 ^ r) (xs[k]?.getD 0 / 2 ^ r) e0 d0 d1 (by omega)
  unfold B64 at b
  rw [u64_or _ _ (by omega) (by omega) (by omega) (by omega)] at key ⊢
  rw [Nat.or_comm, key, Int.add_comm]
theorem dn_sum {r : Nat} (hr : r ≤ 64) (xs : List Int) (k : Nat) : 2 ^ r * sm B64 (dn r xs) k = vl B64 (xs.take k) - xs[0]?.getD 0 % 2 ^ r + B64 ^ k * (xs[k]?.getD 0 % 2 ^ r) := by
  induction k with
  | zero => simp [sm, vl]; omega
  | succ k ih =>
    have e := dn_step hr xs k
    rw [vl_take_succ]
    show 2 ^ r * (sm B64 (dn r xs) k + dn r xs k * B64 ^ k) = _
    rw [Int.pow_succ]
    generalize xs[k + 1]?.getD 0 % 2 ^ r = c at *
    generalize dn r xs k = u at *
    grind
theorem drop_val {b : Int} {xs : List Int} (h : Dg b xs) (m : Nat) : vl b (xs.drop m) = vl b xs / b ^ m := by
  have hb := h.pos
  have e : vl b xs = vl b (xs.take m) + b ^ m * vl b (xs.drop m) := by
    by_cases hm : m ≤ xs.length
    · have := vl_append b (xs.take m) (xs.drop m)
      rw [List.take_append_drop, List.length_take, Nat.min_eq_left hm] at this
      exact this
    · rw [List.take_of_length_le (by omega), List.drop_eq_nil_of_le (by omega)]; simp [vl]
  have t := vl_bd (h.take m)
  have hl : (xs.take m).length ≤ m := by simp; omega
  generalize (xs.take m).length = k at *
  have hp : b ^ k ≤ b ^ m := by
    have e3 : b ^ m = b ^ k * b ^ (m - k) := by rw [← Int.pow_add]; congr 1; omega
    rw [e3]
    have p1 := bpow_pos hb k
    have p2 := bpow_pos hb (m - k)
    have : b ^ k * 1 ≤ b ^ k * b ^ (m - k) := Int.mul_le_mul_of_nonneg_left (by omega) (Int.le_of_lt p1)
    omega
  rw [e, Int.add_mul_ediv_left _ _ (Int.ne_of_gt (bpow_pos hb m)), Int.ediv_eq_zero_of_lt t.1 (by omega)]
  omega
theorem dn_val {r : Nat} (hr : r ≤ 64) {xs : List Int} (h : Dg B64 xs) (m : Nat) :
    Dg B64 (rowOf (dn r (xs.drop m)) (xs.drop m).length) ∧ vl B64 (rowOf (dn r (xs.drop m)) (xs.drop m).length) = vl B64 xs / 2 ^ (64 * m + r) := by
  refine ⟨Dg.rowOf (by decide) fun j _ => dn_bd hr (h.drop m) j, ?_⟩
  have hv := drop_val h m
  have hd := h.drop m
  rw [vl_rowOf]
  rw [Int.pow_add, Int.pow_mul, show (2 : Int) ^ 64 = B64 from rfl, ← Int.ediv_ediv_of_nonneg (Int.le_of_lt (bpow_pos (by decide) m)), ← hv]
  generalize xs.drop m = ys at *
  have e := dn_sum hr ys ys.length
  rw [List.take_length, List.getElem?_eq_none (Nat.le_refl _)] at e
  simp only [Option.getD_none, Int.zero_emod, Int.mul_zero, Int.add_zero] at e
  have p := two_pos r
  have y0 : vl B64 ys % 2 ^ r = ys[0]?.getD 0 % 2 ^ r := by
    cases ys with
    | nil => simp [vl]
    | cons y ys =>
      simp only [vl, List.getElem?_cons_zero, Option.getD_some]
      rw [B64_two' r hr, Int.mul_assoc, Int.add_mul_emod_self_left]
  rw [← y0] at e
  have := Int.mul_ediv_add_emod (vl B64 ys) (2 ^ r)
  have e2 : 2 ^ r * sm B64 (dn r ys) ys.length = 2 ^ r * (vl B64 ys / 2 ^ r) := by omega
  exact Int.eq_of_mul_eq_mul_left (Int.ne_of_gt p) e2

/-- how many twos: m is 2^n times an odd number -/
structure Twos (m : Int) (n : Nat) (o : Int) : Prop where
  eq : m = o * 2 ^ n
  odd : o % 2 = 1
theorem Twos.ne {m : Int} {n : Nat} {o : Int} (h : Twos m n o) : m ≠ 0 := by
  intro e
  have := h.eq
  rw [e] at this
  have p := two_pos n
  rcases Int.mul_eq_zero.1 this.symm with h1 | h1
  · have := h.odd; omega
  · omega
theorem Twos.uniq {m : Int} {n n' : Nat} {o o' : Int} (h : Twos m n o) (h' : Twos m n' o') : n = n' ∧ o = o' := by
  have key : ∀ {a c : Nat} {p q : Int}, p * 2 ^ a = q * 2 ^ c → p % 2 = 1 → a < c → False := by
    intro a c p q e hp hlt
    have e1 : (2 : Int) ^ c = 2 * 2 ^ (c - a - 1) * 2 ^ a := by
      rw [← Int.pow_succ', ← Int.pow_add]; congr 1; omega
    rw [e1, ← Int.mul_assoc] at e
    have e2 := Int.eq_of_mul_eq_mul_right (Int.ne_of_gt (two_pos a)) e
    rw [Int.mul_left_comm] at e2
    generalize q * 2 ^ (c - a - 1) = z at *
    omega
  have e : o * 2 ^ n = o' * 2 ^ n' := h.eq.symm.trans h'.eq
  rcases Nat.lt_trichotomy n n' with hn | hn | hn
  · exact (key e h.odd hn).elim
  · subst hn
    exact ⟨rfl, Int.eq_of_mul_eq_mul_right (Int.ne_of_gt (two_pos n)) e⟩
  · exact (key e.symm h'.odd hn).elim
theorem Twos.shift {m : Int} {n : Nat} {o : Int} (h : Twos m n o) (k : Nat) : Twos (m * 2 ^ k) (n + k) o := ⟨by rw [h.eq, Int.mul_assoc, ← Int.pow_add], h.odd⟩
theorem Twos.neg {m : Int} {n : Nat} {o : Int} (h : Twos m n o) : Twos (-m) n (-o) := ⟨by rw [h.eq, Int.neg_mul], by have := h.odd; omega⟩
def tz (x : Nat) : Nat := if h : x = 0 then 0 else if x % 2 = 1 then 0 else tz (x / 2) + 1
termination_by x
decreasing_by omega
theorem tz_odd {x : Nat} (h : x % 2 = 1) : tz x = 0 := by
  rw [tz, dif_neg (by omega), if_pos h]
theorem tz_even {x : Nat} (h0 : x ≠ 0) (h : x % 2 = 0) : tz x = tz (x / 2) + 1 := by
  rw [tz, dif_neg h0, if_neg (by omega)]
theorem tz_nat (x : Nat) (h : x ≠ 0) : ∃ q : Nat, x = q * 2 ^ tz x ∧ q % 2 = 1 := by
  induction x using Nat.strongRecOn with
  | ind x ih =>
    by_cases ho : x % 2 = 1
    · exact ⟨x, by rw [tz_odd ho]; simp, ho⟩
    · obtain ⟨q, e, hq⟩ := ih (x / 2) (by omega) (by omega)
      refine ⟨q, ?_, hq⟩
      rw [tz_even h (by omega), Nat.pow_succ, ← Nat.mul_assoc, ← e]; omega
theorem tz_twos {m : Int} (h : m ≠ 0) : Twos m (tz m.natAbs) (m / 2 ^ tz m.natAbs) := by
  obtain ⟨q, e, hq⟩ := tz_nat m.natAbs (by omega)
  generalize tz m.natAbs = n at *
  have p := two_pos n
  rcases Int.natAbs_eq m with hm | hm
  · have e2 : m = (q : Int) * 2 ^ n := by rw [hm, e]; push_cast; rfl
    have e3 : m / 2 ^ n = q := by rw [e2]; exact Int.mul_ediv_cancel _ (Int.ne_of_gt p)
    exact ⟨by rw [e3]; exact e2, by rw [e3]; omega⟩
  · have e2 : m = (-(q : Int)) * 2 ^ n := by rw [hm, e]; push_cast; rw [Int.neg_mul]
    have e3 : m / 2 ^ n = -(q : Int) := by rw [e2]; exact Int.mul_ediv_cancel _ (Int.ne_of_gt p)
    exact ⟨by rw [e3]; exact e2, by rw [e3]; omega⟩

/-- may it be? -/
def May (m e : Int) : Prop := -16384 ≤ e ∧ e ≤ 16384 ∧ Sz m 256
noncomputable instance (m e : Int) : Decidable (May m e) := Classical.propDecidable _
/-- a whole number times a power of two, plain; none: it may not be -/
noncomputable def mk (m e : Int) : Option (Int × Int) :=
  if m = 0 then some (0, 0) else if May (m / 2 ^ tz m.natAbs) (e + tz m.natAbs) then some (m / 2 ^ tz m.natAbs, e + tz m.natAbs) else none
theorem mk_zero (e : Int) : mk 0 e = some (0, 0) := by unfold mk; rw [if_pos rfl]
theorem mk_of {m e : Int} {n : Nat} {o : Int} (h : Twos m n o) : mk m e = if May o (e + n) then some (o, e + n) else none := by
  obtain ⟨e1, e2⟩ := h.uniq (tz_twos h.ne)
  unfold mk
  rw [if_neg h.ne, ← e2, ← e1]
theorem mk_shift (m e : Int) (k : Nat) : mk (m * 2 ^ k) (e - k) = mk m e := by
  by_cases h : m = 0
  · subst h; rw [Int.zero_mul, mk_zero, mk_zero]
  · have t := tz_twos h
    rw [mk_of t, mk_of (t.shift k)]
    rw [show e - (k : Int) + ((tz m.natAbs + k : Nat) : Int) = e + tz m.natAbs by push_cast; omega]
theorem May.neg {m e : Int} (h : May m e) : May (-m) e := ⟨h.1, h.2.1, h.2.2.neg⟩
/-- of a number that may be, whatever is taken off at its end: the numbers are fewer -/
theorem Twos.natAbs {m : Int} {n : Nat} {o : Int} (h : Twos m n o) : o.natAbs * 2 ^ n = m.natAbs := by
  rw [h.eq, Int.natAbs_mul, Int.natAbs_pow]; rfl
theorem Twos.sz {m : Int} {n : Nat} {o : Int} {k : Nat} (h : Twos m n o) (hs : Sz m k) : Sz o k := by
  have e := h.natAbs
  have p : 0 < 2 ^ n := Nat.two_pow_pos n
  unfold Sz at *
  have : o.natAbs * 1 ≤ o.natAbs * 2 ^ n := Nat.mul_le_mul_left _ p
  omega

theorem two_le_B64 {N j : Nat} (hN : N ≤ 64 * j) : (2 : Int) ^ N ≤ B64 ^ j := by
  have e : B64 ^ j = 2 ^ N * 2 ^ (64 * j - N) := by
    rw [← Int.pow_add, show N + (64 * j - N) = 64 * j by omega, Int.pow_mul]; rfl
  rw [e]
  have p := two_pos N
  have q := two_pos (64 * j - N)
  have : 2 ^ N * 1 ≤ (2 : Int) ^ N * 2 ^ (64 * j - N) := Int.mul_le_mul_of_nonneg_left (by omega) (Int.le_of_lt p)
  omega
theorem Sz.shl {z : Int} {k N j : Nat} (h : Sz z k) (hN : N ≤ 64 * j) : Sz (2 ^ N * z) (k + j) := by
  have h1 := two_le_B64 hN
  have p := two_pos N
  unfold Sz at *
  rw [Int.natAbs_mul, Int.natAbs_pow, Int.pow_add]
  push_cast
  have h2 : 2 ^ N * (z.natAbs : Int) < 2 ^ N * B64 ^ k := Int.mul_lt_mul_of_pos_left h p
  have h3 : 2 ^ N * B64 ^ k ≤ B64 ^ j * B64 ^ k := Int.mul_le_mul_of_nonneg_right h1 (Int.le_of_lt (bpow_pos (by decide) k))
  rw [Int.mul_comm (B64 ^ j)] at h3
  exact Int.lt_of_lt_of_le h2 h3

/-- the twos of a number of 64 bits, as a machine finds them -/
theorem and_neg (x n q : Nat) (hx : x = (2 * q + 1) * 2 ^ n) (hlt : x < 18446744073709551616) : x &&& (18446744073709551616 - x) = 2 ^ n := by
  have hn : n < 64 := by
    apply Nat.lt_of_not_le
    intro h
    have : 2 ^ 64 ≤ 2 ^ n := Nat.pow_le_pow_right (by decide) h
    have : 1 * 2 ^ n ≤ (2 * q + 1) * 2 ^ n := Nat.mul_le_mul_right _ (by omega)
    omega
  have e64 : 18446744073709551616 = 2 * 2 ^ (63 - n) * 2 ^ n := by
    rw [← Nat.pow_succ', ← Nat.pow_add, show (63 - n).succ + n = 64 by omega]
  have hq : q < 2 ^ (63 - n) := by
    apply Nat.lt_of_not_le
    intro h
    have : 2 * 2 ^ (63 - n) * 2 ^ n ≤ (2 * q + 1) * 2 ^ n := Nat.mul_le_mul_right _ (by omega)
    omega
  have e2 : 18446744073709551616 - x = (2 * (2 ^ (63 - n) - (q + 1)) + 1) * 2 ^ n := by
    rw [hx, e64, ← Nat.sub_mul]; congr 1; omega
  rw [e2, hx, ← Nat.shiftLeft_eq, ← Nat.shiftLeft_eq, ← Nat.shiftLeft_and_distrib]
  rw [show ((2 * q + 1) &&& (2 * (2 ^ (63 - n) - (q + 1)) + 1)) = 1 from ?_, Nat.shiftLeft_eq, Nat.one_mul]
  apply Nat.eq_of_testBit_eq
  intro i
  rw [Nat.testBit_and]
  cases i with
  | zero => simp [Nat.testBit_zero]
  | succ i =>
    rw [Nat.testBit_succ, Nat.testBit_succ, Nat.testBit_succ, show (2 * q + 1) / 2 = q by omega, show (2 * (2 ^ (63 - n) - (q + 1)) + 1) / 2 = 2 ^ (63 - n) - (q + 1) by omega, Nat.testBit_two_pow_sub_succ hq]
    cases q.testBit i <;> simp
/-- the table that the machine looks into -/
def tab64 : List Int := [0, 1, 56, 2, 57, 49, 28, 3, 61, 58, 42, 50, 38, 29, 17, 4, 62, 47, 59, 36, 45, 43, 51, 22, 53, 39, 33, 30, 24, 18, 12, 5, 63, 55, 48, 27, 60, 41, 37, 16, 46, 35, 44, 21, 52, 32, 23, 11, 54, 26, 40, 15, 34, 20, 31, 10, 25, 14, 19, 9, 13, 8, 7, 6]
theorem tab64_at : ∀ n : Fin 64, tab64[2 ^ n.val * 285870213051353865 % 18446744073709551616 / 288230376151711744]? = some (n.val : Int) := by decide
theorem neg_wrap {x : Int} (h0 : 0 < x) (h1 : x < 18446744073709551616) : -x % 18446744073709551616 = 18446744073709551616 - x := by omega
end Go.Proofs.YtlgecdkidgjgiaaDoor
