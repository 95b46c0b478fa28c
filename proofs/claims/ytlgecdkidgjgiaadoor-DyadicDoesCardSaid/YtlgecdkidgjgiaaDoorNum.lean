/- Numbers as digits of a base: what a list of digits is worth; sums, differences and products, digit by digit. Plain lemmas, with no program in sight. -/
namespace Go.Proofs.YtlgecdkidgjgiaaDoor

/-- the value of digits, the lowest first -/
def vl (b : Int) : List Int → Int
  | [] => 0
  | x :: xs => x + b * vl b xs
/-- all are digits -/
def Dg (b : Int) (xs : List Int) : Prop := ∀ j : Nat, 0 ≤ xs[j]?.getD 0 ∧ xs[j]?.getD 0 < b
/-- a sum over places -/
def sm (b : Int) (f : Nat → Int) : Nat → Int
  | 0 => 0
  | n + 1 => sm b f n + f n * b ^ n
/-- the first n values of a function -/
def rowOf (f : Nat → Int) (n : Nat) : List Int := (List.range n).map f
theorem rowOf_length (f : Nat → Int) (n : Nat) : (rowOf f n).length = n := by simp [rowOf]
theorem rowOf_get (f : Nat → Int) (n j : Nat) : (rowOf f n)[j]?.getD 0 = if j < n then f j else 0 := by
  unfold rowOf
  by_cases h : j < n
  · simp [h]
  · rw [if_neg h, List.getElem?_eq_none (by simp; omega)]; rfl

theorem rowOf_succ (f : Nat → Int) (n : Nat) : rowOf f (n + 1) = rowOf f n ++ [f n] := by simp [rowOf, List.range_succ]
theorem vl_append (b : Int) (xs ys : List Int) : vl b (xs ++ ys) = vl b xs + b ^ xs.length * vl b ys := by
  induction xs with
  | nil => simp [vl]
  | cons x xs ih => simp only [List.cons_append, vl, ih, List.length_cons, Int.pow_succ]; grind
theorem vl_zeros (b : Int) (n : Nat) : vl b (List.replicate n 0) = 0 := by
  induction n with
  | zero => rfl
  | succ n ih => simp only [List.replicate_succ, vl, ih]; grind
theorem vl_take_succ (b : Int) (xs : List Int) (k : Nat) : vl b (xs.take (k + 1)) = vl b (xs.take k) + xs[k]?.getD 0 * b ^ k := by
  by_cases h : k < xs.length
  · rw [List.take_succ_eq_append_getElem h, vl_append, List.length_take, Nat.min_eq_left (by omega), List.getElem?_eq_getElem h]
    simp only [vl, Option.getD_some]; grind
  · rw [List.take_of_length_le (by omega), List.take_of_length_le (by omega), List.getElem?_eq_none (by omega)]
    simp
theorem vl_take (b : Int) (xs : List Int) (k : Nat) : vl b (xs.take k) = sm b (fun j => xs[j]?.getD 0) k := by
  induction k with
  | zero => rfl
  | succ k ih => rw [vl_take_succ, ih]; rfl
theorem sm_congr {b : Int} {f g : Nat → Int} {n : Nat} (h : ∀ j, j < n → f j = g j) : sm b f n = sm b g n := by
  induction n with
  | zero => rfl
  | succ n ih => simp only [sm]; rw [ih (fun j hj => h j (by omega)), h n (by omega)]
theorem vl_rowOf (b : Int) (f : Nat → Int) (n : Nat) : vl b (rowOf f n) = sm b f n := by
  have h := vl_take b (rowOf f n) n
  rw [List.take_of_length_le (by rw [rowOf_length]; omega)] at h
  rw [h]
  exact sm_congr fun j hj => by rw [rowOf_get, if_pos hj]
theorem Dg.take {b : Int} {xs : List Int} (h : Dg b xs) (n : Nat) : Dg b (xs.take n) := by
  intro j
  by_cases hj : j < n
  · rw [List.getElem?_take_of_lt hj]; exact h j
  · rw [List.getElem?_take_eq_none (by omega)]
    have := h 0
    exact ⟨Int.le_refl _, by simp; omega⟩
theorem Dg.drop {b : Int} {xs : List Int} (h : Dg b xs) (n : Nat) : Dg b (xs.drop n) := by
  intro j
  rw [List.getElem?_drop]; exact h _
theorem Dg.pos {b : Int} {xs : List Int} (h : Dg b xs) : 0 < b := by have := h 0; omega
theorem Dg.cons {b : Int} {x : Int} {xs : List Int} : Dg b (x :: xs) ↔ (0 ≤ x ∧ x < b) ∧ Dg b xs :=
  ⟨fun h => ⟨h 0, fun j => h (j + 1)⟩, fun h j => by cases j with | zero => exact h.1 | succ j => exact h.2 j⟩
theorem Dg.nil {b : Int} (h : 0 < b) : Dg b [] := fun j => ⟨by simp, by simpa using h⟩
theorem Dg.append {b : Int} {xs ys : List Int} (hx : Dg b xs) (hy : Dg b ys) : Dg b (xs ++ ys) := by
  induction xs with
  | nil => exact hy
  | cons x xs ih => rw [List.cons_append, Dg.cons]; rw [Dg.cons] at hx; exact ⟨hx.1, ih hx.2⟩
theorem Dg.zeros {b : Int} (h : 0 < b) (n : Nat) : Dg b (List.replicate n 0) := by
  induction n with
  | zero => exact Dg.nil h
  | succ n ih => rw [List.replicate_succ, Dg.cons]; exact ⟨⟨Int.le_refl _, h⟩, ih⟩
theorem Dg.rowOf {b : Int} {f : Nat → Int} {n : Nat} (hb : 0 < b) (h : ∀ j, j < n → 0 ≤ f j ∧ f j < b) : Dg b (rowOf f n) := by
  intro j
  rw [rowOf_get]
  by_cases hj : j < n
  · rw [if_pos hj]; exact h j hj
  · rw [if_neg hj]; exact ⟨Int.le_refl _, hb⟩
theorem Dg.set {b : Int} {xs : List Int} (h : Dg b xs) (n : Nat) (v : Int) (hv : 0 ≤ v ∧ v < b) : Dg b (xs.set n v) := by
  intro j
  rw [List.getElem?_set]
  split
  · split
    · exact hv
    · have := h.pos; simp; omega
  · exact h j
theorem vl_set (b : Int) (xs : List Int) (n : Nat) (v : Int) (h : n < xs.length) : vl b (xs.set n v) = vl b xs + (v - xs[n]?.getD 0) * b ^ n := by
  induction xs generalizing n with
  | nil => simp at h
  | cons x xs ih =>
    cases n with
    | zero => simp only [List.set_cons_zero, vl, List.getElem?_cons_zero, Option.getD_some, Int.pow_zero]; grind
    | succ n =>
      simp only [List.set_cons_succ, vl, List.getElem?_cons_succ]
      rw [ih n (by simpa using h), Int.pow_succ]; grind
theorem bpow_pos {b : Int} (hb : 0 < b) (n : Nat) : 0 < b ^ n := Int.pow_pos hb
theorem vl_bd {b : Int} {xs : List Int} (h : Dg b xs) : 0 ≤ vl b xs ∧ vl b xs < b ^ xs.length := by
  induction xs with
  | nil => exact ⟨Int.le_refl _, by simp [vl]⟩
  | cons x xs ih =>
    rw [Dg.cons] at h
    have i := ih h.2
    have hb := h.2.pos
    simp only [vl, List.length_cons, Int.pow_succ]
    constructor
    · have := Int.mul_nonneg (Int.le_of_lt hb) i.1; omega
    · have : b * (vl b xs + 1) ≤ b * b ^ xs.length := Int.mul_le_mul_of_nonneg_left (by omega) (Int.le_of_lt hb)
      grind

/-- digits without a nought at the top, worth v -/
structure Can (b : Int) (xs : List Int) (v : Int) : Prop where
  dg : Dg b xs
  top : xs = [] ∨ xs[xs.length - 1]?.getD 0 ≠ 0
  val : vl b xs = v

theorem Can.nonneg {b v : Int} {xs : List Int} (h : Can b xs v) : 0 ≤ v := by rw [← h.val]; exact (vl_bd h.dg).1
theorem vl_top {b : Int} {xs : List Int} (h : Dg b xs) (ht : xs[xs.length - 1]?.getD 0 ≠ 0) : b ^ (xs.length - 1) ≤ vl b xs := by
  have hb := h.pos
  have hne : xs ≠ [] := by intro e; subst e; simp at ht
  have hl : 0 < xs.length := List.length_pos_iff.2 hne
  have e : vl b xs = vl b (xs.take (xs.length - 1)) + xs[xs.length - 1]?.getD 0 * b ^ (xs.length - 1) := by
    rw [← vl_take_succ]
    rw [show xs.length - 1 + 1 = xs.length from by omega, List.take_length]
  have p := (vl_bd (h.take (xs.length - 1))).1
  have d := h (xs.length - 1)
  have : 1 * b ^ (xs.length - 1) ≤ xs[xs.length - 1]?.getD 0 * b ^ (xs.length - 1) := Int.mul_le_mul_of_nonneg_right (by omega) (Int.le_of_lt (bpow_pos hb _))
  omega
theorem Can.uniq {b v : Int} {xs ys : List Int} (hx : Can b xs v) (hy : Can b ys v) : xs = ys := by
  induction xs generalizing ys v with
  | nil =>
    have hv : v = 0 := by rw [← hx.val]; rfl
    rcases hy.top with h | h
    · exact h.symm
    · have := vl_top hy.dg h
      rw [hy.val, hv] at this
      have := bpow_pos hy.dg.pos (ys.length - 1)
      omega
  | cons x xs ih =>
    have tx : ∀ {z : Int} {zs : List Int}, Can b (z :: zs) v → z = v % b ∧ Can b zs (v / b) := by
      intro z zs h
      have hd := Dg.cons.1 h.dg
      have hb := hd.2.pos
      have e : v = z + b * vl b zs := h.val.symm
      have e1 : v % b = z := by rw [e, Int.add_mul_emod_self_left]; exact Int.emod_eq_of_lt hd.1.1 hd.1.2
      have e2 : v / b = vl b zs := by rw [e, Int.add_mul_ediv_left _ _ (by omega), Int.ediv_eq_zero_of_lt hd.1.1 hd.1.2, Int.zero_add]
      refine ⟨e1.symm, hd.2, ?_, e2.symm⟩
      cases zs with
      | nil => exact .inl rfl
      | cons a as =>
        right
        rcases h.top with t | t
        · cases t
        · simpa using t
    cases ys with
    | nil =>
      exfalso
      have hv : v = 0 := by rw [← hy.val]; rfl
      rcases hx.top with h | h
      · cases h
      · have := vl_top hx.dg h
        rw [hx.val, hv] at this
        have := bpow_pos hx.dg.pos ((x :: xs).length - 1)
        omega
    | cons y ys =>
      obtain ⟨a1, a2⟩ := tx hx
      obtain ⟨b1, b2⟩ := tx hy
      rw [a1, b1, ih a2 b2]

/-- how many of the first n are left without the noughts at the top -/
def down (xs : List Int) : Nat → Nat
  | 0 => 0
  | n + 1 => if xs[n]?.getD 0 = 0 then down xs n else n + 1
theorem down_le (xs : List Int) (n : Nat) : down xs n ≤ n := by
  induction n with
  | zero => exact Nat.le_refl _
  | succ n ih => unfold down; split <;> omega
theorem down_stop {xs : List Int} {n : Nat} (h : n = 0 ∨ xs[n - 1]?.getD 0 ≠ 0) : down xs n = n := by
  cases n with
  | zero => rfl
  | succ n =>
    rcases h with h | h
    · omega
    · unfold down; rw [if_neg (by simpa using h)]
theorem down_go {xs : List Int} {n : Nat} (h : xs[n]?.getD 0 = 0) : down xs (n + 1) = down xs n := by
  show (if xs[n]?.getD 0 = 0 then _ else _) = _
  rw [if_pos h]
theorem down_val (b : Int) (xs : List Int) (n : Nat) : vl b (xs.take (down xs n)) = vl b (xs.take n) := by
  induction n with
  | zero => rfl
  | succ n ih =>
    unfold down
    split
    · rename_i h; rw [ih, vl_take_succ, h]; grind
    · rfl
theorem down_top (xs : List Int) (n : Nat) : down xs n = 0 ∨ xs[down xs n - 1]?.getD 0 ≠ 0 := by
  induction n with
  | zero => exact .inl rfl
  | succ n ih =>
    unfold down
    split
    · exact ih
    · rename_i h; exact .inr h
theorem down_can {b : Int} {xs : List Int} (h : Dg b xs) : Can b (xs.take (down xs xs.length)) (vl b xs) := by
  have hl : (xs.take (down xs xs.length)).length = down xs xs.length := by
    have := down_le xs xs.length; simp; omega
  refine ⟨h.take _, ?_, by rw [down_val, List.take_length]⟩
  rw [hl]
  rcases down_top xs xs.length with t | t
  · left; rw [t]; rfl
  · by_cases hz : down xs xs.length = 0
    · left; rw [hz]; rfl
    · right; rw [List.getElem?_take_of_lt (by omega)]; exact t
/-- a number without the noughts at its top -/
def pl (xs : List Int) : List Int := xs.take (down xs xs.length)
theorem pl_length (xs : List Int) : (pl xs).length = down xs xs.length := by
  have := down_le xs xs.length; simp [pl]; omega
theorem pl_le (xs : List Int) : (pl xs).length ≤ xs.length := by rw [pl_length]; exact down_le _ _
theorem pl_can {b : Int} {xs : List Int} (h : Dg b xs) : Can b (pl xs) (vl b xs) := down_can h
theorem pl_of_can {b v : Int} {xs : List Int} (h : Can b xs v) : pl xs = xs := (pl_can h.dg).uniq ⟨h.dg, h.top, rfl⟩
theorem pl_eq {b v : Int} {xs ys : List Int} (h : Dg b xs) (hy : Can b ys v) (e : vl b xs = v) : pl xs = ys := by
  subst e; exact (pl_can h).uniq hy

theorem Can.len_le {b v : Int} {xs : List Int} (h : Can b xs v) (k : Nat) (hk : v < b ^ k) : xs.length ≤ k := by
  rcases h.top with t | t
  · subst t; simp
  · have a := vl_top h.dg t
    rw [h.val] at a
    apply Nat.le_of_not_lt
    intro hlt
    have : b ^ k ≤ b ^ (xs.length - 1) := by
      have e : b ^ (xs.length - 1) = b ^ k * b ^ (xs.length - 1 - k) := by rw [← Int.pow_add]; congr 1; omega
      rw [e]
      have p1 := bpow_pos h.dg.pos k
      have p2 := bpow_pos h.dg.pos (xs.length - 1 - k)
      have : b ^ k * 1 ≤ b ^ k * b ^ (xs.length - 1 - k) := Int.mul_le_mul_of_nonneg_left (by omega) (Int.le_of_lt p1)
      omega
    omega
theorem Can.len_ge {b v : Int} {xs : List Int} (h : Can b xs v) (k : Nat) (hk : b ^ k ≤ v) : k < xs.length := by
  have a := (vl_bd h.dg).2
  rw [h.val] at a
  apply Nat.lt_of_not_le
  intro hle
  have : b ^ xs.length ≤ b ^ k := by
    have e : b ^ k = b ^ xs.length * b ^ (k - xs.length) := by rw [← Int.pow_add]; congr 1; omega
    rw [e]
    have p1 := bpow_pos h.dg.pos xs.length
    have p2 := bpow_pos h.dg.pos (k - xs.length)
    have : b ^ xs.length * 1 ≤ b ^ xs.length * b ^ (k - xs.length) := Int.mul_le_mul_of_nonneg_left (by omega) (Int.le_of_lt p1)
    omega
  omega
theorem Can.zero_iff {b v : Int} {xs : List Int} (h : Can b xs v) : v = 0 ↔ xs = [] := by
  constructor
  · intro e
    rcases h.top with t | t
    · exact t
    · have := vl_top h.dg t
      rw [h.val, e] at this
      have := bpow_pos h.dg.pos (xs.length - 1)
      omega
  · intro e; subst e; exact h.val.symm
theorem Can.nil {b : Int} (hb : 0 < b) : Can b [] 0 := ⟨Dg.nil hb, .inl rfl, rfl⟩

/-- the carry into place k of a sum, and the digit there -/
def cy (b : Int) (xs ys : List Int) : Nat → Int
  | 0 => 0
  | k + 1 => (xs[k]?.getD 0 + ys[k]?.getD 0 + cy b xs ys k) / b
def dg (b : Int) (xs ys : List Int) (k : Nat) : Int := (xs[k]?.getD 0 + ys[k]?.getD 0 + cy b xs ys k) % b
theorem cy_succ (b : Int) (xs ys : List Int) (k : Nat) : cy b xs ys (k + 1) = (xs[k]?.getD 0 + ys[k]?.getD 0 + cy b xs ys k) / b := rfl
theorem cy_bd {b : Int} {xs ys : List Int} (hx : Dg b xs) (hy : Dg b ys) (k : Nat) : 0 ≤ cy b xs ys k ∧ cy b xs ys k ≤ 1 := by
  induction k with
  | zero => exact ⟨Int.le_refl _, (by decide : (0 : Int) ≤ 1)⟩
  | succ k ih =>
    have a := hx k
    have c := hy k
    have hb := hx.pos
    rw [cy_succ]
    refine ⟨Int.ediv_nonneg (by omega) (by omega), ?_⟩
    have : (xs[k]?.getD 0 + ys[k]?.getD 0 + cy b xs ys k) / b < 2 := by
      rw [Int.ediv_lt_iff_lt_mul hb]; omega
    omega
theorem dg_bd {b : Int} {xs ys : List Int} (hb : 0 < b) (k : Nat) : 0 ≤ dg b xs ys k ∧ dg b xs ys k < b :=
  ⟨Int.emod_nonneg _ (by omega), Int.emod_lt_of_pos _ hb⟩
theorem add_sum (b : Int) (xs ys : List Int) (k : Nat) : sm b (dg b xs ys) k + cy b xs ys k * b ^ k = vl b (xs.take k) + vl b (ys.take k) := by
  induction k with
  | zero => simp [sm, cy, vl]
  | succ k ih =>
    rw [vl_take_succ, vl_take_succ, cy_succ]
    have e : dg b xs ys k = (xs[k]?.getD 0 + ys[k]?.getD 0 + cy b xs ys k) - b * ((xs[k]?.getD 0 + ys[k]?.getD 0 + cy b xs ys k) / b) := by
      unfold dg; have := Int.mul_ediv_add_emod (xs[k]?.getD 0 + ys[k]?.getD 0 + cy b xs ys k) b; omega
    show sm b (dg b xs ys) k + dg b xs ys k * b ^ k + _ = _
    rw [e, Int.pow_succ]
    generalize (xs[k]?.getD 0 + ys[k]?.getD 0 + cy b xs ys k) / b = q at *
    grind
theorem cy_end {b : Int} {xs ys : List Int} (hx : Dg b xs) (hy : Dg b ys) (hb : 1 < b) (k : Nat) (h1 : xs.length ≤ k) (h2 : ys.length ≤ k) : cy b xs ys (k + 1) = 0 := by
  rw [cy_succ, List.getElem?_eq_none h1, List.getElem?_eq_none h2]
  have := cy_bd hx hy k
  simp only [Option.getD_none]
  exact Int.ediv_eq_zero_of_lt (by omega) (by omega)
theorem add_val {b : Int} {xs ys : List Int} (hx : Dg b xs) (k : Nat) (h1 : xs.length ≤ k) (h2 : ys.length ≤ k) (h0 : cy b xs ys k = 0) :
    Dg b (rowOf (dg b xs ys) k) ∧ vl b (rowOf (dg b xs ys) k) = vl b xs + vl b ys := by
  refine ⟨Dg.rowOf hx.pos fun j _ => dg_bd hx.pos j, ?_⟩
  have := add_sum b xs ys k
  rw [h0, List.take_of_length_le h1, List.take_of_length_le h2] at this
  rw [vl_rowOf]; omega

/-- the borrow into place k of a difference, and the digit there -/
def bw (b : Int) (xs ys : List Int) : Nat → Int
  | 0 => 0
  | k + 1 => if xs[k]?.getD 0 < ys[k]?.getD 0 + bw b xs ys k then 1 else 0
def df (b : Int) (xs ys : List Int) (k : Nat) : Int := (xs[k]?.getD 0 + b - ys[k]?.getD 0 - bw b xs ys k) % b
theorem bw_succ (b : Int) (xs ys : List Int) (k : Nat) : bw b xs ys (k + 1) = if xs[k]?.getD 0 < ys[k]?.getD 0 + bw b xs ys k then 1 else 0 := rfl
theorem bw_bd (b : Int) (xs ys : List Int) (k : Nat) : 0 ≤ bw b xs ys k ∧ bw b xs ys k ≤ 1 := by
  cases k with
  | zero => exact ⟨Int.le_refl _, (by decide : (0 : Int) ≤ 1)⟩
  | succ k => rw [bw_succ]; split <;> omega
theorem df_eq {b : Int} {xs ys : List Int} (hx : Dg b xs) (hy : Dg b ys) (k : Nat) :
    df b xs ys k = xs[k]?.getD 0 - ys[k]?.getD 0 - bw b xs ys k + b * bw b xs ys (k + 1) := by
  have a := hx k
  have c := hy k
  have d := bw_bd b xs ys k
  unfold df
  rw [bw_succ]
  split
  · rw [Int.emod_eq_of_lt (by omega) (by omega)]; omega
  · have : xs[k]?.getD 0 + b - ys[k]?.getD 0 - bw b xs ys k = (xs[k]?.getD 0 - ys[k]?.getD 0 - bw b xs ys k) + b * 1 := by omega
    rw [this, Int.add_mul_emod_self_left, Int.emod_eq_of_lt (by omega) (by omega)]; omega
theorem sub_sum {b : Int} {xs ys : List Int} (hx : Dg b xs) (hy : Dg b ys) (k : Nat) : sm b (df b xs ys) k - bw b xs ys k * b ^ k = vl b (xs.take k) - vl b (ys.take k) := by
  induction k with
  | zero => simp [sm, bw, vl]
  | succ k ih =>
    rw [vl_take_succ, vl_take_succ]
    show sm b (df b xs ys) k + df b xs ys k * b ^ k - _ = _
    rw [df_eq hx hy, Int.pow_succ]
    grind
theorem df_bd {b : Int} {xs ys : List Int} (hb : 0 < b) (k : Nat) : 0 ≤ df b xs ys k ∧ df b xs ys k < b :=
  ⟨Int.emod_nonneg _ (by omega), Int.emod_lt_of_pos _ hb⟩
theorem sub_val {b : Int} {xs ys : List Int} (hx : Dg b xs) (hy : Dg b ys) (k : Nat) (h1 : xs.length ≤ k) (h2 : ys.length ≤ k) (h : vl b ys ≤ vl b xs) :
    Dg b (rowOf (df b xs ys) k) ∧ vl b (rowOf (df b xs ys) k) = vl b xs - vl b ys := by
  have hd : Dg b (rowOf (df b xs ys) k) := Dg.rowOf hx.pos fun j _ => df_bd hx.pos j
  refine ⟨hd, ?_⟩
  have e := sub_sum hx hy k
  rw [List.take_of_length_le h1, List.take_of_length_le h2, ← vl_rowOf] at e
  have bd := vl_bd hd
  rw [rowOf_length] at bd
  have w := bw_bd b xs ys k
  have : bw b xs ys k = 0 := by
    apply Classical.byContradiction
    intro hne
    have : bw b xs ys k = 1 := by omega
    rw [this] at e
    omega
  rw [this] at e
  omega

/-- which of two numbers is less, looked at from the top: below place k they are -/
theorem cmp_lt {b : Int} {xs ys : List Int} (hx : Dg b xs) (hy : Dg b ys) (k : Nat) (h : xs[k]?.getD 0 < ys[k]?.getD 0) : vl b (xs.take (k + 1)) < vl b (ys.take (k + 1)) := by
  rw [vl_take_succ, vl_take_succ]
  have a := (vl_bd (hx.take k)).2
  have c := (vl_bd (hy.take k)).1
  have p := bpow_pos hx.pos k
  have e : b ^ (xs.take k).length ≤ b ^ k := by
    rw [show b ^ k = b ^ (xs.take k).length * b ^ (k - (xs.take k).length) from by rw [← Int.pow_add]; congr 1; simp; omega]
    have p1 := bpow_pos hx.pos (xs.take k).length
    have p2 := bpow_pos hx.pos (k - (xs.take k).length)
    have : b ^ (xs.take k).length * 1 ≤ b ^ (xs.take k).length * b ^ (k - (xs.take k).length) := Int.mul_le_mul_of_nonneg_left (by omega) (Int.le_of_lt p1)
    omega
  have : (xs[k]?.getD 0 + 1) * b ^ k ≤ ys[k]?.getD 0 * b ^ k := Int.mul_le_mul_of_nonneg_right (by omega) (Int.le_of_lt p)
  rw [Int.add_mul, Int.one_mul] at this
  omega
/-- the greater number of two without noughts at the top is not the shorter one -/
theorem Can.lt_of_len {b u v : Int} {xs ys : List Int} (hx : Can b xs u) (hy : Can b ys v) (h : xs.length < ys.length) : u < v := by
  have a := (vl_bd hx.dg).2
  rw [hx.val] at a
  rcases hy.top with t | t
  · subst t; simp at h
  · have c := vl_top hy.dg t
    rw [hy.val] at c
    have : b ^ xs.length ≤ b ^ (ys.length - 1) := by
      rw [show b ^ (ys.length - 1) = b ^ xs.length * b ^ (ys.length - 1 - xs.length) from by rw [← Int.pow_add]; congr 1; omega]
      have p1 := bpow_pos hx.dg.pos xs.length
      have p2 := bpow_pos hx.dg.pos (ys.length - 1 - xs.length)
      have : b ^ xs.length * 1 ≤ b ^ xs.length * b ^ (ys.length - 1 - xs.length) := Int.mul_le_mul_of_nonneg_left (by omega) (Int.le_of_lt p1)
      omega
    omega
/-- a product, row by row: i rows are done, and of the next one j digits; c is carried -/
structure MulJ (b : Int) (us vs : List Int) (L i j : Nat) (row : List Int) (c : Int) : Prop where
  len : row.length = L
  fit : us.length + vs.length ≤ L
  dg : Dg b row
  cb : 0 ≤ c ∧ c < b
  val : vl b row + c * b ^ (i + j) = vl b (us.take i) * vl b vs + us[i]?.getD 0 * b ^ i * vl b (vs.take j)
  above : ∀ k : Nat, i + vs.length ≤ k → row[k]?.getD 0 = 0
theorem MulJ.start (b : Int) (us vs : List Int) (hb : 0 < b) (n : Nat) (hn : us.length + vs.length ≤ n) : MulJ b us vs n 0 0 (List.replicate n 0) 0 := by
  refine ⟨by simp, hn, Dg.zeros hb _, ⟨Int.le_refl _, hb⟩, by rw [vl_zeros]; simp [vl], fun k _ => ?_⟩
  rw [List.getElem?_replicate]; split <;> rfl
theorem MulJ.step {b : Int} {us vs row : List Int} {L i j : Nat} {c s l c' : Int} (h : MulJ b us vs L i j row c) (hu : Dg b us) (hv : Dg b vs) (hi : i < us.length) (hj : j < vs.length)
    (hs : s = us[i]?.getD 0 * vs[j]?.getD 0 + row[i + j]?.getD 0 + c) (hl : l = s % b) (hc : c' = s / b) : MulJ b us vs L i (j + 1) (row.set (i + j) l) c' := by
  have hb := h.dg.pos
  have hx := hu i
  have hy := hv j
  have ho := h.dg (i + j)
  have hcb := h.cb
  have hp : us[i]?.getD 0 * vs[j]?.getD 0 ≤ (b - 1) * (b - 1) :=
    Int.le_trans (Int.mul_le_mul_of_nonneg_right (by omega) hy.1) (Int.mul_le_mul_of_nonneg_left (by omega) (by omega))
  have hp0 : 0 ≤ us[i]?.getD 0 * vs[j]?.getD 0 := Int.mul_nonneg hx.1 hy.1
  have hq : (b - 1) * (b - 1) = b * b - b - b + 1 := by grind
  have hs0 : 0 ≤ s := by omega
  have hs1 : s < b * b := by omega
  refine ⟨by rw [List.length_set]; exact h.len, h.fit, h.dg.set _ _ (by subst hl; exact ⟨Int.emod_nonneg _ (by omega), Int.emod_lt_of_pos _ hb⟩), ?_, ?_, fun k hk => ?_⟩
  · subst hc
    exact ⟨Int.ediv_nonneg hs0 (by omega), by rw [Int.ediv_lt_iff_lt_mul hb]; exact hs1⟩
  · rw [vl_set _ _ _ _ (by have := h.len; have := h.fit; omega), vl_take_succ]
    have e : l = s - b * c' := by subst hl hc; have := Int.mul_ediv_add_emod s b; omega
    have hv := h.val
    rw [e, hs, ← Nat.add_assoc, Int.pow_succ]
    rw [Int.pow_add] at hv ⊢
    grind
  · rw [List.getElem?_set_ne (by omega)]; exact h.above k hk
/-- the carry is put behind the row -/
theorem MulJ.close {b : Int} {us vs row : List Int} {L i : Nat} {c : Int} (h : MulJ b us vs L i vs.length row c) (hi : i < us.length) : MulJ b us vs L (i + 1) 0 (row.set (i + vs.length) c) 0 := by
  have hb := h.dg.pos
  refine ⟨by rw [List.length_set]; exact h.len, h.fit, h.dg.set _ _ h.cb, ⟨Int.le_refl _, hb⟩, ?_, fun k hk => ?_⟩
  · rw [vl_set _ _ _ _ (by have := h.len; have := h.fit; omega), h.above _ (Nat.le_refl _), vl_take_succ]
    have e := h.val
    rw [List.take_length] at e
    simp only [List.take_zero, vl]
    grind
  · by_cases e : i + vs.length = k
    · omega
    · rw [List.getElem?_set_ne e]; exact h.above k (by omega)
/-- nothing is carried behind the row -/
theorem MulJ.close0 {b : Int} {us vs row : List Int} {L i : Nat} (h : MulJ b us vs L i vs.length row 0) : MulJ b us vs L (i + 1) 0 row 0 := by
  refine ⟨h.len, h.fit, h.dg, h.cb, ?_, fun k hk => h.above k (by omega)⟩
  have e := h.val
  rw [List.take_length] at e
  rw [vl_take_succ]
  simp only [List.take_zero, vl]
  grind
theorem MulJ.none {b : Int} {us vs row : List Int} {L i j : Nat} {c : Int} (h : MulJ b us vs L i j row c) (hv : vs = []) : MulJ b us vs L (i + 1) 0 row 0 := by
  subst hv
  have hb := h.dg.pos
  refine ⟨h.len, h.fit, h.dg, ⟨Int.le_refl _, hb⟩, ?_, fun k hk => h.above k (by simp at hk ⊢; omega)⟩
  have e := h.val
  have a := (vl_bd h.dg).1
  have d := Int.mul_nonneg h.cb.1 (Int.le_of_lt (bpow_pos hb (i + j)))
  simp only [List.take_nil, vl] at e ⊢
  rw [Int.mul_zero, Int.mul_zero] at e
  simp only [Int.mul_zero, Int.zero_mul, Int.add_zero]
  omega
theorem MulJ.done {b : Int} {us vs row : List Int} {L : Nat} (h : MulJ b us vs L us.length 0 row 0) : vl b row = vl b us * vl b vs := by
  have e := h.val
  rw [List.take_length] at e
  simp only [List.take_zero, vl] at e
  grind
/-- two steps of a machine make one sum -/
theorem mac_eq {b x y o c lo hi l1 c1 l2 c2 : Int} (hb : 0 < b) (hx : 0 ≤ x ∧ x < b) (hy : 0 ≤ y ∧ y < b) (ho : 0 ≤ o ∧ o < b) (hc : 0 ≤ c ∧ c < b)
    (hlo : lo = x * y % b) (hhi : hi = x * y / b) (h1 : l1 = (lo + o + 0) % b) (h2 : c1 = (lo + o + 0) / b) (h3 : l2 = (l1 + c + 0) % b) (h4 : c2 = (l1 + c + 0) / b) :
    0 ≤ lo ∧ lo < b ∧ 0 ≤ l1 ∧ l1 < b ∧ 0 ≤ hi + c1 ∧ hi + c1 < b ∧ 0 ≤ hi + c1 + c2 ∧ hi + c1 + c2 < b ∧ l2 = (x * y + o + c) % b ∧ hi + c1 + c2 = (x * y + o + c) / b := by
  have hp : x * y ≤ (b - 1) * (b - 1) :=
    Int.le_trans (Int.mul_le_mul_of_nonneg_right (by omega) hy.1) (Int.mul_le_mul_of_nonneg_left (by omega) (by omega))
  have hp0 : 0 ≤ x * y := Int.mul_nonneg hx.1 hy.1
  have hq : (b - 1) * (b - 1) = b * b - b - b + 1 := by grind
  have e1 := Int.mul_ediv_add_emod (x * y) b
  have e2 := Int.mul_ediv_add_emod (lo + o + 0) b
  have e3 := Int.mul_ediv_add_emod (l1 + c + 0) b
  have b1 := Int.emod_nonneg (x * y) (show b ≠ 0 by omega)
  have b2 := Int.emod_lt_of_pos (x * y) hb
  have b3 := Int.emod_nonneg (lo + o + 0) (show b ≠ 0 by omega)
  have b4 := Int.emod_lt_of_pos (lo + o + 0) hb
  have b5 := Int.emod_nonneg (l1 + c + 0) (show b ≠ 0 by omega)
  have b6 := Int.emod_lt_of_pos (l1 + c + 0) hb
  rw [← hhi, ← hlo] at e1
  rw [← hlo] at b1 b2
  rw [← h1, ← h2] at e2
  rw [← h1] at b3 b4
  rw [← h3, ← h4] at e3
  rw [← h3] at b5 b6
  have g0 : 0 ≤ hi := by rw [hhi]; exact Int.ediv_nonneg hp0 (by omega)
  have g1 : 0 ≤ c1 := by rw [h2]; exact Int.ediv_nonneg (by omega) (by omega)
  have g2 : 0 ≤ c2 := by rw [h4]; exact Int.ediv_nonneg (by omega) (by omega)
  have key : x * y + o + c = l2 + b * (hi + c1 + c2) := by
    have : b * (hi + c1 + c2) = b * hi + b * c1 + b * c2 := by grind
    omega
  have hlt : hi + c1 + c2 < b := by
    apply Int.lt_of_not_ge
    intro hge
    have : b * b ≤ b * (hi + c1 + c2) := Int.mul_le_mul_of_nonneg_left hge (by omega)
    omega
  refine ⟨b1, b2, b3, b4, by omega, by omega, by omega, hlt, ?_, ?_⟩
  · rw [key, Int.add_mul_emod_self_left]; exact (Int.emod_eq_of_lt b5 b6).symm
  · rw [key, Int.add_mul_ediv_left _ _ (by omega), Int.ediv_eq_zero_of_lt b5 b6, Int.zero_add]

/-- 2^64 -/
def B64 : Int := 18446744073709551616
/-- what a sign and limbs are worth -/
def zi (s : Bool) (xs : List Int) : Int := if s then -(vl B64 xs) else vl B64 xs
/-- the plain form of a whole number -/
structure CanI (s : Bool) (xs : List Int) (z : Int) : Prop where
  can : Can B64 xs (z.natAbs : Int)
  sgn : s = decide (z < 0)
theorem CanI.zi {s : Bool} {xs : List Int} {z : Int} (h : CanI s xs z) : zi s xs = z := by
  unfold Go.Proofs.YtlgecdkidgjgiaaDoor.zi
  rw [h.sgn, h.can.val]
  by_cases hz : z < 0
  · simp [hz]; omega
  · simp [hz]; omega
theorem zi_plain {s : Bool} {xs : List Int} (h : Dg B64 xs) : CanI (decide (zi s xs < 0)) (pl xs) (zi s xs) := by
  refine ⟨?_, rfl⟩
  have := (vl_bd h).1
  have k := pl_can h
  have e : ((zi s xs).natAbs : Int) = vl B64 xs := by unfold zi; split <;> omega
  rw [e]; exact k

/-- z has at most k limbs -/
def Sz (z : Int) (k : Nat) : Prop := (z.natAbs : Int) < B64 ^ k
theorem B64_pos : (0 : Int) < B64 := by decide
theorem pow_mono {k m : Nat} (h : k ≤ m) : B64 ^ k ≤ B64 ^ m := by
  have e : B64 ^ m = B64 ^ k * B64 ^ (m - k) := by rw [← Int.pow_add]; congr 1; omega
  rw [e]
  have p1 := bpow_pos B64_pos k
  have p2 := bpow_pos B64_pos (m - k)
  have : B64 ^ k * 1 ≤ B64 ^ k * B64 ^ (m - k) := Int.mul_le_mul_of_nonneg_left (by omega) (Int.le_of_lt p1)
  omega
theorem Sz.mono {z : Int} {k m : Nat} (h : Sz z k) (hk : k ≤ m) : Sz z m := Int.lt_of_lt_of_le h (pow_mono hk)
theorem Sz.of_zi {s : Bool} {xs : List Int} (h : Dg B64 xs) : Sz (zi s xs) xs.length := by
  have := vl_bd h
  unfold Sz zi; split <;> omega
theorem Sz.vl {xs : List Int} (h : Dg B64 xs) : Sz (vl B64 xs) xs.length := Sz.of_zi (s := false) h
theorem Sz.neg {z : Int} {k : Nat} (h : Sz z k) : Sz (-z) k := by unfold Sz at *; omega
theorem Sz.add {y z : Int} {k m : Nat} (h : Sz y k) (h' : Sz z k) (hm : k + 1 ≤ m) : Sz (y + z) m := by
  refine Sz.mono ?_ hm
  unfold Sz at *
  rw [Int.pow_succ]
  have : B64 ^ k * 2 ≤ B64 ^ k * B64 := Int.mul_le_mul_of_nonneg_left (by decide) (Int.le_of_lt (bpow_pos B64_pos k))
  omega
theorem Sz.mul {y z : Int} {k m n : Nat} (h : Sz y k) (h' : Sz z m) (hn : k + m ≤ n) : Sz (y * z) n := by
  refine Sz.mono ?_ hn
  unfold Sz at *
  rw [Int.pow_add, Int.natAbs_mul]
  push_cast
  exact Int.mul_lt_mul' (Int.le_of_lt h) h' (by omega) (bpow_pos B64_pos k)
theorem Can.len {zs : List Int} {z : Int} {k : Nat} (h : Can B64 zs z) (hk : Sz z k) : zs.length ≤ k := by
  refine h.len_le k ?_
  have := h.nonneg
  unfold Sz at hk
  omega
theorem CanI.len {t : Bool} {zs : List Int} {z : Int} {k : Nat} (h : CanI t zs z) (hk : Sz z k) : zs.length ≤ k := h.can.len_le k hk

/-- what a sign and digits of 16 bits are worth -/
def zd (s : Bool) (xs : List Int) : Int := if s then -(vl 65536 xs) else vl 65536 xs
/-- the plain form of a whole number, in digits of 16 bits -/
structure CanD (s : Bool) (xs : List Int) (z : Int) : Prop where
  can : Can 65536 xs (z.natAbs : Int)
  sgn : s = decide (z < 0)
theorem CanD.zd {s : Bool} {xs : List Int} {z : Int} (h : CanD s xs z) : zd s xs = z := by
  unfold Go.Proofs.YtlgecdkidgjgiaaDoor.zd
  rw [h.sgn, h.can.val]
  by_cases hz : z < 0
  · simp [hz]; omega
  · simp [hz]; omega
theorem zd_plain {s : Bool} {xs : List Int} (h : Dg 65536 xs) : CanD (decide (zd s xs < 0)) (pl xs) (zd s xs) := by
  refine ⟨?_, rfl⟩
  have := (vl_bd h).1
  have k := pl_can h
  have e : ((zd s xs).natAbs : Int) = vl 65536 xs := by unfold zd; split <;> omega
  rw [e]; exact k
theorem zd_of {s : Bool} {zs : List Int} {v : Int} (h : Can 65536 zs v) : CanD (decide (zd s zs < 0)) zs (if s then -v else v) := by
  have k := zd_plain (s := s) h.dg
  rw [pl_of_can h] at k
  have e : zd s zs = if s then -v else v := by unfold zd; rw [h.val]
  rw [e] at k ⊢
  exact k
/-- z has at most k digits of 16 bits -/
def Sd (z : Int) (k : Nat) : Prop := (z.natAbs : Int) < 65536 ^ k
theorem powd_mono {k m : Nat} (h : k ≤ m) : (65536 : Int) ^ k ≤ 65536 ^ m := by
  have e : (65536 : Int) ^ m = 65536 ^ k * 65536 ^ (m - k) := by rw [← Int.pow_add]; congr 1; omega
  rw [e]
  have p1 := bpow_pos (show (0 : Int) < 65536 by decide) k
  have p2 := bpow_pos (show (0 : Int) < 65536 by decide) (m - k)
  have : (65536 : Int) ^ k * 1 ≤ 65536 ^ k * 65536 ^ (m - k) := Int.mul_le_mul_of_nonneg_left (by omega) (Int.le_of_lt p1)
  omega
theorem Sd.mono {z : Int} {k m : Nat} (h : Sd z k) (hk : k ≤ m) : Sd z m := Int.lt_of_lt_of_le h (powd_mono hk)
theorem Sd.of_sz {z : Int} {k : Nat} (h : Sz z k) {m : Nat} (hm : 4 * k ≤ m) : Sd z m := by
  refine Sd.mono ?_ hm
  unfold Sd
  have e : (65536 : Int) ^ (4 * k) = B64 ^ k := by rw [Int.pow_mul]; congr 1
  rw [e]; exact h
theorem CanD.len {t : Bool} {zs : List Int} {z : Int} {k : Nat} (h : CanD t zs z) (hk : Sd z k) : zs.length ≤ k := h.can.len_le k hk

/-- which of two is less: -1, 0 or 1 -/
def sg (u v : Int) : Int := if u < v then -1 else if v < u then 1 else 0
/-- the sign of a number -/
def sgz (z : Int) : Int := if z < 0 then -1 else if 0 < z then 1 else 0
theorem sgz_sub (u v : Int) : sgz (u - v) = sg u v := by
  unfold sgz sg
  by_cases h : u < v
  · rw [if_pos (by omega), if_pos h]
  · rw [if_neg (by omega), if_neg h]
    by_cases h2 : v < u
    · rw [if_pos (by omega), if_pos h2]
    · rw [if_neg (by omega), if_neg h2]

/-- limbs taken apart: of the first i all is done, and of the next one k digits; x is left of it -/
structure Apart (b : Int) (xs : List Int) (i k : Nat) (zs : List Int) (x : Int) : Prop where
  base : b = 65536 ^ 4
  len : zs.length = 4 * i + k
  dg : Dg 65536 zs
  xb : 0 ≤ x ∧ x < 65536 ^ (4 - k)
  val : vl 65536 zs + x * 65536 ^ (4 * i + k) = vl b (xs.take (i + 1))
theorem Apart.step {b : Int} {xs zs : List Int} {i k : Nat} {x : Int} (h : Apart b xs i k zs x) (hk : k < 4) : Apart b xs i (k + 1) (zs ++ [x % 65536]) (x / 65536) := by
  have hx := h.xb
  have e4 : (65536 : Int) ^ (4 - k) = 65536 ^ (4 - (k + 1)) * 65536 := by rw [← Int.pow_succ]; congr 1; omega
  rw [e4] at hx
  refine ⟨h.base, by simp [h.len]; omega, h.dg.append (Dg.cons.2 ⟨⟨Int.emod_nonneg _ (by decide), Int.emod_lt_of_pos _ (by decide)⟩, Dg.nil (by decide)⟩), ⟨Int.ediv_nonneg hx.1 (by decide), by rw [Int.ediv_lt_iff_lt_mul (by decide)]; exact hx.2⟩, ?_⟩
  rw [vl_append, h.len, ← h.val, ← Nat.add_assoc, Int.pow_succ]
  have e := Int.mul_ediv_add_emod x 65536
  have e2 : x % 65536 = x - 65536 * (x / 65536) := by omega
  simp only [vl]
  rw [e2]
  generalize x / 65536 = q at *
  grind
theorem Apart.start {b : Int} {xs zs : List Int} {i : Nat} (hb : b = 65536 ^ 4) (hl : zs.length = 4 * i) (hd : Dg 65536 zs) (hv : vl 65536 zs = vl b (xs.take i)) (hx : Dg b xs) : Apart b xs i 0 zs (xs[i]?.getD 0) := by
  have h := hx i
  refine ⟨hb, hl, hd, by rw [hb] at h; exact h, ?_⟩
  rw [hv, vl_take_succ, hb, ← Int.pow_mul]
  simp
theorem Apart.done {b : Int} {xs zs : List Int} {i : Nat} {x : Int} (h : Apart b xs i 4 zs x) : zs.length = 4 * (i + 1) ∧ Dg 65536 zs ∧ vl 65536 zs = vl b (xs.take (i + 1)) := by
  have hx := h.xb
  simp at hx
  have e : x = 0 := by omega
  have hv := h.val
  rw [e] at hv
  exact ⟨by have := h.len; omega, h.dg, by omega⟩

theorem drop_cons (us : List Int) (n : Nat) (k : Nat) (b : Int) : vl b ((us.drop n).take (k + 1)) = us[n]?.getD 0 + b * vl b ((us.drop (n + 1)).take k) := by
  by_cases h : n < us.length
  · rw [List.drop_eq_getElem_cons h, List.take_succ_cons, List.getElem?_eq_getElem h]
    rfl
  · rw [List.drop_of_length_le (by omega), List.drop_of_length_le (by omega), List.getElem?_eq_none (by omega)]
    simp [vl]
theorem take_bd {b : Int} {us : List Int} (h : Dg b us) (n k : Nat) : 0 ≤ vl b ((us.drop n).take k) ∧ vl b ((us.drop n).take k) < b ^ k := by
  have hb := h.pos
  have := vl_bd ((h.drop n).take k)
  refine ⟨this.1, Int.lt_of_lt_of_le this.2 ?_⟩
  rw [show b ^ k = b ^ ((us.drop n).take k).length * b ^ (k - ((us.drop n).take k).length) from by rw [← Int.pow_add]; congr 1; simp; omega]
  have p1 := bpow_pos hb ((us.drop n).take k).length
  have p2 := bpow_pos hb (k - ((us.drop n).take k).length)
  have : b ^ ((us.drop n).take k).length * 1 ≤ b ^ ((us.drop n).take k).length * b ^ (k - ((us.drop n).take k).length) := Int.mul_le_mul_of_nonneg_left (by omega) (Int.le_of_lt p1)
  omega
theorem take_more (b : Int) (us : List Int) (i k : Nat) (h : i ≤ us.length) : vl b (us.take (i + k)) = vl b (us.take i) + b ^ i * vl b ((us.drop i).take k) := by
  rw [List.take_add, vl_append, List.length_take, Nat.min_eq_left h]
/-- digits put together to limbs: the first m limbs -/
structure Put (b : Int) (us : List Int) (m : Nat) (zs : List Int) : Prop where
  len : zs.length = m
  dg : Dg b zs
  val : vl b zs = vl 65536 (us.take (4 * m))
theorem Put.step {b : Int} {us zs : List Int} {m : Nat} (h : Put b us m zs) (hb : b = 65536 ^ 4) (hu : Dg 65536 us) (hm : 4 * m ≤ us.length) : Put b us (m + 1) (zs ++ [vl 65536 ((us.drop (4 * m)).take 4)]) := by
  have hx := take_bd hu (4 * m) 4
  rw [← hb] at hx
  refine ⟨by simp [h.len], h.dg.append (Dg.cons.2 ⟨hx, Dg.nil h.dg.pos⟩), ?_⟩
  rw [vl_append, h.len, h.val, show 4 * (m + 1) = 4 * m + 4 from by omega, take_more _ _ _ _ hm, hb, ← Int.pow_mul]
  simp only [vl]
  grind
theorem Put.done {b v : Int} {us zs : List Int} {m : Nat} (h : Put b us m zs) (hb : b = 65536 ^ 4) (hu : Can 65536 us v) (h1 : us.length ≤ 4 * m) (h2 : 4 * m ≤ us.length + 3) : Can b zs v := by
  have hv : vl b zs = v := by rw [h.val, List.take_of_length_le h1, hu.val]
  refine ⟨h.dg, ?_, hv⟩
  by_cases h0 : us = []
  · left
    subst h0
    have := h.len
    simp at h2
    exact List.length_eq_zero_iff.1 (by omega)
  · right
    intro hz
    have hpos : 0 < us.length := List.length_pos_iff.2 h0
    have ht := vl_top hu.dg (hu.top.resolve_left h0)
    rw [hu.val, ← hv] at ht
    have hlen := h.len
    have e : vl b zs = vl b (zs.take (zs.length - 1)) := by
      have := vl_take_succ b zs (zs.length - 1)
      rw [show zs.length - 1 + 1 = zs.length from by omega, List.take_length, hz] at this
      omega
    have hlt := (vl_bd (h.dg.take (zs.length - 1))).2
    rw [← e] at hlt
    have : b ^ (zs.take (zs.length - 1)).length ≤ 65536 ^ (us.length - 1) := by
      rw [hb, ← Int.pow_mul]
      rw [show (65536 : Int) ^ (us.length - 1) = 65536 ^ (4 * (zs.take (zs.length - 1)).length) * 65536 ^ (us.length - 1 - 4 * (zs.take (zs.length - 1)).length) from by rw [← Int.pow_add]; congr 1; simp; omega]
      have p1 := bpow_pos (show (0 : Int) < 65536 by decide) (4 * (zs.take (zs.length - 1)).length)
      have p2 := bpow_pos (show (0 : Int) < 65536 by decide) (us.length - 1 - 4 * (zs.take (zs.length - 1)).length)
      have := Int.mul_le_mul_of_nonneg_left (show (1 : Int) ≤ 65536 ^ (us.length - 1 - 4 * (zs.take (zs.length - 1)).length) by omega) (Int.le_of_lt p1)
      omega
    omega
end Go.Proofs.YtlgecdkidgjgiaaDoor
