/- Dyadic numbers by what they are worth, counted in units of a power of two; the functions of layer 6 by what they do to it. -/
import Derived.Test.YtlgecdkidgjgiaaDoorDyG
import Derived.Test.YtlgecdkidgjgiaaDoorRfJ
import Derived.Test.YtlgecdkidgjgiaaDoorRf5
namespace Go.Proofs.YtlgecdkidgjgiaaDoor
open Go.RowKit

/-- m times 2^e is X times 2^E, X below 2^L -/
structure Fx (m e E X : Int) (L : Nat) : Prop where
  lo : E ≤ e
  hi : e ≤ 16384
  eq : X = 2 ^ (e - E).toNat * m
  bd : X.natAbs < 2 ^ L
theorem Fx.abs {m e E X : Int} {L : Nat} (h : Fx m e E X L) : m.natAbs < 2 ^ L := by
  have e1 : X.natAbs = 2 ^ (e - E).toNat * m.natAbs := by rw [h.eq, Int.natAbs_mul, Int.natAbs_pow]; rfl
  have p : 0 < 2 ^ (e - E).toNat := Nat.two_pow_pos _
  have : 1 * m.natAbs ≤ 2 ^ (e - E).toNat * m.natAbs := Nat.mul_le_mul_right _ p
  have := h.bd
  omega
theorem sz_of_abs {m : Int} {L k : Nat} (h : m.natAbs < 2 ^ L) (hk : L ≤ 64 * k) : Sz m k := by
  unfold Sz
  have e : B64 ^ k = ((2 ^ (64 * k) : Nat) : Int) := by push_cast; rw [Int.pow_mul]; rfl
  rw [e]
  have : 2 ^ L ≤ 2 ^ (64 * k) := Nat.pow_le_pow_right (by decide) hk
  omega
theorem Fx.sz {m e E X : Int} {L k : Nat} (h : Fx m e E X L) (hk : L ≤ 64 * k) : Sz m k := sz_of_abs h.abs hk
theorem Fx.may {m e E X : Int} {L : Nat} (h : Fx m e E X L) (hE : -16384 ≤ E) (hL : L ≤ 16384) : May m e := ⟨by have := h.lo; omega, h.hi, h.sz (by omega)⟩
theorem mk_units {m e E : Int} (h : E ≤ e) : mk (2 ^ (e - E).toNat * m) E = mk m e := by
  have := mk_shift m e (e - E).toNat
  rw [show e - ((e - E).toNat : Int) = E by omega] at this
  rw [Int.mul_comm]; exact this
theorem Fx.mkE {m e E X : Int} {L : Nat} (h : Fx m e E X L) : Go.Proofs.YtlgecdkidgjgiaaDoor.mk m e = Go.Proofs.YtlgecdkidgjgiaaDoor.mk X E := by rw [h.eq, mk_units h.lo]
/-- what has at most so many bits has a plain form that may be -/
theorem mk_some {E X : Int} {L : Nat} (hX : X.natAbs < 2 ^ L) (h0 : -16384 ≤ E) (h1 : E ≤ 0) (hL : L ≤ 16384) : ∃ m e, mk X E = some (m, e) ∧ Fx m e E X L := by
  by_cases hz : X = 0
  · subst hz
    exact ⟨0, 0, mk_zero E, h1, by omega, by simp, Nat.two_pow_pos _⟩
  · have t := tz_twos hz
    have ta := t.natAbs
    have tod := t.odd
    generalize X / 2 ^ tz X.natAbs = o at *
    generalize tz X.natAbs = n at *
    have p : 0 < 2 ^ n := Nat.two_pow_pos n
    have hn : n < L := by
      apply Nat.lt_of_not_le
      intro hle
      have q : 2 ^ L ≤ 2 ^ n := Nat.pow_le_pow_right (by decide) hle
      have : 1 * 2 ^ n ≤ o.natAbs * 2 ^ n := Nat.mul_le_mul_right _ (by omega)
      omega
    have ho : o.natAbs < 2 ^ L := by
      have : o.natAbs * 1 ≤ o.natAbs * 2 ^ n := Nat.mul_le_mul_left _ p
      omega
    refine ⟨o, E + n, ?_, by omega, by omega, ?_, hX⟩
    · rw [mk_of t, if_pos ⟨by omega, by omega, sz_of_abs ho (by omega)⟩]
    · rw [show (E + (n : Int) - E).toNat = n by omega, Int.mul_comm]; exact t.eq
theorem Fx.add2 {m e m' e' E X X' : Int} {L : Nat} (h : Fx m e E X L) (h' : Fx m' e' E X' L) (hE : -16384 ≤ E) (hL : L ≤ 16384) : add2 m e m' e' = Go.Proofs.YtlgecdkidgjgiaaDoor.mk (X + X') E := by
  unfold Go.Proofs.YtlgecdkidgjgiaaDoor.add2
  rw [if_pos ⟨h.may hE hL, h'.may hE hL⟩]
  have l := h.lo
  have l' := h'.lo
  have l2 : E ≤ min e e' := by omega
  rw [← mk_units l2]
  congr 1
  rw [h.eq, h'.eq, Int.mul_add, ← Int.mul_assoc, ← Int.mul_assoc, ← Int.pow_add, ← Int.pow_add]
  rw [show (min e e' - E).toNat + (e - min e e').toNat = (e - E).toNat by omega, show (min e e' - E).toNat + (e' - min e e').toNat = (e' - E).toNat by omega]
theorem Fx.mul2 {m e m' e' E E' X X' : Int} {L L' : Nat} (h : Fx m e E X L) (h' : Fx m' e' E' X' L') (hE : -16384 ≤ E) (hL : L ≤ 16384) (hE' : -16384 ≤ E') (hL' : L' ≤ 16384) :
    mul2 m e m' e' = Go.Proofs.YtlgecdkidgjgiaaDoor.mk (X * X') (E + E') := by
  unfold Go.Proofs.YtlgecdkidgjgiaaDoor.mul2
  rw [if_pos ⟨h.may hE hL, h'.may hE' hL'⟩]
  have l := h.lo
  have l' := h'.lo
  rw [← mk_units (show E + E' ≤ e + e' by omega)]
  congr 1
  rw [h.eq, h'.eq, show (e + e' - (E + E')).toNat = (e - E).toNat + (e' - E').toNat by omega, Int.pow_add]
  grind
theorem Fx.neg {m e E X : Int} {L : Nat} (h : Fx m e E X L) : Fx (-m) e E (-X) L := ⟨h.lo, h.hi, by rw [h.eq, Int.mul_neg], by have := h.bd; omega⟩
theorem abs_add {X X' : Int} {L : Nat} (h : X.natAbs < 2 ^ L) (h' : X'.natAbs < 2 ^ L) : (X + X').natAbs < 2 ^ (L + 1) := by
  rw [Nat.pow_succ]; omega
theorem abs_mul {X X' : Int} {L L' : Nat} (h : X.natAbs < 2 ^ L) (h' : X'.natAbs < 2 ^ L') : (X * X').natAbs < 2 ^ (L + L') := by
  rw [Int.natAbs_mul, Nat.pow_add]
  exact Nat.mul_lt_mul_of_lt_of_le h (Nat.le_of_lt h') (Nat.two_pow_pos _)

/-- a value, plain, that is worth X units of 2^E -/
def FV (w : World) (v : Value) (E X : Int) (L : Nat) : Prop := ∃ m e, DyV w v m e ∧ Fx m e E X L ∧ mk X E = some (m, e)
/-- a value that is worth X units of 2^E -/
def IFV (w : World) (v : Value) (E X : Int) (L k : Nat) : Prop := ∃ m e, IDy w v m e k ∧ Fx m e E X L
theorem FV.below {w w' : World} {v : Value} {E X : Int} {L : Nat} (h : FV w v E X L) (hb : Below w.heap.size w w') : FV w' v E X L := by
  obtain ⟨m, e, h1, h2⟩ := h
  exact ⟨m, e, h1.below hb, h2⟩
theorem IFV.below {w w' : World} {v : Value} {E X : Int} {L k : Nat} (h : IFV w v E X L k) (hb : Below w.heap.size w w') : IFV w' v E X L k := by
  obtain ⟨m, e, h1, h2⟩ := h
  exact ⟨m, e, h1.below hb, h2⟩
theorem FV.ifv {w : World} {v : Value} {E X : Int} {L k : Nat} (h : FV w v E X L) (hk : L ≤ 64 * k) : IFV w v E X L k := by
  obtain ⟨m, e, h1, h2, _⟩ := h
  exact ⟨m, e, h1.idy (h2.sz hk), h2⟩
theorem FV.mono {w : World} {v : Value} {E X : Int} {L M : Nat} (h : FV w v E X L) (hM : L ≤ M) : FV w v E X M := by
  obtain ⟨m, e, h1, h2, h3⟩ := h
  exact ⟨m, e, h1, ⟨h2.lo, h2.hi, h2.eq, Nat.lt_of_lt_of_le h2.bd (Nat.pow_le_pow_right (by decide) hM)⟩, h3⟩
theorem IFV.mono {w : World} {v : Value} {E X : Int} {L M k : Nat} (h : IFV w v E X L k) (hM : L ≤ M) : IFV w v E X M k := by
  obtain ⟨m, e, h1, h2⟩ := h
  exact ⟨m, e, h1, ⟨h2.lo, h2.hi, h2.eq, Nat.lt_of_lt_of_le h2.bd (Nat.pow_le_pow_right (by decide) hM)⟩⟩
theorem FV.shape {w : World} {v : Value} {E X : Int} {L : Nat} (h : FV w v E X L) : ∃ (t : Bool) (B : Option Addr) (n d : Nat) (e : Int), v = .agg #[.bool t, .slice B n d, .int .i64 e] := by
  obtain ⟨m, e, h1, _⟩ := h
  obtain ⟨t, B, n, d, h⟩ := h1.shape
  exact ⟨t, B, n, d, e, h⟩
/-- of what was made, plain, the value -/
theorem res_fv {w : World} {u : Value} {E X : Int} {L : Nat} (hres : Res w u (mk X E)) (hX : X.natAbs < 2 ^ L) (h0 : -16384 ≤ E) (h1 : E ≤ 0) (hL : L ≤ 16384) :
    ∃ (t : Bool) (B : Option Addr) (n d : Nat) (e : Int), u = .tuple #[.agg #[.bool t, .slice B n d, .int .i64 e], .nilIface] ∧ FV w (.agg #[.bool t, .slice B n d, .int .i64 e]) E X L := by
  obtain ⟨m, e, hm, hf⟩ := mk_some hX h0 h1 hL
  rw [hm] at hres
  obtain ⟨d, rfl, hd⟩ := hres
  obtain ⟨t, B, n, d', rfl⟩ := hd.shape
  exact ⟨t, B, n, d', e, rfl, m, e, hd, hf, hm⟩
theorem resB_fv {w : World} {u : Value} {E X : Int} {L : Nat} (hres : ResB w u (mk X E)) (hX : X.natAbs < 2 ^ L) (h0 : -16384 ≤ E) (h1 : E ≤ 0) (hL : L ≤ 16384) :
    ∃ (t : Bool) (B : Option Addr) (n d : Nat) (e : Int), u = .tuple #[.agg #[.bool t, .slice B n d, .int .i64 e], .bool true] ∧ FV w (.agg #[.bool t, .slice B n d, .int .i64 e]) E X L := by
  obtain ⟨m, e, hm, hf⟩ := mk_some hX h0 h1 hL
  rw [hm] at hres
  obtain ⟨d, rfl, hd⟩ := hres
  obtain ⟨t, B, n, d', rfl⟩ := hd.shape
  exact ⟨t, B, n, d', e, rfl, m, e, hd, hf, hm⟩

/-- what the functions of layer 6 answer that have a number: it, and no error -/
def Gives (w w' : World) (ev : Ending) (E X : Int) (L : Nat) : Prop :=
  (∃ (t : Bool) (B : Option Addr) (n d : Nat) (e : Int), ev = .returned (.tuple #[.agg #[.bool t, .slice B n d, .int .i64 e], .nilIface]) ∧ FV w' (.agg #[.bool t, .slice B n d, .int .i64 e]) E X L) ∧ Below w.heap.size w w'

theorem subF {v v' : Value} {E X X' : Int} {L k : Nat} {w : World} (h : IFV w v E X L k) (h' : IFV w v' E X' L k) (hk : k ≤ 500) (h0 : -16384 ≤ E) (h1 : E ≤ 0) (hL : L + 1 ≤ 16384) (ht : TabOk w) :
    Calls Tryd.prog 11 #[v, v'] w fun ev w' => Gives w w' ev E (X - X') (L + 1) := by
  obtain ⟨m, e, i1, f1⟩ := h
  obtain ⟨m', e', i2, f2⟩ := h'
  refine (dsubV i1 i2 (by omega) ht).mono ?_
  rintro ev w' ⟨u, rfl, hres, hb⟩
  rw [f1.add2 f2.neg h0 (by omega)] at hres
  obtain ⟨t, B, n, d, e2, rfl, hv⟩ := res_fv hres (abs_add f1.bd f2.neg.bd) h0 h1 hL
  exact ⟨⟨t, B, n, d, e2, rfl, by rw [Int.sub_eq_add_neg]; exact hv⟩, hb⟩
theorem addF {v v' : Value} {E X X' : Int} {L k : Nat} {w : World} (h : IFV w v E X L k) (h' : IFV w v' E X' L k) (hk : k ≤ 500) (h0 : -16384 ≤ E) (h1 : E ≤ 0) (hL : L + 1 ≤ 16384) (ht : TabOk w) :
    Calls Tryd.prog 18 #[v, v'] w fun ev w' => Gives w w' ev E (X + X') (L + 1) := by
  obtain ⟨m, e, i1, f1⟩ := h
  obtain ⟨m', e', i2, f2⟩ := h'
  refine (daddV i1 i2 (by omega) ht).mono ?_
  rintro ev w' ⟨u, rfl, hres, hb⟩
  rw [f1.add2 f2 h0 (by omega)] at hres
  obtain ⟨t, B, n, d, e2, rfl, hv⟩ := res_fv hres (abs_add f1.bd f2.bd) h0 h1 hL
  exact ⟨⟨t, B, n, d, e2, rfl, hv⟩, hb⟩
theorem mulF {v v' : Value} {E E' X X' : Int} {L L' k : Nat} {w : World} (h : IFV w v E X L k) (h' : IFV w v' E' X' L' k) (hk : k ≤ 500) (h0 : -8192 ≤ E) (h1 : E ≤ 0) (h0' : -8192 ≤ E') (h1' : E' ≤ 0) (hL : L + L' ≤ 16384) (ht : TabOk w) :
    Calls Tryd.prog 12 #[v, v'] w fun ev w' => Gives w w' ev (E + E') (X * X') (L + L') := by
  obtain ⟨m, e, i1, f1⟩ := h
  obtain ⟨m', e', i2, f2⟩ := h'
  refine (dmulV i1 i2 (by omega) ht).mono ?_
  rintro ev w' ⟨u, rfl, hres, hb⟩
  rw [f1.mul2 f2 (by omega) (by omega) (by omega) (by omega)] at hres
  obtain ⟨t, B, n, d, e2, rfl, hv⟩ := res_fv hres (abs_mul f1.bd f2.bd) (by omega) (by omega) hL
  exact ⟨⟨t, B, n, d, e2, rfl, hv⟩, hb⟩
theorem plainF {v : Value} {E X : Int} {L k : Nat} {w : World} (h : IFV w v E X L k) (hk : k ≤ 500) (h0 : -16384 ≤ E) (h1 : E ≤ 0) (hL : L ≤ 16384) (ht : TabOk w) :
    Calls Tryd.prog 19 #[v] w fun ev w' => Gives w w' ev E X L := by
  obtain ⟨m, e, i1, f1⟩ := h
  refine (dplainV i1 (by omega) ht).mono ?_
  rintro ev w' ⟨u, rfl, hres, hb⟩
  rw [show plain2 m e = mk m e from if_pos (f1.may h0 hL), f1.mkE] at hres
  obtain ⟨t, B, n, d, e2, rfl, hv⟩ := res_fv hres f1.bd h0 h1 hL
  exact ⟨⟨t, B, n, d, e2, rfl, hv⟩, hb⟩
theorem cmpF {v v' : Value} {E X : Int} {L k : Nat} {w : World} (h : FV w v E X L) (h' : FV w v' E X L) (hk : L ≤ 64 * k) (hk2 : k ≤ 500) (h0 : -16384 ≤ E) (hL : L ≤ 16384) :
    Calls Tryd.prog 20 #[v, v'] w fun ev w' => ev = .returned (.tuple #[.int .i64 0, .nilIface]) ∧ Below w.heap.size w w' := by
  obtain ⟨m, e, i1, f1, g1⟩ := h
  obtain ⟨m', e', i2, f2, g2⟩ := h'
  rw [g1] at g2
  injection g2 with g2
  injection g2 with e1 e2
  subst e1 e2
  refine (dcmpV (i1.idy (f1.sz hk)) (i2.idy (f1.sz hk)) (by omega)).mono ?_
  rintro ev w' ⟨h | h, hb⟩
  · refine ⟨?_, hb⟩
    rw [h.2.2]
    have : cmp2 m e m e = 0 := by unfold cmp2; rw [Int.sub_self]; rfl
    rw [this]
  · exact absurd ⟨f1.may h0 hL, f1.may h0 hL⟩ h.1
theorem sameF {v v' : Value} {E X : Int} {L k : Nat} {w : World} (h : FV w v E X L) (h' : FV w v' E X L) (hk : L ≤ 64 * k) (hk2 : k ≤ 500) :
    Calls Tryd.prog 17 #[v, v'] w fun ev w' => ev = .returned (.bool true) ∧ Below w.heap.size w w' := by
  obtain ⟨m, e, i1, f1, g1⟩ := h
  obtain ⟨m', e', i2, f2, g2⟩ := h'
  rw [g1] at g2
  injection g2 with g2
  injection g2 with e1 e2
  subst e1 e2
  exact rsameY i1 i2 (f1.sz hk) (by omega)
/-- the units of 2^-1074 that finite bits are worth -/
noncomputable def fval (b : Int) : Int := 2 ^ (fE b + 1074).toNat * fM b
theorem fM_abs (b : Int) : (fM b).natAbs < 2 ^ 53 := by
  have := fU_bd b
  unfold fM
  split <;> omega
set_option exponentiation.threshold 3000 in
theorem fval_bd (b : Int) : (fval b).natAbs < 2 ^ 2099 := by
  have h1 := fM_abs b
  have h2 := fE_bd b
  have e : (fval b).natAbs = 2 ^ (fE b + 1074).toNat * (fM b).natAbs := by unfold fval; rw [Int.natAbs_mul, Int.natAbs_pow]; rfl
  rw [e, show 2099 = 2046 + 53 from rfl, Nat.pow_add]
  have h3 : 2 ^ (fE b + 1074).toNat ≤ 2 ^ 2046 := Nat.pow_le_pow_right (by decide) (by omega)
  exact Nat.mul_lt_mul_of_le_of_lt h3 h1 (Nat.two_pow_pos _)
theorem abs_neg {x : Int} {n : Nat} (h : x.natAbs < 2 ^ n) : (-x).natAbs < 2 ^ n := by rw [Int.natAbs_neg]; exact h
theorem abs_pq {x y : Int} {n : Nat} (h : x.natAbs < 2 ^ n) (h' : y.natAbs < 2 ^ n) : (x * y - y * y).natAbs < 2 ^ (n + n + 1) := by
  rw [Int.sub_eq_add_neg]
  exact abs_add (abs_mul h h') (abs_neg (abs_mul h' h'))
theorem fval_bd_neg (b : Int) : (-(fval b)).natAbs < 2 ^ 2099 := by rw [Int.natAbs_neg]; exact fval_bd b
theorem ofF (b : Int) {w : World} (h0 : 0 ≤ b) (h1 : b < B64) (hx : fX b ≠ 2047) (ht : TabOk w) :
    Calls Tryd.prog 10 #[.int .u64 b] w fun ev w' => Gives w w' ev (-1074) (fval b) 2099 := by
  refine (dofV b h0 h1 hx ht).mono ?_
  rintro ev w' ⟨u, rfl, hres, hb⟩
  have be := fE_bd b
  have e : mk (fM b) (fE b) = mk (fval b) (-1074) := by
    unfold fval
    have := mk_units (m := fM b) (show (-1074 : Int) ≤ fE b by omega)
    rw [← this]
    rw [show fE b - -1074 = fE b + 1074 by omega]
  rw [e] at hres
  obtain ⟨t, B, n, d, e2, rfl, hv⟩ := res_fv hres (fval_bd b) (by omega) (by omega) (by omega)
  exact ⟨⟨t, B, n, d, e2, rfl, hv⟩, hb⟩
end Go.Proofs.YtlgecdkidgjgiaaDoor
