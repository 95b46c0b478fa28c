/- The walks of layer 5's parts of a float, and of the dyadic number that bits are. -/
import Derived.Test.YtlgecdkidgjgiaaDoorDyC
namespace Go.Proofs.YtlgecdkidgjgiaaDoor
open Go.RowKit

/-- the fields of a float's bits: e, f -/
def fX (b : Int) : Int := b / 4503599627370496 % 2048
def fF (b : Int) : Int := b % 4503599627370496
/-- the number without a sign, and the power of two -/
def fU (b : Int) : Int := if fX b = 0 then fF b else fF b + 4503599627370496
def fE (b : Int) : Int := (if fX b = 0 then 0 else fX b - 1) - 1074
def fN (b : Int) : Bool := decide (9223372036854775808 ≤ b)
/-- the number with its sign -/
def fM (b : Int) : Int := if fN b then -(fU b) else fU b
theorem fX_bd (b : Int) : 0 ≤ fX b ∧ fX b < 2048 := by unfold fX; omega
theorem fF_bd (b : Int) : 0 ≤ fF b ∧ fF b < 4503599627370496 := by unfold fF; omega
theorem fU_bd (b : Int) : 0 ≤ fU b ∧ fU b < 9007199254740992 := by
  have := fF_bd b
  unfold fU; split <;> omega
theorem fE_bd (b : Int) : -1074 ≤ fE b ∧ fE b ≤ 972 := by
  have := fX_bd b
  unfold fE; split <;> omega
theorem and2047 {b : Int} (h0 : 0 ≤ b) (h1 : b < B64) : bits .and .u64 (b / 4503599627370496) 2047 = fX b := by
  unfold B64 at h1
  rw [u64_and _ _ (by omega) (by omega) (by omega) (by omega)]
  have e := Nat.and_two_pow_sub_one_eq_mod (b / 4503599627370496).toNat 11
  rw [show (2047 : Int).toNat = 2 ^ 11 - 1 from rfl, e]
  unfold fX
  omega
theorem and52 {b : Int} (h0 : 0 ≤ b) (h1 : b < B64) : bits .and .u64 b 4503599627370495 = fF b := by
  unfold B64 at h1
  rw [u64_and _ _ (by omega) (by omega) (by omega) (by omega)]
  have e := Nat.and_two_pow_sub_one_eq_mod b.toNat 52
  rw [show (4503599627370495 : Int).toNat = 2 ^ 52 - 1 from rfl, e]
  unfold fF
  omega
theorem or52 (b : Int) : bits .or .u64 (fF b) 4503599627370496 = fF b + 4503599627370496 := by
  have h := fF_bd b
  have := or_add 52 1 (fF b) (by decide) h.1 (by simpa using h.2) (by unfold B64; omega)
  rw [u64_or _ _ (by decide) (by decide) (by omega) (by omega)] at this
  rw [u64_or _ _ (by omega) (by omega) (by decide) (by decide), Nat.or_comm]
  rw [show (1 : Int) * 2 ^ 52 = 4503599627370496 from rfl] at this
  rw [this, Int.add_comm]

/-- what Parts answers of finite bits -/
def fOut (b : Int) : Bool × Int × Int := if fU b = 0 then (false, 0, 0) else (fN b, fU b / 2 ^ tz (fU b).natAbs, fE b + tz (fU b).natAbs)

set_option maxRecDepth 100000 in
set_option maxHeartbeats 1600000 in
theorem parts_bad (b : Int) (w : World) (h0 : 0 ≤ b) (h1 : b < B64) (hx : fX b = 2047) :
    Calls Tryd.prog 40 #[.int .u64 b] w fun ev w' => ev = .returned (.tuple #[.bool false, .int .u64 0, .int .i64 0, .iface 74 (.int .i64 1)]) ∧ w = w' := by
  have a1 := and2047 h0 h1
  have a2 := and52 h0 h1
  rw [hx] at a1
  go_enter Tryd.func40, Tryd.ntmps40
  go_wp2_with fail
  exact bodyPost_ret (v := .tuple #[.bool false, .int .u64 0, .int .i64 0, .iface 74 (.int .i64 1)]) (by simp [results, Tryd.results40, go_sem]) rfl ⟨rfl, rfl⟩

theorem ret_parts {s s' : Bool} {m m' e e' : Int} (h1 : s = s') (h2 : m = m') (h3 : e = e') : Ending.returned (.tuple #[.bool s, .int .u64 m, .int .i64 e, .nilIface]) = Ending.returned (.tuple #[.bool s', .int .u64 m', .int .i64 e', .nilIface]) := by rw [h1, h2, h3]
theorem neg63 {b : Int} (h0 : 0 ≤ b) (h1 : b < B64) : (b / 9223372036854775808 == 1) = fN b := by
  unfold B64 at h1
  unfold fN
  rw [Bool.eq_iff_iff, beq_iff_eq, decide_eq_true_iff]
  omega

set_option maxRecDepth 100000 in
set_option maxHeartbeats 1600000 in
theorem parts_fin (b : Int) (w : World) (h0 : 0 ≤ b) (h1 : b < B64) (hx : fX b ≠ 2047) (ht : TabOk w) :
    Calls Tryd.prog 40 #[.int .u64 b] w fun ev w' => ev = .returned (.tuple #[.bool (fOut b).1, .int .u64 (fOut b).2.1, .int .i64 (fOut b).2.2, .nilIface]) ∧ Below w.heap.size w w' := by
  have a1 := and2047 h0 h1
  have a2 := and52 h0 h1
  have a3 := or52 b
  have a4 := neg63 h0 h1
  have bx := fX_bd b
  have bf := fF_bd b
  by_cases hz : fX b = 0
  · have hU : fU b = fF b := if_pos hz
    have hE : fE b = -1074 := by unfold fE; rw [if_pos hz]; omega
    rw [hz] at a1
    by_cases hf : fF b = 0
    · have HO := Lib.hid (show fOut b = (false, 0, 0) from if_pos (by rw [hU]; exact hf))
      rw [hf] at a2
      clear a3 a4 hU hE bx bf hx hz hf
      go_enter Tryd.func40, Tryd.ntmps40
      go_wp2_with fail
      exact bodyPost_ret (v := .tuple #[.bool false, .int .u64 0, .int .i64 0, .nilIface]) (by simp [results, Tryd.results40, go_sem]) rfl ⟨by rw [HO.out], Below.refl _ _⟩
    · have HO := Lib.hid (show fOut b = (fN b, fF b / 2 ^ tz (fF b).natAbs, (-1074 : Int) + ((tz (fF b).natAbs : Nat) : Int)) by unfold fOut; rw [hU, if_neg hf, hE])
      have t1 := fun w ht => tz64_any (fF b) w (by omega) (by omega) ht
      have hT := (tz_bits (x := fF b) (by omega) (by omega)).2
      have hne : (fF b == 0) = false := by simpa using hf
      generalize tz (fF b).natAbs = N at *
      have hs := fun yk w => shr_run (P := Tryd.prog) (fF b) N hT yk w
      have hw1 : IntKind.i64.wrap (-1074 + (N : Int)) = -1074 + (N : Int) := wrap_i64_in (by omega) (by omega)
      generalize fF b = f at *
      generalize fN b = sg at *
      clear a3 hU hE bx hx hz hf
      go_enter Tryd.func40, Tryd.ntmps40
      go_wp2_with fail
      refine (t1 w ht).mono ?_
      rintro ev w' ⟨rfl, rfl⟩
      go_wp2_with fail
      go_region
      all_goals
        go_wp2_with fail
        exact bodyPost_ret (v := .tuple #[.bool sg, .int .u64 (f / 2 ^ N), .int .i64 (-1074 + (N : Int)), .nilIface]) (by simp [results, Tryd.results40, go_sem]) rfl ⟨by rw [HO.out], dr_ _⟩
  · have hU : fU b = fF b + 4503599627370496 := if_neg hz
    have hE : fE b = fX b - 1 - 1074 := by unfold fE; rw [if_neg hz]
    have HO := Lib.hid (show fOut b = (fN b, (fF b + 4503599627370496) / 2 ^ tz (fF b + 4503599627370496).natAbs, fX b - 1 - 1074 + tz (fF b + 4503599627370496).natAbs) by unfold fOut; rw [hU, if_neg (by omega), hE])
    have t1 := fun w ht => tz64_any (fF b + 4503599627370496) w (by omega) (by omega) ht
    have hT := (tz_bits (x := fF b + 4503599627370496) (by omega) (by omega)).2
    have hne : (fF b + 4503599627370496 == 0) = false := by simp; omega
    have hx1 : (fX b == 2047) = false := by simpa using hx
    have hx2 : (fX b == 0) = false := by simpa using hz
    generalize tz (fF b + 4503599627370496).natAbs = N at *
    have hs := fun yk w => shr_run (P := Tryd.prog) (fF b + 4503599627370496) N hT yk w
    have hw1 : IntKind.i64.wrap (fX b - 1 - 1074 + (N : Int)) = fX b - 1 - 1074 + (N : Int) := wrap_i64_in (by omega) (by omega)
    generalize fF b + 4503599627370496 = f at *
    generalize fX b = x at *
    generalize fN b = sg at *
    clear hU hE hx hz
    go_enter Tryd.func40, Tryd.ntmps40
    go_wp2_with fail
    refine (t1 w ht).mono ?_
    rintro ev w' ⟨rfl, rfl⟩
    go_wp2_with fail
    go_region
    all_goals
      go_wp2_with fail
      exact bodyPost_ret (v := .tuple #[.bool sg, .int .u64 (f / 2 ^ N), .int .i64 (x - 1 - 1074 + (N : Int)), .nilIface]) (by simp [results, Tryd.results40, go_sem]) rfl ⟨by rw [HO.out], dr_ _⟩

theorem mk_float (b : Int) : mk (if (fOut b).1 then -(fOut b).2.1 else (fOut b).2.1) (fOut b).2.2 = mk (fM b) (fE b) := by
  unfold fOut fM
  by_cases h : fU b = 0
  · rw [if_pos h, h]
    simp only [Int.neg_zero, ite_self]
    rw [mk_zero, mk_zero]
  · rw [if_neg h]
    simp only
    have t := tz_twos h
    generalize fU b / 2 ^ tz (fU b).natAbs = o at *
    generalize tz (fU b).natAbs = n at *
    have e := mk_shift (if fN b = true then -o else o) (fE b + n) n
    rw [show fE b + (n : Int) - (n : Int) = fE b by omega] at e
    rw [← e]
    congr 1
    rw [t.eq]
    split <;> grind
theorem zi_one (s : Bool) (x : Int) : zi s [x] = if s then -x else x := by simp [zi, vl]
theorem fOut_bd (b : Int) : 0 ≤ (fOut b).2.1 ∧ (fOut b).2.1 < B64 ∧ -2000 ≤ (fOut b).2.2 ∧ (fOut b).2.2 ≤ 2000 := by
  have h1 := fU_bd b
  have h2 := fE_bd b
  unfold fOut
  by_cases h : fU b = 0
  · rw [if_pos h]; unfold B64; simp
  · rw [if_neg h]
    have hT := (tz_bits (x := fU b) (by omega) (by omega)).2
    simp only
    have p := two_pos (tz (fU b).natAbs)
    refine ⟨Int.ediv_nonneg h1.1 (Int.le_of_lt p), ?_, by omega, by omega⟩
    have := Int.ediv_le_self (2 ^ tz (fU b).natAbs) h1.1
    unfold B64; omega

set_option maxHeartbeats 1600000 in
theorem dofV (b : Int) {w : World} (h0 : 0 ≤ b) (h1 : b < B64) (hx : fX b ≠ 2047) (ht : TabOk w) :
    Calls Tryd.prog 10 #[.int .u64 b] w fun ev w' => ∃ u, ev = .returned u ∧ Res w' u (mk (fM b) (fE b)) ∧ Below w.heap.size w w' := by
  have hmk := mk_float b
  have bd := fOut_bd b
  have hp := fun w ht => parts_fin b w h0 h1 hx ht
  rw [← hmk]
  clear hmk hx
  generalize (fOut b).1 = s at *
  generalize (fOut b).2.1 = x at *
  generalize (fOut b).2.2 = e at *
  rw [← zi_one]
  go_enter Tryd.func10, Tryd.ntmps10
  go_wp2_with fail
  have rc := Row.new w 29 #[.bool false, .slice none 0 0, .int .i64 0]
  have hw := al_ w (.cells #[.bool false, .slice none 0 0, .int .i64 0] 29)
  generalize w.alloc (.cells #[.bool false, .slice none 0 0, .int .i64 0] 29) = W at *
  refine (hp _ (ht.below hw)).mono ?_
  rintro ev w1 ⟨rfl, b1⟩
  replace rc := rc.belowR b1
  replace hw := hw.trans (b1.mono hw.size)
  clear b1
  have rr := Row.new w1 22 (nums .u64 [x])
  have b2 := al_ w1 (.cells (nums .u64 [x]) 22)
  have hr := rr.reads 1 rfl
  replace rc := rc.belowR b2
  replace hw := hw.trans (b2.mono hw.size)
  have hn : nums .u64 [x] = #[.int .u64 x] := rfl
  rw [hn] at hr rc hw
  clear hn b2 rr
  have hd : Dg B64 [x] := Dg.cons.2 ⟨⟨bd.1, bd.2.1⟩, Dg.nil (by decide)⟩
  have HD := Lib.hid hd
  clear hd
  go_wp2_with fail
  generalize w1.alloc (.cells #[.int .u64 x] 22) = W2 at *
  refine (made_any s _ 1 [x] 1 e W2 hr (by omega) (by omega) HD.out (by omega) (by omega) (ht.below hw)).mono ?_
  rintro ev w3 ⟨u, rfl, hres, b3⟩
  obtain ⟨t4, B4, n4, d4, e4, er, rfl⟩ := hres.shape
  replace rc := rc.belowR b3
  replace hw := hw.trans (b3.mono hw.size)
  have hc := box3_facts rc
  go_wp2_with fail
  exact bodyPost_ret (v := .tuple #[.agg #[.bool t4, .slice B4 n4 d4, .int .i64 e4], er]) (by simp [results, Tryd.results10, go_sem, hc]) rfl
    ⟨_, rfl, hres.set3 rc _ _ _ _ _, Below.sets3 hw (by omega) _ _ _⟩
end Go.Proofs.YtlgecdkidgjgiaaDoor
