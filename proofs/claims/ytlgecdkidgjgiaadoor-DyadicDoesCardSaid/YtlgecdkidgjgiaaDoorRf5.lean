/- The walks of the reference's floats, field by field. -/
import Derived.Test.YtlgecdkidgjgiaaDoorRfG
import Derived.Test.YtlgecdkidgjgiaaDoorFl
namespace Go.Proofs.YtlgecdkidgjgiaaDoor
open Go.RowKit

theorem ret_u64 {a b : Int} (h : a = b) : Ending.returned (.int .u64 a) = Ending.returned (.int .u64 b) := by rw [h]
theorem pow63 (k : Nat) (h : k ≤ 63) : (1 : Int) ≤ 2 ^ k ∧ (2 : Int) ^ k ≤ 9223372036854775808 := by
  have h1 := two_pos k
  have : (2 : Int) ^ k ≤ 2 ^ 63 := by exact_mod_cast Nat.pow_le_pow_right (by decide) h
  exact ⟨by omega, by simpa using this⟩

set_option maxHeartbeats 800000 in
theorem power_any (n : Nat) (w : World) (hn : n ≤ 63) : Calls Tryd.prog 68 #[.int .i64 n] w fun e w' => e = .returned (.int .u64 (2 ^ n)) ∧ w = w' := by
  go_enter Tryd.func68, Tryd.ntmps68
  go_wp2_with fail
  go_loop [3, 4] (fun p i => ∃ k : Nat, k ≤ n ∧ i = .int .i64 k ∧ p = .int .u64 (2 ^ k)) (fun _ i => n - (intOf i).toNat)
  case atStart => exact ⟨0, by omega, rfl, rfl⟩
  case round =>
    obtain ⟨k, hk, rfl, rfl⟩ := hrel
    by_cases hlt : k < n
    · have hp := pow63 k (by omega)
      have hpk : 2 * (2 : Int) ^ k = 2 ^ (k + 1) := by rw [Int.pow_succ]; omega
      have hp2 := pow63 (k + 1) (by omega)
      go_wp2_with fail
      go_round
      case rel => exact ⟨k + 1, by omega, by go_num, rfl⟩
      case measure => simp [intOf]; omega
    · have ek : k = n := by omega
      subst ek
      go_wp2_with fail
      go_ret
      exact ⟨rfl, rfl⟩
theorem p63 (w : World) : Calls Tryd.prog 68 #[.int .i64 63] w fun e w' => e = .returned (.int .u64 9223372036854775808) ∧ w = w' := power_any 63 w (Nat.le_refl _)
theorem p52 (w : World) : Calls Tryd.prog 68 #[.int .i64 52] w fun e w' => e = .returned (.int .u64 4503599627370496) ∧ w = w' := power_any 52 w (by decide)

set_option maxRecDepth 100000 in
set_option maxHeartbeats 1600000 in
theorem fields_any (b : Int) (w : World) (h0 : 0 ≤ b) (h1 : b < B64) :
    Calls Tryd.prog 39 #[.int .u64 b] w fun e w' => e = .returned (.tuple #[.bool (fN b), .int .i64 (fX b), .int .u64 (fF b)]) ∧ ∃ n, w' = w.drewN n := by
  have bx := fX_bd b
  have bf := fF_bd b
  have e1 : b / 4503599627370496 % 2048 = fX b := rfl
  have e2 : b % 4503599627370496 = fF b := rfl
  have e3 : decide (9223372036854775808 ≤ b) = fN b := rfl
  have hb1 : b < 18446744073709551616 := h1
  have e4 : IntKind.i64.wrap (fX b) = fX b := wrap_i64_in (by omega) (by omega)
  go_enter Tryd.func39, Tryd.ntmps39
  go_wp2_with fail
  go_quiet (first | (go_at_call_of 68 (Value.int IntKind.i64 63); exact Calls.quiet_of_same ((p63 _).mono fun _ _ ⟨h, h2⟩ => ⟨h, h2.symm⟩)) | (go_at_call_of 68 (Value.int IntKind.i64 52); exact Calls.quiet_of_same ((p52 _).mono fun _ _ ⟨h, h2⟩ => ⟨h, h2.symm⟩)))
  go_wp2_with fail
  go_ret3
  exact ⟨rfl, nq, rfl⟩

set_option maxHeartbeats 1600000 in
theorem rfinite_any (b : Int) (w : World) (h0 : 0 ≤ b) (h1 : b < B64) :
    Calls Tryd.prog 9 #[.int .u64 b] w fun e w' => e = .returned (.bool (fX b != 2047)) ∧ Below w.heap.size w w' := by
  go_enter Tryd.func9, Tryd.ntmps9
  go_wp2_with fail
  refine (fields_any b w h0 h1).mono ?_
  rintro e w1 ⟨rfl, n, hn⟩
  have hb : Below w.heap.size w w1 := by rw [hn]; exact below_drewN _ _ _
  clear hn
  go_wp2_with fail
  go_ret
  exact ⟨rfl, hb⟩

theorem half_bd {z U : Int} {N : Nat} (hz : 0 < z) (h : z * 2 ^ N = U) (hU : U < 9223372036854775808) : N < 64 := by
  apply Nat.lt_of_not_le
  intro hle
  have : (2 : Int) ^ 64 ≤ 2 ^ N := by exact_mod_cast Nat.pow_le_pow_right (by decide) hle
  have h2 : 1 * 2 ^ N ≤ z * 2 ^ N := Int.mul_le_mul_of_nonneg_right (by omega) (Int.le_of_lt (two_pos N))
  omega
theorem fOut_zero {b : Int} (h : fU b = 0) : fOut b = (false, 0, 0) := if_pos h
theorem fOut_of {b o : Int} {N : Nat} (h : Twos (fU b) N o) : fOut b = (fN b, o, fE b + (N : Int)) := by
  obtain ⟨e1, e2⟩ := h.uniq (tz_twos h.ne)
  unfold fOut
  rw [if_neg h.ne, ← e2, ← e1]

set_option maxRecDepth 100000 in
set_option maxHeartbeats 3200000 in
theorem rparts_any (b : Int) (w : World) (h0 : 0 ≤ b) (h1 : b < B64) :
    Calls Tryd.prog 46 #[.int .u64 b] w fun ev w' => ev = .returned (.tuple #[.bool (fOut b).1, .int .u64 (fOut b).2.1, .int .i64 (fOut b).2.2]) ∧ Below w.heap.size w w' := by
  have bx := fX_bd b
  have bf := fF_bd b
  have bu := fU_bd b
  have be := fE_bd b
  have hfl := fun w => fields_any b w h0 h1
  -- the loop, from the number and the power on
  by_cases hz : fX b = 0
  · have hU : fU b = fF b := if_pos hz
    have hE : fE b = -1074 := by unfold fE; rw [if_pos hz]; omega
    rw [hz] at hfl
    by_cases hf : fF b = 0
    · have HO := Lib.hid (fOut_zero (hU.trans hf))
      rw [hf] at hfl
      clear bx bf bu be hU hE hz hf
      go_enter Tryd.func46, Tryd.ntmps46
      go_wp2_with fail
      refine (hfl w).mono ?_
      rintro e w1 ⟨rfl, n, hn⟩
      have hb : Below w.heap.size w w1 := by rw [hn]; exact below_drewN _ _ _
      clear hn hfl
      go_wp2_with fail
      go_ret3
      exact ⟨by rw [HO.out]; rfl, hb⟩
    · have ho : ∀ (N : Nat) (o : Int), Twos (fU b) N o → fOut b = (fN b, o, fE b + (N : Int)) := fun N o h => fOut_of h
      rw [hU] at ho bu
      rw [hE] at ho
      have HO := Lib.hid ho
      clear ho
      have hne : (fF b == 0) = false := by simpa using hf
      generalize fF b = U at *
      generalize fN b = sg at *
      clear hU hE hz be
      go_enter Tryd.func46, Tryd.ntmps46
      go_wp2_with fail
      refine (hfl w).mono ?_
      rintro e w1 ⟨rfl, n, hn⟩
      have hb : Below w.heap.size w w1 := by rw [hn]; exact below_drewN _ _ _
      clear hn hfl
      go_wp2_with fail
      go_loop [6, 7] (fun ev mv => ∃ (z : Int) (N : Nat), ev = .int .i64 ((-1074) + (N : Int)) ∧ mv = .int .u64 z ∧ 0 < z ∧ z < 9007199254740992 ∧ Hid (z * 2 ^ N = U)) (fun _ mv => (intOf mv).toNat)
      case atStart => exact ⟨U, 0, by simp, rfl, by omega, by omega, by show U * 2 ^ 0 = U; simp⟩
      case round =>
        obtain ⟨z, N, rfl, rfl, hz0, hz1, hz⟩ := hrel
        have hN : N < 64 := half_bd hz0 hz.out (by omega)
        by_cases h2 : z % 2 = 0
        · have hz2 : Hid (z / 2 * 2 ^ (N + 1) = U) := by
            show z / 2 * 2 ^ (N + 1) = U
            rw [Int.pow_succ, Int.mul_comm (2 ^ N), ← Int.mul_assoc, show z / 2 * 2 = z by omega]; exact hz.out
          go_wp2_with fail
          go_round
          case rel => exact ⟨z / 2, N + 1, by go_num, rfl, by omega, by omega, hz2⟩
          case measure => simp [intOf]; omega
        · have HT := Lib.hid (HO.out N z ⟨hz.out.symm, by omega⟩)
          have h3 : (z % 2 == 0) = false := by simpa using h2
          clear h2
          go_wp2_with fail
          go_ret3
          exact ⟨by rw [HT.out]; rfl, hb⟩
  · have hU : fU b = fF b + 4503599627370496 := if_neg hz
    have hE : fE b = fX b - 1075 := by unfold fE; rw [if_neg hz]; omega
    have ho : ∀ (N : Nat) (o : Int), Twos (fU b) N o → fOut b = (fN b, o, fE b + (N : Int)) := fun N o h => fOut_of h
    rw [hU] at ho bu
    rw [hE] at ho
    have HO := Lib.hid ho
    clear ho
    have hne : (fX b == 0) = false := by simpa using hz
    have hne2 : (fF b + 4503599627370496 == 0) = false := by simp; omega
    generalize fF b = F at *
    generalize fN b = sg at *
    generalize fX b = X at *
    clear hU hE hz be
    go_enter Tryd.func46, Tryd.ntmps46
    go_wp2_with fail
    refine (hfl w).mono ?_
    rintro e w1 ⟨rfl, n, hn⟩
    have hb : Below w.heap.size w w1 := by rw [hn]; exact below_drewN _ _ _
    clear hn hfl
    go_wp2_with fail
    refine (p52 w1).mono ?_
    rintro e w2 ⟨rfl, rfl⟩
    go_wp2_with fail
    have hU0 : 0 < F + 4503599627370496 := by omega
    generalize F + 4503599627370496 = U at *
    go_loop [6, 7] (fun ev mv => ∃ (z : Int) (N : Nat), ev = .int .i64 ((X - 1075) + (N : Int)) ∧ mv = .int .u64 z ∧ 0 < z ∧ z < 9007199254740992 ∧ Hid (z * 2 ^ N = U)) (fun _ mv => (intOf mv).toNat)
    case atStart => exact ⟨U, 0, by simp, rfl, by omega, by omega, by show U * 2 ^ 0 = U; simp⟩
    case round =>
      obtain ⟨z, N, rfl, rfl, hz0, hz1, hz⟩ := hrel
      have hN : N < 64 := half_bd hz0 hz.out (by omega)
      by_cases h2 : z % 2 = 0
      · have hz2 : Hid (z / 2 * 2 ^ (N + 1) = U) := by
          show z / 2 * 2 ^ (N + 1) = U
          rw [Int.pow_succ, Int.mul_comm (2 ^ N), ← Int.mul_assoc, show z / 2 * 2 = z by omega]; exact hz.out
        go_wp2_with fail
        go_round
        case rel => exact ⟨z / 2, N + 1, by go_num, rfl, by omega, by omega, hz2⟩
        case measure => simp [intOf]; omega
      · have HT := Lib.hid (HO.out N z ⟨hz.out.symm, by omega⟩)
        have h3 : (z % 2 == 0) = false := by simpa using h2
        clear h2
        go_wp2_with fail
        go_ret3
        exact ⟨by rw [HT.out]; rfl, hb⟩

set_option exponentiation.threshold 3000 in
theorem num_val (b : Int) : 0 ≤ (fOut b).2.2 + 1074 ∧ 2 ^ ((fOut b).2.2 + 1074).toNat * (fOut b).2.1 = 2 ^ (fE b + 1074).toNat * fU b := by
  have be := fE_bd b
  by_cases h : fU b = 0
  · rw [fOut_zero h, h]; simp
  · have t := tz_twos h
    rw [fOut_of t]
    simp only
    generalize fU b / 2 ^ tz (fU b).natAbs = o at *
    generalize tz (fU b).natAbs = n at *
    refine ⟨by omega, ?_⟩
    rw [show (fE b + (n : Int) + 1074).toNat = (fE b + 1074).toNat + n by omega, Int.pow_add, t.eq, Int.mul_assoc, Int.mul_comm (2 ^ n)]
theorem fOut_sign (b : Int) : (if (fOut b).1 then -(2 ^ ((fOut b).2.2 + 1074).toNat * (fOut b).2.1) else 2 ^ ((fOut b).2.2 + 1074).toNat * (fOut b).2.1) = 2 ^ (fE b + 1074).toNat * fM b := by
  rw [(num_val b).2]
  by_cases h : fU b = 0
  · rw [fOut_zero h]; unfold fM; rw [h]; simp
  · rw [fOut_of (tz_twos h)]
    unfold fM
    simp only
    generalize fU b = u
    generalize (2 : Int) ^ (fE b + 1074).toNat = p
    cases fN b
    · simp
    · simp [Int.mul_neg]

set_option maxHeartbeats 1600000 in
theorem numV (b : Int) {w : World} (h0 : 0 ≤ b) (h1 : b < B64) :
    Calls Tryd.prog 14 #[.int .u64 b] w fun ev w' => ∃ u, ev = .returned u ∧ DV w' u (2 ^ (fE b + 1074).toNat * fM b) ∧ Below w.heap.size w w' := by
  have hs := fOut_sign b
  have bd := fOut_bd b
  have hv := (num_val b).1
  have hp := fun w => rparts_any b w h0 h1
  rw [← hs]
  clear hs
  generalize (fOut b).1 = s at *
  generalize (fOut b).2.1 = x at *
  generalize (fOut b).2.2 = e at *
  obtain ⟨N, hN, hNb⟩ : ∃ N : Nat, e + 1074 = (N : Int) ∧ N ≤ 4000 := ⟨(e + 1074).toNat, by omega, by omega⟩
  have hNN : (e + 1074).toNat = N := by omega
  rw [hNN]
  clear hNN
  generalize hZ : (if s = true then -(2 ^ N * x) else 2 ^ N * x) = Z
  have HZ := Lib.hid hZ
  clear hZ
  have rc := Row.new w 37 #[.bool false, .slice none 0 0]
  have hw := al_ w (.cells #[.bool false, .slice none 0 0] 37)
  go_enter Tryd.func14, Tryd.ntmps14
  go_wp2_with fail
  generalize w.alloc (.cells #[.bool false, .slice none 0 0] 37) = W at *
  refine (hp W).mono ?_
  rintro ev w1 ⟨rfl, b1⟩
  replace rc := rc.belowR b1
  replace hw := hw.trans (b1.mono hw.size)
  clear b1 hp
  go_wp2_with fail
  refine (from2D bd.1 bd.2.1).mono ?_
  rintro ev w2 ⟨u, rfl, hu, b2⟩
  obtain ⟨t2, B2, n2, d2, rfl⟩ := hu.shape
  replace rc := rc.belowR b2
  replace hw := hw.trans (b2.mono hw.size)
  clear b2
  go_wp2_with fail
  refine (rshlD N hu (sz_small (by unfold B64 at bd; omega)) (by omega) (by omega)).mono ?_
  rintro ev w3 ⟨u3, rfl, hu3, b3⟩
  obtain ⟨t3, B3, n3, d3, rfl, zs, hl, hd, hr, hc⟩ := hu3.sz
  have hnn : 0 ≤ 2 ^ N * x := Int.mul_nonneg (Int.le_of_lt (two_pos N)) bd.1
  have hval : zd s zs = Z := by
    rw [← HZ.out]
    have e1 := hc.can.val
    unfold zd
    rw [e1]
    have : ((2 ^ N * x).natAbs : Int) = 2 ^ N * x := by omega
    rw [this]
  have hsz : n3 ≤ 16777216 := by
    have s1 : Sz (2 ^ N * x) (1 + 100) := (sz_small (z := x) (by unfold B64 at bd; omega)).shl (by omega)
    have := hc.len (Sd.of_sz s1 (Nat.le_refl _))
    omega
  have HV := Lib.hid hval
  have HD := Lib.hid hc.can.dg
  have b4 := al_ w3 (.cells #[.bool t3, .slice B3 n3 d3] 37)
  replace rc := (rc.belowR b3).belowR b4
  replace hw := (hw.trans (b3.mono hw.size)).trans (b4.mono (Nat.le_trans hw.size b3.size))
  replace hr := hr.below b4
  clear hval hc hu hu3 b3 b4 hnn bd hN
  go_wp2_with fail
  generalize w3.alloc (.cells #[.bool t3, .slice B3 n3 d3] 37) = w4 at *
  refine (newD s hr hd hsz HD.out).mono ?_
  rintro ev w5 ⟨u5, rfl, hu5, b5⟩
  obtain ⟨t5, B5, n5, d5, rfl⟩ := hu5.shape
  rw [HV.out] at hu5
  replace rc := rc.belowR b5
  replace hw := hw.trans (b5.mono hw.size)
  have hcc := box_facts rc
  have hu6 := hu5.sets rc (.bool t5) (.slice B5 n5 d5)
  have rc1 := box_set rc (.bool t5) (.slice B5 n5 d5)
  have hw1 := Below.sets hw (g := w.heap.size) (by omega) (.bool t5) (.slice B5 n5 d5)
  have f1 := box_facts rc1
  clear b5 hu5
  go_wp2_with fail
  exact bodyPost_ret (v := .agg #[.bool t5, .slice B5 n5 d5]) (by simp [results, Tryd.results14, go_sem, f1]) rfl ⟨_, rfl, hu6, hw1⟩
end Go.Proofs.YtlgecdkidgjgiaaDoor
