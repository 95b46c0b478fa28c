/- The walks of the reference's functions that take limbs apart into digits, and put digits together to limbs. -/
import Derived.Test.YtlgecdkidgjgiaaDoorRefB
namespace Go.Proofs.YtlgecdkidgjgiaaDoor
open Go.RowKit

theorem Tryd.info_u64' : (Tryd.prog.info? 22).map (fun i => (i.zero, i.size, i.bytes)) = some (some (.int .u64 0), 1, 8) := by kernel_rfl
theorem B64_pow : B64 = 65536 ^ 4 := by decide

set_option maxHeartbeats 1600000 in
theorem digits_any (A : Option Addr) (n : Nat) (xs : List Int) (c : Nat) (w : World) (hr : RdS w .u64 A n xs) (hsm : n ≤ 1048576) (hx : Dg B64 xs) :
    Calls Tryd.prog 62 #[.slice A n c] w fun e w' => ∃ (zs : List Int) (B : Option Addr) (d : Nat),
      e = .returned (.slice B zs.length d) ∧ zs.length ≤ d ∧ RdS w' .u32 B zs.length zs ∧ Can 65536 zs (vl B64 xs) ∧ Below w.heap.size w w' := by
  have hlen := hr.len
  have HLN := Lib.hid hlen
  clear hlen
  go_enter Tryd.func62, Tryd.ntmps62
  go_wp2_with fail
  go_loopw [3, 4] (fun v i wr => ∃ (k : Nat) (zs : List Int), k ≤ n ∧ i = .int .i64 k ∧ Hid (zs.length = 4 * k ∧ Dg 65536 zs ∧ vl 65536 zs = vl B64 (xs.take k)) ∧ Own wr w.heap.size 80 .u32 v zs ∧ Below w.heap.size w wr) (fun _ i _ => n - (intOf i).toNat)
  case atStart => exact ⟨0, [], by omega, rfl, ⟨rfl, Dg.nil (by decide), rfl⟩, Own.nil _ _ _ _, Below.refl _ _⟩
  case round =>
    obtain ⟨i, zs, hi, rfl, hz, hown, hbel⟩ := hrel
    by_cases hlt : i < n
    · obtain ⟨b, o, rfl, hcell⟩ := (hr.below hbel).cell (by omega)
      replace hcell := hcell i hlt
      have hst := Lib.hid (Apart.start B64_pow hz.out.1 hz.out.2.1 hz.out.2.2 hx)
      clear hz
      go_wp2_with fail
      go_loopw [3, 5, 6] (fun v x k wr => ∃ (j : Nat) (zs : List Int) (y : Int), j ≤ 4 ∧ k = .int .i64 j ∧ x = .int .u64 y ∧ Hid (Apart B64 xs i j zs y) ∧ Own wr w.heap.size 80 .u32 v zs ∧ Below w.heap.size w wr) (fun _ _ k _ => 4 - (intOf k).toNat)
      case atStart => exact ⟨0, zs, _, by omega, rfl, rfl, hst, hown, hbel⟩
      case round =>
        clear hst hown hbel hcell zs
        obtain ⟨j, zs, y, hj, rfl, rfl, hap, hown, hbel⟩ := hrel
        by_cases hlt2 : j < 4
        · have hnext := Lib.hid (hap.out.step hlt2)
          have hyb := hap.out.xb
          have hy0 : 0 ≤ y := hyb.1
          have hy1 : y < B64 := by
            rw [B64_pow]
            refine Int.lt_of_lt_of_le hyb.2 ?_
            have e : (65536 : Int) ^ 4 = 65536 ^ (4 - j) * 65536 ^ j := by rw [← Int.pow_add]; congr 1; omega
            rw [e]
            have p1 := bpow_pos (show (0 : Int) < 65536 by decide) (4 - j)
            have p2 := bpow_pos (show (0 : Int) < 65536 by decide) j
            have := Int.mul_le_mul_of_nonneg_left (show (1 : Int) ≤ 65536 ^ j by omega) (Int.le_of_lt p1)
            omega
          have e2 := quo_u64 hy0 hy1 65536 (by decide)
          have hl := hap.out.len
          obtain ⟨d, hd⟩ : ∃ d, d = y % 65536 := ⟨_, rfl⟩
          rw [← hd] at hnext
          have e1 := hd.symm
          have hd0 : 0 ≤ d := by omega
          have hd1 : d ≤ 65535 := by omega
          have hsz : w.heap.size ≤ wr.heap.size := hbel.size
          have hl4 : (zs.length + 1) * 4 ≤ 140737488355328 := by omega
          clear hd hyb hl hap hy1
          go_wp2_with (at_builtin; refine append_num w.heap.size rfl (.tmp 21) (.tmp 25) 35 80 .u32 4 rfl Tryd.underlying35 Tryd.info_u32 (by decide) _ zs d rfl rfl hown hbel hsz hl4 ?_; intro v1 w1 hown1 hbel1)
          go_roundw
          case rel => exact ⟨j + 1, zs ++ [d], y / 65536, by omega, by go_num, rfl, hnext, hown1, hbel1⟩
          case measure => simp [intOf]; omega
        · have ej : j = 4 := by omega
          subst ej
          have hdn := Lib.hid hap.out.done
          clear hap
          go_wp2_with fail
          go_roundw
          case rel => exact ⟨i + 1, zs, by omega, by go_num, hdn, hown, hbel⟩
          case measure => simp [intOf]; omega
    · have ei : i = n := by omega
      subst ei
      obtain ⟨h1, h2, h3⟩ := hz.out
      rw [List.take_of_length_le (by rw [HLN.out]; omega)] at h3
      have kz := pl_can h2
      rw [h3] at kz
      have KZ := Lib.hid kz
      obtain ⟨B, d, hv, hd, hrd⟩ := hown.rds
      subst hv
      have hl : zs.length ≤ 16777216 := by omega
      clear hown h1 h2 h3 hz kz
      go_wp2_with fail
      refine (rtrim_any B zs.length zs d _ hrd hd hl).mono ?_
      rintro e w' ⟨rfl, rfl⟩
      go_wp2_with fail
      go_ret
      exact ⟨_, B, d, rfl, pl_cap rfl hd, hrd.plain, KZ.out, hbel⟩

set_option maxHeartbeats 1600000 in
theorem limbs_any (A : Option Addr) (n : Nat) (xs : List Int) (c : Nat) (w : World) (hr : RdS w .u32 A n xs) (hc : n ≤ c) (hsm : n ≤ 1048576) (hx : Dg 65536 xs) :
    Calls Tryd.prog 61 #[.slice A n c] w fun e w' => ∃ (zs : List Int) (B : Option Addr) (d : Nat),
      e = .returned (.slice B zs.length d) ∧ zs.length ≤ d ∧ RdS w' .u64 B zs.length zs ∧ Can B64 zs (vl 65536 xs) ∧ Below w.heap.size w w' := by
  have r1 := hr.plain
  have k1 := pl_can hx
  have l1 := pl_le xs
  rw [hr.len] at l1
  have p1 := fun w => rtrim_any A n xs c w
  have hxs := k1.dg
  generalize pl xs = us at *
  obtain ⟨p, hp⟩ : ∃ p, p = us.length := ⟨_, rfl⟩
  rw [← hp] at r1 l1 p1
  have HP := Lib.hid hp
  have K1 := Lib.hid k1
  clear hp k1
  go_enter Tryd.func61, Tryd.ntmps61
  go_wp2_with fail
  refine (p1 w hr hc (by omega)).mono ?_
  rintro e w' ⟨rfl, rfl⟩
  go_wp2_with fail
  go_loopw [3, 4] (fun v i wr => ∃ (m : Nat) (zs : List Int), 4 * m ≤ p + 3 ∧ i = .int .i64 ((4 * m : Nat) : Int) ∧ Hid (Put B64 us m zs) ∧ Own wr w.heap.size 22 .u64 v zs ∧ Below w.heap.size w wr) (fun _ i _ => (p + 4) - (intOf i).toNat)
  case atStart => exact ⟨0, [], by omega, rfl, ⟨rfl, Dg.nil (by decide), rfl⟩, Own.nil _ _ _ _, Below.refl _ _⟩
  case round =>
    obtain ⟨m, zs, hm, rfl, hz, hown, hbel⟩ := hrel
    by_cases hlt : 4 * m < p
    · have q1 := r1.below hbel
      go_wp2_with fail
      go_loop [5, 6] (fun x k => ∃ (j : Nat), j ≤ 4 ∧ k = .int .i64 ((j : Int) - 1) ∧ x = .int .u64 (vl 65536 ((us.drop (4 * m + j)).take (4 - j)))) (fun _ k => (intOf k + 1).toNat)
      case atStart => exact ⟨4, by omega, rfl, rfl⟩
      case round =>
        obtain ⟨j, hj, rfl, rfl⟩ := hrel
        cases j with
        | zero =>
          have hbd := take_bd hxs (4 * m) 4
          rw [← B64_pow] at hbd
          have hnext := Lib.hid (hz.out.step B64_pow hxs (by have := HP.out; omega))
          have hl := hz.out.len
          have hsz : w.heap.size ≤ wr.heap.size := hbel.size
          have hl4 : (zs.length + 1) * 8 ≤ 140737488355328 := by omega
          rw [Nat.add_zero, Nat.sub_zero]
          obtain ⟨y, hy⟩ : ∃ y, y = vl 65536 ((us.drop (4 * m)).take 4) := ⟨_, rfl⟩
          rw [← hy] at hnext ⊢
          clear hy hbd hz
          go_wp2_with (at_builtin; refine append_num w.heap.size rfl (.tmp 36) (.tmp 38) 25 22 .u64 8 rfl Tryd.underlying25 Tryd.info_u64' (by decide) _ zs y rfl rfl hown hbel hsz hl4 ?_; intro v1 w1 hown1 hbel1)
          go_roundw
          case rel => exact ⟨m + 1, zs ++ [y], by omega, by go_num, hnext, hown1, hbel1⟩
          case measure => simp [intOf]; omega
        | succ j =>
          have hbd := take_bd hxs (4 * m + (j + 1)) (4 - (j + 1))
          have hdc := drop_cons us (4 * m + j) (4 - (j + 1)) 65536
          rw [show 4 - (j + 1) + 1 = 4 - j from by omega, show 4 * m + j + 1 = 4 * m + (j + 1) from by omega] at hdc
          obtain ⟨X, hX⟩ : ∃ X, X = vl 65536 ((us.drop (4 * m + (j + 1))).take (4 - (j + 1))) := ⟨_, rfl⟩
          rw [← hX] at hbd hdc ⊢
          have hX3 : X < 65536 ^ 3 := by
            refine Int.lt_of_lt_of_le hbd.2 ?_
            have e : (65536 : Int) ^ 3 = 65536 ^ (4 - (j + 1)) * 65536 ^ j := by rw [← Int.pow_add]; congr 1; omega
            rw [e]
            have p1 := bpow_pos (show (0 : Int) < 65536 by decide) (4 - (j + 1))
            have p2 := bpow_pos (show (0 : Int) < 65536 by decide) j
            have := Int.mul_le_mul_of_nonneg_left (show (1 : Int) ≤ 65536 ^ j by omega) (Int.le_of_lt p1)
            omega
          have hd := hxs (4 * m + j)
          have e1 : IntKind.u64.wrap (X * 65536) = X * 65536 := wrap_in (by omega) (by unfold B64; omega)
          have e2 : IntKind.u64.wrap (X * 65536 + us[4 * m + j]?.getD 0) = X * 65536 + us[4 * m + j]?.getD 0 := wrap_in (by omega) (by unfold B64; omega)
          have HD := Lib.hid hdc
          clear hX hbd hX3 hdc
          by_cases hin : 4 * m + j < p
          · obtain ⟨b, o, rfl, hcell⟩ := q1.cell (by omega)
            replace hcell := hcell (4 * m + j) hin
            go_wp2_with fail
            go_round
            case rel => exact ⟨j, by omega, by go_num, by rw [HD.out]; congr 1; omega⟩
            case measure => simp [intOf]
          · have h0 : us[4 * m + j]?.getD 0 = 0 := by rw [List.getElem?_eq_none (by have := HP.out; omega)]; rfl
            have HD0 := Lib.hid h0
            clear h0 e2 hd
            go_wp2_with fail
            go_round
            case rel => exact ⟨j, by omega, by go_num, by rw [HD.out, HD0.out]; congr 1; omega⟩
            case measure => simp [intOf]
    · obtain ⟨A1, c1, hv, hd, hrd⟩ := hown.rds
      subst hv
      have hfin := Lib.hid (hz.out.done B64_pow K1.out (by have := HP.out; omega) (by have := HP.out; omega))
      clear hz hown
      go_wp2_with fail
      go_ret
      exact ⟨zs, A1, c1, rfl, hd, hrd, hfin.out, hbel⟩
end Go.Proofs.YtlgecdkidgjgiaaDoor
