/- The walks of the reference's functions on digits of 16 bits: which is less, differences, whether limbs are the same. -/
import Derived.Test.YtlgecdkidgjgiaaDoorRefA
namespace Go.Proofs.YtlgecdkidgjgiaaDoor
open Go.RowKit

theorem sub_quo {x y b : Int} (hx : 0 ≤ x ∧ x < 65536) (hy : 0 ≤ y ∧ y < 65536) (hb : 0 ≤ b ∧ b ≤ 1) : 1 - (65536 + x - y - b) / 65536 = if x < y + b then 1 else 0 := by
  split <;> omega

set_option maxHeartbeats 1600000 in
theorem rsub_any (A A' : Option Addr) (n n' : Nat) (xs ys : List Int) (c c' : Nat) (w : World) (hr : RdS w .u32 A n xs) (hr' : RdS w .u32 A' n' ys)
    (hsm : n ≤ 1048576) (hsm' : n' ≤ n) (hx : Dg 65536 xs) (hy : Dg 65536 ys) (hle : vl 65536 ys ≤ vl 65536 xs) :
    Calls Tryd.prog 75 #[.slice A n c, .slice A' n' c'] w fun e w' => ∃ (zs : List Int) (B : Option Addr) (d : Nat),
      e = .returned (.slice B zs.length d) ∧ zs.length ≤ d ∧ RdS w' .u32 B zs.length zs ∧ Can 65536 zs (vl 65536 xs - vl 65536 ys) ∧ Below w.heap.size w w' := by
  have hbw := fun k => bw_bd 65536 xs ys k
  have hval := sub_val hx hy n (by rw [hr.len]; omega) (by rw [hr'.len]; omega) hle
  have HV := Lib.hid hval
  clear hval hle
  go_enter Tryd.func75, Tryd.ntmps75
  go_wp2_with fail
  go_loopw [5, 6, 7] (fun v cr i wr => ∃ k : Nat, k ≤ n ∧ i = .int .i64 k ∧ cr = .int .u32 (bw 65536 xs ys k) ∧ Own wr w.heap.size 80 .u32 v (rowOf (df 65536 xs ys) k) ∧ Below w.heap.size w wr) (fun _ _ i _ => n - (intOf i).toNat)
  case atStart => exact ⟨0, by omega, rfl, rfl, Own.nil _ _ _ _, Below.refl _ _⟩
  case round =>
    obtain ⟨k, hk, rfl, rfl, hown, hbel⟩ := hrel
    have hc2 := hbw k
    have ha := hx k
    have hb := hy k
    have q1 := hr.below hbel
    have q2 := hr'.below hbel
    have hlen := rowOf_length (df 65536 xs ys) k
    by_cases hlt : k < n
    · have hnext := rowOf_succ (df 65536 xs ys) k
      obtain ⟨d, hd⟩ : ∃ d, d = df 65536 xs ys k := ⟨_, rfl⟩
      have hd' : d = (65536 + xs[k]?.getD 0 - ys[k]?.getD 0 - bw 65536 xs ys k) % 65536 := by rw [hd]; unfold df; congr 1; omega
      rw [← hd] at hnext
      have HN := Lib.hid hnext
      have e1 := hd'.symm
      have e2 := sub_quo ha hb hc2
      rw [← bw_succ] at e2
      have E2 := Lib.hid e2
      clear hd hd' hnext e2
      obtain ⟨b, o, rfl, hcell⟩ := q1.cell (by omega)
      replace hcell := hcell k hlt
      have hsz : w.heap.size ≤ wr.heap.size := hbel.size
      have hl4 : ((rowOf (df 65536 xs ys) k).length + 1) * 4 ≤ 140737488355328 := by omega
      go_wp2_with fail
      go_quiet ((go_at_call 77; exact Calls.quiet_of_same ((rdigit_any A' n' ys c' k _ (q2.drewN _) (by omega)).mono fun _ _ ⟨h, h2⟩ => ⟨h, h2.symm⟩)))
      have hown2 := hown.below (below_drewN wr wr.heap.size nq)
      have hbel2 := hbel.trans (below_drewN wr w.heap.size nq)
      go_wp2_with (at_builtin; refine append_num w.heap.size rfl (.tmp 26) (.tmp 29) 35 80 .u32 4 rfl Tryd.underlying35 Tryd.info_u32 (by decide) _ (rowOf (df 65536 xs ys) k) d rfl rfl hown2 hbel2 hsz hl4 ?_; intro v1 w1 hown1 hbel1)
      rw [← HN.out] at hown1
      go_roundw
      case rel => exact ⟨k + 1, by omega, by go_num, by rw [← E2.out], hown1, hbel1⟩
      case measure => simp [intOf]; omega
    · have ek : k = n := by omega
      subst ek
      obtain ⟨B, d, hv, hd, hrd⟩ := hown.rds
      rw [hlen] at hv hd hrd
      subst hv
      clear hown
      go_wp2_with fail
      refine (rtrim_any B k _ d _ hrd hd (by omega)).mono ?_
      rintro e w' ⟨rfl, rfl⟩
      go_wp2_with fail
      go_ret
      have kz := pl_can HV.out.1
      rw [HV.out.2] at kz
      exact ⟨_, B, d, rfl, pl_cap hlen hd, hrd.plain, kz, hbel⟩

set_option maxHeartbeats 1600000 in
theorem rcmp_any (A A' : Option Addr) (n n' : Nat) (xs ys : List Int) (c c' : Nat) (w : World) (hr : RdS w .u32 A n xs) (hr' : RdS w .u32 A' n' ys) (hc : n ≤ c) (hc' : n' ≤ c')
    (hsm : n ≤ 1048576) (hsm' : n' ≤ 1048576) (hx : Dg 65536 xs) (hy : Dg 65536 ys) :
    Calls Tryd.prog 74 #[.slice A n c, .slice A' n' c'] w fun e w' => e = .returned (.int .i64 (sg (vl 65536 xs) (vl 65536 ys))) ∧ ∃ n, w' = w.drewN n := by
  have r1 := hr.plain
  have r2 := hr'.plain
  have k1 := pl_can hx
  have k2 := pl_can hy
  have l1 := pl_le xs
  have l2 := pl_le ys
  rw [hr.len] at l1
  rw [hr'.len] at l2
  have p1 := fun w => rtrim_any A n xs c w
  have p2 := fun w => rtrim_any A' n' ys c' w
  generalize pl xs = us at *
  generalize pl ys = vs at *
  generalize vl 65536 xs = X at *
  generalize vl 65536 ys = Y at *
  obtain ⟨p, hp⟩ : ∃ p, p = us.length := ⟨_, rfl⟩
  obtain ⟨q, hq⟩ : ∃ q, q = vs.length := ⟨_, rfl⟩
  have hlt : p < q → sg X Y = -1 := fun h => by
    have := k1.lt_of_len k2 (by omega)
    unfold sg; rw [if_pos this]
  have hgt : q < p → sg X Y = 1 := fun h => by
    have := k2.lt_of_len k1 (by omega)
    unfold sg; rw [if_neg (by omega), if_pos this]
  have HK := Lib.hid (And.intro k1 k2)
  clear k1 k2
  rw [← hp] at r1 l1 p1
  rw [← hq] at r2 l2 p2
  have HP := Lib.hid hp
  have HQ := Lib.hid hq
  clear hp hq
  have HLT := Lib.hid hlt
  have HGT := Lib.hid hgt
  clear hlt hgt
  go_enter Tryd.func74, Tryd.ntmps74
  go_wp2_with fail
  refine (p1 w hr hc (by omega)).mono ?_
  rintro e w' ⟨rfl, rfl⟩
  go_wp2_with fail
  refine (p2 w hr' hc' (by omega)).mono ?_
  rintro e w' ⟨rfl, rfl⟩
  clear p1 p2 hr hr'
  rcases Nat.lt_trichotomy p q with h | h | h
  · have hn : ¬ p = q := by omega
    go_wp2_with fail
    go_ret
    exact ⟨ret_i64 (HLT.out h).symm, 0, rfl⟩
  · subst h
    clear HLT HGT
    go_wp2_with fail
    go_loopw [5] (fun i wr => ∃ j d : Nat, j ≤ p ∧ i = .int .i64 ((j : Int) - 1) ∧ wr = w.drewN d ∧ Hid (X - Y = vl 65536 (us.take j) - vl 65536 (vs.take j))) (fun i _ => (intOf i + 1).toNat)
    case atStart =>
      refine ⟨p, 0, Nat.le_refl _, rfl, rfl, ?_⟩
      show X - Y = _
      rw [List.take_of_length_le (by have := HP.out; omega), List.take_of_length_le (by have := HQ.out; omega), HK.out.1.val, HK.out.2.val]
    case round =>
      obtain ⟨j, d, hj, rfl, rfl, hd⟩ := hrel
      cases j with
      | zero =>
        have e : sg X Y = 0 := by
          have h0 : X - Y = 0 := by rw [hd.out]; simp
          unfold sg; rw [if_neg (by omega), if_neg (by omega)]
        have E := Lib.hid e
        clear e
        go_wp2_with fail
        go_ret
        exact ⟨ret_i64 E.out.symm, d, rfl⟩
      | succ j =>
        obtain ⟨b, o, rfl, hcell⟩ := r1.cell (by omega)
        obtain ⟨b', o', rfl, hcell'⟩ := r2.cell (by omega)
        replace hcell := hcell j (by omega)
        replace hcell' := hcell' j (by omega)
        have hst := vl_take_succ 65536 us j
        have hst' := vl_take_succ 65536 vs j
        have D := hd.out
        clear hd
        rcases Int.lt_trichotomy (us[j]?.getD 0) (vs[j]?.getD 0) with g | g | g
        · have e : sg X Y = -1 := by
            have := cmp_lt HK.out.1.dg HK.out.2.dg j g
            unfold sg; rw [if_pos (by omega)]
          have E := Lib.hid e
          clear e D hst hst'
          go_wp2_with fail
          go_quiet (fail)
          go_wp2_with fail
          go_ret
          exact ⟨ret_i64 E.out.symm, _, World.drewN_drewN ..⟩
        · have E : Hid (X - Y = vl 65536 (us.take j) - vl 65536 (vs.take j)) := by
            show X - Y = vl 65536 (us.take j) - vl 65536 (vs.take j)
            rw [D, hst, hst', g]; omega
          have g1 : ¬ us[j]?.getD 0 < vs[j]?.getD 0 := by omega
          have g2 : ¬ vs[j]?.getD 0 < us[j]?.getD 0 := by omega
          clear D hst hst' g
          go_wp2_with fail
          go_quiet (fail)
          go_wp2_with fail
          go_quiet (fail)
          go_wp2_with fail
          go_roundw
          case rel => exact ⟨j, _, by omega, by go_num, rfl, E⟩
          case measure => simp [intOf]
        · have e : sg X Y = 1 := by
            have := cmp_lt HK.out.2.dg HK.out.1.dg j g
            unfold sg; rw [if_neg (by omega), if_pos (by omega)]
          have E := Lib.hid e
          have g1 : ¬ us[j]?.getD 0 < vs[j]?.getD 0 := by omega
          clear e D hst hst'
          go_wp2_with fail
          go_quiet (fail)
          go_wp2_with fail
          go_quiet (fail)
          go_wp2_with fail
          go_ret
          exact ⟨ret_i64 E.out.symm, _, by rw [World.drewN_drewN, World.drewN_drewN]⟩
  · have hn : ¬ p = q := by omega
    have hn2 : ¬ p < q := by omega
    go_wp2_with fail
    go_ret
    exact ⟨ret_i64 (HGT.out h).symm, 0, rfl⟩

set_option maxHeartbeats 800000 in
/-- limbs that are the same -/
theorem rsame_any (A A' : Option Addr) (n : Nat) (xs : List Int) (c c' : Nat) (w : World) (hr : RdS w .u64 A n xs) (hr' : RdS w .u64 A' n xs) (hsm : n ≤ 16777216) :
    Calls Tryd.prog 60 #[.slice A n c, .slice A' n c'] w fun e w' => e = .returned (.bool true) ∧ ∃ m, w' = w.drewN m := by
  go_enter Tryd.func60, Tryd.ntmps60
  go_wp2_with fail
  go_loopw [5] (fun i wr => ∃ k d : Nat, k ≤ n ∧ i = .int .i64 k ∧ wr = w.drewN d) (fun i _ => n - (intOf i).toNat)
  case atStart => exact ⟨0, 0, by omega, rfl, rfl⟩
  case round =>
    obtain ⟨k, d, hk, rfl, rfl⟩ := hrel
    by_cases hlt : k < n
    · obtain ⟨b, o, rfl, hcell⟩ := hr.cell (by omega)
      obtain ⟨b', o', rfl, hcell'⟩ := hr'.cell (by omega)
      replace hcell := hcell k hlt
      replace hcell' := hcell' k hlt
      go_wp2_with fail
      go_quiet (fail)
      go_wp2_with fail
      go_roundw
      case rel => exact ⟨k + 1, _, by omega, by go_num, rfl⟩
      case measure => simp [intOf]; omega
    · go_wp2_with fail
      go_ret
      exact ⟨rfl, d, rfl⟩
end Go.Proofs.YtlgecdkidgjgiaaDoor
