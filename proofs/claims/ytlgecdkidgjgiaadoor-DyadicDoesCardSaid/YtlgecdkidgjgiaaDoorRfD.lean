/- The walks of the reference's whole numbers: differences, which is less, numbers of 64 bits. -/
import Derived.Test.YtlgecdkidgjgiaaDoorRfC
namespace Go.Proofs.YtlgecdkidgjgiaaDoor
open Go.RowKit

set_option maxHeartbeats 1600000 in
theorem rsub2_any (s s' : Bool) (A A' : Option Addr) (n n' : Nat) (xs ys : List Int) (c c' : Nat) (X Y : Int) (w : World) (hr : RdS w .u32 A n xs) (hr' : RdS w .u32 A' n' ys) (hc : n ≤ c) (hc' : n' ≤ c')
    (hsm : n ≤ 1000000) (hsm' : n' ≤ 1000000) (hx : CanD s xs X) (hy : CanD s' ys Y) :
    Calls Tryd.prog 13 #[.agg #[.bool s, .slice A n c], .agg #[.bool s', .slice A' n' c']] w fun e w' => ∃ (t : Bool) (zs : List Int) (B : Option Addr) (d : Nat),
      e = .returned (.agg #[.bool t, .slice B zs.length d]) ∧ zs.length ≤ d ∧ RdS w' .u32 B zs.length zs ∧ CanD t zs (X - Y) ∧ Below w.heap.size w w' := by
  have HX := Lib.hid hx
  have HY := Lib.hid hy
  clear hx hy
  go_enter Tryd.func13, Tryd.ntmps13
  go_wp2_with fail
  obtain ⟨ra, rb, rc, hw, hsz⟩ := new3 w 37 37 37 #[.bool s, .slice A n c] #[.bool s', .slice A' n' c'] #[.bool false, .slice none 0 0]
  generalize ((w.alloc (.cells #[.bool s, .slice A n c] 37)).alloc (.cells #[.bool s', .slice A' n' c'] 37)).alloc (.cells #[.bool false, .slice none 0 0] 37) = W at *
  have hle : w.heap.size ≤ W.drew.heap.size := by show w.heap.size ≤ W.heap.size; omega
  have q1 := (hr.below hw).drew
  have q2 := (hr'.below hw).drew
  obtain ⟨fa0, fa1, fa2, fa3⟩ := box_facts ra
  obtain ⟨fb0, fb1, fb2, fb3⟩ := box_facts rb
  clear hr hr'
  have HW := Lib.hid hw
  have HSZ := Lib.hid hsz
  clear hw hsz
  go_region_held3 (fun wx => wx.cell? ⟨w.heap.size, 0, none⟩ = some (.bool s) ∧ wx.cell? ⟨w.heap.size, 1, none⟩ = some (.slice A n c) ∧ wx.cell? ⟨w.heap.size + 1, 0, none⟩ = some (.bool s') ∧ wx.cell? ⟨w.heap.size + 1, 1, none⟩ = some (.slice A' n' c')) (first | exact ⟨ha2.1, ha2.2.1, hb2.1, hb2.2.1⟩ | exact ⟨ha1.1, ha1.2.1, hb1.1, hb1.2.1⟩ | exact ⟨fa0, fa1, fb0, fb1⟩ | exact ⟨set2 ha2.1 (by simp; omega), set2 ha2.2.1 (by simp; omega), set2 hb2.1 (by simp), set2 hb2.2.1 (by simp)⟩) (first | (go_at_call 45; refine (rneg_any s' A' n' ys c' Y _ q2 hc' (by omega) HY.out).mono ?_; rintro e w1 ⟨t', rfl, ky, b1⟩; have ra1 := ra.drew.below b1 ra.drew.lt; have rb1 := rb.drew.below b1 rb.drew.lt; have ha1 := box_facts ra1; have hb1 := box_facts rb1; have KY := Lib.hid ky; clear ky) | (go_at_call 44; refine (radd2_any s t' A A' n n' xs ys c c' X (-Y) _ (q1.below b1) (q2.below b1) hc hc' hsm hsm' HX.out KY.out).mono ?_; rintro e w2 ⟨t, zs, B, d, rfl, hd, rz, kz, b2⟩; have rc2 := ((rc.drew.below b1 rc.drew.lt).below b2 (rc.drew.below b1 rc.drew.lt).lt); have hc2 := box_facts rc2; have ha2 := box_facts (ra1.below b2 ra1.lt); have hb2 := box_facts (rb1.below b2 rb1.lt)))
  all_goals
    go_wp2_with fail
    rw [← Int.sub_eq_add_neg] at kz
    have hbw := ((((HW.out.drew).trans (b1.mono hle)).trans (b2.mono (Nat.le_trans hle b1.size))).setCell (p := ⟨w.heap.size + 1 + 1, 0, none⟩) (by simp; omega) (.bool t)).setCell (p := ⟨w.heap.size + 1 + 1, 1, none⟩) (by simp; omega) (.slice B zs.length d)
    have rz2 := rz.set2 rc2 (.bool t) (.slice B zs.length d)
    exact bodyPost_ret (v := .agg #[.bool t, .slice B zs.length d]) (by simp [results, Tryd.results13, go_sem, hc2]) rfl ⟨t, zs, B, d, rfl, hd, rz2, kz, hbw⟩

set_option maxHeartbeats 1600000 in
theorem rcmp2_any (s s' : Bool) (A A' : Option Addr) (n n' : Nat) (xs ys : List Int) (c c' : Nat) (X Y : Int) (w : World) (hr : RdS w .u32 A n xs) (hr' : RdS w .u32 A' n' ys) (hc : n ≤ c) (hc' : n' ≤ c')
    (hsm : n ≤ 1000000) (hsm' : n' ≤ 1000000) (hx : CanD s xs X) (hy : CanD s' ys Y) :
    Calls Tryd.prog 67 #[.agg #[.bool s, .slice A n c], .agg #[.bool s', .slice A' n' c']] w fun e w' => e = .returned (.int .i64 (sgz (X - Y))) ∧ Below w.heap.size w w' := by
  have z1 : Sd X n := by have := (vl_bd hx.can.dg).2; rw [hx.can.val, hr.len] at this; exact this
  have z2 : Sd Y n' := by have := (vl_bd hy.can.dg).2; rw [hy.can.val, hr'.len] at this; exact this
  have z3 : Sd (X - Y) 1000001 := by
    have a1 := z1.mono (show n ≤ 1000000 by omega)
    have a2 := z2.mono (show n' ≤ 1000000 by omega)
    unfold Sd at *
    rw [show (1000001 : Nat) = 1000000 + 1 from rfl, Int.pow_succ]
    have p := bpow_pos (show (0 : Int) < 65536 by decide) 1000000
    generalize (65536 : Int) ^ 1000000 = P at *
    omega
  have HZ := Lib.hid z3
  clear z1 z2 z3
  obtain ⟨_, _, hw⟩ := new2 w 37 37 #[.bool s, .slice A n c] #[.bool s', .slice A' n' c']
  go_enter Tryd.func67, Tryd.ntmps67
  go_wp2_with fail
  refine (rsub2_any s s' A A' n n' xs ys c c' X Y _ (hr.below hw) (hr'.below hw) hc hc' hsm hsm' hx hy).mono ?_
  rintro e w1 ⟨t, zs, B, d, rfl, hd, rz, kz, b1⟩
  have hl := kz.len HZ.out
  have KZ := Lib.hid kz
  clear kz
  go_wp2_with fail
  refine (rsign_any t B zs.length zs d (X - Y) _ rz (by omega) KZ.out).mono ?_
  rintro e w2 ⟨rfl, b2⟩
  go_wp2_with fail
  go_ret
  exact ⟨rfl, (hw.trans (b1.mono hw.size)).trans (b2.mono (Nat.le_trans hw.size b1.size))⟩

set_option maxHeartbeats 1600000 in
theorem rsmall_any (v : Int) (w : World) (hv : -9223372036854775808 ≤ v) (hv2 : v ≤ 9223372036854775807) :
    Calls Tryd.prog 66 #[.int .i64 v] w fun e w' => ∃ (t : Bool) (zs : List Int) (B : Option Addr) (d : Nat),
      e = .returned (.agg #[.bool t, .slice B zs.length d]) ∧ zs.length ≤ d ∧ RdS w' .u32 B zs.length zs ∧ CanD t zs v ∧ Below w.heap.size w w' := by
  by_cases h : v < 0
  · have hx : Dg B64 [-(v + 1)] := Dg.cons.2 ⟨by unfold B64; omega, Dg.nil (by decide)⟩
    have h1 : Dg 65536 [1] := Dg.cons.2 ⟨by omega, Dg.nil (by decide)⟩
    have hvl : vl B64 [-(v + 1)] = -(v + 1) := by simp [vl]
    have hvl1 : vl 65536 [1] = 1 := by simp [vl]
    have hng : ¬ 0 ≤ v := by omega
    obtain ⟨ra, rb, hw⟩ := new2 w 37 22 #[.bool false, .slice none 0 0] #[.int .u64 (-(v + 1))]
    have hrd : RdS ((w.alloc (.cells #[.bool false, .slice none 0 0] 37)).alloc (.cells #[.int .u64 (-(v + 1))] 22)) .u64 (some ⟨w.heap.size + 1, 0, none⟩) 1 [-(v + 1)] := (show Row _ _ _ (nums .u64 [-(v + 1)]) from rb).reads 1 rfl
    go_enter Tryd.func66, Tryd.ntmps66
    go_wp2_with fail
    have b0 : Below w.heap.size w _ := hw
    have hle := hw.size
    generalize (w.alloc (.cells #[.bool false, .slice none 0 0] 37)).alloc (.cells #[.int .u64 (-(v + 1))] 22) = W at *
    refine (digits_any _ 1 _ 1 _ hrd (by omega) hx).mono ?_
    rw [hvl]
    rintro e w1 ⟨zs, B, d, rfl, hd, rz, kz, b1⟩
    have hl := kz.len_le 4 (by omega)
    have ra1 := ra.below b1 ra.lt
    have KZ := Lib.hid kz
    clear kz
    go_wp2_with fail
    have b2 : Below w1.heap.size w1 (w1.alloc (.cells #[.int .u32 1] 80)) := (Below.refl _ _).alloc (Nat.le_refl _) _
    have rr : Row (w1.alloc (.cells #[.int .u32 1] 80)) w1.heap.size 80 (nums .u32 [1]) := Row.new w1 80 #[.int .u32 1]
    have r1 := rr.reads 1 rfl
    have rz1 := rz.below b2
    have ra2 := ra1.below b2 ra1.lt
    have hs2 : w1.heap.size ≤ (w1.alloc (.cells #[.int .u32 1] 80)).heap.size := b2.size
    have B2 := Lib.hid (((b0.trans (b1.mono hle))).trans (b2.mono (Nat.le_trans hle b1.size)))
    have hle2 : w.heap.size ≤ (w1.alloc (.cells #[.int .u32 1] 80)).heap.size := Nat.le_trans (Nat.le_trans hle b1.size) hs2
    generalize w1.alloc (.cells #[.int .u32 1] 80) = W1 at *
    refine (radd_any _ _ zs.length 1 zs [1] d 1 W1 rz1 r1 (by omega) (by omega) KZ.out.dg h1).mono ?_
    rw [KZ.out.val, hvl1]
    rintro e w2 ⟨us, C, d2, rfl, hd2, ru, ku, b3⟩
    have hl2 := ku.len_le 5 (by omega)
    have ra3 := ra2.below b3 ra2.lt
    have KU := Lib.hid ku
    clear ku
    go_wp2_with fail
    refine (rnew_any true C us.length us d2 w2 ru hd2 (by omega) KU.out.dg).mono ?_
    rintro e w3 ⟨rfl, b4⟩
    have ra4 := ra3.below b4 ra3.lt
    have hc4 := box_facts ra4
    go_wp2_with fail
    have hpz : pl us = us := pl_of_can KU.out
    have kd := zd_of (s := true) KU.out
    rw [show (if true = true then -(-(v + 1) + 1) else -(v + 1) + 1) = v by simp; omega] at kd
    have rz2 := (ru.below b4).set2 ra4 (.bool (decide (zd true us < 0))) (.slice C (pl us).length d2)
    have hbw := (((B2.out.trans (b3.mono hle2)).trans (b4.mono (Nat.le_trans hle2 b3.size))).setCell (p := ⟨w.heap.size, 0, none⟩) (by simp) (.bool (decide (zd true us < 0)))).setCell (p := ⟨w.heap.size, 1, none⟩) (by simp) (.slice C (pl us).length d2)
    exact bodyPost_ret (v := .agg #[.bool (decide (zd true us < 0)), .slice C (pl us).length d2]) (by simp [results, Tryd.results66, go_sem, hc4]) rfl ⟨_, us, C, d2, ret_agg rfl (by rw [hpz]) rfl, hd2, rz2, kd, hbw⟩
  · have hx : Dg B64 [v] := Dg.cons.2 ⟨by unfold B64; omega, Dg.nil (by decide)⟩
    have hvl : vl B64 [v] = v := by simp [vl]
    have hge : 0 ≤ v := by omega
    have hwr : IntKind.u64.wrap v = v := wrap_in hge (by unfold B64; omega)
    obtain ⟨ra, rb, hw⟩ := new2 w 37 22 #[.bool false, .slice none 0 0] #[.int .u64 v]
    have hrd : RdS ((w.alloc (.cells #[.bool false, .slice none 0 0] 37)).alloc (.cells #[.int .u64 v] 22)) .u64 (some ⟨w.heap.size + 1, 0, none⟩) 1 [v] := (show Row _ _ _ (nums .u64 [v]) from rb).reads 1 rfl
    clear h
    go_enter Tryd.func66, Tryd.ntmps66
    go_wp2_with fail
    have b0 : Below w.heap.size w _ := hw
    have hle := hw.size
    generalize (w.alloc (.cells #[.bool false, .slice none 0 0] 37)).alloc (.cells #[.int .u64 v] 22) = W at *
    refine (digits_any _ 1 _ 1 _ hrd (by omega) hx).mono ?_
    rw [hvl]
    rintro e w1 ⟨zs, B, d, rfl, hd, rz, kz, b1⟩
    have hl := kz.len_le 4 (by omega)
    have ra1 := ra.below b1 ra.lt
    have KU := Lib.hid kz
    clear kz
    go_wp2_with fail
    refine (rnew_any false B zs.length zs d w1 rz hd (by omega) KU.out.dg).mono ?_
    rintro e w3 ⟨rfl, b4⟩
    have ra4 := ra1.below b4 ra1.lt
    have hc4 := box_facts ra4
    go_wp2_with fail
    have hpz : pl zs = zs := pl_of_can KU.out
    have kd := zd_of (s := false) KU.out
    rw [show (if false = true then -v else v) = v by simp] at kd
    have rz2 := (rz.below b4).set2 ra4 (.bool (decide (zd false zs < 0))) (.slice B (pl zs).length d)
    have hbw := (((b0.trans (b1.mono hle)).trans (b4.mono (Nat.le_trans hle b1.size))).setCell (p := ⟨w.heap.size, 0, none⟩) (by simp) (.bool (decide (zd false zs < 0)))).setCell (p := ⟨w.heap.size, 1, none⟩) (by simp) (.slice B (pl zs).length d)
    exact bodyPost_ret (v := .agg #[.bool (decide (zd false zs < 0)), .slice B (pl zs).length d]) (by simp [results, Tryd.results66, go_sem, hc4]) rfl ⟨_, zs, B, d, ret_agg rfl (by rw [hpz]) rfl, hd, rz2, kd, hbw⟩
end Go.Proofs.YtlgecdkidgjgiaaDoor
