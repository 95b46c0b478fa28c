/- The walks of whole's functions: differences, which is less, products, numbers of 64 bits. -/
import Derived.Test.YtlgecdkidgjgiaaDoorWhB
namespace Go.Proofs.YtlgecdkidgjgiaaDoor
open Go.RowKit

theorem ret_nat {a b : Int} (h : a = b) (k : IntKind) : Ending.returned (.int k a) = Ending.returned (.int k b) := by rw [h]

set_option maxHeartbeats 1600000 in
theorem wsub_any (s s' : Bool) (A A' : Option Addr) (n n' : Nat) (xs ys : List Int) (c c' : Nat) (w : World) (hr : RdS w .u64 A n xs) (hr' : RdS w .u64 A' n' ys) (hc : n ≤ c) (hc' : n' ≤ c')
    (hsm : n ≤ 1048576) (hsm' : n' ≤ 1048576) (hx : Dg B64 xs) (hy : Dg B64 ys) :
    Calls Tryd.prog 81 #[.agg #[.bool s, .slice A n c], .agg #[.bool s', .slice A' n' c']] w fun e w' => ∃ (t : Bool) (zs : List Int) (B : Option Addr),
      e = .returned (.agg #[.bool t, .slice B zs.length zs.length]) ∧ RdS w' .u64 B zs.length zs ∧ CanI t zs (zi s xs - zi s' ys) ∧ Below w.heap.size w w' := by
  have l2 := pl_le ys
  rw [hr'.len] at l2
  have r2 := hr'.plain
  have k2 := zi_plain (s := s') hy
  have hneg : zi (decide (-(zi s' ys) < 0)) (pl ys) = -(zi s' ys) := by
    have h1 := zi_plain (s := !s') hy
    have e : zi (!s') ys = -(zi s' ys) := by unfold zi; cases s' <;> simp
    rw [e] at h1
    exact h1.zi
  have hd := k2.can.dg
  have hcn := fun w hw => wneg_any s' A' n' ys c' w hw hc' (by omega) hy
  obtain ⟨q, hq⟩ : ∃ q, q = (pl ys).length := ⟨_, rfl⟩
  obtain ⟨t', ht'⟩ : ∃ t', t' = decide (-(zi s' ys) < 0) := ⟨_, rfl⟩
  rw [← ht', ← hq] at hcn
  rw [← ht'] at hneg
  rw [← hq] at r2 l2
  have HN := Lib.hid hneg
  clear hneg k2 ht' hq
  generalize pl ys = vs at *
  go_enter Tryd.func81, Tryd.ntmps81
  go_wp2_with fail
  obtain ⟨ra, rb, rc, hw, hsz⟩ := new3 w 27 27 27 #[.bool s, .slice A n c] #[.bool s', .slice A' n' c'] #[.bool false, .slice none 0 0]
  generalize ((w.alloc (.cells #[.bool s, .slice A n c] 27)).alloc (.cells #[.bool s', .slice A' n' c'] 27)).alloc (.cells #[.bool false, .slice none 0 0] 27) = W at *
  have hle : w.heap.size ≤ W.drew.heap.size := by show w.heap.size ≤ W.heap.size; omega
  have q1 := (hr.below hw).drew
  have q2 := (hr'.below hw).drew
  have r2' := (r2.below hw).drew
  obtain ⟨fa0, fa1, fa2, fa3⟩ := box_facts ra
  obtain ⟨fb0, fb1, fb2, fb3⟩ := box_facts rb
  clear hr hr' r2
  have HW := Lib.hid hw
  have HSZ := Lib.hid hsz
  clear hw hsz
  go_region_held3 (fun wx => wx.cell? ⟨w.heap.size, 0, none⟩ = some (.bool s) ∧ wx.cell? ⟨w.heap.size, 1, none⟩ = some (.slice A n c) ∧ wx.cell? ⟨w.heap.size + 1, 0, none⟩ = some (.bool s') ∧ wx.cell? ⟨w.heap.size + 1, 1, none⟩ = some (.slice A' n' c')) (first | exact ⟨ha2.1, ha2.2.1, hb2.1, hb2.2.1⟩ | exact ⟨ha1.1, ha1.2.1, hb1.1, hb1.2.1⟩ | exact ⟨fa0, fa1, fb0, fb1⟩ | exact ⟨set2 ha2.1 (by simp; omega), set2 ha2.2.1 (by simp; omega), set2 hb2.1 (by simp), set2 hb2.2.1 (by simp)⟩) (first | (go_at_call 42; refine (hcn _ q2).mono ?_; rintro e w1 ⟨rfl, b1⟩; have ra1 := ra.drew.below b1 ra.drew.lt; have rb1 := rb.drew.below b1 rb.drew.lt; have ha1 := box_facts ra1; have hb1 := box_facts rb1) | (go_at_call 53; refine (wadd_any s t' A A' n q xs vs c q _ (q1.below b1) (r2'.below b1) hc (Nat.le_refl _) hsm (by omega) hx hd).mono ?_; rintro e w2 ⟨t, zs, B, rfl, rz, kz, b2⟩; have rc2 := ((rc.drew.below b1 rc.drew.lt).below b2 (rc.drew.below b1 rc.drew.lt).lt); have hc2 := box_facts rc2; have ha2 := box_facts (ra1.below b2 ra1.lt); have hb2 := box_facts (rb1.below b2 rb1.lt)))
  all_goals
    go_wp2_with fail
    rw [HN.out, ← Int.sub_eq_add_neg] at kz
    have hbw := ((((HW.out.drew).trans (b1.mono hle)).trans (b2.mono (Nat.le_trans hle b1.size))).setCell (p := ⟨w.heap.size + 1 + 1, 0, none⟩) (by simp; omega) (.bool t)).setCell (p := ⟨w.heap.size + 1 + 1, 1, none⟩) (by simp; omega) (.slice B zs.length zs.length)
    have rz2 := rz.set2 rc2 (.bool t) (.slice B zs.length zs.length)
    exact bodyPost_ret (v := .agg #[.bool t, .slice B zs.length zs.length]) (by simp [results, Tryd.results81, go_sem, hc2]) rfl ⟨t, zs, B, rfl, rz2, kz, hbw⟩

set_option maxHeartbeats 1600000 in
theorem wcmp_any (s s' : Bool) (A A' : Option Addr) (n n' : Nat) (xs ys : List Int) (c c' : Nat) (w : World) (hr : RdS w .u64 A n xs) (hr' : RdS w .u64 A' n' ys) (hc : n ≤ c) (hc' : n' ≤ c')
    (hsm : n ≤ 1048575) (hsm' : n' ≤ 1048575) (hx : Dg B64 xs) (hy : Dg B64 ys) :
    Calls Tryd.prog 54 #[.agg #[.bool s, .slice A n c], .agg #[.bool s', .slice A' n' c']] w fun e w' => e = .returned (.int .i64 (sgz (zi s xs - zi s' ys))) ∧ Below w.heap.size w w' := by
  have z1 : Sz (zi s xs) n := by rw [← hr.len]; exact Sz.of_zi hx
  have z2 : Sz (zi s' ys) n' := by rw [← hr'.len]; exact Sz.of_zi hy
  have z3 : Sz (zi s xs - zi s' ys) 1048576 := by
    rw [Int.sub_eq_add_neg]
    exact (z1.mono (show n ≤ 1048575 by omega)).add (z2.neg.mono (show n' ≤ 1048575 by omega)) (Nat.le_refl _)
  have HZ := Lib.hid z3
  clear z1 z2 z3
  go_enter Tryd.func54, Tryd.ntmps54
  go_wp2_with fail
  obtain ⟨_, _, hw⟩ := new2 w 27 27 #[.bool s, .slice A n c] #[.bool s', .slice A' n' c']
  refine (wsub_any s s' A A' n n' xs ys c c' _ (hr.below hw) (hr'.below hw) hc hc' (by omega) (by omega) hx hy).mono ?_
  rintro e w1 ⟨t, zs, B, rfl, rz, kz, b1⟩
  have hl := kz.len HZ.out
  have KZ := Lib.hid kz
  clear kz
  go_wp2_with fail
  refine (wsign_any t B zs.length zs zs.length _ rz (Nat.le_refl _) (by omega) KZ.out.can.dg).mono ?_
  rintro e w2 ⟨rfl, b2⟩
  go_wp2_with fail
  go_ret
  exact ⟨ret_i64 (by rw [KZ.out.zi]), (hw.trans (b1.mono hw.size)).trans (b2.mono (Nat.le_trans hw.size b1.size))⟩

set_option maxHeartbeats 1600000 in
theorem wmul_any (s s' : Bool) (A A' : Option Addr) (n n' : Nat) (xs ys : List Int) (c c' : Nat) (w : World) (hr : RdS w .u64 A n xs) (hr' : RdS w .u64 A' n' ys) (hc : n ≤ c) (hc' : n' ≤ c')
    (hsm : n + n' ≤ 1024) (hx : Dg B64 xs) (hy : Dg B64 ys) :
    Calls Tryd.prog 22 #[.agg #[.bool s, .slice A n c], .agg #[.bool s', .slice A' n' c']] w fun e w' => ∃ (t : Bool) (zs : List Int) (B : Option Addr),
      e = .returned (.tuple #[.agg #[.bool t, .slice B zs.length zs.length], .nilIface]) ∧ RdS w' .u64 B zs.length zs ∧ CanI t zs (zi s xs * zi s' ys) ∧ Below w.heap.size w w' := by
  have z1 : Sz (vl B64 xs) n := by rw [← hr.len]; exact Sz.vl hx
  have z2 : Sz (vl B64 ys) n' := by rw [← hr'.len]; exact Sz.vl hy
  have HL := Lib.hid (z1.mul z2 (Nat.le_refl _))
  obtain ⟨t', ht'⟩ : ∃ t', t' = (!(s == s')) := ⟨_, rfl⟩
  have hprod : ∀ (zs : List Int), Can B64 zs (vl B64 xs * vl B64 ys) → zi t' zs = zi s xs * zi s' ys := fun zs kz => by
    unfold zi; rw [kz.val, ht']; cases s <;> cases s' <;> simp <;> grind
  have HP := Lib.hid hprod
  clear hprod z1 z2
  have HTB := Lib.hid ht'.symm
  clear ht'
  go_enter Tryd.func22, Tryd.ntmps22
  go_wp2_with fail
  obtain ⟨ra, rb, rc, hw, hsz⟩ := new3 w 27 27 27 #[.bool s, .slice A n c] #[.bool s', .slice A' n' c'] #[.bool false, .slice none 0 0]
  generalize ((w.alloc (.cells #[.bool s, .slice A n c] 27)).alloc (.cells #[.bool s', .slice A' n' c'] 27)).alloc (.cells #[.bool false, .slice none 0 0] 27) = W at *
  have hle : w.heap.size ≤ W.heap.size := by omega
  have HSZ := Lib.hid hsz
  clear hsz
  refine (mul_any A A' n n' xs ys c c' _ (hr.below hw) (hr'.below hw) hc hc' hsm hx hy).mono ?_
  rintro e w1 ⟨zs, B, rfl, rz, kz, b1⟩
  have hl : zs.length ≤ 1024 := Nat.le_trans (kz.len HL.out) hsm
  have KZ := Lib.hid kz
  clear kz
  have ra1 := ra.below b1 ra.lt
  have rb1 := rb.below b1 rb.lt
  have ha1 := box_facts ra1
  have hb1 := box_facts rb1
  go_wp2_with fail
  rw [HTB.out]
  refine (wplain_any t' B zs.length zs zs.length _ rz (Nat.le_refl _) (by omega) KZ.out.dg).mono ?_
  rintro e w2 ⟨rfl, b2⟩
  have rc2 := ((rc.below b1 rc.lt).below b2 (rc.below b1 rc.lt).lt)
  have hc2 := box_facts rc2
  go_wp2_with fail
  have hpz : pl zs = zs := pl_of_can KZ.out
  have kz := zi_plain (s := t') KZ.out.dg
  rw [HP.out zs KZ.out, hpz] at kz
  have rz2 := (rz.below b2).set2 rc2 (.bool (decide (zi t' zs < 0))) (.slice B (pl zs).length (pl zs).length)
  have hb2 := (((hw.trans (b1.mono hle)).trans (b2.mono (Nat.le_trans hle b1.size))).setCell (p := ⟨w.heap.size + 1 + 1, 0, none⟩) (by simp; omega) (.bool (decide (zi t' zs < 0)))).setCell (p := ⟨w.heap.size + 1 + 1, 1, none⟩) (by simp; omega) (.slice B (pl zs).length (pl zs).length)
  exact bodyPost_ret (v := .tuple #[.agg #[.bool (decide (zi t' zs < 0)), .slice B (pl zs).length (pl zs).length], .nilIface]) (by simp [results, Tryd.results22, go_sem, hc2]) rfl ⟨_, zs, B, ret_agg2 (by rw [HP.out zs KZ.out]) (by rw [hpz]) (by rw [hpz]), rz2, kz, hb2⟩

set_option maxHeartbeats 1600000 in
theorem wof_any (v : Int) (w : World) (hv : -9223372036854775808 ≤ v) (hv2 : v ≤ 9223372036854775807) :
    Calls Tryd.prog 55 #[.int .i64 v] w fun e w' => ∃ (t : Bool) (zs : List Int) (B : Option Addr),
      e = .returned (.agg #[.bool t, .slice B zs.length zs.length]) ∧ RdS w' .u64 B zs.length zs ∧ CanI t zs v ∧ Below w.heap.size w w' := by
  by_cases h : v < 0
  · have e1 : IntKind.u64.wrap (-IntKind.u64.wrap v) = -v := by
      rw [wrap_u64, wrap_u64]; unfold B64; omega
    have hx : Dg B64 [-v] := Dg.cons.2 ⟨by unfold B64; omega, Dg.nil (by decide)⟩
    have hz : zi true [-v] = v := by simp [zi, vl]
    have kz := zi_plain (s := true) hx
    rw [hz] at kz
    have KZ := Lib.hid kz
    have hl : (pl [-v]).length ≤ 1 := pl_le [-v]
    have E1 := Lib.hid e1
    have HX := Lib.hid hx
    have HZ := Lib.hid hz
    clear e1 hx hz kz
    obtain ⟨ra, rb, hw⟩ := new2 w 27 22 #[.bool false, .slice none 0 0] #[.int .u64 (-v)]
    have hrd : RdS ((w.alloc (.cells #[.bool false, .slice none 0 0] 27)).alloc (.cells #[.int .u64 (-v)] 22)) .u64 (some ⟨w.heap.size + 1, 0, none⟩) 1 [-v] := (show Row _ _ _ (nums .u64 [-v]) from rb).reads 1 rfl
    go_enter Tryd.func55, Tryd.ntmps55
    go_wp2_with fail
    rw [E1.out]
    refine (wplain_any true _ 1 [-v] 1 _ hrd (Nat.le_refl _) (by omega) HX.out).mono ?_
    rintro e w1 ⟨rfl, b1⟩
    have hc1 := box_facts (ra.below b1 ra.lt)
    go_wp2_with fail
    have rz2 := (hrd.plain.below b1).set2 (ra.below b1 ra.lt) (.bool (decide (zi true [-v] < 0))) (.slice (some ⟨w.heap.size + 1, 0, none⟩) (pl [-v]).length (pl [-v]).length)
    have hb2 := ((hw.trans (b1.mono hw.size)).setCell (p := ⟨w.heap.size, 0, none⟩) (Nat.le_refl _) (.bool (decide (zi true [-v] < 0)))).setCell (p := ⟨w.heap.size, 1, none⟩) (Nat.le_refl _) (.slice (some ⟨w.heap.size + 1, 0, none⟩) (pl [-v]).length (pl [-v]).length)
    exact bodyPost_ret (v := .agg #[.bool (decide (zi true [-v] < 0)), .slice (some ⟨w.heap.size + 1, 0, none⟩) (pl [-v]).length (pl [-v]).length]) (by simp [results, Tryd.results55, go_sem, hc1]) rfl ⟨_, pl [-v], _, ret_agg (by rw [HZ.out]) rfl rfl, rz2, KZ.out, hb2⟩
  · have hx : Dg B64 [v] := Dg.cons.2 ⟨by unfold B64; omega, Dg.nil (by decide)⟩
    have hz : zi false [v] = v := by simp [zi, vl]
    have kz := zi_plain (s := false) hx
    rw [hz] at kz
    have KZ := Lib.hid kz
    have hl : (pl [v]).length ≤ 1 := pl_le [v]
    have HX := Lib.hid hx
    have HZ := Lib.hid hz
    clear hx hz kz
    obtain ⟨ra, rb, hw⟩ := new2 w 27 22 #[.bool false, .slice none 0 0] #[.int .u64 v]
    have hrd : RdS ((w.alloc (.cells #[.bool false, .slice none 0 0] 27)).alloc (.cells #[.int .u64 v] 22)) .u64 (some ⟨w.heap.size + 1, 0, none⟩) 1 [v] := (show Row _ _ _ (nums .u64 [v]) from rb).reads 1 rfl
    go_enter Tryd.func55, Tryd.ntmps55
    go_wp2_with fail
    refine (wplain_any false _ 1 [v] 1 _ hrd (Nat.le_refl _) (by omega) HX.out).mono ?_
    rintro e w1 ⟨rfl, b1⟩
    have hc1 := box_facts (ra.below b1 ra.lt)
    go_wp2_with fail
    have rz2 := (hrd.plain.below b1).set2 (ra.below b1 ra.lt) (.bool (decide (zi false [v] < 0))) (.slice (some ⟨w.heap.size + 1, 0, none⟩) (pl [v]).length (pl [v]).length)
    have hb2 := ((hw.trans (b1.mono hw.size)).setCell (p := ⟨w.heap.size, 0, none⟩) (Nat.le_refl _) (.bool (decide (zi false [v] < 0)))).setCell (p := ⟨w.heap.size, 1, none⟩) (Nat.le_refl _) (.slice (some ⟨w.heap.size + 1, 0, none⟩) (pl [v]).length (pl [v]).length)
    exact bodyPost_ret (v := .agg #[.bool (decide (zi false [v] < 0)), .slice (some ⟨w.heap.size + 1, 0, none⟩) (pl [v]).length (pl [v]).length]) (by simp [results, Tryd.results55, go_sem, hc1]) rfl ⟨_, pl [v], _, ret_agg (by rw [HZ.out]) rfl rfl, rz2, KZ.out, hb2⟩
end Go.Proofs.YtlgecdkidgjgiaaDoor
