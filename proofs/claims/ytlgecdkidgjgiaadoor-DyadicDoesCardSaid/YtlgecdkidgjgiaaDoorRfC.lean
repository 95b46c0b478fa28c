/- The walks of the reference's whole numbers: sums, differences, which is less, numbers of 64 bits. -/
import Derived.Test.YtlgecdkidgjgiaaDoorRfB
namespace Go.Proofs.YtlgecdkidgjgiaaDoor
open Go.RowKit

set_option maxHeartbeats 3200000 in
theorem radd2_any (s s' : Bool) (A A' : Option Addr) (n n' : Nat) (xs ys : List Int) (c c' : Nat) (X Y : Int) (w : World) (hr : RdS w .u32 A n xs) (hr' : RdS w .u32 A' n' ys) (hc : n ≤ c) (hc' : n' ≤ c')
    (hsm : n ≤ 1000000) (hsm' : n' ≤ 1000000) (hx : CanD s xs X) (hy : CanD s' ys Y) :
    Calls Tryd.prog 44 #[.agg #[.bool s, .slice A n c], .agg #[.bool s', .slice A' n' c']] w fun e w' => ∃ (t : Bool) (zs : List Int) (B : Option Addr) (d : Nat),
      e = .returned (.agg #[.bool t, .slice B zs.length d]) ∧ zs.length ≤ d ∧ RdS w' .u32 B zs.length zs ∧ CanD t zs (X + Y) ∧ Below w.heap.size w w' := by
  have g1 := hx.can.dg
  have g2 := hy.can.dg
  have u1 := hx.zd
  have u2 := hy.zd
  have v1 := vl_bd g1
  have v2 := vl_bd g2
  rw [hr.len] at v1
  rw [hr'.len] at v2
  have hnn : (vl 65536 ys ≤ vl 65536 xs → n' ≤ n) ∧ (vl 65536 xs ≤ vl 65536 ys → n ≤ n') := by
    have := hr.len
    have := hr'.len
    constructor
    · intro h
      apply Nat.le_of_not_lt
      intro h2
      have := Can.lt_of_len hx.can hy.can (by omega)
      rw [← hx.can.val, ← hy.can.val] at this
      omega
    · intro h
      apply Nat.le_of_not_lt
      intro h2
      have := Can.lt_of_len hy.can hx.can (by omega)
      rw [← hx.can.val, ← hy.can.val] at this
      omega
  have hlen : ∀ (zs : List Int) (v : Int), Can 65536 zs v → v ≤ vl 65536 xs + vl 65536 ys → zs.length ≤ 1048576 := fun zs v kz hv => by
    have a1 := powd_mono (show n ≤ max n n' by omega)
    have a2 := powd_mono (show n' ≤ max n n' by omega)
    have a3 : (65536 : Int) ^ (max n n' + 1) = 65536 ^ (max n n') * 65536 := Int.pow_succ ..
    have a4 := bpow_pos (show (0 : Int) < 65536 by decide) (max n n')
    have := kz.len_le (max n n' + 1) (by omega)
    omega
  have HN := Lib.hid hnn
  have HL := Lib.hid hlen
  have HX := Lib.hid hx
  have HY := Lib.hid hy
  clear hnn hlen hx hy
  have p0 : 0 ≤ vl 65536 xs ∧ 0 ≤ vl 65536 ys := ⟨v1.1, v2.1⟩
  clear v1 v2
  by_cases ht : s = s'
  · subst ht
    have htb : (s == s) = true := by simp
    have hsum : (if s then -(vl 65536 xs + vl 65536 ys) else vl 65536 xs + vl 65536 ys) = X + Y := by
      rw [← u1, ← u2]; unfold zd; split <;> omega
    have HS := Lib.hid hsum
    have HL2 := Lib.hid (fun zs kz => HL.out zs (vl 65536 xs + vl 65536 ys) kz (Int.le_refl _))
    clear hsum u1 u2 p0
    go_enter Tryd.func44, Tryd.ntmps44
    go_wp2_with fail
    obtain ⟨ra, rb, rc, hw, hsz⟩ := new3 w 37 37 37 #[.bool s, .slice A n c] #[.bool s, .slice A' n' c'] #[.bool false, .slice none 0 0]
    generalize ((w.alloc (.cells #[.bool s, .slice A n c] 37)).alloc (.cells #[.bool s, .slice A' n' c'] 37)).alloc (.cells #[.bool false, .slice none 0 0] 37) = W at *
    have hle : w.heap.size ≤ W.heap.size := by omega
    have r1 := hr.below hw
    have r2 := hr'.below hw
    obtain ⟨fa0, fa1, fa2, fa3⟩ := box_facts ra
    obtain ⟨fb0, fb1, fb2, fb3⟩ := box_facts rb
    clear hr hr' hsz
    have HW := Lib.hid hw
    clear hw
    go_region_held3 (fun wx => wx.cell? ⟨w.heap.size, 0, none⟩ = some (.bool s) ∧ wx.cell? ⟨w.heap.size, 1, none⟩ = some (.slice A n c) ∧ wx.cell? ⟨w.heap.size + 1, 1, none⟩ = some (.slice A' n' c')) (first | exact ⟨ha2.1, ha2.2.1, hb2.2.1⟩ | exact ⟨ha1.1, ha1.2.1, hb1.2.1⟩ | exact ⟨fa0, fa1, fb1⟩ | exact ⟨set2 ha2.1 (by simp; omega), set2 ha2.2.1 (by simp; omega), set2 hb2.2.1 (by simp)⟩) (first | (go_at_call 73; refine (radd_any A A' n n' xs ys c c' _ r1.drew r2.drew (by omega) (by omega) g1 g2).mono ?_; rintro e w1 ⟨zs, B, d, rfl, hd, rz, kz, b1⟩; have ra1 := ra.drew.below b1 ra.drew.lt; have rb1 := rb.drew.below b1 rb.drew.lt; have ha1 := box_facts ra1; have hb1 := box_facts rb1; have hl := HL2.out zs kz; have KZ := Lib.hid kz; clear kz) | (go_at_call 48; refine (rnew_any s B zs.length zs d _ rz hd (by omega) KZ.out.dg).mono ?_; rintro e w2 ⟨rfl, b2⟩; have rc2 := (rc.drew.below b1 rc.drew.lt).below b2 (rc.drew.below b1 rc.drew.lt).lt; have hc2 := box_facts rc2; have ha2 := box_facts (ra1.below b2 ra1.lt); have hb2 := box_facts (rb1.below b2 rb1.lt)))
    all_goals
      go_wp2_with fail
      have hpz : pl zs = zs := pl_of_can KZ.out
      have kd := zd_of (s := s) KZ.out
      rw [HS.out] at kd
      have rz2 := (rz.below b2).set2 rc2 (.bool (decide (zd s zs < 0))) (.slice B (pl zs).length d)
      have hbw := ((((HW.out.drew).trans (b1.mono hle)).trans (b2.mono (Nat.le_trans hle b1.size))).setCell (p := ⟨w.heap.size + 1 + 1, 0, none⟩) (by simp; omega) (.bool (decide (zd s zs < 0)))).setCell (p := ⟨w.heap.size + 1 + 1, 1, none⟩) (by simp; omega) (.slice B (pl zs).length d)
      exact bodyPost_ret (v := .agg #[.bool (decide (zd s zs < 0)), .slice B (pl zs).length d]) (by simp [results, Tryd.results44, go_sem, hc2]) rfl ⟨_, zs, B, d, ret_agg rfl (by rw [hpz]) rfl, hd, rz2, kd, hbw⟩
  · have htb : (s == s') = false := by simpa using ht
    have HT := Lib.hid ht
    clear ht
    by_cases hle2 : vl 65536 ys ≤ vl 65536 xs
    · have hsum : (if s then -(vl 65536 xs - vl 65536 ys) else vl 65536 xs - vl 65536 ys) = X + Y := by
        have := HT.out
        rw [← u1, ← u2]; unfold zd; cases s <;> cases s' <;> simp at this ⊢ <;> omega
      have hsg : 0 ≤ sg (vl 65536 xs) (vl 65536 ys) := by unfold sg; rw [if_neg (by omega)]; split <;> omega
      have HS := Lib.hid hsum
      have HL2 := Lib.hid (fun zs kz => HL.out zs (vl 65536 xs - vl 65536 ys) kz (by omega))
      have hn2 := HN.out.1 hle2
      have HLE := Lib.hid hle2
      clear hsum u1 u2 p0 hle2
      go_enter Tryd.func44, Tryd.ntmps44
      go_wp2_with fail
      obtain ⟨ra, rb, rc, hw, hsz⟩ := new3 w 37 37 37 #[.bool s, .slice A n c] #[.bool s', .slice A' n' c'] #[.bool false, .slice none 0 0]
      generalize ((w.alloc (.cells #[.bool s, .slice A n c] 37)).alloc (.cells #[.bool s', .slice A' n' c'] 37)).alloc (.cells #[.bool false, .slice none 0 0] 37) = W at *
      have hle : w.heap.size ≤ W.heap.size := by omega
      have r1 := hr.below hw
      have r2 := hr'.below hw
      obtain ⟨fa0, fa1, fa2, fa3⟩ := box_facts ra
      obtain ⟨fb0, fb1, fb2, fb3⟩ := box_facts rb
      clear hr hr' hsz
      have HW := Lib.hid hw
      clear hw
      refine (rcmp_any A A' n n' xs ys c c' W r1 r2 hc hc' (by omega) (by omega) g1 g2).mono ?_
      generalize sg (vl 65536 xs) (vl 65536 ys) = q at *
      rintro e w0 ⟨rfl, dd, hw0⟩
      have b0 : Below W.heap.size W w0 := by rw [hw0]; exact below_drewN _ _ _
      clear hw0
      replace ra := ra.below b0 ra.lt
      replace rb := rb.below b0 rb.lt
      replace rc := rc.below b0 rc.lt
      replace r1 := r1.below b0
      replace r2 := r2.below b0
      have HW2 := Lib.hid (HW.out.trans (b0.mono hle))
      have hle' : w.heap.size ≤ w0.heap.size := Nat.le_trans hle b0.size
      clear fa0 fa1 fa2 fa3 fb0 fb1 fb2 fb3 b0
      obtain ⟨fa0, fa1, fa2, fa3⟩ := box_facts ra
      obtain ⟨fb0, fb1, fb2, fb3⟩ := box_facts rb
      go_wp2_with fail
      go_region_held3 (fun wx => wx.cell? ⟨w.heap.size, 0, none⟩ = some (.bool s) ∧ wx.cell? ⟨w.heap.size, 1, none⟩ = some (.slice A n c) ∧ wx.cell? ⟨w.heap.size + 1, 1, none⟩ = some (.slice A' n' c')) (first | exact ⟨ha2.1, ha2.2.1, hb2.2.1⟩ | exact ⟨ha1.1, ha1.2.1, hb1.2.1⟩ | exact ⟨fa0, fa1, fb1⟩ | exact ⟨set2 ha2.1 (by simp; omega), set2 ha2.2.1 (by simp; omega), set2 hb2.2.1 (by simp)⟩) (first | (go_at_call 75; refine (rsub_any A A' n n' xs ys c c' _ r1.drew r2.drew (by omega) hn2 g1 g2 HLE.out).mono ?_; rintro e w1 ⟨zs, B, d, rfl, hd, rz, kz, b1⟩; have ra1 := ra.drew.below b1 ra.drew.lt; have rb1 := rb.drew.below b1 rb.drew.lt; have ha1 := box_facts ra1; have hb1 := box_facts rb1; have hl := HL2.out zs kz; have KZ := Lib.hid kz; clear kz) | (go_at_call 48; refine (rnew_any s B zs.length zs d _ rz hd (by omega) KZ.out.dg).mono ?_; rintro e w2 ⟨rfl, b2⟩; have rc2 := (rc.drew.below b1 rc.drew.lt).below b2 (rc.drew.below b1 rc.drew.lt).lt; have hc2 := box_facts rc2; have ha2 := box_facts (ra1.below b2 ra1.lt); have hb2 := box_facts (rb1.below b2 rb1.lt)))
      all_goals
        go_wp2_with fail
        have hpz : pl zs = zs := pl_of_can KZ.out
        have kd := zd_of (s := s) KZ.out
        rw [HS.out] at kd
        have rz2 := (rz.below b2).set2 rc2 (.bool (decide (zd s zs < 0))) (.slice B (pl zs).length d)
        have hbw := ((((HW2.out.drew).trans (b1.mono hle')).trans (b2.mono (Nat.le_trans hle' b1.size))).setCell (p := ⟨w.heap.size + 1 + 1, 0, none⟩) (by simp; omega) (.bool (decide (zd s zs < 0)))).setCell (p := ⟨w.heap.size + 1 + 1, 1, none⟩) (by simp; omega) (.slice B (pl zs).length d)
        exact bodyPost_ret (v := .agg #[.bool (decide (zd s zs < 0)), .slice B (pl zs).length d]) (by simp [results, Tryd.results44, go_sem, hc2]) rfl ⟨_, zs, B, d, ret_agg rfl (by rw [hpz]) rfl, hd, rz2, kd, hbw⟩
    · have hle3 : vl 65536 xs ≤ vl 65536 ys := by omega
      have hsum : (if s' then -(vl 65536 ys - vl 65536 xs) else vl 65536 ys - vl 65536 xs) = X + Y := by
        have := HT.out
        rw [← u1, ← u2]; unfold zd; cases s <;> cases s' <;> simp at this ⊢ <;> omega
      have hsg : sg (vl 65536 xs) (vl 65536 ys) < 0 := by unfold sg; rw [if_pos (by omega)]; decide
      have HS := Lib.hid hsum
      have HL2 := Lib.hid (fun zs kz => HL.out zs (vl 65536 ys - vl 65536 xs) kz (by omega))
      have hn2 := HN.out.2 hle3
      have HLE := Lib.hid hle3
      clear hsum u1 u2 p0 hle2 hle3
      go_enter Tryd.func44, Tryd.ntmps44
      go_wp2_with fail
      obtain ⟨ra, rb, rc, hw, hsz⟩ := new3 w 37 37 37 #[.bool s, .slice A n c] #[.bool s', .slice A' n' c'] #[.bool false, .slice none 0 0]
      generalize ((w.alloc (.cells #[.bool s, .slice A n c] 37)).alloc (.cells #[.bool s', .slice A' n' c'] 37)).alloc (.cells #[.bool false, .slice none 0 0] 37) = W at *
      have hle : w.heap.size ≤ W.heap.size := by omega
      have r1 := hr.below hw
      have r2 := hr'.below hw
      obtain ⟨fa0, fa1, fa2, fa3⟩ := box_facts ra
      obtain ⟨fb0, fb1, fb2, fb3⟩ := box_facts rb
      clear hr hr' hsz
      have HW := Lib.hid hw
      clear hw
      refine (rcmp_any A A' n n' xs ys c c' W r1 r2 hc hc' (by omega) (by omega) g1 g2).mono ?_
      generalize sg (vl 65536 xs) (vl 65536 ys) = q at *
      rintro e w0 ⟨rfl, dd, hw0⟩
      have b0 : Below W.heap.size W w0 := by rw [hw0]; exact below_drewN _ _ _
      clear hw0
      replace ra := ra.below b0 ra.lt
      replace rb := rb.below b0 rb.lt
      replace rc := rc.below b0 rc.lt
      replace r1 := r1.below b0
      replace r2 := r2.below b0
      have HW2 := Lib.hid (HW.out.trans (b0.mono hle))
      have hle' : w.heap.size ≤ w0.heap.size := Nat.le_trans hle b0.size
      clear fa0 fa1 fa2 fa3 fb0 fb1 fb2 fb3 b0
      obtain ⟨fa0, fa1, fa2, fa3⟩ := box_facts ra
      obtain ⟨fb0, fb1, fb2, fb3⟩ := box_facts rb
      go_wp2_with fail
      go_region_held3 (fun wx => wx.cell? ⟨w.heap.size + 1, 0, none⟩ = some (.bool s') ∧ wx.cell? ⟨w.heap.size + 1, 1, none⟩ = some (.slice A' n' c') ∧ wx.cell? ⟨w.heap.size, 1, none⟩ = some (.slice A n c)) (first | exact ⟨hb2.1, hb2.2.1, ha2.2.1⟩ | exact ⟨hb1.1, hb1.2.1, ha1.2.1⟩ | exact ⟨fb0, fb1, fa1⟩ | exact ⟨set2 hb2.1 (by simp), set2 hb2.2.1 (by simp), set2 ha2.2.1 (by simp; omega)⟩) (first | (go_at_call 75; refine (rsub_any A' A n' n ys xs c' c _ r2.drew r1.drew (by omega) hn2 g2 g1 HLE.out).mono ?_; rintro e w1 ⟨zs, B, d, rfl, hd, rz, kz, b1⟩; have ra1 := ra.drew.below b1 ra.drew.lt; have rb1 := rb.drew.below b1 rb.drew.lt; have ha1 := box_facts ra1; have hb1 := box_facts rb1; have hl := HL2.out zs kz; have KZ := Lib.hid kz; clear kz) | (go_at_call 48; refine (rnew_any s' B zs.length zs d _ rz hd (by omega) KZ.out.dg).mono ?_; rintro e w2 ⟨rfl, b2⟩; have rc2 := (rc.drew.below b1 rc.drew.lt).below b2 (rc.drew.below b1 rc.drew.lt).lt; have hc2 := box_facts rc2; have ha2 := box_facts (ra1.below b2 ra1.lt); have hb2 := box_facts (rb1.below b2 rb1.lt)))
      all_goals
        go_wp2_with fail
        have hpz : pl zs = zs := pl_of_can KZ.out
        have kd := zd_of (s := s') KZ.out
        rw [HS.out] at kd
        have rz2 := (rz.below b2).set2 rc2 (.bool (decide (zd s' zs < 0))) (.slice B (pl zs).length d)
        have hbw := ((((HW2.out.drew).trans (b1.mono hle')).trans (b2.mono (Nat.le_trans hle' b1.size))).setCell (p := ⟨w.heap.size + 1 + 1, 0, none⟩) (by simp; omega) (.bool (decide (zd s' zs < 0)))).setCell (p := ⟨w.heap.size + 1 + 1, 1, none⟩) (by simp; omega) (.slice B (pl zs).length d)
        exact bodyPost_ret (v := .agg #[.bool (decide (zd s' zs < 0)), .slice B (pl zs).length d]) (by simp [results, Tryd.results44, go_sem, hc2]) rfl ⟨_, zs, B, d, ret_agg rfl (by rw [hpz]) rfl, hd, rz2, kd, hbw⟩
end Go.Proofs.YtlgecdkidgjgiaaDoor
