/- The walks of whole's functions: sums. -/
import Derived.Test.YtlgecdkidgjgiaaDoorWhA
namespace Go.Proofs.YtlgecdkidgjgiaaDoor
open Go.RowKit

set_option maxHeartbeats 1600000 in
theorem wadd_any (s s' : Bool) (A A' : Option Addr) (n n' : Nat) (xs ys : List Int) (c c' : Nat) (w : World) (hr : RdS w .u64 A n xs) (hr' : RdS w .u64 A' n' ys) (hc : n ≤ c) (hc' : n' ≤ c')
    (hsm : n ≤ 1048576) (hsm' : n' ≤ 1048576) (hx : Dg B64 xs) (hy : Dg B64 ys) :
    Calls Tryd.prog 53 #[.agg #[.bool s, .slice A n c], .agg #[.bool s', .slice A' n' c']] w fun e w' => ∃ (t : Bool) (zs : List Int) (B : Option Addr),
      e = .returned (.agg #[.bool t, .slice B zs.length zs.length]) ∧ RdS w' .u64 B zs.length zs ∧ CanI t zs (zi s xs + zi s' ys) ∧ Below w.heap.size w w' := by
  have l1 := pl_le xs
  have l2 := pl_le ys
  rw [hr.len] at l1
  rw [hr'.len] at l2
  have k1 := zi_plain (s := s) hx
  have k2 := zi_plain (s := s') hy
  have r1 := hr.plain
  have r2 := hr'.plain
  have p1 := fun w hw => wplain_any s A n xs c w hw hc (by omega) hx
  have p2 := fun w hw => wplain_any s' A' n' ys c' w hw hc' (by omega) hy
  generalize zi s xs = X at *
  generalize zi s' ys = Y at *
  generalize pl xs = us at *
  generalize pl ys = vs at *
  obtain ⟨p, hp⟩ : ∃ p, p = us.length := ⟨_, rfl⟩
  obtain ⟨q, hq⟩ : ∃ q, q = vs.length := ⟨_, rfl⟩
  rw [← hp] at r1 l1 p1
  rw [← hq] at r2 l2 p2
  have HP := Lib.hid hp
  have HQ := Lib.hid hq
  have K1 := Lib.hid k1
  have K2 := Lib.hid k2
  clear hp hq k1 k2
  obtain ⟨t1, ht1⟩ : ∃ t1, t1 = decide (X < 0) := ⟨_, rfl⟩
  obtain ⟨t2, ht2⟩ : ∃ t2, t2 = decide (Y < 0) := ⟨_, rfl⟩
  rw [← ht1] at p1 K1
  rw [← ht2] at p2 K2
  have HT1 := Lib.hid ht1
  have HT2 := Lib.hid ht2
  clear ht1 ht2
  go_enter Tryd.func53, Tryd.ntmps53
  go_wp2_with fail
  go_upto_region 1 with fail
  go_cut [] (fun wx => Row wx w.heap.size 27 #[.bool t1, .slice A p p] ∧ Row wx (w.heap.size + 1) 27 #[.bool t2, .slice A' q q] ∧ Row wx (w.heap.size + 1 + 1) 27 #[.bool false, .slice none 0 0] ∧ Below w.heap.size w wx)
  case first =>
    obtain ⟨ra, rb, rc, hw, hsz⟩ := new3 w 27 27 27 #[.bool s, .slice A n c] #[.bool s', .slice A' n' c'] #[.bool false, .slice none 0 0]
    generalize ((w.alloc (.cells #[.bool s, .slice A n c] 27)).alloc (.cells #[.bool s', .slice A' n' c'] 27)).alloc (.cells #[.bool false, .slice none 0 0] 27) = W at *
    have q1 := (hr.below hw).drew
    have q2 := (hr'.below hw).drew
    have ha := box_facts ra.drew
    have hb := box_facts rb.drew
    have HW := Lib.hid hw
    clear hw
    go_region_with (first | (go_at_call_of 58 (Value.agg #[Value.bool s, Value.slice A n c]); refine (p1 _ q1).mono ?_; rintro e w1 ⟨rfl, b1⟩; have ha1 := box_facts (ra.drew.below b1 ra.drew.lt); have hb1 := box_facts (rb.drew.below b1 rb.drew.lt)) | (go_at_call_of 58 (Value.agg #[Value.bool s', Value.slice A' n' c']); refine (p2 _ (q2.below b1)).mono ?_; rintro e w2 ⟨rfl, b2⟩; have ra2 := ((ra.drew.below b1 ra.drew.lt).below b2 (ra.drew.below b1 ra.drew.lt).lt); have rb2 := ((rb.drew.below b1 rb.drew.lt).below b2 (rb.drew.below b1 rb.drew.lt).lt); have rc2 := ((rc.drew.below b1 rc.drew.lt).below b2 (rc.drew.below b1 rc.drew.lt).lt); have ha2 := box_facts ra2; have hb2 := box_facts rb2))
    all_goals
      go_wp2_with fail
      go_meet
      have hle : w.heap.size ≤ W.drew.heap.size := by show w.heap.size ≤ W.heap.size; omega
      have hbw := ((HW.out.drew).trans (b1.mono hle)).trans (b2.mono (Nat.le_trans hle b1.size))
      exact ⟨((box_set ra2 _ _).other _ _ (by simp)).other _ _ (by simp), box_set ((rb2.other _ _ (by simp)).other _ _ (by simp)) _ _, (((rc2.other _ _ (by simp; omega)).other _ _ (by simp; omega)).other _ _ (by simp)).other _ _ (by simp),
        (((hbw.setCell (Nat.le_refl _) _).setCell (Nat.le_refl _) _).setCell (by simp) _).setCell (by simp) _⟩
  case rest =>
    obtain ⟨ra, rb, rc, hbel⟩ := hcut
    replace r1 := r1.below hbel
    replace r2 := r2.below hbel
    obtain ⟨fa0, fa1, fa2, fa3⟩ := box_facts ra
    obtain ⟨fb0, fb1, fb2, fb3⟩ := box_facts rb
    obtain ⟨fc0, fc1, fc2, fc3⟩ := box_facts rc
    have g1 := K1.out.can.dg
    have g2 := K2.out.can.dg
    have u1 := K1.out.zi
    have u2 := K2.out.zi
    have v1 := (vl_bd g1).1
    have v2 := (vl_bd g2).1
    have z1 : Sz (vl B64 us) p := by rw [HP.out]; exact Sz.vl g1
    have z2 : Sz (vl B64 vs) q := by rw [HQ.out]; exact Sz.vl g2
    have hlen : ∀ (zs : List Int), Can B64 zs (vl B64 us + vl B64 vs) → zs.length ≤ 16777216 := fun zs kz => by
      have := kz.len ((z1.mono (show p ≤ max p q by omega)).add (z2.mono (show q ≤ max p q by omega)) (Nat.le_refl _))
      omega
    by_cases ht : t1 = t2
    · subst ht
      have hsum : ∀ (zs : List Int), Can B64 zs (vl B64 us + vl B64 vs) → zi t1 zs = X + Y := fun zs kz => by
        rw [← u1, ← u2]; unfold zi; rw [kz.val]; split <;> omega
      have HS := Lib.hid hsum
      have HL := Lib.hid hlen
      have htb : (t1 == t1) = true := by simp
      clear hsum hlen u1 u2 v1 v2 z1 z2
      go_wp2_with fail
      go_region_held3 (fun wx => wx.cell? ⟨w.heap.size, 0, none⟩ = some (.bool t1) ∧ wx.cell? ⟨w.heap.size, 1, none⟩ = some (.slice A p p) ∧ wx.cell? ⟨w.heap.size + 1, 1, none⟩ = some (.slice A' q q)) (first | exact ⟨ha2.1, ha2.2.1, hb2.2.1⟩ | exact ⟨ha1.1, ha1.2.1, hb1.2.1⟩ | exact ⟨fa0, fa1, fb1⟩ | exact ⟨set2 ha2.1 (by simp; omega), set2 ha2.2.1 (by simp; omega), set2 hb2.2.1 (by simp)⟩) (first | (go_at_call 79; refine (add_any A A' p q us vs p q _ r1.drew r2.drew (Nat.le_refl _) (Nat.le_refl _) (by omega) (by omega) g1 g2).mono ?_; rintro e w1 ⟨zs, B, rfl, rz, kz, b1⟩; have ra1 := (ra.drew.below b1 ra.drew.lt); have rb1 := (rb.drew.below b1 rb.drew.lt); have ha1 := box_facts ra1; have hb1 := box_facts rb1; have KZ := Lib.hid kz; clear kz) | (go_at_call 58; refine (wplain_any t1 B zs.length zs zs.length _ rz (Nat.le_refl _) (HL.out zs KZ.out) KZ.out.dg).mono ?_; rintro e w2 ⟨rfl, b2⟩; have rc2 := ((rc.drew.below b1 rc.drew.lt).below b2 (rc.drew.below b1 rc.drew.lt).lt); have hc2 := box_facts rc2; have ha2 := box_facts (ra1.below b2 ra1.lt); have hb2 := box_facts (rb1.below b2 rb1.lt)))
      all_goals
        go_wp2_with fail
        have hpz : pl zs = zs := pl_of_can KZ.out
        have kz := zi_plain (s := t1) KZ.out.dg
        rw [HS.out zs KZ.out, hpz] at kz
        have rz2 := (rz.below b2).set2 rc2 (.bool (decide (zi t1 zs < 0))) (.slice B (pl zs).length (pl zs).length)
        have hb2 := (((hbel.drew.trans (b1.mono hbel.size)).trans (b2.mono (Nat.le_trans hbel.size b1.size))).setCell (p := ⟨w.heap.size + 1 + 1, 0, none⟩) (by simp; omega) (.bool (decide (zi t1 zs < 0)))).setCell (p := ⟨w.heap.size + 1 + 1, 1, none⟩) (by simp; omega) (.slice B (pl zs).length (pl zs).length)
        exact bodyPost_ret (v := .agg #[.bool (decide (zi t1 zs < 0)), .slice B (pl zs).length (pl zs).length]) (by simp [results, Tryd.results53, go_sem, hc2]) rfl ⟨_, zs, B, ret_agg (by rw [HS.out zs KZ.out]) (by rw [hpz]) (by rw [hpz]), rz2, kz, hb2⟩
    · have htb : (t1 == t2) = false := by simpa using ht
      have HT := Lib.hid ht
      clear ht hlen
      by_cases hle : vl B64 vs ≤ vl B64 us
      · have hsum : ∀ (zs : List Int), Can B64 zs (vl B64 us - vl B64 vs) → zi t1 zs = X + Y := fun zs kz => by
          have := HT.out
          rw [← u1, ← u2]; unfold zi; rw [kz.val]; cases t1 <;> cases t2 <;> simp at this ⊢ <;> omega
        have hlen : ∀ (zs : List Int), Can B64 zs (vl B64 us - vl B64 vs) → zs.length ≤ 16777216 := fun zs kz => by
          have := kz.len (show Sz _ p by unfold Sz at z1 ⊢; omega)
          omega
        have HS := Lib.hid hsum
        have HL := Lib.hid hlen
        clear hsum hlen u1 u2 v1 v2 z1 z2
        go_wp2_with fail
        refine (sub_any A A' p q us vs p q wc r1 r2 (Nat.le_refl _) (Nat.le_refl _) (by omega) (by omega) g1 g2 hle).mono ?_
        clear hle
        rintro e w1 ⟨zs, B, rfl, rz, kz, b1⟩
        have KZ := Lib.hid kz
        clear kz
        have ra1 := ra.below b1 ra.lt
        have ha1 := box_facts ra1
        go_wp2_with fail
        refine (wplain_any t1 B zs.length zs zs.length _ rz (Nat.le_refl _) (HL.out zs KZ.out) KZ.out.dg).mono ?_
        rintro e w2 ⟨rfl, b2⟩
        have rc2 := ((rc.below b1 rc.lt).below b2 (rc.below b1 rc.lt).lt)
        have hc2 := box_facts rc2
        go_wp2_with fail
        have hpz : pl zs = zs := pl_of_can KZ.out
        have kz := zi_plain (s := t1) KZ.out.dg
        rw [HS.out zs KZ.out, hpz] at kz
        have rz2 := (rz.below b2).set2 rc2 (.bool (decide (zi t1 zs < 0))) (.slice B (pl zs).length (pl zs).length)
        have hb2 := (((hbel.trans (b1.mono hbel.size)).trans (b2.mono (Nat.le_trans hbel.size b1.size))).setCell (p := ⟨w.heap.size + 1 + 1, 0, none⟩) (by simp; omega) (.bool (decide (zi t1 zs < 0)))).setCell (p := ⟨w.heap.size + 1 + 1, 1, none⟩) (by simp; omega) (.slice B (pl zs).length (pl zs).length)
        exact bodyPost_ret (v := .agg #[.bool (decide (zi t1 zs < 0)), .slice B (pl zs).length (pl zs).length]) (by simp [results, Tryd.results53, go_sem, hc2]) rfl ⟨_, zs, B, ret_agg (by rw [HS.out zs KZ.out]) (by rw [hpz]) (by rw [hpz]), rz2, kz, hb2⟩
      · have hlt : vl B64 us < vl B64 vs := by omega
        have hge : vl B64 us ≤ vl B64 vs := by omega
        have hsum : ∀ (zs : List Int), Can B64 zs (vl B64 vs - vl B64 us) → zi t2 zs = X + Y := fun zs kz => by
          have := HT.out
          rw [← u1, ← u2]; unfold zi; rw [kz.val]; cases t1 <;> cases t2 <;> simp at this ⊢ <;> omega
        have hlen : ∀ (zs : List Int), Can B64 zs (vl B64 vs - vl B64 us) → zs.length ≤ 16777216 := fun zs kz => by
          have := kz.len (show Sz _ q by unfold Sz at z2 ⊢; omega)
          omega
        have HS := Lib.hid hsum
        have HL := Lib.hid hlen
        have HG := Lib.hid hge
        clear hsum hlen u1 u2 v1 v2 z1 z2 hle hge
        go_wp2_with fail
        refine (sub_less A A' p q us vs p q wc r1 r2 (Nat.le_refl _) (Nat.le_refl _) (by omega) (by omega) g1 g2 hlt).mono ?_
        clear hlt
        rintro e w0 ⟨rfl, b0⟩
        have ra0 := ra.below b0 ra.lt
        have rb0 := rb.below b0 rb.lt
        have rc0 := rc.below b0 rc.lt
        have ha0 := box_facts ra0
        have hb0 := box_facts rb0
        replace hbel := hbel.trans (b0.mono hbel.size)
        go_wp2_with fail
        refine (sub_any A' A q p vs us q p w0 (r2.below b0) (r1.below b0) (Nat.le_refl _) (Nat.le_refl _) (by omega) (by omega) g2 g1 HG.out).mono ?_
        rintro e w1 ⟨zs, B, rfl, rz, kz, b1⟩
        have KZ := Lib.hid kz
        clear kz
        have ra1 := ra0.below b1 ra0.lt
        have rb1 := rb0.below b1 rb0.lt
        have ha1 := box_facts ra1
        have hb1 := box_facts rb1
        go_wp2_with fail
        have rz1 := rz.set2 ra1 (.bool t2) (.slice A' q q)
        have rc1 := ((rc0.below b1 rc0.lt).other ⟨w.heap.size, 0, none⟩ (.bool t2) (by simp; omega)).other ⟨w.heap.size, 1, none⟩ (.slice A' q q) (by simp; omega)
        have hbel2 := ((hbel.trans (b1.mono hbel.size)).setCell (p := ⟨w.heap.size, 0, none⟩) (Nat.le_refl _) (.bool t2)).setCell (p := ⟨w.heap.size, 1, none⟩) (Nat.le_refl _) (.slice A' q q)
        refine (wplain_any t2 B zs.length zs zs.length _ rz1 (Nat.le_refl _) (HL.out zs KZ.out) KZ.out.dg).mono ?_
        rintro e w2 ⟨rfl, b2⟩
        have rc2 := rc1.below b2 rc1.lt
        have hc2 := box_facts rc2
        go_wp2_with fail
        have hpz : pl zs = zs := pl_of_can KZ.out
        have kz := zi_plain (s := t2) KZ.out.dg
        rw [HS.out zs KZ.out, hpz] at kz
        have rz2 := (rz1.below b2).set2 rc2 (.bool (decide (zi t2 zs < 0))) (.slice B (pl zs).length (pl zs).length)
        have hb2 := ((hbel2.trans (b2.mono hbel2.size)).setCell (p := ⟨w.heap.size + 1 + 1, 0, none⟩) (by simp; omega) (.bool (decide (zi t2 zs < 0)))).setCell (p := ⟨w.heap.size + 1 + 1, 1, none⟩) (by simp; omega) (.slice B (pl zs).length (pl zs).length)
        exact bodyPost_ret (v := .agg #[.bool (decide (zi t2 zs < 0)), .slice B (pl zs).length (pl zs).length]) (by simp [results, Tryd.results53, go_sem, hc2]) rfl ⟨_, zs, B, ret_agg (by rw [HS.out zs KZ.out]) (by rw [hpz]) (by rw [hpz]), rz2, kz, hb2⟩
end Go.Proofs.YtlgecdkidgjgiaaDoor
