/- The reference's ratio of a plain number. -/
import Derived.Test.YtlgecdkidgjgiaaDoorRatA
namespace Go.Proofs.YtlgecdkidgjgiaaDoor
open Go.RowKit

theorem Row.otherJ {w : World} {g g' : Nat} {e : TypeId} {arr : Array Value} (h : Row w g e arr) (j : Nat) (v : Value) (hne : g ≠ g') : Row (w.setCell ⟨g', j, none⟩ v) g e arr := h.other _ v hne
theorem rshl0 {v : Value} {z : Int} {k : Nat} {w : World} (h : DV w v z) (hz : Sz z k) (hk : k ≤ 4000) :
    Calls Tryd.prog 28 #[v, .int .i64 0] w fun e w' => ∃ u, e = .returned u ∧ DV w' u (2 ^ 0 * z) ∧ Below w.heap.size w w' := rshlD 0 h hz hk (by omega)
theorem Row.sets4 {w : World} {g g' : Nat} {e : TypeId} {arr : Array Value} (h : Row w g e arr) (u0 u1 u2 u3 : Value) (hne : g ≠ g') : Row (sets4 w g' u0 u1 u2 u3) g e arr :=
  (((h.otherJ 0 u0 hne).otherJ 1 u1 hne).otherJ 2 u2 hne).otherJ 3 u3 hne

set_option maxRecDepth 100000 in
set_option maxHeartbeats 3200000 in
theorem rratio_pos {v : Value} {m e : Int} {w : World} (h : DyV w v m e) (hz : Sz m 40) (he0 : -16384 ≤ e) (he1 : e ≤ 16384) (q : ¬ e < 0) :
    Calls Tryd.prog 31 #[v] w fun ev w' => ∃ u, ev = .returned u ∧ RV w' u m e ∧ Below w.heap.size w w' := by
  have i1 := h.idy hz
  obtain ⟨t, B, n, d, rfl⟩ := h.shape
  have hv := h.cv.iv hz
  obtain ⟨ra, rb, hw⟩ := new2 w 29 57 #[.bool t, .slice B n d, .int .i64 e] #[.bool false, .slice none 0 0, .bool false, .slice none 0 0]
  have hwn : IntKind.i64.wrap (-e) = -e := IntWalk.i64_in _ (by omega)
  obtain ⟨x, hx⟩ : ∃ x : Nat, x = e.toNat := ⟨_, rfl⟩
  obtain ⟨y, hy⟩ : ∃ y : Nat, y = (-e).toNat := ⟨_, rfl⟩
  have hm1 := fun ats ty w => mini_run ats ty e 0 0 (by omega) w
  have y0 : y = 0 := by omega
  have HN := Lib.hid (show e - 0 = (x : Int) by omega)
  have HX := Lib.hid (And.intro hx hy)
  have HB := Lib.hid (show x ≤ 65536 ∧ y ≤ 65536 by omega)
  have HZ := Lib.hid (show Sz m 40 ∧ Sz (2 ^ x * m) 297 ∧ Sz (2 ^ y * 1) 258 from ⟨hz, Sz.shl (j := 257) hz (by omega), Sz.shl (j := 257) sz_one (by omega)⟩)
  have H0 := Lib.hid y0
  clear y0
  clear h hz he0 he1 hx hy
  go_enter Tryd.func31, Tryd.ntmps31
  go_wp2_with fail
  generalize (w.alloc (.cells #[.bool t, .slice B n d, .int .i64 e] 29)).alloc (.cells #[.bool false, .slice none 0 0, .bool false, .slice none 0 0] 57) = W at *
  replace hv := hv.below hw
  refine (atV 0 (i1.below hw) (by omega) HN.out HB.out.1).mono ?_
  rintro ev w1 ⟨un, rfl, dn, b1⟩
  obtain ⟨tn, Bn, nn, kn, rfl⟩ := dn.shape
  replace ra := ra.belowR b1
  replace rb := rb.belowR b1
  replace hv := hv.below b1
  replace hw := hw.trans (b1.mono hw.size)
  have b2 := al_ w1 (.cells #[.bool tn, .slice Bn nn kn] 37)
  have lrb := rb.lt
  replace ra := ra.belowR b2
  replace rb := rb.belowR b2
  replace hv := hv.below b2
  replace dn := dn.below b2
  replace hw := hw.trans (b2.mono hw.size)
  have r3 : Row (w1.alloc (.cells #[.bool tn, .slice Bn nn kn] 37)) w1.heap.size 37 #[.bool tn, .slice Bn nn kn] := Row.newE rfl
  clear b1 b2 i1
  go_wp2_with fail
  generalize hg3 : w1.heap.size = g3 at *
  clear hg3
  generalize w1.alloc (.cells #[.bool tn, .slice Bn nn kn] 37) = w2 at *
  refine (smallD 1 (by omega) (by omega)).mono ?_
  rintro ev w3 ⟨us, rfl, ds, b1⟩
  replace ra := ra.belowR b1
  replace rb := rb.belowR b1
  replace hv := hv.below b1
  replace dn := dn.below b1
  replace r3 := r3.belowR b1
  replace hw := hw.trans (b1.mono hw.size)
  clear b1
  go_wp2_with fail
  refine (rshl0 ds sz_one (by omega)).mono ?_
  rintro ev w4 ⟨ud, rfl, dd, b1⟩
  obtain ⟨td, Bd, nd, kd, rfl⟩ := dd.shape
  replace ra := ra.belowR b1
  replace rb := rb.belowR b1
  replace hv := hv.below b1
  replace dn := dn.below b1
  replace r3 := r3.belowR b1
  replace hw := hw.trans (b1.mono hw.size)
  have b2 := al_ w4 (.cells #[.bool td, .slice Bd nd kd] 37)
  have lr3 := r3.lt
  replace ra := ra.belowR b2
  replace rb := rb.belowR b2
  replace hv := hv.below b2
  replace dn := dn.below b2
  replace r3 := r3.belowR b2
  replace dd := dd.below b2
  replace hw := hw.trans (b2.mono hw.size)
  have r4 : Row (w4.alloc (.cells #[.bool td, .slice Bd nd kd] 37)) w4.heap.size 37 #[.bool td, .slice Bd nd kd] := Row.newE rfl
  clear b1 b2 ds
  have fa := box3_facts ra
  have f3 := box_facts r3
  go_wp2_with fail
  generalize hg4 : w4.heap.size = g4 at *
  clear hg4
  generalize w4.alloc (.cells #[.bool td, .slice Bd nd kd] 37) = w5 at *
  clear fa f3
  clear ra hv
  replace rb := rb.drew
  replace r3 := r3.drew
  replace r4 := r4.drew
  replace dn := dn.below (dr_ w5)
  replace dd := dd.below (dr_ w5)
  replace hw := hw.trans ((dr_ w5).mono hw.size)
  have hcl := two_boxes r3 r4
  have hcc := True.intro
  have sz_den : Sz (2 ^ 0 * 1) 1 := by rw [Int.pow_zero, Int.one_mul]; exact sz_one
  have HD := Lib.hid sz_den
  clear sz_den
  go_region_held3 (fun wx => wx.cell? ⟨g3, 0, none⟩ = some (.bool tn) ∧ wx.cell? ⟨g3, 1, none⟩ = some (.slice Bn nn kn) ∧ wx.cell? ⟨g4, 0, none⟩ = some (.bool td) ∧ wx.cell? ⟨g4, 1, none⟩ = some (.slice Bd nd kd))
    (first | with_reducible exact hcl | (with_reducible refine two_boxes (e := 37) (e' := 37) ?_ ?_ <;> repeat (first | with_reducible exact r3 | with_reducible exact r4 | with_reducible refine Row.otherJ ?_ _ _ (by omega))))
    (first
      | (go_at_call_of 25 (Value.agg #[Value.bool tn, Value.slice Bn nn kn]); refine (toV dn HZ.out.2.1 (by omega)).mono ?_; rintro ev wa ⟨ua, rfl, ca, b1⟩; obtain ⟨ta, Ba, na, ka, rfl⟩ := ca.shape; replace rb := rb.belowR b1; replace r3 := r3.belowR b1; replace r4 := r4.belowR b1; replace hw := hw.trans (b1.mono hw.size); replace hcl := two_boxes r3 r4; replace dd := dd.below b1; clear b1)
      | (go_at_call_of 25 (Value.agg #[Value.bool td, Value.slice Bd nd kd]); refine (toV dd HD.out (by omega)).mono ?_; rintro ev wb ⟨ub, rfl, cb, b1⟩; obtain ⟨tb, Bb, nb, kb, rfl⟩ := cb.shape; replace rb := rb.belowR b1; replace r3 := r3.belowR b1; replace r4 := r4.belowR b1; replace hw := hw.trans (b1.mono hw.size); replace hcl := two_boxes r3 r4; replace ca := ca.below b1; replace hcc := box4_facts rb; clear b1))
  have k1 := ca.set4 rb ta Ba na ka tb Bb nb kb
  have k2 := cb.set4 rb ta Ba na ka tb Bb nb kb
  have rb1 := box4_set rb (.bool ta) (.slice Ba na ka) (.bool tb) (.slice Bb nb kb)
  have hw1 := below_sets4 hw (g := w.heap.size + 1) (by omega) (.bool ta) (.slice Ba na ka) (.bool tb) (.slice Bb nb kb)
  have f1 := box4_facts rb1
  unfold sets4 at f1
  clear hcl
  go_wp2_with fail
  rw [HX.out.1] at k1
  rw [← H0.out, HX.out.2] at k2
  exact bodyPost_ret (v := .agg #[.bool ta, .slice Ba na ka, .bool tb, .slice Bb nb kb]) (by simp [results, Tryd.results31, go_sem, f1]) rfl ⟨_, rfl, ⟨_, _, _, _, _, _, _, _, rfl, k1, k2⟩, hw1⟩

set_option maxRecDepth 100000 in
set_option maxHeartbeats 3200000 in
theorem rratio_neg {v : Value} {m e : Int} {w : World} (h : DyV w v m e) (hz : Sz m 40) (he0 : -16384 ≤ e) (he1 : e ≤ 16384) (q : e < 0) :
    Calls Tryd.prog 31 #[v] w fun ev w' => ∃ u, ev = .returned u ∧ RV w' u m e ∧ Below w.heap.size w w' := by
  have i1 := h.idy hz
  obtain ⟨t, B, n, d, rfl⟩ := h.shape
  have hv := h.cv.iv hz
  obtain ⟨ra, rb, hw⟩ := new2 w 29 57 #[.bool t, .slice B n d, .int .i64 e] #[.bool false, .slice none 0 0, .bool false, .slice none 0 0]
  have hwn : IntKind.i64.wrap (-e) = -e := IntWalk.i64_in _ (by omega)
  obtain ⟨x, hx⟩ : ∃ x : Nat, x = e.toNat := ⟨_, rfl⟩
  obtain ⟨y, hy⟩ : ∃ y : Nat, y = (-e).toNat := ⟨_, rfl⟩
  have hm1 := fun ats ty w => mini_run ats ty e 0 e (by omega) w
  have hye : -e = (y : Int) := by omega
  have x0 : x = 0 := by omega
  have HN := Lib.hid (show e - e = ((0 : Nat) : Int) by omega)
  replace hwn := hwn.trans hye
  have HX := Lib.hid (And.intro hx hy)
  have HB := Lib.hid (show x ≤ 65536 ∧ y ≤ 65536 by omega)
  have HZ := Lib.hid (show Sz m 40 ∧ Sz (2 ^ x * m) 297 ∧ Sz (2 ^ y * 1) 258 from ⟨hz, Sz.shl (j := 257) hz (by omega), Sz.shl (j := 257) sz_one (by omega)⟩)
  have H0 := Lib.hid x0
  have HY := Lib.hid hye
  clear x0 hye
  clear h hz he0 he1 hx hy
  go_enter Tryd.func31, Tryd.ntmps31
  go_wp2_with fail
  generalize (w.alloc (.cells #[.bool t, .slice B n d, .int .i64 e] 29)).alloc (.cells #[.bool false, .slice none 0 0, .bool false, .slice none 0 0] 57) = W at *
  replace hv := hv.below hw
  refine (atV e (i1.below hw) (by omega) HN.out (by omega)).mono ?_
  rintro ev w1 ⟨un, rfl, dn, b1⟩
  obtain ⟨tn, Bn, nn, kn, rfl⟩ := dn.shape
  replace ra := ra.belowR b1
  replace rb := rb.belowR b1
  replace hv := hv.below b1
  replace hw := hw.trans (b1.mono hw.size)
  have b2 := al_ w1 (.cells #[.bool tn, .slice Bn nn kn] 37)
  have lrb := rb.lt
  replace ra := ra.belowR b2
  replace rb := rb.belowR b2
  replace hv := hv.below b2
  replace dn := dn.below b2
  replace hw := hw.trans (b2.mono hw.size)
  have r3 : Row (w1.alloc (.cells #[.bool tn, .slice Bn nn kn] 37)) w1.heap.size 37 #[.bool tn, .slice Bn nn kn] := Row.newE rfl
  clear b1 b2 i1
  go_wp2_with fail
  generalize hg3 : w1.heap.size = g3 at *
  clear hg3
  generalize w1.alloc (.cells #[.bool tn, .slice Bn nn kn] 37) = w2 at *
  refine (smallD 1 (by omega) (by omega)).mono ?_
  rintro ev w3 ⟨us, rfl, ds, b1⟩
  replace ra := ra.belowR b1
  replace rb := rb.belowR b1
  replace hv := hv.below b1
  replace dn := dn.below b1
  replace r3 := r3.belowR b1
  replace hw := hw.trans (b1.mono hw.size)
  clear b1
  go_wp2_with fail
  refine (rshl0 ds sz_one (by omega)).mono ?_
  rintro ev w4 ⟨ud, rfl, dd, b1⟩
  obtain ⟨td, Bd, nd, kd, rfl⟩ := dd.shape
  replace ra := ra.belowR b1
  replace rb := rb.belowR b1
  replace hv := hv.below b1
  replace dn := dn.below b1
  replace r3 := r3.belowR b1
  replace hw := hw.trans (b1.mono hw.size)
  have b2 := al_ w4 (.cells #[.bool td, .slice Bd nd kd] 37)
  have lr3 := r3.lt
  replace ra := ra.belowR b2
  replace rb := rb.belowR b2
  replace hv := hv.below b2
  replace dn := dn.below b2
  replace r3 := r3.belowR b2
  replace dd := dd.below b2
  replace hw := hw.trans (b2.mono hw.size)
  have r4 : Row (w4.alloc (.cells #[.bool td, .slice Bd nd kd] 37)) w4.heap.size 37 #[.bool td, .slice Bd nd kd] := Row.newE rfl
  clear b1 b2 ds
  have fa := box3_facts ra
  have f3 := box_facts r3
  go_wp2_with fail
  generalize hg4 : w4.heap.size = g4 at *
  clear hg4
  generalize w4.alloc (.cells #[.bool td, .slice Bd nd kd] 37) = w5 at *
  clear fa f3
  refine (fromV hv (by omega)).mono ?_
  rintro ev w6 ⟨uf, rfl, df, b1⟩
  obtain ⟨tf, Bf, nf, kf, rfl⟩ := df.shape
  clear dn dd
  replace ra := ra.belowR b1
  replace rb := rb.belowR b1
  replace hv := hv.below b1
  replace r3 := r3.belowR b1
  replace r4 := r4.belowR b1
  replace hw := hw.trans (b1.mono hw.size)
  clear b1
  have f3 := box_facts r3
  have d1 := df.sets r3 (.bool tf) (.slice Bf nf kf)
  have r3n := box_set r3 (.bool tf) (.slice Bf nf kf)
  replace ra := ra.sets (.bool tf) (.slice Bf nf kf) (g' := g3) (by omega)
  replace rb := rb.sets (.bool tf) (.slice Bf nf kf) (g' := g3) (by omega)
  replace r4 := r4.sets (.bool tf) (.slice Bf nf kf) (g' := g3) (by omega)
  replace hw := Below.sets hw (g := g3) (by omega) (.bool tf) (.slice Bf nf kf)
  clear hv
  go_upto_region 5 with fail
  generalize (w6.setCell ⟨g3, 0, none⟩ (.bool tf)).setCell ⟨g3, 1, none⟩ (.slice Bf nf kf) = w7 at *
  clear f3 r3 df
  replace ra := ra.drew
  replace rb := rb.drew
  replace r3 := r3n.drew
  replace r4 := r4.drew
  replace d1 := d1.below (dr_ w7)
  replace hw := hw.trans ((dr_ w7).mono hw.size)
  clear r3n
  have hcl := (box3_facts ra).2.2.1
  have hcc := True.intro
  go_region_held3 (fun wx => wx.cell? ⟨w.heap.size, 2, none⟩ = some (.int .i64 e))
    (first | with_reducible exact hcl | exact (box3_facts (ra.sets (.bool tu) (.slice Bu nu ku) (g' := g4) (by omega))).2.2.1)
    (first
      | (go_at_call 66; refine (smallD 1 (by omega) (by omega)).mono ?_; rintro ev w8 ⟨us, rfl, ds, b1⟩; replace ra := ra.belowR b1; replace rb := rb.belowR b1; replace r3 := r3.belowR b1; replace r4 := r4.belowR b1; replace d1 := d1.below b1; replace hw := hw.trans (b1.mono hw.size); replace hcl := (box3_facts ra).2.2.1; clear b1)
      | (go_at_call 28; refine (rshlD y ds sz_one (by omega) (Nat.le_trans HB.out.2 (by omega))).mono ?_; rintro ev w9 ⟨uu, rfl, du, b1⟩; obtain ⟨tu, Bu, nu, ku, rfl⟩ := du.shape; replace ra := ra.belowR b1; replace rb := rb.belowR b1; replace r3 := r3.belowR b1; replace r4 := r4.belowR b1; replace d1 := d1.below b1; replace hw := hw.trans (b1.mono hw.size); replace hcl := (box3_facts ra).2.2.1; replace hcc := box_facts r4; clear b1))
  have d2 := du.sets r4 (.bool tu) (.slice Bu nu ku)
  have d3 := d1.sets r4 (.bool tu) (.slice Bu nu ku)
  have r4n := box_set r4 (.bool tu) (.slice Bu nu ku)
  replace rb := rb.sets (.bool tu) (.slice Bu nu ku) (g' := g4) (by omega)
  replace r3 := r3.sets (.bool tu) (.slice Bu nu ku) (g' := g4) (by omega)
  replace hw := Below.sets hw (g := g4) (by omega) (.bool tu) (.slice Bu nu ku)
  clear hcl hcc r4 du d1 ds ra
  go_upto_region 6 with fail
  generalize (w9.setCell ⟨g4, 0, none⟩ (.bool tu)).setCell ⟨g4, 1, none⟩ (.slice Bu nu ku) = w10 at *
  have r4 := r4n
  clear r4n
  replace rb := rb.drew
  replace r3 := r3.drew
  replace r4 := r4.drew
  replace d3 := d3.below (dr_ w10)
  replace d2 := d2.below (dr_ w10)
  replace hw := hw.trans ((dr_ w10).mono hw.size)
  have hcl := two_boxes r3 r4
  have hcc := True.intro
  go_region_held3 (fun wx => wx.cell? ⟨g3, 0, none⟩ = some (.bool tf) ∧ wx.cell? ⟨g3, 1, none⟩ = some (.slice Bf nf kf) ∧ wx.cell? ⟨g4, 0, none⟩ = some (.bool tu) ∧ wx.cell? ⟨g4, 1, none⟩ = some (.slice Bu nu ku))
    (first | with_reducible exact hcl | (with_reducible refine two_boxes (e := 37) (e' := 37) ?_ ?_ <;> repeat (first | with_reducible exact r3 | with_reducible exact r4 | with_reducible refine Row.otherJ ?_ _ _ (by omega))))
    (first
      | (go_at_call_of 25 (Value.agg #[Value.bool tf, Value.slice Bf nf kf]); refine (toV d3 HZ.out.1 (by omega)).mono ?_; rintro ev wa ⟨ua, rfl, ca, b1⟩; obtain ⟨ta, Ba, na, ka, rfl⟩ := ca.shape; replace rb := rb.belowR b1; replace r3 := r3.belowR b1; replace r4 := r4.belowR b1; replace hw := hw.trans (b1.mono hw.size); replace hcl := two_boxes r3 r4; replace d2 := d2.below b1; clear b1)
      | (go_at_call_of 25 (Value.agg #[Value.bool tu, Value.slice Bu nu ku]); refine (toV d2 HZ.out.2.2 (by omega)).mono ?_; rintro ev wb ⟨ub, rfl, cb, b1⟩; obtain ⟨tb, Bb, nb, kb, rfl⟩ := cb.shape; replace rb := rb.belowR b1; replace r3 := r3.belowR b1; replace r4 := r4.belowR b1; replace hw := hw.trans (b1.mono hw.size); replace hcl := two_boxes r3 r4; replace ca := ca.below b1; replace hcc := box4_facts rb; clear b1))
  have k1 := ca.set4 rb ta Ba na ka tb Bb nb kb
  have k2 := cb.set4 rb ta Ba na ka tb Bb nb kb
  have rb1 := box4_set rb (.bool ta) (.slice Ba na ka) (.bool tb) (.slice Bb nb kb)
  have hw1 := below_sets4 hw (g := w.heap.size + 1) (by omega) (.bool ta) (.slice Ba na ka) (.bool tb) (.slice Bb nb kb)
  have f1 := box4_facts rb1
  unfold sets4 at f1
  clear hcl
  go_wp2_with fail
  have e1 : m = 2 ^ e.toNat * m := by rw [← HX.out.1, H0.out, Int.pow_zero, Int.one_mul]
  have e2 := HX.out.2
  rw [e1] at k1
  rw [e2] at k2
  exact bodyPost_ret (v := .agg #[.bool ta, .slice Ba na ka, .bool tb, .slice Bb nb kb]) (by simp [results, Tryd.results31, go_sem, f1]) rfl ⟨_, rfl, ⟨_, _, _, _, _, _, _, _, rfl, k1, k2⟩, hw1⟩

theorem rratioV {v : Value} {m e : Int} {w : World} (h : DyV w v m e) (hz : Sz m 40) (he0 : -16384 ≤ e) (he1 : e ≤ 16384) :
    Calls Tryd.prog 31 #[v] w fun ev w' => ∃ u, ev = .returned u ∧ RV w' u m e ∧ Below w.heap.size w w' := by
  by_cases q : e < 0
  · exact rratio_neg h hz he0 he1 q
  · exact rratio_pos h hz he0 he1 q
end Go.Proofs.YtlgecdkidgjgiaaDoor
