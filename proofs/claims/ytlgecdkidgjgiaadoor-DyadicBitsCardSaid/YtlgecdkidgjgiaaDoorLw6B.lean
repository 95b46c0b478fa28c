/- The walk of the law of bits as dyadic numbers. -/
import Derived.Test.YtlgecdkidgjgiaaDoorLw6A
import Derived.Test.YtlgecdkidgjgiaaDoorCode
import Derived.Test.YtlgecdkidgjgiaaDoorRatB
import Derived.Test.YtlgecdkidgjgiaaDoorRatC
namespace Go.Proofs.YtlgecdkidgjgiaaDoor
open Go.RowKit

theorem rows10 {w : World} {g g' g'' : Nat} {e e' e'' : TypeId} {a0 a1 a2 b0 b1 b2 c0 c1 c2 c3 : Value} (h : Row w g e #[a0, a1, a2]) (h' : Row w g' e' #[b0, b1, b2]) (h'' : Row w g'' e'' #[c0, c1, c2, c3]) :
    w.cell? ⟨g, 0, none⟩ = some a0 ∧ w.cell? ⟨g, 1, none⟩ = some a1 ∧ w.cell? ⟨g, 2, none⟩ = some a2 ∧ w.cell? ⟨g', 0, none⟩ = some b0 ∧ w.cell? ⟨g', 1, none⟩ = some b1 ∧ w.cell? ⟨g', 2, none⟩ = some b2 ∧
      w.cell? ⟨g'', 0, none⟩ = some c0 ∧ w.cell? ⟨g'', 1, none⟩ = some c1 ∧ w.cell? ⟨g'', 2, none⟩ = some c2 ∧ w.cell? ⟨g'', 3, none⟩ = some c3 :=
  ⟨(box3_facts h).1, (box3_facts h).2.1, (box3_facts h).2.2.1, (box3_facts h').1, (box3_facts h').2.1, (box3_facts h').2.2.1, (box4_facts h'').1, (box4_facts h'').2.1, (box4_facts h'').2.2.1, (box4_facts h'').2.2.2.1⟩

theorem dof_bad (b : Int) (w : World) (h0 : 0 ≤ b) (h1 : b < B64) (hx : fX b = 2047) :
    Calls Tryd.prog 10 #[.int .u64 b] w fun ev w' => ev = .returned (.tuple #[.agg #[.bool false, .slice none 0 0, .int .i64 0], .iface 74 (.int .i64 1)]) ∧ Below w.heap.size w w' := by
  have ra := Row.new w 29 #[.bool false, .slice none 0 0, .int .i64 0]
  have hw := al_ w (.cells #[.bool false, .slice none 0 0, .int .i64 0] 29)
  go_enter Tryd.func10, Tryd.ntmps10
  go_wp2_with fail
  generalize w.alloc (.cells #[.bool false, .slice none 0 0, .int .i64 0] 29) = W at *
  refine (parts_bad b W h0 h1 hx).mono ?_
  rintro ev w1 ⟨rfl, rfl⟩
  have f1 := box3_facts ra
  have f2 := box3_facts (box3_set ra (.bool false) (.slice none 0 0) (.int .i64 0))
  go_wp2_with fail
  exact bodyPost_ret (v := .tuple #[.agg #[.bool false, .slice none 0 0, .int .i64 0], .iface 74 (.int .i64 1)]) (by simp [results, Tryd.results10, go_sem, f2]) rfl
    ⟨rfl, Below.sets3 hw (Nat.le_refl _) _ _ _⟩

set_option maxHeartbeats 1600000 in
theorem bits_bad (b : Int) (w : World) (ht : TabOk w) (he : ErrOk w) (h0 : 0 ≤ b) (h1 : b < B64) (hx : fX b = 2047) :
    Calls Tryd.prog 6 #[.int .u64 b] w fun ev w' => ev = .returned (.bool true) ∧ Below w.heap.size w w' := by
  have ea : (fX b != 2047) = false := by simpa using hx
  go_enter Tryd.func6, Tryd.ntmps6
  go_wp2_with fail
  refine (awake6_any w ht).mono ?_
  rintro ev w1 ⟨rfl, hw⟩
  go_wp2_with fail
  refine (dof_bad b w1 h0 h1 hx).mono ?_
  rintro ev w2 ⟨rfl, b2⟩
  replace hw := hw.trans (b2.mono hw.size)
  have b3 := al_ w2 (.cells #[.bool false, .slice none 0 0, .int .i64 0] 29)
  have ra : Row (w2.alloc (.cells #[.bool false, .slice none 0 0, .int .i64 0] 29)) w2.heap.size 29 #[.bool false, .slice none 0 0, .int .i64 0] := Row.newE rfl
  replace hw := hw.trans (b3.mono hw.size)
  clear b2 b3
  go_wp2_with fail
  generalize hG : w2.heap.size = g at *
  clear hG
  generalize w2.alloc (.cells #[.bool false, .slice none 0 0, .int .i64 0] 29) = w3 at *
  refine (rfinite_any b w3 h0 h1).mono ?_
  rintro ev w4 ⟨rfl, b2⟩
  replace hw := hw.trans (b2.mono hw.size)
  replace ra := ra.belowR b2
  clear b2
  rw [ea]
  go_wp2_with fail
  refine (code_any 1 (by omega) _ (he.below hw)).mono ?_
  rintro ev w5 ⟨rfl, b2⟩
  replace hw := hw.trans (b2.mono hw.size)
  replace ra := ra.belowR b2
  clear b2
  have f1 := box3_facts ra
  go_wp2_with fail
  refine (rsameY (DyV.zero _) (DyV.zero _) sz_zero (by omega)).mono ?_
  rintro ev w6 ⟨rfl, b2⟩
  go_wp2_with fail
  go_ret
  exact ⟨rfl, hw.trans (b2.mono hw.size)⟩

set_option maxRecDepth 100000 in
set_option maxHeartbeats 3200000 in
theorem bits_fin (b : Int) (w : World) (ht : TabOk w) (h0 : 0 ≤ b) (h1 : b < B64) (hx : fX b ≠ 2047) :
    Calls Tryd.prog 6 #[.int .u64 b] w fun ev w' => ev = .returned (.bool true) ∧ Below w.heap.size w w' := by
  have ea : (fX b != 2047) = true := by simpa using hx
  obtain ⟨m, e, hm, hf⟩ := mk_some (fval_bd b) (E := -1074) (by omega) (by omega) (by omega)
  have hu : mk (fM b) (fE b) = some (m, e) := by
    have be := fE_bd b
    rw [← hm]
    unfold fval
    rw [← mk_units (m := fM b) (show (-1074 : Int) ≤ fE b by omega), show fE b - -1074 = fE b + 1074 by omega]
  have hp : plain2 m e = some (m, e) := (show plain2 m e = mk m e from if_pos (hf.may (by omega) (by omega))).trans (hf.mkE.trans hm)
  have hz : Sz m 40 := hf.sz (by omega)
  have hl := hf.lo
  have hh := hf.hi
  have HM := Lib.hid hm
  have HU := Lib.hid hu
  have HP := Lib.hid hp
  have HZ := Lib.hid hz
  have HE := Lib.hid (show -16384 ≤ e ∧ e ≤ 16384 from ⟨by omega, hh⟩)
  have HF := Lib.hid (sz_of_abs (k := 33) (fval_bd b) (by decide))
  clear hm hf hu hp hz hl hh
  go_enter Tryd.func6, Tryd.ntmps6
  go_wp2_with fail
  refine (awake6_any w ht).mono ?_
  rintro ev w1 ⟨rfl, hw⟩
  go_wp2_with fail
  refine (dofV b h0 h1 hx (ht.below hw)).mono ?_
  rintro ev w2 ⟨u, rfl, hres, b2⟩
  rw [HU.out] at hres
  obtain ⟨dd, rfl, d1⟩ := hres
  obtain ⟨t, B, n, d, rfl⟩ := d1.shape
  replace hw := hw.trans (b2.mono hw.size)
  have b3 := al_ w2 (.cells #[.bool t, .slice B n d, .int .i64 e] 29)
  have r1 : Row (w2.alloc (.cells #[.bool t, .slice B n d, .int .i64 e] 29)) w2.heap.size 29 #[.bool t, .slice B n d, .int .i64 e] := Row.newE rfl
  replace d1 := d1.below b3
  replace hw := hw.trans (b3.mono hw.size)
  clear b2 b3
  go_wp2_with fail
  generalize hG : w2.heap.size = g at *
  clear hG
  generalize w2.alloc (.cells #[.bool t, .slice B n d, .int .i64 e] 29) = w3 at *
  refine (rfinite_any b w3 h0 h1).mono ?_
  rintro ev w4 ⟨rfl, b2⟩
  replace hw := hw.trans (b2.mono hw.size)
  replace r1 := r1.belowR b2
  replace d1 := d1.below b2
  clear b2
  rw [ea]
  go_wp2_with fail
  refine (numV b h0 h1).mono ?_
  rintro ev w5 ⟨un, rfl, hn, b2⟩
  replace hn : DV w5 un (fval b) := hn
  obtain ⟨tn, Bn, nn, dn, rfl⟩ := hn.shape
  replace hw := hw.trans (b2.mono hw.size)
  replace r1 := r1.belowR b2
  replace d1 := d1.below b2
  clear b2
  go_wp2_with fail
  refine (rmadeD (-1074) hn HF.out (by omega) (by omega) (by omega)).mono ?_
  rintro ev w6 ⟨um, rfl, hres, b2⟩
  rw [HM.out] at hres
  obtain ⟨d', rfl, d2⟩ := hres
  obtain ⟨t', B', n', c', rfl⟩ := d2.shape
  replace hw := hw.trans (b2.mono hw.size)
  replace r1 := r1.belowR b2
  replace d1 := d1.below b2
  have b3 := al_ w6 (.cells #[.bool t', .slice B' n' c', .int .i64 e] 29)
  have r2 : Row (w6.alloc (.cells #[.bool t', .slice B' n' c', .int .i64 e] 29)) w6.heap.size 29 #[.bool t', .slice B' n' c', .int .i64 e] := Row.newE rfl
  replace d1 := d1.below b3
  replace d2 := d2.below b3
  replace r1 := r1.belowR b3
  replace hw := hw.trans (b3.mono hw.size)
  have f1 := box3_facts r1
  clear b2 b3 hn
  go_wp2_with fail
  generalize hG : w6.heap.size = g' at *
  clear hG
  generalize w6.alloc (.cells #[.bool t', .slice B' n' c', .int .i64 e] 29) = w7 at *
  clear f1
  refine (dratioV d1 HP.out HZ.out HE.out.1 HE.out.2 (ht.below hw)).mono ?_
  rintro ev w8 ⟨ur, rfl, v1, b2⟩
  have v1' := v1
  obtain ⟨p0, p1, p2, p3, q0, q1, q2, q3, rfl, -, -⟩ := v1'
  replace hw := hw.trans (b2.mono hw.size)
  replace r1 := r1.belowR b2
  replace r2 := r2.belowR b2
  replace d1 := d1.below b2
  replace d2 := d2.below b2
  have b3 := al_ w8 (.cells #[.bool p0, .slice p1 p2 p3, .bool q0, .slice q1 q2 q3] 57)
  have r3 : Row (w8.alloc (.cells #[.bool p0, .slice p1 p2 p3, .bool q0, .slice q1 q2 q3] 57)) w8.heap.size 57 #[.bool p0, .slice p1 p2 p3, .bool q0, .slice q1 q2 q3] := Row.newE rfl
  replace d1 := d1.below b3
  replace d2 := d2.below b3
  replace v1 := v1.below b3
  replace r1 := r1.belowR b3
  replace r2 := r2.belowR b3
  replace hw := hw.trans (b3.mono hw.size)
  clear b2 b3
  go_wp2_with fail
  generalize hG : w8.heap.size = g'' at *
  clear hG
  generalize w8.alloc (.cells #[.bool p0, .slice p1 p2 p3, .bool q0, .slice q1 q2 q3] 57) = w9 at *
  replace d1 := d1.below (dr_ w9)
  replace d2 := d2.below (dr_ w9)
  replace v1 := v1.below (dr_ w9)
  replace r1 := r1.drew
  replace r2 := r2.drew
  replace r3 := r3.drew
  replace hw := hw.trans ((dr_ w9).mono hw.size)
  have hc := rows10 r1 r2 r3
  go_region_held3 (fun wx => wx.cell? ⟨g, 0, none⟩ = some (.bool t) ∧ wx.cell? ⟨g, 1, none⟩ = some (.slice B n d) ∧ wx.cell? ⟨g, 2, none⟩ = some (.int .i64 e) ∧ wx.cell? ⟨g', 0, none⟩ = some (.bool t') ∧ wx.cell? ⟨g', 1, none⟩ = some (.slice B' n' c') ∧ wx.cell? ⟨g', 2, none⟩ = some (.int .i64 e) ∧
      wx.cell? ⟨g'', 0, none⟩ = some (.bool p0) ∧ wx.cell? ⟨g'', 1, none⟩ = some (.slice p1 p2 p3) ∧ wx.cell? ⟨g'', 2, none⟩ = some (.bool q0) ∧ wx.cell? ⟨g'', 3, none⟩ = some (.slice q1 q2 q3)) (with_reducible exact hc) (first
    | (go_at_call 17; refine (rsameY d1 d2 HZ.out (by omega)).mono ?_; rintro ev wa ⟨rfl, b2⟩; replace d1 := d1.below b2; replace d2 := d2.below b2; replace v1 := v1.below b2; replace r1 := r1.belowR b2; replace r2 := r2.belowR b2; replace r3 := r3.belowR b2; replace hw := hw.trans (b2.mono hw.size); replace hc := rows10 r1 r2 r3; clear b2)
    | (go_at_call 31; refine (rratioV d2 HZ.out HE.out.1 HE.out.2).mono ?_; rintro ev wb ⟨u2, rfl, v2, b2⟩; replace d1 := d1.below b2; replace d2 := d2.below b2; replace v1 := v1.below b2; replace r1 := r1.belowR b2; replace r2 := r2.belowR b2; replace r3 := r3.belowR b2; replace hw := hw.trans (b2.mono hw.size); replace hc := rows10 r1 r2 r3; clear b2)
    | (go_at_call 30; refine (rsame4 v1 v2 HZ.out HE.out.1 HE.out.2).mono ?_; rintro ev wc ⟨rfl, b2⟩; replace d1 := d1.below b2; replace d2 := d2.below b2; replace v1 := v1.below b2; replace r1 := r1.belowR b2; replace r2 := r2.belowR b2; replace r3 := r3.belowR b2; replace hw := hw.trans (b2.mono hw.size); replace hc := rows10 r1 r2 r3; clear b2))
  go_wp2_with fail
  go_ret
  exact ⟨rfl, hw⟩

theorem bits_any (b : Int) (w : World) (ht : TabOk w) (he : ErrOk w) (h0 : 0 ≤ b) (h1 : b < B64) :
    Calls Tryd.prog 6 #[.int .u64 b] w fun ev w' => ev = .returned (.bool true) ∧ Below w.heap.size w w' := by
  by_cases hx : fX b = 2047
  · exact bits_bad b w ht he h0 h1 hx
  · exact bits_fin b w ht h0 h1 hx
end Go.Proofs.YtlgecdkidgjgiaaDoor
