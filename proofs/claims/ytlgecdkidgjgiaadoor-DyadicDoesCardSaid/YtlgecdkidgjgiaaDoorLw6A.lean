/- The walk of the first function of the laws of dyadic numbers: answers that the document fixes. -/
import Derived.Test.YtlgecdkidgjgiaaDoorVal
namespace Go.Proofs.YtlgecdkidgjgiaaDoor
open Go.RowKit

theorem s6 {w : World} {g g' : Nat} {e e' : TypeId} {a0 a1 a2 b0 b1 b2 : Value} (h : Row w g e #[a0, a1, a2]) (h' : Row w g' e' #[b0, b1, b2]) :
    w.cell? ⟨g, 0, none⟩ = some a0 ∧ w.cell? ⟨g, 1, none⟩ = some a1 ∧ w.cell? ⟨g, 2, none⟩ = some a2 ∧ w.cell? ⟨g', 0, none⟩ = some b0 ∧ w.cell? ⟨g', 1, none⟩ = some b1 ∧ w.cell? ⟨g', 2, none⟩ = some b2 :=
  ⟨(box3_facts h).1, (box3_facts h).2.1, (box3_facts h).2.2.1, (box3_facts h').1, (box3_facts h').2.1, (box3_facts h').2.2.1⟩
theorem fv_odd {w : World} {v : Value} {x e : Int} {L : Nat} (h : DyV w v x e) (ho : x % 2 = 1) (hx : x.natAbs < 2 ^ L) (h0 : -16384 ≤ e) (h1 : e ≤ 16384) (hL : L ≤ 16384) : FV w v e x L := by
  refine ⟨x, e, h, ⟨by omega, h1, by simp, hx⟩, ?_⟩
  have t : Twos x 0 x := ⟨by simp, ho⟩
  rw [mk_of t]
  simp only [Int.natCast_zero, Int.add_zero]
  rw [if_pos ⟨h0, h1, sz_of_abs hx (by omega)⟩]
theorem ifv_units {w : World} {v : Value} {x e E X : Int} {L k : Nat} (h : IDy w v x e k) (hX : X = 2 ^ (e - E).toNat * x) (hb : X.natAbs < 2 ^ L) (h0 : E ≤ e) (h1 : e ≤ 16384) : IFV w v E X L k := ⟨x, e, h, ⟨h0, h1, hX, hb⟩⟩
theorem FV.set3 {w : World} {v : Value} {E X : Int} {L : Nat} (h : FV w v E X L) {g : Nat} {ty : TypeId} {b0 : Bool} {a0 : Option Addr} {n0 c0 : Nat} {e0 : Int} (hb : Row w g ty #[.bool b0, .slice a0 n0 c0, .int .i64 e0]) (b1 : Bool) (a1 : Option Addr) (n1 c1 : Nat) (u2 : Value) :
    FV (((w.setCell ⟨g, 0, none⟩ (.bool b1)).setCell ⟨g, 1, none⟩ (.slice a1 n1 c1)).setCell ⟨g, 2, none⟩ u2) v E X L := by
  obtain ⟨m, e, h1, h2⟩ := h
  exact ⟨m, e, h1.set3 hb _ _ _ _ _, h2⟩
theorem mk_three : mk (fM 4609434218613702656) (fE 4609434218613702656) = mk 3 (-1) := by
  have e1 : fM 4609434218613702656 = 3 * 2 ^ 51 := by decide
  have e2 : fE 4609434218613702656 = -1 - ((51 : Nat) : Int) := by decide
  rw [e1, e2, mk_shift]

set_option maxRecDepth 100000 in
set_option maxHeartbeats 3200000 in
theorem awake6_any (w : World) (ht : TabOk w) : Calls Tryd.prog 8 #[] w fun ev w' => ev = .returned (.bool true) ∧ Below w.heap.size w w' := by
  go_enter Tryd.func8, Tryd.ntmps8
  go_wp2_with fail
  refine (smallY 3 (-1) (by omega) (by omega)).mono ?_
  rintro ev w1 ⟨u1, rfl, d1, b1⟩
  have hw := b1
  go_wp2_with fail
  refine (smallY 1 2 (by omega) (by omega)).mono ?_
  rintro ev w2 ⟨u2, rfl, d2, b2⟩
  have i1 : IFV w2 u1 (-1) 3 4 1 := ifv_units ((d1.below b2).idy (sz_small (by decide))) (by decide) (by decide) (by omega) (by omega)
  have i2 : IFV w2 u2 (-1) 8 4 1 := ifv_units (d2.idy (sz_small (by decide))) (by decide) (by decide) (by omega) (by omega)
  replace hw := hw.trans (b2.mono hw.size)
  clear d1 d2 b1 b2
  go_wp2_with fail
  refine (addF i1 i2 (by omega) (by omega) (by omega) (by omega) (ht.below hw)).mono ?_
  rintro ev w3 ⟨⟨t, B, n, d, e, rfl, hv⟩, b3⟩
  replace hw := hw.trans (b3.mono hw.size)
  have b4 := al_ w3 (.cells #[.bool t, .slice B n d, .int .i64 e] 29)
  have ra : Row (w3.alloc (.cells #[.bool t, .slice B n d, .int .i64 e] 29)) w3.heap.size 29 #[.bool t, .slice B n d, .int .i64 e] := Row.newE rfl
  replace hv := hv.below b4
  replace hw := hw.trans (b4.mono hw.size)
  clear b3 b4 i1 i2
  go_wp2_with fail
  generalize hG : w3.heap.size = g at *
  clear hG
  generalize w3.alloc (.cells #[.bool t, .slice B n d, .int .i64 e] 29) = w4 at *
  refine (dofV 4609434218613702656 (by omega) (by decide) (by decide) (ht.below hw)).mono ?_
  rintro ev w5 ⟨u, rfl, hres, b5⟩
  rw [mk_three] at hres
  obtain ⟨t', B', n', d', e', rfl, hv'⟩ := res_fv (L := 4) hres (by decide) (by omega) (by omega) (by omega)
  have b6 := al_ w5 (.cells #[.bool t', .slice B' n' d', .int .i64 e'] 29)
  replace ra := (ra.belowR b5).belowR b6
  have rb : Row (w5.alloc (.cells #[.bool t', .slice B' n' d', .int .i64 e'] 29)) w5.heap.size 29 #[.bool t', .slice B' n' d', .int .i64 e'] := Row.newE rfl
  replace hv := (hv.below b5).below b6
  replace hv' := hv'.below b6
  replace hw := (hw.trans (b5.mono hw.size)).trans (b6.mono (Nat.le_trans hw.size b5.size))
  clear b5 b6 hres
  go_wp2_with fail
  generalize hG : w5.heap.size = g' at *
  clear hG
  generalize w5.alloc (.cells #[.bool t', .slice B' n' d', .int .i64 e'] 29) = w6 at *
  replace ra := ra.drew
  replace rb := rb.drew
  replace hw := hw.trans ((dr_ w6).mono hw.size)
  replace hv := hv.below (dr_ w6)
  replace hv' := hv'.below (dr_ w6)
  have hc := s6 ra rb
  go_region_held3 (fun wx => wx.cell? ⟨g, 0, none⟩ = some (.bool t) ∧ wx.cell? ⟨g, 1, none⟩ = some (.slice B n d) ∧ wx.cell? ⟨g, 2, none⟩ = some (.int .i64 e) ∧ wx.cell? ⟨g', 0, none⟩ = some (.bool t') ∧ wx.cell? ⟨g', 1, none⟩ = some (.slice B' n' d') ∧ wx.cell? ⟨g', 2, none⟩ = some (.int .i64 e'))
    (with_reducible exact hc)
    (first
      | (go_at_call_of 38 (Value.int IntKind.i64 11); refine (smallY 11 (-1) (by omega) (by omega)).mono ?_; rintro ev w7 ⟨u1, rfl, d1, b⟩; replace ra := ra.belowR b; replace rb := rb.belowR b; replace hw := hw.trans (b.mono hw.size); replace hv := hv.below b; replace hv' := hv'.below b; replace hc := s6 ra rb; have q1 := fv_odd (L := 5) d1 (by decide) (by decide) (by omega) (by omega) (by omega); clear b d1)
      | (go_at_call_of 38 (Value.int IntKind.i64 3); refine (smallY 3 (-1) (by omega) (by omega)).mono ?_; rintro ev w9 ⟨u2, rfl, d2, b⟩; replace ra := ra.belowR b; replace rb := rb.belowR b; replace hw := hw.trans (b.mono hw.size); replace hv' := hv'.below b; replace hc := s6 ra rb; have q2 := fv_odd (L := 4) d2 (by decide) (by decide) (by omega) (by omega) (by omega); clear b d2)
      | (go_at_call 17; with_reducible refine (sameF hv q1 (k := 1) (by omega) (by omega)).mono ?_; rintro ev w8 ⟨rfl, b⟩; replace ra := ra.belowR b; replace rb := rb.belowR b; replace hw := hw.trans (b.mono hw.size); replace hv' := hv'.below b; replace hc := s6 ra rb; clear b hv q1)
      | (go_at_call 17; with_reducible refine (sameF hv' q2 (k := 1) (by omega) (by omega)).mono ?_; rintro ev w8 ⟨rfl, b⟩; replace ra := ra.belowR b; replace rb := rb.belowR b; replace hw := hw.trans (b.mono hw.size); replace hc := s6 ra rb; clear b hv' q2))
  all_goals
    go_wp2_with fail
    go_ret
    exact ⟨rfl, hw⟩
end Go.Proofs.YtlgecdkidgjgiaaDoor
