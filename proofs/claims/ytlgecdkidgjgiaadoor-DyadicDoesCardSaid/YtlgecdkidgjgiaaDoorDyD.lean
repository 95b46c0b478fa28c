/- The walks of layer 6's functions of two numbers: both; sums, differences, products; which is less. -/
import Derived.Test.YtlgecdkidgjgiaaDoorDyC
namespace Go.Proofs.YtlgecdkidgjgiaaDoor
open Go.RowKit

theorem new5 (w : World) (e1 e2 e3 e4 e5 : TypeId) (a1 a2 a3 a4 a5 : Array Value) :
    let W := ((((w.alloc (.cells a1 e1)).alloc (.cells a2 e2)).alloc (.cells a3 e3)).alloc (.cells a4 e4)).alloc (.cells a5 e5)
    Row W w.heap.size e1 a1 ∧ Row W (w.heap.size + 1) e2 a2 ∧ Row W (w.heap.size + 1 + 1) e3 a3 ∧ Row W (w.heap.size + 1 + 1 + 1) e4 a4 ∧ Row W (w.heap.size + 1 + 1 + 1 + 1) e5 a5 ∧ Below w.heap.size w W ∧ W.heap.size = w.heap.size + 5 := by
  intro W
  have b := new3 w e1 e2 e3 a1 a2 a3
  obtain ⟨r1, r2, r3, hb, hs⟩ := b
  have hb2 : Below w.heap.size w W := (hb.alloc hb.size _).alloc (by simp; omega) _
  have e4' : (((w.alloc (.cells a1 e1)).alloc (.cells a2 e2)).alloc (.cells a3 e3)).heap.size = w.heap.size + 1 + 1 + 1 := hs
  have e5' : ((((w.alloc (.cells a1 e1)).alloc (.cells a2 e2)).alloc (.cells a3 e3)).alloc (.cells a4 e4)).heap.size = w.heap.size + 1 + 1 + 1 + 1 := by simp
  have hl : W.heap.size = w.heap.size + 5 := by
    show (((((w.alloc (.cells a1 e1)).alloc (.cells a2 e2)).alloc (.cells a3 e3)).alloc (.cells a4 e4)).alloc (.cells a5 e5)).heap.size = _
    simp
  exact ⟨(r1.allocR _).allocR _, (r2.allocR _).allocR _, (r3.allocR _).allocR _, Row.allocR (Row.newE e4'.symm) _, Row.newE e5'.symm, hb2, hl⟩
theorem min_run (ats : Array TypeId) (ty : TypeId) (p q : Int) (w : World) : (Builtin.min_ ats ty #[.int .i64 p, .int .i64 q]).run Tryd.prog w = .ok (.int .i64 (min p q)) w := by
  simp only [Builtin.min_, List.foldlM_cons, List.foldlM_nil, Builtin.min2, Sem.run_bind, Sem.run_pure, Result.andThen]
  congr 2
  split <;> omega
theorem Row.other0 {w : World} {g g' : Nat} {e : TypeId} {arr : Array Value} (h : Row w g e arr) (v : Value) (hne : g ≠ g') : Row (w.setCell ⟨g', 0, none⟩ v) g e arr := h.other _ v hne
theorem Row.reset1 {w : World} {g : Nat} {e : TypeId} {v : Value} (h : Row w g e #[v]) (u : Value) : Row (w.setCell ⟨g, 0, none⟩ u) g e #[u] := h.set 0 u
theorem box1_facts {w : World} {g : Nat} {e : TypeId} {v : Value} (h : Row w g e #[v]) : w.cell? ⟨g, 0, none⟩ = some v ∧ w.frozen? ⟨g, 0, none⟩ = false := ⟨by rw [h.cell]; rfl, h.frozen 0⟩
theorem CV.setB {w : World} {v : Value} {z : Int} (h : CV w v z) {g : Nat} {e : TypeId} {arr : Array Value} (hb : Row w g e arr) (hn : NoInt .u64 arr) (j : Nat) (u : Value) : CV (w.setCell ⟨g, j, none⟩ u) v z := by
  obtain ⟨t, zs, B, d, h1, h2, h3, h4⟩ := h
  exact ⟨t, zs, B, d, h1, h2, h3.setB hb hn j u, h4⟩
theorem s7 {w : World} {g g' g'' : Nat} {e e' e'' : TypeId} {a0 a1 a2 b0 b1 b2 c : Value} (h : Row w g e #[a0, a1, a2]) (h' : Row w g' e' #[b0, b1, b2]) (h'' : Row w g'' e'' #[c]) :
    w.cell? ⟨g, 0, none⟩ = some a0 ∧ w.cell? ⟨g, 1, none⟩ = some a1 ∧ w.cell? ⟨g, 2, none⟩ = some a2 ∧ w.cell? ⟨g', 0, none⟩ = some b0 ∧ w.cell? ⟨g', 1, none⟩ = some b1 ∧ w.cell? ⟨g', 2, none⟩ = some b2 ∧ w.cell? ⟨g'', 0, none⟩ = some c :=
  ⟨(box3_facts h).1, (box3_facts h).2.1, (box3_facts h).2.2.1, (box3_facts h').1, (box3_facts h').2.1, (box3_facts h').2.2.1, (box1_facts h'').1⟩

set_option maxHeartbeats 1600000 in
theorem both_ok {v v' : Value} {m m' e e' : Int} {k : Nat} {w : World} (h : IDy w v m e k) (h' : IDy w v' m' e' k) (hk : k ≤ 1024) (hm : May m e) (hm' : May m' e') :
    Calls Tryd.prog 52 #[v, v'] w fun ev w' => ∃ x y, ev = .returned (.tuple #[x, y, .int .i64 (min e e'), .nilIface]) ∧ CV w' x (2 ^ (e - min e e').toNat * m) ∧ CV w' y (2 ^ (e' - min e e').toNat * m') ∧ Below w.heap.size w w' := by
  have i1 := h
  have i2 := h'
  obtain ⟨t, B, n, d, rfl, hv⟩ := h.shape
  obtain ⟨t', B', n', d', rfl, hv'⟩ := h'.shape
  clear h h'
  obtain ⟨ra, rb, rx, ry, re, hw, hs⟩ := new5 w 29 29 27 27 3 #[.bool t, .slice B n d, .int .i64 e] #[.bool t', .slice B' n' d', .int .i64 e'] #[.bool false, .slice none 0 0] #[.bool false, .slice none 0 0] #[.int .i64 0]
  have hmin := fun ats ty w => min_run ats ty e e' w
  have d1 : decide (May m e) = true := decide_eq_true hm
  have d2 : decide (May m' e') = true := decide_eq_true hm'
  have hm1 := hm.1
  have hm2 := hm.2.1
  have hm3 := hm'.1
  have hm4 := hm'.2.1
  have q1 : e - min e e' = ((e - min e e').toNat : Int) := by omega
  have q2 : e' - min e e' = ((e' - min e e').toNat : Int) := by omega
  have q3 : (e - min e e').toNat ≤ 65536 := by omega
  have q4 : (e' - min e e').toNat ≤ 65536 := by omega
  generalize (e - min e e').toNat = N1 at *
  generalize (e' - min e e').toNat = N2 at *
  generalize min e e' = E at *
  have Q1 := Lib.hid q1
  have Q2 := Lib.hid q2
  clear q1 q2
  go_enter Tryd.func52, Tryd.ntmps52
  go_wp2_with fail
  generalize ((((w.alloc (.cells #[.bool t, .slice B n d, .int .i64 e] 29)).alloc (.cells #[.bool t', .slice B' n' d', .int .i64 e'] 29)).alloc (.cells #[.bool false, .slice none 0 0] 27)).alloc (.cells #[.bool false, .slice none 0 0] 27)).alloc (.cells #[.int .i64 0] 3) = W at *
  have hs1 : w.heap.size + 4 < W.heap.size := by omega
  clear hs
  refine (dmayV (i1.below hw) (by omega)).mono ?_
  rintro ev w1 ⟨rfl, b1⟩
  replace ra := ra.belowR b1
  replace rb := rb.belowR b1
  replace rx := rx.belowR b1
  replace ry := ry.belowR b1
  replace re := re.belowR b1
  have hb1 := box3_facts rb
  replace hw := hw.trans (b1.mono hw.size)
  have hs2 := Nat.lt_of_lt_of_le hs1 b1.size
  clear b1 hs1 W
  go_wp2_with fail
  refine (dmayV (i2.below hw) (by omega)).mono ?_
  rintro ev w2 ⟨rfl, b1⟩
  replace ra := ra.belowR b1
  replace rb := rb.belowR b1
  replace rx := rx.belowR b1
  replace ry := ry.belowR b1
  replace re := re.belowR b1
  replace hw := hw.trans (b1.mono hw.size)
  have hs3 := Nat.lt_of_lt_of_le hs2 b1.size
  clear b1 hs2 hb1 w1
  have hab := s7 ra rb re
  have he := box1_facts re
  clear hm hm'
  replace re := re.reset1 (.int .i64 E)
  replace ra := ra.other ⟨w.heap.size + 1 + 1 + 1 + 1, 0, none⟩ (.int .i64 E) (by show w.heap.size ≠ w.heap.size + 1 + 1 + 1 + 1; omega)
  replace rb := rb.other ⟨w.heap.size + 1 + 1 + 1 + 1, 0, none⟩ (.int .i64 E) (by show w.heap.size + 1 ≠ w.heap.size + 1 + 1 + 1 + 1; omega)
  replace rx := rx.other ⟨w.heap.size + 1 + 1 + 1 + 1, 0, none⟩ (.int .i64 E) (by show w.heap.size + 1 + 1 ≠ w.heap.size + 1 + 1 + 1 + 1; omega)
  replace ry := ry.other ⟨w.heap.size + 1 + 1 + 1 + 1, 0, none⟩ (.int .i64 E) (by show w.heap.size + 1 + 1 + 1 ≠ w.heap.size + 1 + 1 + 1 + 1; omega)
  replace hw := hw.setCell (p := ⟨w.heap.size + 1 + 1 + 1 + 1, 0, none⟩) (by show w.heap.size ≤ w.heap.size + 1 + 1 + 1 + 1; omega) (.int .i64 E)
  go_upto_region 5 with fail
  generalize w2.setCell ⟨w.heap.size + 1 + 1 + 1 + 1, 0, none⟩ (.int .i64 E) = w3 at *
  clear hs3 hab he w2
  replace ra := ra.drew
  replace rb := rb.drew
  replace rx := rx.drew
  replace ry := ry.drew
  replace re := re.drew
  replace hw := hw.trans ((dr_ w3).mono hw.size)
  have hc := s7 ra rb re
  have hx := box_facts rx
  have hy := True.intro
  go_region_held3 (fun wx => wx.cell? ⟨w.heap.size, 0, none⟩ = some (.bool t) ∧ wx.cell? ⟨w.heap.size, 1, none⟩ = some (.slice B n d) ∧ wx.cell? ⟨w.heap.size, 2, none⟩ = some (.int .i64 e) ∧ wx.cell? ⟨w.heap.size + 1, 0, none⟩ = some (.bool t') ∧ wx.cell? ⟨w.heap.size + 1, 1, none⟩ = some (.slice B' n' d') ∧ wx.cell? ⟨w.heap.size + 1, 2, none⟩ = some (.int .i64 e') ∧ wx.cell? ⟨w.heap.size + 1 + 1 + 1 + 1, 0, none⟩ = some (.int .i64 E))
    (first | with_reducible exact hc | (with_reducible refine s7 (e := 29) (e' := 29) (e'' := 3) ?_ ?_ ?_ <;> repeat (first | with_reducible exact ra | with_reducible exact rb | with_reducible exact re | with_reducible refine Row.reset1 (v := .int .i64 E) ?_ _ | with_reducible refine Row.sets ?_ _ _ (by omega) | with_reducible refine Row.other0 ?_ _ (by omega))))
    (first
      | (go_at_call_of 78 (Value.agg #[Value.bool t, Value.slice B n d, Value.int IntKind.i64 e]); refine (up_any (w.heap.size + 1 + 1 + 1 + 1) E (i1.below hw) hk Q1.out q3 hc.2.2.2.2.2.2).mono ?_; rintro ev w4 ⟨u, rfl, hu, b1⟩; obtain ⟨tu, Bu, nu, du, rfl⟩ := hu.shape; replace ra := ra.belowR b1; replace rb := rb.belowR b1; replace rx := rx.belowR b1; replace ry := ry.belowR b1; replace re := re.belowR b1; replace hw := hw.trans (b1.mono hw.size); replace hc := s7 ra rb re; clear b1)
      | (go_at_call_of 78 (Value.agg #[Value.bool t', Value.slice B' n' d', Value.int IntKind.i64 e']); refine (up_any (w.heap.size + 1 + 1 + 1 + 1) E (i2.below hw) hk Q2.out q4 hc.2.2.2.2.2.2).mono ?_; rintro ev w5 ⟨u', rfl, hu', b2⟩; obtain ⟨tv, Bv, nv, dv, rfl⟩ := hu'.shape; replace hu := hu.below b2; replace ra := ra.belowR b2; replace rb := rb.belowR b2; replace rx := rx.belowR b2; replace ry := ry.belowR b2; replace re := re.belowR b2; replace hw := hw.trans (b2.mono hw.size); replace hc := s7 ra rb re; replace hx := box_facts rx; replace hy := box_facts (ry.sets (.bool tu) (.slice Bu nu du) (g' := w.heap.size + 1 + 1) (by omega)); have he := box1_facts ((re.sets (.bool tu) (.slice Bu nu du) (g' := w.heap.size + 1 + 1) (by omega)).sets (.bool tv) (.slice Bv nv dv) (g' := w.heap.size + 1 + 1 + 1) (by omega)); clear b2))
  have rx2 := ((box_set rx (.bool tu) (.slice Bu nu du)).sets (.bool tv) (.slice Bv nv dv) (g' := w.heap.size + 1 + 1 + 1) (by omega)).other0 (.int .i64 E) (g' := w.heap.size + 1 + 1 + 1 + 1) (by omega)
  have ry1 := ry.sets (.bool tu) (.slice Bu nu du) (g' := w.heap.size + 1 + 1) (by omega)
  have ry2 := (box_set ry1 (.bool tv) (.slice Bv nv dv)).other0 (.int .i64 E) (g' := w.heap.size + 1 + 1 + 1 + 1) (by omega)
  have re1 := ((re.sets (.bool tu) (.slice Bu nu du) (g' := w.heap.size + 1 + 1) (by omega)).sets (.bool tv) (.slice Bv nv dv) (g' := w.heap.size + 1 + 1 + 1) (by omega))
  have re2 := re1.reset1 (.int .i64 E)
  have hu1 := ((hu.sets rx (.bool tu) (.slice Bu nu du)).sets ry1 (.bool tv) (.slice Bv nv dv)).setB re1 (noInt1 E) 0 (.int .i64 E)
  have hv1 := ((hu'.sets rx (.bool tu) (.slice Bu nu du)).sets ry1 (.bool tv) (.slice Bv nv dv)).setB re1 (noInt1 E) 0 (.int .i64 E)
  have hw1 := (Below.sets (Below.sets hw (g := w.heap.size + 1 + 1) (by omega) (.bool tu) (.slice Bu nu du)) (g := w.heap.size + 1 + 1 + 1) (by omega) (.bool tv) (.slice Bv nv dv)).setCell (p := ⟨w.heap.size + 1 + 1 + 1 + 1, 0, none⟩) (by show w.heap.size ≤ w.heap.size + 1 + 1 + 1 + 1; omega) (.int .i64 E)
  have f1 := box_facts rx2
  have f2 := box_facts ry2
  have f3 := box1_facts re2
  clear hc hx hy he ra rb rx ry re re1 ry1 rx2 ry2 re2 hu hu' hw hv hv'
  go_wp2_with fail
  exact bodyPost_ret (v := .tuple #[.agg #[.bool tu, .slice Bu nu du], .agg #[.bool tv, .slice Bv nv dv], .int .i64 E, .nilIface]) (by simp [results, Tryd.results52, go_sem, f1, f2, f3]) rfl
    ⟨_, _, rfl, hu1, hv1, hw1⟩
end Go.Proofs.YtlgecdkidgjgiaaDoor
