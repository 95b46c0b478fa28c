/- The reference's comparison and sign of dyadic numbers; is an answer the document's? -/
import Derived.Test.YtlgecdkidgjgiaaDoorDr
namespace Go.Proofs.YtlgecdkidgjgiaaDoor
open Go.RowKit

theorem mk_may {m e a x : Int} (h : mk m e = some (a, x)) : Sz a 256 := by
  unfold mk at h
  split at h
  · simp only [Option.some.injEq, Prod.mk.injEq] at h
    obtain ⟨rfl, _⟩ := h
    exact sz_zero.mono (by omega)
  · split at h
    · rename_i hm
      simp only [Option.some.injEq, Prod.mk.injEq] at h
      obtain ⟨rfl, _⟩ := h
      exact hm.2.2
    · cases h
theorem add2_may {m e m' e' a x : Int} (h : add2 m e m' e' = some (a, x)) : Sz a 256 := by
  unfold add2 at h
  split at h
  · exact mk_may h
  · cases h
theorem mul2_may {m e m' e' a x : Int} (h : mul2 m e m' e' = some (a, x)) : Sz a 256 := by
  unfold mul2 at h
  split at h
  · exact mk_may h
  · cases h

set_option maxHeartbeats 800000 in
theorem rnegY {v : Value} {m e : Int} {k : Nat} {w : World} (h : IDy w v m e k) :
    Calls Tryd.prog 33 #[v] w fun ev w' => ∃ u, ev = .returned u ∧ IDy w' u (-m) e k ∧ Below w.heap.size w w' := by
  obtain ⟨t, zs, B, d, rfl, h2, h3, h4, h5, h6⟩ := h
  have hn : zi (!t) zs = -m := by rw [← h5]; unfold zi; cases t <;> simp
  have HN := Lib.hid (And.intro h2 (And.intro h4 (And.intro hn h6)))
  obtain ⟨ra, rb, hw⟩ := new2 w 29 29 #[.bool t, .slice B zs.length d, .int .i64 e] #[.bool false, .slice none 0 0, .int .i64 0]
  replace h3 := h3.below hw
  clear h2 h4 h5 hn h6
  generalize zs.length = n at *
  have f1 := box3_facts ra
  have f2 := box3_facts rb
  have f3 := box3_facts (box3_set rb (.bool (!t)) (.slice B n d) (.int .i64 e))
  go_enter Tryd.func33, Tryd.ntmps33
  go_upto_region 1 with fail
  generalize (w.alloc (.cells #[.bool t, .slice B n d, .int .i64 e] 29)).alloc (.cells #[.bool false, .slice none 0 0, .int .i64 0] 29) = W at *
  go_wp2_with fail
  have hl : n = zs.length := h3.len.symm
  exact bodyPost_ret (v := .agg #[.bool (!t), .slice B n d, .int .i64 e]) (by simp [results, Tryd.results33, go_sem, f3]) rfl
    ⟨_, rfl, ⟨!t, zs, B, d, by rw [hl], by rw [← hl]; exact HN.out.1, by rw [← hl]; exact h3.set3 rb _ _ _ _ _, HN.out.2.1, HN.out.2.2.1, by rw [← hl]; exact HN.out.2.2.2⟩, Below.sets3 hw (by omega) _ _ _⟩

set_option maxRecDepth 100000 in
set_option maxHeartbeats 1600000 in
theorem rcmpY {v v' : Value} {m m' e e' : Int} {k : Nat} {w : World} (h : IDy w v m e k) (h' : IDy w v' m' e' k) (hk : k ≤ 1000) (q1 : May m e) (q2 : May m' e') :
    Calls Tryd.prog 37 #[v, v'] w fun ev w' => ev = .returned (.int .i64 (cmp2 m e m' e')) ∧ Below w.heap.size w w' := by
  have i1 := h
  have i2 := h'
  obtain ⟨t, B, n, d, rfl, hv⟩ := h.shape
  obtain ⟨t', B', n', d', rfl, hv'⟩ := h'.shape
  clear h h' hv hv'
  obtain ⟨E, hE⟩ : ∃ E, min e e' = E := ⟨_, rfl⟩
  have hmin := fun ats ty w => mini_run ats ty e e' E hE w
  have HE := Lib.hid (show -16384 ≤ E ∧ E ≤ 16384 by have := q1.1; have := q1.2.1; have := q2.1; have := q2.2.1; omega)
  have g1 : e - E = (((e - E).toNat : Nat) : Int) := by omega
  have g2 : e' - E = (((e' - E).toNat : Nat) : Int) := by omega
  have HB := Lib.hid (show (e - E).toNat ≤ 65536 ∧ (e' - E).toNat ≤ 65536 by have := q1.1; have := q1.2.1; have := q2.1; have := q2.2.1; omega)
  have HS := Lib.hid (And.intro (q1.shl g1 HE.out.1) (q2.shl g2 HE.out.1))
  have HA := Lib.hid (show cmp2 m e m' e' = sgz (2 ^ (e - E).toNat * m - 2 ^ (e' - E).toNat * m') by rw [← hE]; rfl)
  have G1 := Lib.hid g1
  have G2 := Lib.hid g2
  clear g1 g2 hE q1 q2
  obtain ⟨ra, rb, hw⟩ := new2 w 29 29 #[.bool t, .slice B n d, .int .i64 e] #[.bool t', .slice B' n' d', .int .i64 e']
  go_enter Tryd.func37, Tryd.ntmps37
  go_wp2_with fail
  generalize (w.alloc (.cells #[.bool t, .slice B n d, .int .i64 e] 29)).alloc (.cells #[.bool t', .slice B' n' d', .int .i64 e'] 29) = W at *
  replace ra := ra.drew
  replace rb := rb.drew
  replace hw := hw.drew
  replace i1 := i1.below hw
  replace i2 := i2.below hw
  have hcl := s6 ra rb
  go_region_held3 (fun wx => wx.cell? ⟨w.heap.size, 0, none⟩ = some (.bool t) ∧ wx.cell? ⟨w.heap.size, 1, none⟩ = some (.slice B n d) ∧ wx.cell? ⟨w.heap.size, 2, none⟩ = some (.int .i64 e) ∧ wx.cell? ⟨w.heap.size + 1, 0, none⟩ = some (.bool t') ∧ wx.cell? ⟨w.heap.size + 1, 1, none⟩ = some (.slice B' n' d') ∧ wx.cell? ⟨w.heap.size + 1, 2, none⟩ = some (.int .i64 e'))
    (with_reducible exact hcl)
    (first
      | (go_at_call_of 65 (Value.agg #[Value.bool t, Value.slice B n d, Value.int IntKind.i64 e]); refine (atV E i1 (by omega) G1.out HB.out.1).mono ?_; rintro ev wn ⟨u1, rfl, a1, b⟩; replace ra := ra.belowR b; replace rb := rb.belowR b; replace i1 := i1.below b; replace i2 := i2.below b; replace hw := hw.trans (b.mono hw.size); replace hcl := s6 ra rb; clear b)
      | (go_at_call_of 65 (Value.agg #[Value.bool t', Value.slice B' n' d', Value.int IntKind.i64 e']); refine (atV E i2 (by omega) G2.out HB.out.2).mono ?_; rintro ev wn ⟨u2, rfl, a2, b⟩; replace ra := ra.belowR b; replace rb := rb.belowR b; replace i1 := i1.below b; replace i2 := i2.below b; replace a1 := a1.below b; replace hw := hw.trans (b.mono hw.size); replace hcl := s6 ra rb; clear b)
      | (go_at_call 67; refine (cmpD a1 a2 HS.out.1 HS.out.2 (by omega) (by omega)).mono ?_; rintro ev wn ⟨rfl, b⟩; replace ra := ra.belowR b; replace rb := rb.belowR b; replace hw := hw.trans (b.mono hw.size); replace hcl := s6 ra rb; clear b a1 a2))
  rw [← HA.out]
  go_wp2_with fail
  go_ret
  exact ⟨rfl, hw⟩

set_option maxHeartbeats 800000 in
theorem told_some {d d' : Value} {m e : Int} {k : Nat} {w : World} (h : DyV w d m e) (h' : DyV w d' m e) (hz : Sz m k) (hk : k ≤ 1000) :
    Calls Tryd.prog 35 #[d, .nilIface, d', .bool true] w fun ev w' => ev = .returned (.bool true) ∧ Below w.heap.size w w' := by
  obtain ⟨t, B, n, c, rfl⟩ := h.shape
  obtain ⟨t', B', n', c', rfl⟩ := h'.shape
  obtain ⟨ra, rb, hw⟩ := new2 w 29 29 #[.bool t, .slice B n c, .int .i64 e] #[.bool t', .slice B' n' c', .int .i64 e]
  have f1 := box3_facts ra
  have f2 := box3_facts rb
  have HZ := Lib.hid hz
  clear hz
  go_enter Tryd.func35, Tryd.ntmps35
  go_wp2_with fail
  generalize (w.alloc (.cells #[.bool t, .slice B n c, .int .i64 e] 29)).alloc (.cells #[.bool t', .slice B' n' c', .int .i64 e] 29) = W at *
  refine (rsameY (h.below hw) (h'.below hw) HZ.out hk).mono ?_
  rintro ev w1 ⟨rfl, b1⟩
  go_wp2_with fail
  go_ret
  exact ⟨rfl, hw.trans (b1.mono hw.size)⟩
set_option maxHeartbeats 800000 in
theorem told_none (w : World) (he : ErrOk w) :
    Calls Tryd.prog 35 #[.agg #[.bool false, .slice none 0 0, .int .i64 0], .iface 74 (.int .i64 7), .agg #[.bool false, .slice none 0 0, .int .i64 0], .bool false] w fun ev w' => ev = .returned (.bool true) ∧ Below w.heap.size w w' := by
  obtain ⟨ra, rb, hw⟩ := new2 w 29 29 #[.bool false, .slice none 0 0, .int .i64 0] #[.bool false, .slice none 0 0, .int .i64 0]
  have f1 := box3_facts ra
  go_enter Tryd.func35, Tryd.ntmps35
  go_wp2_with fail
  generalize (w.alloc (.cells #[.bool false, .slice none 0 0, .int .i64 0] 29)).alloc (.cells #[.bool false, .slice none 0 0, .int .i64 0] 29) = W at *
  refine (code_any 7 (by omega) _ (he.below hw)).mono ?_
  rintro ev w1 ⟨rfl, b1⟩
  have f2 := box3_facts (ra.belowR b1)
  go_wp2_with fail
  refine (rsameY (DyV.zero _) (DyV.zero _) sz_zero (by omega)).mono ?_
  rintro ev w2 ⟨rfl, b2⟩
  go_wp2_with fail
  go_ret
  exact ⟨rfl, (hw.trans (b1.mono hw.size)).trans (b2.mono (Nat.le_trans hw.size b1.size))⟩
theorem toldV {d er d' ok : Value} {r : Option (Int × Int)} {w : World} (h : Res w (.tuple #[d, er]) r) (h' : ResB w (.tuple #[d', ok]) r) (he : ErrOk w) (hr : ∀ a x, r = some (a, x) → Sz a 256) :
    Calls Tryd.prog 35 #[d, er, d', ok] w fun ev w' => ev = .returned (.bool true) ∧ Below w.heap.size w w' := by
  cases r with
  | none =>
    have h1 : (Value.tuple #[d, er]) = .tuple #[.agg #[.bool false, .slice none 0 0, .int .i64 0], .iface 74 (.int .i64 7)] := h
    have h2 : (Value.tuple #[d', ok]) = .tuple #[.agg #[.bool false, .slice none 0 0, .int .i64 0], .bool false] := h'
    simp only [Value.tuple.injEq, Array.mk.injEq, List.cons.injEq, and_true] at h1 h2
    obtain ⟨rfl, rfl⟩ := h1
    obtain ⟨rfl, rfl⟩ := h2
    exact told_none w he
  | some p =>
    obtain ⟨m, e⟩ := p
    obtain ⟨x, h1, hx⟩ := h
    obtain ⟨y, h2, hy⟩ := h'
    simp only [Value.tuple.injEq, Array.mk.injEq, List.cons.injEq, and_true] at h1 h2
    obtain ⟨rfl, rfl⟩ := h1
    obtain ⟨rfl, rfl⟩ := h2
    exact told_some hx hy (hr m e rfl) (by omega)
end Go.Proofs.YtlgecdkidgjgiaaDoor
