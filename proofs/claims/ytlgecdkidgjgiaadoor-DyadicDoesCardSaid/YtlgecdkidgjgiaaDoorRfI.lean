/- The walks of the reference's dyadic numbers: may it be, the same, a small one. -/
import Derived.Test.YtlgecdkidgjgiaaDoorRfH
import Derived.Test.YtlgecdkidgjgiaaDoorDyC
namespace Go.Proofs.YtlgecdkidgjgiaaDoor
open Go.RowKit

/-- What the reference answers that has a number or none. -/
def ResB (w : World) (v : Value) : Option (Int × Int) → Prop
  | some (m, e) => ∃ d, v = .tuple #[d, .bool true] ∧ DyV w d m e
  | none => v = .tuple #[.agg #[.bool false, .slice none 0 0, .int .i64 0], .bool false]
theorem ResB.below {w w' : World} {v : Value} {r : Option (Int × Int)} (h : ResB w v r) (hb : Below w.heap.size w w') : ResB w' v r := by
  cases r with
  | none => exact h
  | some p => obtain ⟨d, h1, h2⟩ := h; exact ⟨d, h1, h2.below hb⟩
theorem ResB.shape {w : World} {v : Value} {r : Option (Int × Int)} (h : ResB w v r) : ∃ (t : Bool) (B : Option Addr) (n d : Nat) (e : Int) (ok : Bool), v = .tuple #[.agg #[.bool t, .slice B n d, .int .i64 e], .bool ok] := by
  cases r with
  | none => exact ⟨_, _, _, _, _, _, h⟩
  | some p =>
    obtain ⟨d, h1, h2⟩ := h
    obtain ⟨t, B, n, d', rfl⟩ := h2.shape
    exact ⟨_, _, _, _, _, _, h1⟩
theorem ResB.set3 {w : World} {v : Value} {r : Option (Int × Int)} (h : ResB w v r) {g : Nat} {e : TypeId} {b0 : Bool} {a0 : Option Addr} {n0 c0 : Nat} {e0 : Int} (hb : Row w g e #[.bool b0, .slice a0 n0 c0, .int .i64 e0]) (b1 : Bool) (a1 : Option Addr) (n1 c1 : Nat) (u2 : Value) :
    ResB (((w.setCell ⟨g, 0, none⟩ (.bool b1)).setCell ⟨g, 1, none⟩ (.slice a1 n1 c1)).setCell ⟨g, 2, none⟩ u2) v r := by
  cases r with
  | none => exact h
  | some p =>
    obtain ⟨d, h1, t, zs, B, d', h2, h3, h4, h5⟩ := h
    exact ⟨d, h1, t, zs, B, d', h2, h3, h4.set3 hb _ _ _ _ _, h5⟩

theorem can_len_iff {zs : List Int} {v : Int} (h : Can 65536 zs v) (k : Nat) : zs.length ≤ 4 * k ↔ v < B64 ^ k := by
  have e : (65536 : Int) ^ (4 * k) = B64 ^ k := by rw [Int.pow_mul]; rfl
  rw [← e]
  constructor
  · intro hk
    have := (vl_bd h.dg).2
    rw [h.val] at this
    exact Int.lt_of_lt_of_le this (powd_mono hk)
  · intro hk
    exact h.len_le _ hk

theorem field_mag (t : Bool) (B : Option Addr) (n d : Nat) (w : World) : (Instr.field 27 (.agg #[.bool t, .slice B n d]) 1).run Tryd.prog w = .ok (.slice B n d) w := by kernel_rfl

set_option maxRecDepth 100000 in
set_option maxHeartbeats 1600000 in
theorem rmayV {v : Value} {m e : Int} {k : Nat} {w : World} (h : IDy w v m e k) (hk : k ≤ 1000) :
    Calls Tryd.prog 36 #[v] w fun ev w' => ev = .returned (.bool (decide (May m e))) ∧ Below w.heap.size w w' := by
  obtain ⟨t, B, n, d, rfl, hv⟩ := h.shape
  have hv2 := hv
  obtain ⟨t', zs, B', d', h1, h2, h3, h4, h5, h6⟩ := hv
  simp only [Value.agg.injEq, Array.mk.injEq, List.cons.injEq, Value.bool.injEq, Value.slice.injEq, and_true] at h1
  obtain ⟨rfl, rfl, rfl, rfl⟩ := h1
  clear h
  have hsz := hv2.sz
  have hiff : ∀ us, Can 65536 us (vl B64 zs) → (us.length ≤ 1024 ↔ Sz m 256) := fun us ku => by
    have e1 := can_len_iff ku 256
    rw [show 4 * 256 = 1024 from rfl] at e1
    rw [e1, ← h5]
    have h0 := (vl_bd h4).1
    have e2 : ((zi t zs).natAbs : Int) = vl B64 zs := by unfold zi; cases t <;> simp <;> omega
    unfold Sz
    rw [e2]
  have HI := Lib.hid hiff
  have HD := Lib.hid h4
  clear hiff h4 h5
  have ra := Row.new w 29 #[.bool t, .slice B zs.length d, .int .i64 e]
  have hw := al_ w (.cells #[.bool t, .slice B zs.length d, .int .i64 e] 29)
  by_cases q1 : -16384 ≤ e
  · by_cases q2 : e ≤ 16384
    · go_enter Tryd.func36, Tryd.ntmps36
      go_wp2_with fail
      generalize w.alloc (.cells #[.bool t, .slice B zs.length d, .int .i64 e] 29) = W at *
      refine (digits_any B zs.length zs d W (h3.below hw) (by omega) HD.out).mono ?_
      rintro ev w1 ⟨us, C, c, rfl, hcl, hru, ku, b1⟩
      have hl := HI.out us ku
      replace ra := ra.belowR b1
      replace hw := hw.trans (b1.mono hw.size)
      have ha := box3_facts ra
      clear b1 hru ku hcl
      by_cases hs : Sz m 256
      · have hl1 := hl.2 hs
        obtain ⟨K, hK, HS⟩ : ∃ K, K ≤ 256 ∧ Hid (Sz m K) := ⟨256, Nat.le_refl _, hs⟩
        have hdec : decide (May m e) = true := decide_eq_true ⟨q1, q2, hs⟩
        have HDC := Lib.hid hdec
        clear hl hs hdec HI
        go_wp2_with fail
        refine (fromV (hv2.below hw) hk).mono ?_
        rintro ev w2 ⟨u, rfl, hu, b2⟩
        replace hw := hw.trans (b2.mono hw.size)
        clear b2
        obtain ⟨t2, B2, n2, d2, rfl⟩ := hu.shape
        go_wp2_with fail
        refine (toV hu HS.out (by omega)).mono ?_
        rintro ev w3 ⟨u3, rfl, hu3, b3⟩
        replace hw := hw.trans (b3.mono hw.size)
        obtain ⟨t3, us3, B3, d3, rfl, h7, h8, h9⟩ := hu3
        have hl3 : us3.length ≤ 256 := Nat.le_trans (h9.len HS.out) hK
        clear h8 h9 b3
        have hfm := field_mag t3 B3 us3.length d3
        go_wp2_with fail
        go_ret
        exact ⟨ret_bool (by rw [HDC.out]; exact decide_eq_true (by omega)), hw⟩
      · have hl1 : ¬ us.length ≤ 1024 := fun h => hs (hl.1 h)
        have hdec : decide (May m e) = false := decide_eq_false fun h => hs h.2.2
        have HDC := Lib.hid hdec
        clear hl hs hdec HI
        go_wp2_with fail
        go_ret
        exact ⟨ret_bool HDC.out.symm, hw⟩
    · have hdec : decide (May m e) = false := decide_eq_false fun h => q2 h.2.1
      rw [hdec]
      clear hdec
      go_enter Tryd.func36, Tryd.ntmps36
      go_wp2_with fail
      go_ret
      exact ⟨rfl, hw⟩
  · have hdec : decide (May m e) = false := decide_eq_false fun h => q1 h.1
    rw [hdec]
    clear hdec
    go_enter Tryd.func36, Tryd.ntmps36
    go_wp2_with fail
    go_ret
    exact ⟨rfl, hw⟩

set_option maxHeartbeats 1600000 in
theorem rsameY {v v' : Value} {m e : Int} {k : Nat} {w : World} (h : DyV w v m e) (h' : DyV w v' m e) (hz : Sz m k) (hk : k ≤ 1000) :
    Calls Tryd.prog 17 #[v, v'] w fun ev w' => ev = .returned (.bool true) ∧ Below w.heap.size w w' := by
  obtain ⟨t, B, n, d, rfl⟩ := h.shape
  obtain ⟨t', B', n', d', rfl⟩ := h'.shape
  have c1 : CV w (.agg #[.bool t, .slice B n d]) m := by
    obtain ⟨t1, zs, B1, d1, h1, h2, h3, h4⟩ := h
    simp only [Value.agg.injEq, Array.mk.injEq, List.cons.injEq, Value.bool.injEq, Value.slice.injEq, and_true] at h1
    obtain ⟨rfl, rfl, rfl, rfl⟩ := h1
    exact ⟨_, _, _, _, rfl, h2, h3, h4⟩
  have c2 : CV w (.agg #[.bool t', .slice B' n' d']) m := by
    obtain ⟨t1, zs, B1, d1, h1, h2, h3, h4⟩ := h'
    simp only [Value.agg.injEq, Array.mk.injEq, List.cons.injEq, Value.bool.injEq, Value.slice.injEq, and_true] at h1
    obtain ⟨rfl, rfl, rfl, rfl⟩ := h1
    exact ⟨_, _, _, _, rfl, h2, h3, h4⟩
  obtain ⟨ra, rb, hw⟩ := new2 w 29 29 #[.bool t, .slice B n d, .int .i64 e] #[.bool t', .slice B' n' d', .int .i64 e]
  have he : (e == e) = true := by simp
  clear h h'
  go_enter Tryd.func17, Tryd.ntmps17
  go_wp2_with fail
  generalize (w.alloc (.cells #[.bool t, .slice B n d, .int .i64 e] 29)).alloc (.cells #[.bool t', .slice B' n' d', .int .i64 e] 29) = W at *
  refine (sameV (c1.below hw) (c2.below hw) hz hk).mono ?_
  rintro ev w1 ⟨rfl, b1⟩
  go_wp2_with fail
  go_ret
  exact ⟨rfl, hw.trans (b1.mono hw.size)⟩

set_option maxHeartbeats 1600000 in
theorem smallY (x e : Int) {w : World} (hx0 : -9223372036854775808 ≤ x) (hx1 : x ≤ 9223372036854775807) :
    Calls Tryd.prog 38 #[.int .i64 x, .int .i64 e] w fun ev w' => ∃ u, ev = .returned u ∧ DyV w' u x e ∧ Below w.heap.size w w' := by
  have rc := Row.new w 29 #[.bool false, .slice none 0 0, .int .i64 0]
  have hw := al_ w (.cells #[.bool false, .slice none 0 0, .int .i64 0] 29)
  go_enter Tryd.func38, Tryd.ntmps38
  go_wp2_with fail
  generalize w.alloc (.cells #[.bool false, .slice none 0 0, .int .i64 0] 29) = W at *
  refine (smallD x hx0 hx1).mono ?_
  rintro ev w1 ⟨u, rfl, hu, b1⟩
  replace rc := rc.belowR b1
  replace hw := hw.trans (b1.mono hw.size)
  go_wp2_with fail
  refine (toV hu (sz_small (by omega)) (by omega)).mono ?_
  rintro ev w2 ⟨u2, rfl, hu2, b2⟩
  replace rc := rc.belowR b2
  replace hw := hw.trans (b2.mono hw.size)
  obtain ⟨t2, B2, n2, d2, rfl⟩ := hu2.shape
  have hd := DyV.of (e := e) hu2
  have hc := box3_facts rc
  have rc2 := box3_set rc (.bool t2) (.slice B2 n2 d2) (.int .i64 e)
  have hc2 := box3_facts rc2
  have hd2 : DyV (((w2.setCell ⟨w.heap.size, 0, none⟩ (.bool t2)).setCell ⟨w.heap.size, 1, none⟩ (.slice B2 n2 d2)).setCell ⟨w.heap.size, 2, none⟩ (.int .i64 e)) (.agg #[.bool t2, .slice B2 n2 d2, .int .i64 e]) x e := by
    obtain ⟨t, zs, B, d', h2, h3, h4, h5⟩ := hd
    exact ⟨t, zs, B, d', h2, h3, h4.set3 rc _ _ _ _ _, h5⟩
  have hw2 := Below.sets3 hw (g := w.heap.size) (by omega) (.bool t2) (.slice B2 n2 d2) (.int .i64 e)
  clear hd hu hu2 b1 b2
  go_wp2_with fail
  exact bodyPost_ret (v := .agg #[.bool t2, .slice B2 n2 d2, .int .i64 e]) (by simp [results, Tryd.results38, go_sem, hc2]) rfl ⟨_, rfl, hd2, hw2⟩
end Go.Proofs.YtlgecdkidgjgiaaDoor
