/- Layer 6's ratio of a plain number: the code's. -/
import Derived.Test.YtlgecdkidgjgiaaDoorRatA
namespace Go.Proofs.YtlgecdkidgjgiaaDoor
open Go.RowKit

theorem box3_two {w : World} {g : Nat} {e : TypeId} {v0 v1 v2 : Value} (h : Row w g e #[v0, v1, v2]) : w.cell? ⟨g, 2, none⟩ = some v2 := (box3_facts h).2.2.1

set_option maxRecDepth 100000 in
set_option maxHeartbeats 3200000 in
theorem dratioV {v : Value} {m e : Int} {w : World} (h : DyV w v m e) (hp : plain2 m e = some (m, e)) (hz : Sz m 40) (he0 : -16384 ≤ e) (he1 : e ≤ 16384) (ht : TabOk w) :
    Calls Tryd.prog 29 #[v] w fun ev w' => ∃ u, ev = .returned (.tuple #[u, .nilIface]) ∧ RV w' u m e ∧ Below w.heap.size w w' := by
  have i1 := h.idy hz
  obtain ⟨t, B, n, d, rfl⟩ := h.shape
  obtain ⟨ra, rb, hw⟩ := new2 w 29 57 #[.bool t, .slice B n d, .int .i64 e] #[.bool false, .slice none 0 0, .bool false, .slice none 0 0]
  have hm1 := fun ats ty w => maxi_run ats ty e 0 (e.toNat : Int) (by omega) w
  have hm2 := fun ats ty w => maxi_run ats ty (-e) 0 ((-e).toNat : Int) (by omega) w
  have hwn : IntKind.i64.wrap (-e) = -e := IntWalk.i64_in _ (by omega)
  have HB := Lib.hid (show e.toNat ≤ 65536 ∧ (-e).toNat ≤ 65536 by omega)
  have HP := Lib.hid hp
  have HZ := Lib.hid hz
  clear hp hz he0 he1 h
  have e0 : ∃ x : Nat, x = e.toNat := ⟨_, rfl⟩
  obtain ⟨x, hx⟩ := e0
  obtain ⟨y, hy⟩ : ∃ y : Nat, y = (-e).toNat := ⟨_, rfl⟩
  rw [← hx] at hm1
  rw [← hy] at hm2
  have HX := Lib.hid (And.intro hx hy)
  rw [← hx, ← hy] at HB
  clear hx hy
  go_enter Tryd.func29, Tryd.ntmps29
  go_wp2_with fail
  generalize (w.alloc (.cells #[.bool t, .slice B n d, .int .i64 e] 29)).alloc (.cells #[.bool false, .slice none 0 0, .bool false, .slice none 0 0] 57) = W at *
  refine (dplainV (i1.below hw) (by omega) (ht.below hw)).mono ?_
  rintro ev w1 ⟨u, rfl, hres, b1⟩
  rw [HP.out] at hres
  obtain ⟨dd, rfl, hd⟩ := hres
  obtain ⟨t2, B2, n2, d2, rfl⟩ := hd.shape
  replace ra := ra.belowR b1
  replace rb := rb.belowR b1
  replace hw := hw.trans (b1.mono hw.size)
  clear b1 i1
  have f1 := box3_facts ra
  have hc := hd.cv.setD ra t2 B2 n2 d2
  have rb2 := rb.sets3 (.bool t2) (.slice B2 n2 d2) (.int .i64 e) (g' := w.heap.size) (by omega)
  have ra2 := box3_set ra (.bool t2) (.slice B2 n2 d2) (.int .i64 e)
  have hd2 := hd.set3 ra t2 B2 n2 d2 (.int .i64 e)
  have hw2 := Below.sets3 hw (Nat.le_refl _) (.bool t2) (.slice B2 n2 d2) (.int .i64 e)
  have f2 := box3_facts ra2
  clear hc
  go_wp2_with fail
  generalize ((w1.setCell ⟨w.heap.size, 0, none⟩ (.bool t2)).setCell ⟨w.heap.size, 1, none⟩ (.slice B2 n2 d2)).setCell ⟨w.heap.size, 2, none⟩ (.int .i64 e) = w2 at *
  clear f1 hd ra rb hw
  refine (wshlV x (hd2.cv.iv HZ.out) (by omega) HB.out.1).mono ?_
  rintro ev w3 ⟨vn, rfl, cn, b3⟩
  obtain ⟨tn, Bn, nn, dn, rfl⟩ := cn.shape
  have b4 := al_ w3 (.cells #[.bool tn, .slice Bn nn dn] 27)
  have hb34 := on_ b3 b4
  replace ra := ra2.belowR hb34
  replace rb := rb2.belowR hb34
  replace hw := hw2.trans (hb34.mono hw2.size)
  replace cn := cn.below b4
  have r5 : Row (w3.alloc (.cells #[.bool tn, .slice Bn nn dn] 27)) w3.heap.size 27 #[.bool tn, .slice Bn nn dn] := Row.newE rfl
  have lg : w.heap.size + 1 < w3.heap.size := Nat.lt_of_lt_of_le rb2.lt b3.size
  clear ra2 rb2 hw2 hd2 f2 b3 b4 hb34
  go_upto_region 5 with fail
  generalize hg5 : w3.heap.size = g5 at *
  clear hg5
  generalize w3.alloc (.cells #[.bool tn, .slice Bn nn dn] 27) = w4 at *
  have l5 := r5.lt
  go_cut [7, 8] (fun v7 v8 wx => ∃ (g : Nat) (t : Bool) (B : Option Addr) (n d : Nat), v7 = .pointer (some ⟨g, 0, none⟩) ∧ v8 = .nilIface ∧ Row wx g 27 #[.bool t, .slice B n d] ∧ CV wx (.agg #[.bool t, .slice B n d]) (2 ^ y * 1) ∧
    Row wx g5 27 #[.bool tn, .slice Bn nn dn] ∧ CV wx (.agg #[.bool tn, .slice Bn nn dn]) (2 ^ x * m) ∧ Row wx (w.heap.size + 1) 57 #[.bool false, .slice none 0 0, .bool false, .slice none 0 0] ∧ Below w.heap.size w wx)
  case first =>
    have hb := dr_ w4
    have hc := box3_two ra.drew
    have lb : w4.heap.size ≤ w4.drew.heap.size := Nat.le_refl _
    go_region_held3 (fun wx => wx.cell? ⟨w.heap.size, 2, none⟩ = some (.int .i64 e))
      (first | with_reducible exact hc | (with_reducible refine box3_two (e := 29) (v0 := .bool t2) (v1 := .slice B2 n2 d2) ?_ <;> repeat (first | with_reducible exact Row.belowR ra hb | with_reducible exact ra | with_reducible refine Row.drew ?_ | with_reducible refine Row.allocR ?_ _ | with_reducible refine Row.sets ?_ _ _ (by omega))))
      (first
        | (go_at_call 55; refine (ofV 1 (by omega) (by omega)).mono ?_; rintro ev wa ⟨va, rfl, c1, b⟩; obtain ⟨ta, Ba, na, da, rfl⟩ := c1.shape; have hb' : Below w4.heap.size w4 wa := (by first | with_reducible exact on_ hb b | with_reducible exact on_ (on_ hb (al_ _ _)) b | with_reducible exact on_ (on_ (al_ _ _) (dr_ _)) b); (first | (replace rn := rn.belowR b; have hn := box_facts rn) | (have rn := Row.belowR (Row.newE (e := 27) (arr := #[.bool false, .slice none 0 0]) rfl) b; have hn := box_facts rn) | (have rn := Row.belowR (Row.drew (Row.newE (e := 27) (arr := #[.bool false, .slice none 0 0]) rfl)) b; have hn := box_facts rn) | skip); replace hb := hb'; clear hb'; replace lb := hb.size; have lwa := hb.size; replace hc := box3_two (ra.belowR hb); clear b)
        | (go_at_call 23; refine (wshlV y (CV.iv (k := 1) (by first | with_reducible exact c1 | with_reducible exact CV.below c1 (al_ _ _)) sz_one) (by omega) HB.out.2).mono ?_; rintro ev wb ⟨vb, rfl, c2, b⟩; obtain ⟨tb, Bb, nb, db, rfl⟩ := c2.shape; have hb' : Below w4.heap.size w4 wb := (by first | with_reducible exact on_ hb b | with_reducible exact on_ (on_ hb (al_ _ _)) b | with_reducible exact on_ (on_ (al_ _ _) (dr_ _)) b); (first | (replace rn := rn.belowR b; have hn := box_facts rn) | (have rn := Row.belowR (Row.newE (e := 27) (arr := #[.bool false, .slice none 0 0]) rfl) b; have hn := box_facts rn) | (have rn := Row.belowR (Row.drew (Row.newE (e := 27) (arr := #[.bool false, .slice none 0 0]) rfl)) b; have hn := box_facts rn) | skip); replace hb := hb'; clear hb'; replace lb := hb.size; have lwb := hb.size; replace hc := box3_two (ra.belowR hb); clear b; clear c1))
    all_goals
      go_wp2_with fail
      go_meet
      refine ⟨_, tb, Bb, nb, db, rfl, rfl, ?_, ?_, ?_, ?_, ?_, ?_⟩
      · first | with_reducible exact Row.newE rfl | with_reducible exact box_set rn _ _
      · first | with_reducible exact CV.below c2 (al_ _ _) | with_reducible exact CV.sets c2 rn _ _
      · first | with_reducible exact Row.allocR (Row.belowR r5 hb) _ | with_reducible exact Row.sets (Row.belowR r5 hb) _ _ (by omega)
      · first | with_reducible exact CV.below (CV.below cn hb) (al_ _ _) | with_reducible exact CV.sets (CV.below cn hb) rn _ _
      · first | with_reducible exact Row.allocR (Row.belowR rb hb) _ | with_reducible exact Row.sets (Row.belowR rb hb) _ _ (by omega)
      · first | with_reducible exact hw.trans ((on_ hb (al_ _ _)).mono hw.size) | with_reducible exact Below.sets (hw.trans (hb.mono hw.size)) (by have := hw.size; omega) _ _
  case rest =>
    obtain ⟨g, t, B, n, d, rfl, rfl, r7, c7, r5, c5, rb, hb⟩ := hcut
    have f1 := box_facts r7
    have f2 := box_facts r5
    have f3 := box4_facts rb
    clear hw
    go_wp2_with fail
    have rb4 := box4_set rb (.bool tn) (.slice Bn nn dn) (.bool t) (.slice B n d)
    have f4 := box4_facts rb4
    unfold sets4 at f4
    obtain ⟨rfl, rfl⟩ := HX.out
    exact bodyPost_ret (v := .tuple #[.agg #[.bool tn, .slice Bn nn dn, .bool t, .slice B n d], .nilIface]) (by simp [results, Tryd.results29, go_sem, f4]) rfl
      ⟨_, rfl, ⟨_, _, _, _, _, _, _, _, rfl, c5.set4 rb _ _ _ _ _ _ _ _, c7.set4 rb _ _ _ _ _ _ _ _⟩, below_sets4 hb (by omega) _ _ _ _⟩
end Go.Proofs.YtlgecdkidgjgiaaDoor
