/- The walk of the law of what dyadic numbers do. -/
import Derived.Test.YtlgecdkidgjgiaaDoorDs
namespace Go.Proofs.YtlgecdkidgjgiaaDoor
open Go.RowKit

theorem Res.shape6 {w : World} {v : Value} {r : Option (Int × Int)} (h : Res w v r) : ∃ (t : Bool) (B : Option Addr) (n d : Nat) (e : Int) (er : Value), v = .tuple #[.agg #[.bool t, .slice B n d, .int .i64 e], er] := by
  cases r with
  | none => exact ⟨_, _, _, _, _, _, h⟩
  | some p =>
    obtain ⟨d, h1, h2⟩ := h
    obtain ⟨t, B, n, d', rfl⟩ := h2.shape
    exact ⟨_, _, _, _, _, _, h1⟩
theorem cls6 (z : Int) : (4000 < z ∧ z ≤ 16384 ∧ ¬ z < -4000) ∨ (4000 < z ∧ ¬ z ≤ 16384 ∧ ¬ z < -4000) ∨ (¬ 4000 < z ∧ z < -4000 ∧ -16384 ≤ z) ∨ (¬ 4000 < z ∧ z < -4000 ∧ ¬ -16384 ≤ z) ∨ (¬ 4000 < z ∧ ¬ z < -4000) := by omega

set_option maxRecDepth 100000 in
set_option maxHeartbeats 12000000 in
theorem does6_any (t t' : Bool) (B B' : Option Addr) (n n' d d' : Nat) (xs ys : List Int) (e e' : Int) (w : World) (ht : TabOk w) (he : ErrOk w) (hr : RdS w .u64 B n xs) (hr' : RdS w .u64 B' n' ys) (hc : n ≤ d) (hc' : n' ≤ d') (hx : Dg B64 xs) (hy : Dg B64 ys) :
    Calls Tryd.prog 7 #[.agg #[.bool t, .slice B n d, .int .i64 e], .agg #[.bool t', .slice B' n' d', .int .i64 e']] w fun ev w' => ev = .returned (.bool true) ∧ Below w.heap.size w w' := by
  obtain ⟨ra, rb, hw⟩ := new2 w 29 29 #[.bool t, .slice B n d, .int .i64 e] #[.bool t', .slice B' n' d', .int .i64 e']
  obtain ⟨bb, hbb⟩ : ∃ bb, bb = decide (20 < n ∨ 20 < n' ∨ (4000 < e ∧ e ≤ 16384) ∨ (e < -4000 ∧ -16384 ≤ e) ∨ (4000 < e' ∧ e' ≤ 16384) ∨ (e' < -4000 ∧ -16384 ≤ e')) := ⟨_, rfl⟩
  have HY := Lib.hid (And.intro hr (And.intro hr' (And.intro hc (And.intro hc' (And.intro hx hy)))))
  have HBB := Lib.hid hbb
  clear hr hr' hc hc' hx hy hbb
  go_enter Tryd.func7, Tryd.ntmps7
  go_wp2_with fail
  generalize (w.alloc (.cells #[.bool t, .slice B n d, .int .i64 e] 29)).alloc (.cells #[.bool t', .slice B' n' d', .int .i64 e'] 29) = W at *
  refine (awake6_any W (ht.below hw)).mono ?_
  rintro ev w1 ⟨rfl, b1⟩
  replace ra := ra.belowR b1
  replace rb := rb.belowR b1
  have HW := Lib.hid hw
  replace hw := hw.trans (b1.mono hw.size)
  have HW1 := Lib.hid b1
  clear b1
  go_upto_region 3 with fail
  go_cut [76] (fun v76 wx => v76 = .bool bb ∧ wx = w1)
  case first =>
    have fa := box3_facts ra
    have fb := box3_facts rb
    by_cases c1 : 20 < n
    · as_aux_lemma =>
      go_wp2_with fail
      go_meet
      exact ⟨congrArg Value.bool (HBB.out.trans (decide_eq_true (p := (20 < n ∨ 20 < n' ∨ (4000 < e ∧ e ≤ 16384) ∨ (e < -4000 ∧ -16384 ≤ e) ∨ (4000 < e' ∧ e' ≤ 16384) ∨ (e' < -4000 ∧ -16384 ≤ e'))) (by omega))).symm, rfl⟩
    by_cases c2 : 20 < n'
    · as_aux_lemma =>
      go_wp2_with fail
      go_meet
      exact ⟨congrArg Value.bool (HBB.out.trans (decide_eq_true (p := (20 < n ∨ 20 < n' ∨ (4000 < e ∧ e ≤ 16384) ∨ (e < -4000 ∧ -16384 ≤ e) ∨ (4000 < e' ∧ e' ≤ 16384) ∨ (e' < -4000 ∧ -16384 ≤ e'))) (by omega))).symm, rfl⟩
    rcases cls6 e with ⟨k1, k2, k3⟩ | ⟨k1, k2, k3⟩ | ⟨k1, k2, k3⟩ | ⟨k1, k2, k3⟩ | ⟨k1, k2⟩
    · as_aux_lemma =>
      go_wp2_with fail
      go_meet
      exact ⟨congrArg Value.bool (HBB.out.trans (decide_eq_true (p := (20 < n ∨ 20 < n' ∨ (4000 < e ∧ e ≤ 16384) ∨ (e < -4000 ∧ -16384 ≤ e) ∨ (4000 < e' ∧ e' ≤ 16384) ∨ (e' < -4000 ∧ -16384 ≤ e'))) (by omega))).symm, rfl⟩
    · rcases cls6 e' with ⟨l1, l2, l3⟩ | ⟨l1, l2, l3⟩ | ⟨l1, l2, l3⟩ | ⟨l1, l2, l3⟩ | ⟨l1, l2⟩
      all_goals as_aux_lemma =>
        go_wp2_with fail
        go_meet
        first
          | exact ⟨congrArg Value.bool (HBB.out.trans (decide_eq_true (p := (20 < n ∨ 20 < n' ∨ (4000 < e ∧ e ≤ 16384) ∨ (e < -4000 ∧ -16384 ≤ e) ∨ (4000 < e' ∧ e' ≤ 16384) ∨ (e' < -4000 ∧ -16384 ≤ e'))) (by omega))).symm, rfl⟩
          | exact ⟨congrArg Value.bool (HBB.out.trans (decide_eq_false (p := (20 < n ∨ 20 < n' ∨ (4000 < e ∧ e ≤ 16384) ∨ (e < -4000 ∧ -16384 ≤ e) ∨ (4000 < e' ∧ e' ≤ 16384) ∨ (e' < -4000 ∧ -16384 ≤ e'))) (by omega))).symm, rfl⟩
          | exact ⟨congrArg Value.bool ((show (decide (20 < (n : Int)) || decide (20 < (n' : Int))) = false by rw [decide_eq_false (show ¬ (20 < (n : Int)) by omega), decide_eq_false (show ¬ (20 < (n' : Int)) by omega)]; rfl).trans (HBB.out.trans (decide_eq_false (p := (20 < n ∨ 20 < n' ∨ (4000 < e ∧ e ≤ 16384) ∨ (e < -4000 ∧ -16384 ≤ e) ∨ (4000 < e' ∧ e' ≤ 16384) ∨ (e' < -4000 ∧ -16384 ≤ e'))) (by omega))).symm), rfl⟩
    · as_aux_lemma =>
      go_wp2_with fail
      go_meet
      exact ⟨congrArg Value.bool (HBB.out.trans (decide_eq_true (p := (20 < n ∨ 20 < n' ∨ (4000 < e ∧ e ≤ 16384) ∨ (e < -4000 ∧ -16384 ≤ e) ∨ (4000 < e' ∧ e' ≤ 16384) ∨ (e' < -4000 ∧ -16384 ≤ e'))) (by omega))).symm, rfl⟩
    · rcases cls6 e' with ⟨l1, l2, l3⟩ | ⟨l1, l2, l3⟩ | ⟨l1, l2, l3⟩ | ⟨l1, l2, l3⟩ | ⟨l1, l2⟩
      all_goals as_aux_lemma =>
        go_wp2_with fail
        go_meet
        first
          | exact ⟨congrArg Value.bool (HBB.out.trans (decide_eq_true (p := (20 < n ∨ 20 < n' ∨ (4000 < e ∧ e ≤ 16384) ∨ (e < -4000 ∧ -16384 ≤ e) ∨ (4000 < e' ∧ e' ≤ 16384) ∨ (e' < -4000 ∧ -16384 ≤ e'))) (by omega))).symm, rfl⟩
          | exact ⟨congrArg Value.bool (HBB.out.trans (decide_eq_false (p := (20 < n ∨ 20 < n' ∨ (4000 < e ∧ e ≤ 16384) ∨ (e < -4000 ∧ -16384 ≤ e) ∨ (4000 < e' ∧ e' ≤ 16384) ∨ (e' < -4000 ∧ -16384 ≤ e'))) (by omega))).symm, rfl⟩
          | exact ⟨congrArg Value.bool ((show (decide (20 < (n : Int)) || decide (20 < (n' : Int))) = false by rw [decide_eq_false (show ¬ (20 < (n : Int)) by omega), decide_eq_false (show ¬ (20 < (n' : Int)) by omega)]; rfl).trans (HBB.out.trans (decide_eq_false (p := (20 < n ∨ 20 < n' ∨ (4000 < e ∧ e ≤ 16384) ∨ (e < -4000 ∧ -16384 ≤ e) ∨ (4000 < e' ∧ e' ≤ 16384) ∨ (e' < -4000 ∧ -16384 ≤ e'))) (by omega))).symm), rfl⟩
    · rcases cls6 e' with ⟨l1, l2, l3⟩ | ⟨l1, l2, l3⟩ | ⟨l1, l2, l3⟩ | ⟨l1, l2, l3⟩ | ⟨l1, l2⟩
      all_goals as_aux_lemma =>
        go_wp2_with fail
        go_meet
        first
          | exact ⟨congrArg Value.bool (HBB.out.trans (decide_eq_true (p := (20 < n ∨ 20 < n' ∨ (4000 < e ∧ e ≤ 16384) ∨ (e < -4000 ∧ -16384 ≤ e) ∨ (4000 < e' ∧ e' ≤ 16384) ∨ (e' < -4000 ∧ -16384 ≤ e'))) (by omega))).symm, rfl⟩
          | exact ⟨congrArg Value.bool (HBB.out.trans (decide_eq_false (p := (20 < n ∨ 20 < n' ∨ (4000 < e ∧ e ≤ 16384) ∨ (e < -4000 ∧ -16384 ≤ e) ∨ (4000 < e' ∧ e' ≤ 16384) ∨ (e' < -4000 ∧ -16384 ≤ e'))) (by omega))).symm, rfl⟩
          | exact ⟨congrArg Value.bool ((show (decide (20 < (n : Int)) || decide (20 < (n' : Int))) = false by rw [decide_eq_false (show ¬ (20 < (n : Int)) by omega), decide_eq_false (show ¬ (20 < (n' : Int)) by omega)]; rfl).trans (HBB.out.trans (decide_eq_false (p := (20 < n ∨ 20 < n' ∨ (4000 < e ∧ e ≤ 16384) ∨ (e < -4000 ∧ -16384 ≤ e) ∨ (4000 < e' ∧ e' ≤ 16384) ∨ (e' < -4000 ∧ -16384 ≤ e'))) (by omega))).symm), rfl⟩

  case rest =>
  as_aux_lemma =>
  obtain ⟨rfl, hwx⟩ := hcut
  have hwx2 := hwx.symm
  subst hwx2
  clear hwx
  have HBF := HBB
  cases bb with
  | true =>
    go_wp2_with fail
    go_ret
    exact ⟨rfl, hw⟩
  | false =>
  have hbad := of_decide_eq_false HBF.out.symm
  have q0 : n ≤ 20 := by omega
  have q1 : n' ≤ 20 := by omega
  obtain ⟨hr, hr', hc, hc', hx, hy⟩ := HY.out
  have i1 : IDy w (.agg #[.bool t, .slice B n d, .int .i64 e]) (zi t xs) e 20 := ⟨t, xs, B, d, by rw [hr.len], by rw [hr.len]; exact hc, by rw [hr.len]; exact hr, hx, rfl, by rw [hr.len]; exact q0⟩
  have i2 : IDy w (.agg #[.bool t', .slice B' n' d', .int .i64 e']) (zi t' ys) e' 20 := ⟨t', ys, B', d', by rw [hr'.len], by rw [hr'.len]; exact hc', by rw [hr'.len]; exact hr', hy, rfl, by rw [hr'.len]; exact q1⟩
  have hv : IV w (.agg #[.bool t, .slice B n d]) (zi t xs) 20 := ⟨t, xs, B, d, by rw [hr.len], by rw [hr.len]; exact hc, by rw [hr.len]; exact hr, hx, rfl, by rw [hr.len]; exact q0⟩
  clear hr hr' hc hc' hx hy HY HBB HBF hbad q0 q1
  replace i1 := (i1.below HW.out).below HW1.out
  replace i2 := (i2.below HW.out).below HW1.out
  replace hv := (hv.below HW.out).below HW1.out
  clear HW HW1
  generalize zi t xs = m at *
  generalize zi t' ys = m' at *
  have HZ := Lib.hid hv.sz
  have fa := box3_facts ra
  have fb := box3_facts rb
  go_wp2_with fail
  clear fa fb
  refine (daddV i1 i2 (by omega) (ht.below hw)).mono ?_
  rintro ev w2 ⟨u, rfl, h5, b2⟩
  obtain ⟨t5, B5, n5, d5, x5, e5, rfl⟩ := h5.shape6
  replace ra := ra.belowR b2
  replace rb := rb.belowR b2
  replace i1 := i1.below b2
  replace i2 := i2.below b2
  replace hv := hv.below b2
  replace hw := hw.trans (b2.mono hw.size)
  have b3 := al_ w2 (.cells #[.bool t5, .slice B5 n5 d5, .int .i64 x5] 29)
  replace ra := ra.belowR b3
  replace rb := rb.belowR b3
  replace i1 := i1.below b3
  replace i2 := i2.below b3
  replace hv := hv.below b3
  replace hw := hw.trans (b3.mono hw.size)
  replace h5 := h5.below b3
  have r5 : Row (w2.alloc (.cells #[.bool t5, .slice B5 n5 d5, .int .i64 x5] 29)) w2.heap.size 29 #[.bool t5, .slice B5 n5 d5, .int .i64 x5] := Row.newE rfl
  clear b2 b3
  have fra := box3_facts ra
  have frb := box3_facts rb
  go_wp2_with fail
  generalize hG : w2.heap.size = g5 at *
  clear hG
  generalize w2.alloc (.cells #[.bool t5, .slice B5 n5 d5, .int .i64 x5] 29) = w3 at *
  clear fra frb
  refine (rAddY i1 i2 (by omega)).mono ?_
  rintro ev w2 ⟨u, rfl, h7, b2⟩
  obtain ⟨t7, B7, n7, d7, x7, e7, rfl⟩ := h7.shape
  replace ra := ra.belowR b2
  replace rb := rb.belowR b2
  replace i1 := i1.below b2
  replace i2 := i2.below b2
  replace hv := hv.below b2
  replace r5 := r5.belowR b2
  replace h5 := h5.below b2
  replace hw := hw.trans (b2.mono hw.size)
  have b3 := al_ w2 (.cells #[.bool t7, .slice B7 n7 d7, .int .i64 x7] 29)
  replace ra := ra.belowR b3
  replace rb := rb.belowR b3
  replace i1 := i1.below b3
  replace i2 := i2.below b3
  replace hv := hv.below b3
  replace r5 := r5.belowR b3
  replace h5 := h5.below b3
  replace hw := hw.trans (b3.mono hw.size)
  replace h7 := h7.below b3
  have r7 : Row (w2.alloc (.cells #[.bool t7, .slice B7 n7 d7, .int .i64 x7] 29)) w2.heap.size 29 #[.bool t7, .slice B7 n7 d7, .int .i64 x7] := Row.newE rfl
  clear b2 b3
  have fra := box3_facts ra
  have frb := box3_facts rb
  go_wp2_with fail
  generalize hG : w2.heap.size = g7 at *
  clear hG
  generalize w2.alloc (.cells #[.bool t7, .slice B7 n7 d7, .int .i64 x7] 29) = w3 at *
  clear fra frb
  refine (dsubV i1 i2 (by omega) (ht.below hw)).mono ?_
  rintro ev w2 ⟨u, rfl, h9, b2⟩
  obtain ⟨t9, B9, n9, d9, x9, e9, rfl⟩ := h9.shape6
  replace ra := ra.belowR b2
  replace rb := rb.belowR b2
  replace i1 := i1.below b2
  replace i2 := i2.below b2
  replace hv := hv.below b2
  replace r5 := r5.belowR b2
  replace h5 := h5.below b2
  replace r7 := r7.belowR b2
  replace h7 := h7.below b2
  replace hw := hw.trans (b2.mono hw.size)
  have b3 := al_ w2 (.cells #[.bool t9, .slice B9 n9 d9, .int .i64 x9] 29)
  replace ra := ra.belowR b3
  replace rb := rb.belowR b3
  replace i1 := i1.below b3
  replace i2 := i2.below b3
  replace hv := hv.below b3
  replace r5 := r5.belowR b3
  replace h5 := h5.below b3
  replace r7 := r7.belowR b3
  replace h7 := h7.below b3
  replace hw := hw.trans (b3.mono hw.size)
  replace h9 := h9.below b3
  have r9 : Row (w2.alloc (.cells #[.bool t9, .slice B9 n9 d9, .int .i64 x9] 29)) w2.heap.size 29 #[.bool t9, .slice B9 n9 d9, .int .i64 x9] := Row.newE rfl
  clear b2 b3
  go_upto_region 8 with fail
  generalize hG : w2.heap.size = g9 at *
  clear hG
  generalize w2.alloc (.cells #[.bool t9, .slice B9 n9 d9, .int .i64 x9] 29) = w3 at *
  have lra := ra.lt
  have lrb := rb.lt
  go_cut [11, 12] (fun va vb wx => ∃ (g : Nat) (t : Bool) (B : Option Addr) (n d : Nat) (x : Int) (ok : Bool), va = .pointer (some ⟨g, 0, none⟩) ∧ vb = .bool ok ∧ Row wx g 29 #[.bool t, .slice B n d, .int .i64 x] ∧ ResB wx (.tuple #[.agg #[.bool t, .slice B n d, .int .i64 x], .bool ok]) (add2 m e (-m') e') ∧ Below w3.heap.size w3 wx)
  case first =>
    have hb := dr_ w3
    have hc := s6 ra.drew rb.drew
    have lb : w3.heap.size ≤ w3.drew.heap.size := Nat.le_refl _
    go_region_held3 (fun wx => wx.cell? ⟨w.heap.size, 0, none⟩ = some (.bool t) ∧ wx.cell? ⟨w.heap.size, 1, none⟩ = some (.slice B n d) ∧ wx.cell? ⟨w.heap.size, 2, none⟩ = some (.int .i64 e) ∧ wx.cell? ⟨w.heap.size + 1, 0, none⟩ = some (.bool t') ∧ wx.cell? ⟨w.heap.size + 1, 1, none⟩ = some (.slice B' n' d') ∧ wx.cell? ⟨w.heap.size + 1, 2, none⟩ = some (.int .i64 e'))
      (first | with_reducible exact hc | (with_reducible refine s6 (e := 29) (e' := 29) ?_ ?_ <;> repeat (first | with_reducible exact Row.belowR ra hb | with_reducible exact Row.belowR rb hb | with_reducible exact ra | with_reducible exact rb | with_reducible refine Row.drew ?_ | with_reducible refine Row.allocR ?_ _ | with_reducible refine Row.otherJ ?_ _ _ (by omega))))
      (first
        | (go_at_call 33; refine (rnegY (IDy.below i2 (by first | with_reducible exact hb | with_reducible exact on_ hb (al_ _ _) | with_reducible exact on_ (al_ _ _) (dr_ _)))).mono ?_; rintro ev wn ⟨ua, rfl, dn, b⟩; have hb' : Below w3.heap.size w3 wn := (by first | with_reducible exact on_ hb b | with_reducible exact on_ (on_ hb (al_ _ _)) b | with_reducible exact on_ (on_ (al_ _ _) (dr_ _)) b); (first | (replace rn := rn.belowR b; have hn := box3_facts rn) | (have rn := Row.belowR (Row.newE (e := 29) (arr := #[.bool false, .slice none 0 0, .int .i64 0]) rfl) b; have hn := box3_facts rn) | (have rn := Row.belowR (Row.drew (Row.newE (e := 29) (arr := #[.bool false, .slice none 0 0, .int .i64 0]) rfl)) b; have hn := box3_facts rn) | skip); replace hb := hb'; clear hb'; replace lb := hb.size; have hl := hb.size; replace hc := s6 (ra.belowR hb) (rb.belowR hb); clear b)
        | (go_at_call 32; refine (rAddY (IDy.below i1 (by first | with_reducible exact hb | with_reducible exact on_ hb (al_ _ _) | with_reducible exact on_ (al_ _ _) (dr_ _))) (by first | with_reducible exact dn | with_reducible exact IDy.below dn (al_ _ _)) (by omega)).mono ?_; rintro ev wn ⟨ub, rfl, hres, b⟩; obtain ⟨tu, Bu, nu, du, xu, oku, rfl⟩ := hres.shape; have hb' : Below w3.heap.size w3 wn := (by first | with_reducible exact on_ hb b | with_reducible exact on_ (on_ hb (al_ _ _)) b | with_reducible exact on_ (on_ (al_ _ _) (dr_ _)) b); (first | (replace rn := rn.belowR b; have hn := box3_facts rn) | (have rn := Row.belowR (Row.newE (e := 29) (arr := #[.bool false, .slice none 0 0, .int .i64 0]) rfl) b; have hn := box3_facts rn) | (have rn := Row.belowR (Row.drew (Row.newE (e := 29) (arr := #[.bool false, .slice none 0 0, .int .i64 0]) rfl)) b; have hn := box3_facts rn) | skip); replace hb := hb'; clear hb'; replace lb := hb.size; have hl := hb.size; replace hc := s6 (ra.belowR hb) (rb.belowR hb); clear b))
    all_goals
      go_wp2_with fail
      go_meet
      refine ⟨_, tu, Bu, nu, du, xu, oku, rfl, rfl, ?_, ?_, ?_⟩
      · first | with_reducible exact Row.newE rfl | with_reducible exact box3_set rn _ _ _
      · first | with_reducible exact ResB.below hres (al_ _ _) | with_reducible exact ResB.set3 hres rn _ _ _ _ _
      · first | with_reducible exact on_ hb (al_ _ _) | with_reducible exact Below.sets3 hb (by omega) _ _ _
  case rest =>
  obtain ⟨g11, t11, B11, n11, d11, x11, e11, rfl, rfl, r11, h11, b2⟩ := hcut
  replace ra := ra.belowR b2
  replace rb := rb.belowR b2
  replace i1 := i1.below b2
  replace i2 := i2.below b2
  replace hv := hv.below b2
  replace r5 := r5.belowR b2
  replace h5 := h5.below b2
  replace r7 := r7.belowR b2
  replace h7 := h7.below b2
  replace r9 := r9.belowR b2
  replace h9 := h9.below b2
  replace hw := hw.trans (b2.mono hw.size)
  clear b2 lra lrb
  have fa := box3_facts ra
  have fb := box3_facts rb
  go_wp2_with fail
  clear fa fb
  refine (dmulV i1 i2 (by omega) (ht.below hw)).mono ?_
  rintro ev w2 ⟨u, rfl, h13, b2⟩
  obtain ⟨t13, B13, n13, d13, x13, e13, rfl⟩ := h13.shape6
  replace ra := ra.belowR b2
  replace rb := rb.belowR b2
  replace i1 := i1.below b2
  replace i2 := i2.below b2
  replace hv := hv.below b2
  replace r5 := r5.belowR b2
  replace h5 := h5.below b2
  replace r7 := r7.belowR b2
  replace h7 := h7.below b2
  replace r9 := r9.belowR b2
  replace h9 := h9.below b2
  replace r11 := r11.belowR b2
  replace h11 := h11.below b2
  replace hw := hw.trans (b2.mono hw.size)
  have b3 := al_ w2 (.cells #[.bool t13, .slice B13 n13 d13, .int .i64 x13] 29)
  replace ra := ra.belowR b3
  replace rb := rb.belowR b3
  replace i1 := i1.below b3
  replace i2 := i2.below b3
  replace hv := hv.below b3
  replace r5 := r5.belowR b3
  replace h5 := h5.below b3
  replace r7 := r7.belowR b3
  replace h7 := h7.below b3
  replace r9 := r9.belowR b3
  replace h9 := h9.below b3
  replace r11 := r11.belowR b3
  replace h11 := h11.below b3
  replace hw := hw.trans (b3.mono hw.size)
  replace h13 := h13.below b3
  have r13 : Row (w2.alloc (.cells #[.bool t13, .slice B13 n13 d13, .int .i64 x13] 29)) w2.heap.size 29 #[.bool t13, .slice B13 n13 d13, .int .i64 x13] := Row.newE rfl
  clear b2 b3
  have fra := box3_facts ra
  have frb := box3_facts rb
  go_wp2_with fail
  generalize hG : w2.heap.size = g13 at *
  clear hG
  generalize w2.alloc (.cells #[.bool t13, .slice B13 n13 d13, .int .i64 x13] 29) = w3 at *
  clear fra frb
  refine (rMulY i1 i2 (by omega)).mono ?_
  rintro ev w2 ⟨u, rfl, h15, b2⟩
  obtain ⟨t15, B15, n15, d15, x15, e15, rfl⟩ := h15.shape
  replace ra := ra.belowR b2
  replace rb := rb.belowR b2
  replace i1 := i1.below b2
  replace i2 := i2.below b2
  replace hv := hv.below b2
  replace r5 := r5.belowR b2
  replace h5 := h5.below b2
  replace r7 := r7.belowR b2
  replace h7 := h7.below b2
  replace r9 := r9.belowR b2
  replace h9 := h9.below b2
  replace r11 := r11.belowR b2
  replace h11 := h11.below b2
  replace r13 := r13.belowR b2
  replace h13 := h13.below b2
  replace hw := hw.trans (b2.mono hw.size)
  have b3 := al_ w2 (.cells #[.bool t15, .slice B15 n15 d15, .int .i64 x15] 29)
  replace ra := ra.belowR b3
  replace rb := rb.belowR b3
  replace i1 := i1.below b3
  replace i2 := i2.below b3
  replace hv := hv.below b3
  replace r5 := r5.belowR b3
  replace h5 := h5.below b3
  replace r7 := r7.belowR b3
  replace h7 := h7.below b3
  replace r9 := r9.belowR b3
  replace h9 := h9.below b3
  replace r11 := r11.belowR b3
  replace h11 := h11.below b3
  replace r13 := r13.belowR b3
  replace h13 := h13.below b3
  replace hw := hw.trans (b3.mono hw.size)
  replace h15 := h15.below b3
  have r15 : Row (w2.alloc (.cells #[.bool t15, .slice B15 n15 d15, .int .i64 x15] 29)) w2.heap.size 29 #[.bool t15, .slice B15 n15 d15, .int .i64 x15] := Row.newE rfl
  clear b2 b3
  have fra := box3_facts ra
  have frb := box3_facts rb
  have fr5 := box3_facts r5
  have fr7 := box3_facts r7
  have fr9 := box3_facts r9
  have fr11 := box3_facts r11
  have fr13 := box3_facts r13
  have fr15 := box3_facts r15
  go_wp2_with fail
  generalize hG : w2.heap.size = g15 at *
  clear hG
  generalize w2.alloc (.cells #[.bool t15, .slice B15 n15 d15, .int .i64 x15] 29) = w3 at *
  clear fra frb fr5 fr7 fr9 fr11 fr13 fr15
  refine (toldV h5 h7 (he.below hw) (fun _ _ h => add2_may h)).mono ?_
  rintro ev w2 ⟨rfl, b2⟩
  clear r5 h5 r7 h7
  replace ra := ra.belowR b2
  replace rb := rb.belowR b2
  replace i1 := i1.below b2
  replace i2 := i2.below b2
  replace hv := hv.below b2
  replace r9 := r9.belowR b2
  replace h9 := h9.below b2
  replace r11 := r11.belowR b2
  replace h11 := h11.below b2
  replace r13 := r13.belowR b2
  replace h13 := h13.below b2
  replace r15 := r15.belowR b2
  replace h15 := h15.below b2
  replace hw := hw.trans (b2.mono hw.size)
  clear b2
  have fr9 := box3_facts r9
  have fr11 := box3_facts r11
  have fr13 := box3_facts r13
  have fr15 := box3_facts r15
  go_wp2_with fail
  clear fr9
  clear fr11
  clear fr13
  clear fr15
  refine (toldV h9 h11 (he.below hw) (fun _ _ h => add2_may h)).mono ?_
  rintro ev w2 ⟨rfl, b2⟩
  clear r9 h9 r11 h11
  replace ra := ra.belowR b2
  replace rb := rb.belowR b2
  replace i1 := i1.below b2
  replace i2 := i2.below b2
  replace hv := hv.below b2
  replace r13 := r13.belowR b2
  replace h13 := h13.below b2
  replace r15 := r15.belowR b2
  replace h15 := h15.below b2
  replace hw := hw.trans (b2.mono hw.size)
  clear b2
  have fr13 := box3_facts r13
  have fr15 := box3_facts r15
  go_wp2_with fail
  clear fr13
  clear fr15
  refine (toldV h13 h15 (he.below hw) (fun _ _ h => mul2_may h)).mono ?_
  rintro ev w2 ⟨rfl, b2⟩
  clear r13 h13 r15 h15
  replace ra := ra.belowR b2
  replace rb := rb.belowR b2
  replace i1 := i1.below b2
  replace i2 := i2.below b2
  replace hv := hv.below b2
  replace hw := hw.trans (b2.mono hw.size)
  clear b2
  have fra := box3_facts ra
  have frb := box3_facts rb
  go_wp2_with fail
  clear fra
  clear frb
  refine (dcmpV i1 i2 (by omega)).mono ?_
  rintro ev w2 ⟨hcase, b2⟩
  replace ra := ra.belowR b2
  replace rb := rb.belowR b2
  replace i1 := i1.below b2
  replace i2 := i2.below b2
  replace hv := hv.below b2
  replace hw := hw.trans (b2.mono hw.size)
  clear b2
  have fa := box3_facts ra
  have fb := box3_facts rb
  rcases hcase with ⟨q1, q2, rfl⟩ | ⟨hno, rfl⟩
  case inr =>
    have hfin : ∀ (w5 : World), Below w.heap.size w w5 → ErrOk w5 := fun _ h => he.below h
    by_cases q1 : May m e
    · have d1 : decide (May m e) = true := decide_eq_true q1
      have d2 : decide (May m' e') = false := decide_eq_false fun x => hno ⟨q1, x⟩
      clear q1 hno
      go_wp2_with fail
      refine (rmayV i1 (by omega)).mono ?_
      rintro ev w3 ⟨rfl, b2⟩
      have fc := box3_facts (rb.belowR b2)
      replace i2 := i2.below b2
      replace hw := hw.trans (b2.mono hw.size)
      clear fa fb b2
      go_wp2_with fail
      refine (rmayV i2 (by omega)).mono ?_
      rintro ev w4 ⟨rfl, b2⟩
      replace hw := hw.trans (b2.mono hw.size)
      go_wp2_with fail
      refine (code_any 7 (by omega) _ (he.below hw)).mono ?_
      rintro ev w5 ⟨rfl, b2⟩
      go_wp2_with fail
      go_ret
      exact ⟨rfl, hw.trans (b2.mono hw.size)⟩
    · have d1 : decide (May m e) = false := decide_eq_false q1
      clear q1 hno
      go_wp2_with fail
      refine (rmayV i1 (by omega)).mono ?_
      rintro ev w3 ⟨rfl, b2⟩
      replace hw := hw.trans (b2.mono hw.size)
      clear fa fb b2
      go_wp2_with fail
      refine (code_any 7 (by omega) _ (he.below hw)).mono ?_
      rintro ev w5 ⟨rfl, b2⟩
      go_wp2_with fail
      go_ret
      exact ⟨rfl, hw.trans (b2.mono hw.size)⟩
  have d1 : decide (May m e) = true := decide_eq_true q1
  have d2 : decide (May m' e') = true := decide_eq_true q2
  have hp : plain2 m e = mk m e := if_pos q1
  have HP := Lib.hid hp
  have HQ := Lib.hid (And.intro q1 q2)
  have HE := Lib.hid (show -16384 ≤ e ∧ e ≤ 16384 from ⟨q1.1, q1.2.1⟩)
  clear q1 q2 hp
  go_wp2_with fail
  refine (rmayV i1 (by omega)).mono ?_
  rintro ev w3 ⟨rfl, b2⟩
  replace ra := ra.belowR b2
  replace rb := rb.belowR b2
  replace i1 := i1.below b2
  replace i2 := i2.below b2
  replace hv := hv.below b2
  replace hw := hw.trans (b2.mono hw.size)
  clear fa fb b2
  have fb := box3_facts rb
  go_wp2_with fail
  refine (rmayV i2 (by omega)).mono ?_
  rintro ev w4 ⟨rfl, b2⟩
  replace ra := ra.belowR b2
  replace rb := rb.belowR b2
  replace i1 := i1.below b2
  replace i2 := i2.below b2
  replace hv := hv.below b2
  replace hw := hw.trans (b2.mono hw.size)
  clear fb b2
  have fa := box3_facts ra
  go_wp2_with fail
  clear fa d1 d2
  refine (dplainV i1 (by omega) (ht.below hw)).mono ?_
  rintro ev w2 ⟨u, rfl, h19, b2⟩
  obtain ⟨t19, B19, n19, d19, x19, e19, rfl⟩ := h19.shape6
  replace ra := ra.belowR b2
  replace rb := rb.belowR b2
  replace i1 := i1.below b2
  replace i2 := i2.below b2
  replace hv := hv.below b2
  replace hw := hw.trans (b2.mono hw.size)
  have b3 := al_ w2 (.cells #[.bool t19, .slice B19 n19 d19, .int .i64 x19] 29)
  replace ra := ra.belowR b3
  replace rb := rb.belowR b3
  replace i1 := i1.below b3
  replace i2 := i2.below b3
  replace hv := hv.below b3
  replace hw := hw.trans (b3.mono hw.size)
  replace h19 := h19.below b3
  have r19 : Row (w2.alloc (.cells #[.bool t19, .slice B19 n19 d19, .int .i64 x19] 29)) w2.heap.size 29 #[.bool t19, .slice B19 n19 d19, .int .i64 x19] := Row.newE rfl
  clear b2 b3
  go_upto_region 17 with fail
  generalize hG : w2.heap.size = g19 at *
  clear hG
  generalize w2.alloc (.cells #[.bool t19, .slice B19 n19 d19, .int .i64 x19] 29) = w3 at *
  have lra := ra.lt
  have lrb := rb.lt
  go_cut [21, 22] (fun va vb wx => ∃ (g : Nat) (t : Bool) (B : Option Addr) (n d : Nat) (x : Int) (ok : Bool), va = .pointer (some ⟨g, 0, none⟩) ∧ vb = .bool ok ∧ Row wx g 29 #[.bool t, .slice B n d, .int .i64 x] ∧ ResB wx (.tuple #[.agg #[.bool t, .slice B n d, .int .i64 x], .bool ok]) (mk m e) ∧ Below w3.heap.size w3 wx)
  case first =>
    have hb := dr_ w3
    have hc := s6 ra.drew rb.drew
    have lb : w3.heap.size ≤ w3.drew.heap.size := Nat.le_refl _
    go_region_held3 (fun wx => wx.cell? ⟨w.heap.size, 0, none⟩ = some (.bool t) ∧ wx.cell? ⟨w.heap.size, 1, none⟩ = some (.slice B n d) ∧ wx.cell? ⟨w.heap.size, 2, none⟩ = some (.int .i64 e) ∧ wx.cell? ⟨w.heap.size + 1, 0, none⟩ = some (.bool t') ∧ wx.cell? ⟨w.heap.size + 1, 1, none⟩ = some (.slice B' n' d') ∧ wx.cell? ⟨w.heap.size + 1, 2, none⟩ = some (.int .i64 e'))
      (first | with_reducible exact hc | (with_reducible refine s6 (e := 29) (e' := 29) ?_ ?_ <;> repeat (first | with_reducible exact Row.belowR ra hb | with_reducible exact Row.belowR rb hb | with_reducible exact ra | with_reducible exact rb | with_reducible refine Row.drew ?_ | with_reducible refine Row.allocR ?_ _ | with_reducible refine Row.otherJ ?_ _ _ (by omega))))
      (first
        | (go_at_call 26; refine (fromV (IV.below hv (by first | with_reducible exact hb | with_reducible exact on_ hb (al_ _ _) | with_reducible exact on_ (al_ _ _) (dr_ _))) (by omega)).mono ?_; rintro ev wn ⟨ua, rfl, dn, b⟩; have hb' : Below w3.heap.size w3 wn := (by first | with_reducible exact on_ hb b | with_reducible exact on_ (on_ hb (al_ _ _)) b | with_reducible exact on_ (on_ (al_ _ _) (dr_ _)) b); (first | (replace rn := rn.belowR b; have hn := box3_facts rn) | (have rn := Row.belowR (Row.newE (e := 29) (arr := #[.bool false, .slice none 0 0, .int .i64 0]) rfl) b; have hn := box3_facts rn) | (have rn := Row.belowR (Row.drew (Row.newE (e := 29) (arr := #[.bool false, .slice none 0 0, .int .i64 0]) rfl)) b; have hn := box3_facts rn) | skip); replace hb := hb'; clear hb'; replace lb := hb.size; have hl := hb.size; replace hc := s6 (ra.belowR hb) (rb.belowR hb); clear b)
        | (go_at_call 15; refine (rmadeD e (by first | with_reducible exact dn | with_reducible exact DV.below dn (al_ _ _)) HZ.out (by omega) (by have := HE.out; omega) (by have := HE.out; omega)).mono ?_; rintro ev wn ⟨ub, rfl, hres, b⟩; obtain ⟨tu, Bu, nu, du, xu, oku, rfl⟩ := hres.shape; have hb' : Below w3.heap.size w3 wn := (by first | with_reducible exact on_ hb b | with_reducible exact on_ (on_ hb (al_ _ _)) b | with_reducible exact on_ (on_ (al_ _ _) (dr_ _)) b); (first | (replace rn := rn.belowR b; have hn := box3_facts rn) | (have rn := Row.belowR (Row.newE (e := 29) (arr := #[.bool false, .slice none 0 0, .int .i64 0]) rfl) b; have hn := box3_facts rn) | (have rn := Row.belowR (Row.drew (Row.newE (e := 29) (arr := #[.bool false, .slice none 0 0, .int .i64 0]) rfl)) b; have hn := box3_facts rn) | skip); replace hb := hb'; clear hb'; replace lb := hb.size; have hl := hb.size; replace hc := s6 (ra.belowR hb) (rb.belowR hb); clear b))
    all_goals
      go_wp2_with fail
      go_meet
      refine ⟨_, tu, Bu, nu, du, xu, oku, rfl, rfl, ?_, ?_, ?_⟩
      · first | with_reducible exact Row.newE rfl | with_reducible exact box3_set rn _ _ _
      · first | with_reducible exact ResB.below hres (al_ _ _) | with_reducible exact ResB.set3 hres rn _ _ _ _ _
      · first | with_reducible exact on_ hb (al_ _ _) | with_reducible exact Below.sets3 hb (by omega) _ _ _
  case rest =>
  obtain ⟨g21, t21, B21, n21, d21, x21, e21, rfl, rfl, r21, h21, b2⟩ := hcut
  replace ra := ra.belowR b2
  replace rb := rb.belowR b2
  replace i1 := i1.below b2
  replace i2 := i2.below b2
  replace hv := hv.below b2
  replace r19 := r19.belowR b2
  replace h19 := h19.below b2
  replace hw := hw.trans (b2.mono hw.size)
  clear b2 lra lrb
  rw [HP.out] at h19
  have fa := box3_facts ra
  have fb := box3_facts rb
  go_wp2_with fail
  refine (rcmpY i1 i2 (by omega) HQ.out.1 HQ.out.2).mono ?_
  rintro ev w5 ⟨rfl, b2⟩
  clear fa fb
  replace ra := ra.belowR b2
  replace rb := rb.belowR b2
  replace i1 := i1.below b2
  replace i2 := i2.below b2
  replace hv := hv.below b2
  replace r19 := r19.belowR b2
  replace h19 := h19.below b2
  replace r21 := r21.belowR b2
  replace h21 := h21.below b2
  replace hw := hw.trans (b2.mono hw.size)
  clear b2
  have f1 := box3_facts r19
  have f2 := box3_facts r21
  go_wp2_with fail
  refine (toldV h19 h21 (he.below hw) (fun _ _ h => mk_may h)).mono ?_
  rintro ev w6 ⟨rfl, b2⟩
  go_wp2_with fail
  go_ret
  exact ⟨rfl, hw.trans (b2.mono hw.size)⟩
end Go.Proofs.YtlgecdkidgjgiaaDoor
