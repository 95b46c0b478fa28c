/- The walk of the law of products of whole numbers and of powers of two. -/
import Derived.Test.YtlgecdkidgjgiaaDoorCode
import Derived.Test.YtlgecdkidgjgiaaDoorRfG
import Derived.Test.YtlgecdkidgjgiaaDoorDyC
namespace Go.Proofs.YtlgecdkidgjgiaaDoor
open Go.RowKit

theorem CV.zero (w : World) : CV w (.agg #[.bool false, .slice none 0 0]) 0 :=
  ⟨false, [], none, 0, rfl, Nat.le_refl _, RdS.nil _ _ _, ⟨Can.nil (by decide), by decide⟩⟩
theorem wshlV_range {v : Value} {z : Int} {k : Nat} {w : World} (N : Int) (h : IV w v z k) (hk : k ≤ 1024) (hN : N < 0 ∨ 65536 < N) :
    Calls Tryd.prog 23 #[v, .int .i64 N] w fun e w' => ∃ v', e = .returned (.tuple #[v', .iface 74 (.int .i64 7)]) ∧ CV w' v' 0 ∧ Below w.heap.size w w' := by
  obtain ⟨t, zs, B, d, rfl, h2, h3, h4, rfl, h6⟩ := h
  refine (wshl_range t B zs.length zs d N w h3 h2 (by omega) hN).mono ?_
  rintro e w' ⟨rfl, hb⟩
  exact ⟨_, rfl, CV.zero _, hb⟩
/-- a number times so many twos -/
noncomputable def shlz (N z : Int) : Int := 2 ^ N.toNat * z
theorem sz_shlz {N z : Int} (h : Sz z 40) (h0 : ¬ N < 0) (h1 : ¬ 5000 < N) : Sz (shlz N z) 119 := Sz.shl (j := 79) h (by omega)
theorem wshlVi {v : Value} {z : Int} {k : Nat} {w : World} (N : Int) (h : IV w v z k) (hk : k ≤ 1024) (h0 : 0 ≤ N) (h1 : N ≤ 65536) :
    Calls Tryd.prog 23 #[v, .int .i64 N] w fun e w' => ∃ v', e = .returned (.tuple #[v', .nilIface]) ∧ CV w' v' (shlz N z) ∧ Below w.heap.size w w' := by
  obtain ⟨M, rfl⟩ := Int.eq_ofNat_of_zero_le h0
  exact wshlV M h hk (by omega)
theorem rshlDi {v : Value} {z : Int} {k : Nat} {w : World} (N : Int) (h : DV w v z) (hz : Sz z k) (hk : k ≤ 4000) (h0 : 0 ≤ N) (h1 : N ≤ 65536) :
    Calls Tryd.prog 28 #[v, .int .i64 N] w fun e w' => ∃ u, e = .returned u ∧ DV w' u (shlz N z) ∧ Below w.heap.size w w' := by
  obtain ⟨M, rfl⟩ := Int.eq_ofNat_of_zero_le h0
  exact rshlD M h hz hk (by omega)
theorem rows3 {w : World} {g0 g1 g2 : Nat} {e : TypeId} {v0 u0 v1 u1 v2 u2 : Value} (h0 : Row w g0 e #[v0, u0]) (h1 : Row w g1 e #[v1, u1]) (h2 : Row w g2 e #[v2, u2]) :
    w.cell? ⟨g0, 0, none⟩ = some v0 ∧ w.cell? ⟨g0, 1, none⟩ = some u0 ∧ w.cell? ⟨g1, 0, none⟩ = some v1 ∧ w.cell? ⟨g1, 1, none⟩ = some u1 ∧ w.cell? ⟨g2, 0, none⟩ = some v2 ∧ w.cell? ⟨g2, 1, none⟩ = some u2 :=
  ⟨(box_facts h0).1, (box_facts h0).2.1, (box_facts h1).1, (box_facts h1).2.1, (box_facts h2).1, (box_facts h2).2.1⟩

set_option maxHeartbeats 1600000 in
theorem products_bad (s s' : Bool) (A A' : Option Addr) (n n' c c' : Nat) (v : Int) (w : World) (h : 40 < n ∨ 40 < n' ∨ (5000 < v ∧ v ≤ 65536)) :
    Calls Tryd.prog 5 #[.agg #[.bool s, .slice A n c], .agg #[.bool s', .slice A' n' c'], .int .i64 v] w fun ev w' => ev = .returned (.bool true) ∧ Below w.heap.size w w' := by
  obtain ⟨ra, rb, hw⟩ := new2 w 27 27 #[.bool s, .slice A n c] #[.bool s', .slice A' n' c']
  by_cases q0 : 40 < n
  · clear h
    go_enter Tryd.func5, Tryd.ntmps5
    go_wp2_with fail
    generalize (w.alloc (.cells #[.bool s, .slice A n c] 27)).alloc (.cells #[.bool s', .slice A' n' c'] 27) = W at *
    refine (awake_any W).mono ?_
    rintro ev w1 ⟨rfl, b1⟩
    have fa := box_facts (ra.belowR b1)
    have fb := box_facts (rb.belowR b1)
    go_wp2_with fail
    go_ret
    exact ⟨rfl, hw.trans (b1.mono hw.size)⟩
  · have hx0 := True.intro
    by_cases q1 : 40 < n'
    · clear h
      go_enter Tryd.func5, Tryd.ntmps5
      go_wp2_with fail
      generalize (w.alloc (.cells #[.bool s, .slice A n c] 27)).alloc (.cells #[.bool s', .slice A' n' c'] 27) = W at *
      refine (awake_any W).mono ?_
      rintro ev w1 ⟨rfl, b1⟩
      have fa := box_facts (ra.belowR b1)
      have fb := box_facts (rb.belowR b1)
      go_wp2_with fail
      go_ret
      exact ⟨rfl, hw.trans (b1.mono hw.size)⟩
    · have hx1 := True.intro
      have q2 : 5000 < v := by omega
      have q3 : v ≤ 65536 := by omega
      clear h
      go_enter Tryd.func5, Tryd.ntmps5
      go_wp2_with fail
      generalize (w.alloc (.cells #[.bool s, .slice A n c] 27)).alloc (.cells #[.bool s', .slice A' n' c'] 27) = W at *
      refine (awake_any W).mono ?_
      rintro ev w1 ⟨rfl, b1⟩
      have fa := box_facts (ra.belowR b1)
      have fb := box_facts (rb.belowR b1)
      go_wp2_with fail
      go_ret
      exact ⟨rfl, hw.trans (b1.mono hw.size)⟩

set_option linter.unusedVariables false in
set_option maxRecDepth 100000 in
set_option maxHeartbeats 8000000 in
theorem products_neg (s s' : Bool) (A A' : Option Addr) (n n' c c' : Nat) (x y : Int) (v : Int) (w : World) (he : ErrOk w) (i1 : IV w (.agg #[.bool s, .slice A n c]) x 40) (i2 : IV w (.agg #[.bool s', .slice A' n' c']) y 40) (q0 : ¬ 40 < n) (q1 : ¬ 40 < n') (qa : ¬ 5000 < v) (qb : v < 0) :
    Calls Tryd.prog 5 #[.agg #[.bool s, .slice A n c], .agg #[.bool s', .slice A' n' c'], .int .i64 v] w fun ev w' => ev = .returned (.bool true) ∧ Below w.heap.size w w' := by
  obtain ⟨ra, rb, hw⟩ := new2 w 27 27 #[.bool s, .slice A n c] #[.bool s', .slice A' n' c']
  have HZ := Lib.hid (And.intro i1.sz (And.intro i2.sz (i1.sz.mul i2.sz (show 40 + 40 ≤ 80 by omega))))
  go_enter Tryd.func5, Tryd.ntmps5
  go_wp2_with fail
  generalize (w.alloc (.cells #[.bool s, .slice A n c] 27)).alloc (.cells #[.bool s', .slice A' n' c'] 27) = W at *
  replace i1 := i1.below hw
  replace i2 := i2.below hw
  replace he := he.below hw
  refine (awake_any W).mono ?_
  rintro ev w1 ⟨rfl, b2⟩
  replace ra := ra.belowR b2
  replace rb := rb.belowR b2
  replace i1 := i1.below b2
  replace i2 := i2.below b2
  replace he := he.below b2
  replace hw := hw.trans (b2.mono hw.size)
  clear b2
  have fa := box_facts ra
  have fb := box_facts rb
  go_wp2_with fail
  clear fa fb
  refine (mulV i1 i2 (by omega) (by omega)).mono ?_
  rintro ev w2 ⟨vp, rfl, cp, b2⟩
  obtain ⟨tp, Bp, np, dp, rfl⟩ := cp.shape
  replace hw := hw.trans (b2.mono hw.size)
  replace ra := ra.belowR b2
  replace rb := rb.belowR b2
  replace i1 := i1.below b2
  replace i2 := i2.below b2
  replace he := he.below b2
  have b3 := al_ w2 (.cells #[.bool tp, .slice Bp np dp] 27)
  replace ra := ra.belowR b3
  replace rb := rb.belowR b3
  replace i1 := i1.below b3
  replace i2 := i2.below b3
  replace he := he.below b3
  replace cp := cp.below b3
  have rp : Row (w2.alloc (.cells #[.bool tp, .slice Bp np dp] 27)) w2.heap.size 27 #[.bool tp, .slice Bp np dp] := Row.newE rfl
  replace hw := hw.trans (b3.mono hw.size)
  clear b2 b3
  have fra := box_facts ra
  have frb := box_facts rb
  have frp := box_facts rp
  go_wp2_with fail
  generalize hG : w2.heap.size = gp at *
  clear hG
  generalize w2.alloc (.cells #[.bool tp, .slice Bp np dp] 27) = w3 at *
  clear fra frb frp
  refine (wshlV_range v i1 (by omega) (.inl qb)).mono ?_
  rintro ev w2 ⟨vu, rfl, cu, b2⟩
  obtain ⟨tu, Bu, nu, du, rfl⟩ := cu.shape
  replace hw := hw.trans (b2.mono hw.size)
  replace ra := ra.belowR b2
  replace rb := rb.belowR b2
  replace i1 := i1.below b2
  replace i2 := i2.below b2
  replace he := he.below b2
  replace rp := rp.belowR b2
  replace cp := cp.below b2
  have b3 := al_ w2 (.cells #[.bool tu, .slice Bu nu du] 27)
  replace ra := ra.belowR b3
  replace rb := rb.belowR b3
  replace i1 := i1.below b3
  replace i2 := i2.below b3
  replace he := he.below b3
  replace rp := rp.belowR b3
  replace cp := cp.below b3
  replace cu := cu.below b3
  have ru : Row (w2.alloc (.cells #[.bool tu, .slice Bu nu du] 27)) w2.heap.size 27 #[.bool tu, .slice Bu nu du] := Row.newE rfl
  replace hw := hw.trans (b3.mono hw.size)
  clear b2 b3
  have fra := box_facts ra
  have frb := box_facts rb
  have frp := box_facts rp
  have fru := box_facts ru
  go_wp2_with fail
  generalize hG : w2.heap.size = gu at *
  clear hG
  generalize w2.alloc (.cells #[.bool tu, .slice Bu nu du] 27) = w3 at *
  clear fra frb frp fru
  replace hw := hw.drew
  replace ra := ra.belowR (dr_ _)
  replace rb := rb.belowR (dr_ _)
  replace i1 := i1.below (dr_ _)
  replace i2 := i2.below (dr_ _)
  replace he := he.below (dr_ _)
  replace rp := rp.belowR (dr_ _)
  replace cp := cp.below (dr_ _)
  replace ru := ru.belowR (dr_ _)
  replace cu := cu.below (dr_ _)
  have hc := rows3 ra rb rp
  go_region_held3 (fun wx => wx.cell? ⟨w.heap.size, 0, none⟩ = some (.bool s) ∧ wx.cell? ⟨w.heap.size, 1, none⟩ = some (.slice A n c) ∧ wx.cell? ⟨w.heap.size + 1, 0, none⟩ = some (.bool s') ∧ wx.cell? ⟨w.heap.size + 1, 1, none⟩ = some (.slice A' n' c') ∧ wx.cell? ⟨gp, 0, none⟩ = some (.bool tp) ∧ wx.cell? ⟨gp, 1, none⟩ = some (.slice Bp np dp)) (with_reducible exact hc) (first
    | (go_at_call 26; with_reducible refine (fromV i1 (by omega)).mono ?_; rintro ev wn ⟨o1, rfl, d1, b⟩; replace hw := hw.trans (b.mono hw.size); replace ra := ra.belowR b; replace rb := rb.belowR b; replace i1 := i1.below b; replace i2 := i2.below b; replace he := he.below b; replace rp := rp.belowR b; replace cp := cp.below b; replace ru := ru.belowR b; replace cu := cu.below b; replace hc := rows3 ra rb rp; clear b)
    | (go_at_call 26; with_reducible refine (fromV i2 (by omega)).mono ?_; rintro ev wn ⟨o2, rfl, d2, b⟩; replace hw := hw.trans (b.mono hw.size); replace ra := ra.belowR b; replace rb := rb.belowR b; replace i1 := i1.below b; replace i2 := i2.below b; replace he := he.below b; replace rp := rp.belowR b; replace cp := cp.below b; replace ru := ru.belowR b; replace cu := cu.below b; replace hc := rows3 ra rb rp; replace d1 := d1.below b; clear b)
    | (go_at_call 16; with_reducible refine (rmulD d1 d2 (HZ.out.1.mono (by omega)) HZ.out.2.1 (by omega)).mono ?_; rintro ev wn ⟨o3, rfl, d3, b⟩; replace hw := hw.trans (b.mono hw.size); replace ra := ra.belowR b; replace rb := rb.belowR b; replace i1 := i1.below b; replace i2 := i2.below b; replace he := he.below b; replace rp := rp.belowR b; replace cp := cp.below b; replace ru := ru.belowR b; replace cu := cu.below b; replace hc := rows3 ra rb rp; clear b)
    | (go_at_call 25; with_reducible refine (toV d3 HZ.out.2.2 (by omega)).mono ?_; rintro ev wn ⟨o4, rfl, d4, b⟩; replace hw := hw.trans (b.mono hw.size); replace ra := ra.belowR b; replace rb := rb.belowR b; replace i1 := i1.below b; replace i2 := i2.below b; replace he := he.below b; replace rp := rp.belowR b; replace cp := cp.below b; replace ru := ru.belowR b; replace cu := cu.below b; replace hc := rows3 ra rb rp; clear b)
    | (go_at_call 24; with_reducible refine (sameV cp d4 HZ.out.2.2 (by omega)).mono ?_; rintro ev wn ⟨rfl, b⟩; replace hw := hw.trans (b.mono hw.size); replace ra := ra.belowR b; replace rb := rb.belowR b; replace i1 := i1.below b; replace i2 := i2.below b; replace he := he.below b; replace rp := rp.belowR b; replace cp := cp.below b; replace ru := ru.belowR b; replace cu := cu.below b; replace hc := rows3 ra rb rp; clear b))
  all_goals clear hc d1 d2 d3 d4
  go_wp2_with fail
  refine (code_any 7 (by omega) _ he).mono ?_
  rintro ev w2 ⟨rfl, b2⟩
  replace ra := ra.belowR b2
  replace rb := rb.belowR b2
  replace i1 := i1.below b2
  replace i2 := i2.below b2
  replace he := he.below b2
  replace rp := rp.belowR b2
  replace cp := cp.below b2
  replace ru := ru.belowR b2
  replace cu := cu.below b2
  replace hw := hw.trans (b2.mono hw.size)
  clear b2
  have fu := box_facts ru
  go_wp2_with fail
  refine (sameV cu (CV.zero _) sz_zero (by omega)).mono ?_
  rintro ev w4 ⟨rfl, b2⟩
  go_wp2_with fail
  go_ret
  exact ⟨rfl, hw.trans (b2.mono hw.size)⟩

set_option linter.unusedVariables false in
set_option maxRecDepth 100000 in
set_option maxHeartbeats 8000000 in
theorem products_big (s s' : Bool) (A A' : Option Addr) (n n' c c' : Nat) (x y : Int) (v : Int) (w : World) (he : ErrOk w) (i1 : IV w (.agg #[.bool s, .slice A n c]) x 40) (i2 : IV w (.agg #[.bool s', .slice A' n' c']) y 40) (q0 : ¬ 40 < n) (q1 : ¬ 40 < n') (qa : 5000 < v) (qc : ¬ v ≤ 65536) (qb : ¬ v < 0) (qd : 65536 < v) :
    Calls Tryd.prog 5 #[.agg #[.bool s, .slice A n c], .agg #[.bool s', .slice A' n' c'], .int .i64 v] w fun ev w' => ev = .returned (.bool true) ∧ Below w.heap.size w w' := by
  obtain ⟨ra, rb, hw⟩ := new2 w 27 27 #[.bool s, .slice A n c] #[.bool s', .slice A' n' c']
  have HZ := Lib.hid (And.intro i1.sz (And.intro i2.sz (i1.sz.mul i2.sz (show 40 + 40 ≤ 80 by omega))))
  go_enter Tryd.func5, Tryd.ntmps5
  go_wp2_with fail
  generalize (w.alloc (.cells #[.bool s, .slice A n c] 27)).alloc (.cells #[.bool s', .slice A' n' c'] 27) = W at *
  replace i1 := i1.below hw
  replace i2 := i2.below hw
  replace he := he.below hw
  refine (awake_any W).mono ?_
  rintro ev w1 ⟨rfl, b2⟩
  replace ra := ra.belowR b2
  replace rb := rb.belowR b2
  replace i1 := i1.below b2
  replace i2 := i2.below b2
  replace he := he.below b2
  replace hw := hw.trans (b2.mono hw.size)
  clear b2
  have fa := box_facts ra
  have fb := box_facts rb
  go_wp2_with fail
  clear fa fb
  refine (mulV i1 i2 (by omega) (by omega)).mono ?_
  rintro ev w2 ⟨vp, rfl, cp, b2⟩
  obtain ⟨tp, Bp, np, dp, rfl⟩ := cp.shape
  replace hw := hw.trans (b2.mono hw.size)
  replace ra := ra.belowR b2
  replace rb := rb.belowR b2
  replace i1 := i1.below b2
  replace i2 := i2.below b2
  replace he := he.below b2
  have b3 := al_ w2 (.cells #[.bool tp, .slice Bp np dp] 27)
  replace ra := ra.belowR b3
  replace rb := rb.belowR b3
  replace i1 := i1.below b3
  replace i2 := i2.below b3
  replace he := he.below b3
  replace cp := cp.below b3
  have rp : Row (w2.alloc (.cells #[.bool tp, .slice Bp np dp] 27)) w2.heap.size 27 #[.bool tp, .slice Bp np dp] := Row.newE rfl
  replace hw := hw.trans (b3.mono hw.size)
  clear b2 b3
  have fra := box_facts ra
  have frb := box_facts rb
  have frp := box_facts rp
  go_wp2_with fail
  generalize hG : w2.heap.size = gp at *
  clear hG
  generalize w2.alloc (.cells #[.bool tp, .slice Bp np dp] 27) = w3 at *
  clear fra frb frp
  refine (wshlV_range v i1 (by omega) (.inr qd)).mono ?_
  rintro ev w2 ⟨vu, rfl, cu, b2⟩
  obtain ⟨tu, Bu, nu, du, rfl⟩ := cu.shape
  replace hw := hw.trans (b2.mono hw.size)
  replace ra := ra.belowR b2
  replace rb := rb.belowR b2
  replace i1 := i1.below b2
  replace i2 := i2.below b2
  replace he := he.below b2
  replace rp := rp.belowR b2
  replace cp := cp.below b2
  have b3 := al_ w2 (.cells #[.bool tu, .slice Bu nu du] 27)
  replace ra := ra.belowR b3
  replace rb := rb.belowR b3
  replace i1 := i1.below b3
  replace i2 := i2.below b3
  replace he := he.below b3
  replace rp := rp.belowR b3
  replace cp := cp.below b3
  replace cu := cu.below b3
  have ru : Row (w2.alloc (.cells #[.bool tu, .slice Bu nu du] 27)) w2.heap.size 27 #[.bool tu, .slice Bu nu du] := Row.newE rfl
  replace hw := hw.trans (b3.mono hw.size)
  clear b2 b3
  have fra := box_facts ra
  have frb := box_facts rb
  have frp := box_facts rp
  have fru := box_facts ru
  go_wp2_with fail
  generalize hG : w2.heap.size = gu at *
  clear hG
  generalize w2.alloc (.cells #[.bool tu, .slice Bu nu du] 27) = w3 at *
  clear fra frb frp fru
  replace hw := hw.drew
  replace ra := ra.belowR (dr_ _)
  replace rb := rb.belowR (dr_ _)
  replace i1 := i1.below (dr_ _)
  replace i2 := i2.below (dr_ _)
  replace he := he.below (dr_ _)
  replace rp := rp.belowR (dr_ _)
  replace cp := cp.below (dr_ _)
  replace ru := ru.belowR (dr_ _)
  replace cu := cu.below (dr_ _)
  have hc := rows3 ra rb rp
  go_region_held3 (fun wx => wx.cell? ⟨w.heap.size, 0, none⟩ = some (.bool s) ∧ wx.cell? ⟨w.heap.size, 1, none⟩ = some (.slice A n c) ∧ wx.cell? ⟨w.heap.size + 1, 0, none⟩ = some (.bool s') ∧ wx.cell? ⟨w.heap.size + 1, 1, none⟩ = some (.slice A' n' c') ∧ wx.cell? ⟨gp, 0, none⟩ = some (.bool tp) ∧ wx.cell? ⟨gp, 1, none⟩ = some (.slice Bp np dp)) (with_reducible exact hc) (first
    | (go_at_call 26; with_reducible refine (fromV i1 (by omega)).mono ?_; rintro ev wn ⟨o1, rfl, d1, b⟩; replace hw := hw.trans (b.mono hw.size); replace ra := ra.belowR b; replace rb := rb.belowR b; replace i1 := i1.below b; replace i2 := i2.below b; replace he := he.below b; replace rp := rp.belowR b; replace cp := cp.below b; replace ru := ru.belowR b; replace cu := cu.below b; replace hc := rows3 ra rb rp; clear b)
    | (go_at_call 26; with_reducible refine (fromV i2 (by omega)).mono ?_; rintro ev wn ⟨o2, rfl, d2, b⟩; replace hw := hw.trans (b.mono hw.size); replace ra := ra.belowR b; replace rb := rb.belowR b; replace i1 := i1.below b; replace i2 := i2.below b; replace he := he.below b; replace rp := rp.belowR b; replace cp := cp.below b; replace ru := ru.belowR b; replace cu := cu.below b; replace hc := rows3 ra rb rp; replace d1 := d1.below b; clear b)
    | (go_at_call 16; with_reducible refine (rmulD d1 d2 (HZ.out.1.mono (by omega)) HZ.out.2.1 (by omega)).mono ?_; rintro ev wn ⟨o3, rfl, d3, b⟩; replace hw := hw.trans (b.mono hw.size); replace ra := ra.belowR b; replace rb := rb.belowR b; replace i1 := i1.below b; replace i2 := i2.below b; replace he := he.below b; replace rp := rp.belowR b; replace cp := cp.below b; replace ru := ru.belowR b; replace cu := cu.below b; replace hc := rows3 ra rb rp; clear b)
    | (go_at_call 25; with_reducible refine (toV d3 HZ.out.2.2 (by omega)).mono ?_; rintro ev wn ⟨o4, rfl, d4, b⟩; replace hw := hw.trans (b.mono hw.size); replace ra := ra.belowR b; replace rb := rb.belowR b; replace i1 := i1.below b; replace i2 := i2.below b; replace he := he.below b; replace rp := rp.belowR b; replace cp := cp.below b; replace ru := ru.belowR b; replace cu := cu.below b; replace hc := rows3 ra rb rp; clear b)
    | (go_at_call 24; with_reducible refine (sameV cp d4 HZ.out.2.2 (by omega)).mono ?_; rintro ev wn ⟨rfl, b⟩; replace hw := hw.trans (b.mono hw.size); replace ra := ra.belowR b; replace rb := rb.belowR b; replace i1 := i1.below b; replace i2 := i2.below b; replace he := he.below b; replace rp := rp.belowR b; replace cp := cp.below b; replace ru := ru.belowR b; replace cu := cu.below b; replace hc := rows3 ra rb rp; clear b))
  all_goals clear hc d1 d2 d3 d4
  go_wp2_with fail
  refine (code_any 7 (by omega) _ he).mono ?_
  rintro ev w2 ⟨rfl, b2⟩
  replace ra := ra.belowR b2
  replace rb := rb.belowR b2
  replace i1 := i1.below b2
  replace i2 := i2.below b2
  replace he := he.below b2
  replace rp := rp.belowR b2
  replace cp := cp.below b2
  replace ru := ru.belowR b2
  replace cu := cu.below b2
  replace hw := hw.trans (b2.mono hw.size)
  clear b2
  have fu := box_facts ru
  go_wp2_with fail
  refine (sameV cu (CV.zero _) sz_zero (by omega)).mono ?_
  rintro ev w4 ⟨rfl, b2⟩
  go_wp2_with fail
  go_ret
  exact ⟨rfl, hw.trans (b2.mono hw.size)⟩

set_option linter.unusedVariables false in
set_option maxRecDepth 100000 in
set_option maxHeartbeats 8000000 in
theorem products_in (s s' : Bool) (A A' : Option Addr) (n n' c c' : Nat) (x y : Int) (v : Int) (w : World) (i1 : IV w (.agg #[.bool s, .slice A n c]) x 40) (i2 : IV w (.agg #[.bool s', .slice A' n' c']) y 40) (q0 : ¬ 40 < n) (q1 : ¬ 40 < n') (qa : ¬ 5000 < v) (qb : ¬ v < 0) (qd : ¬ 65536 < v) :
    Calls Tryd.prog 5 #[.agg #[.bool s, .slice A n c], .agg #[.bool s', .slice A' n' c'], .int .i64 v] w fun ev w' => ev = .returned (.bool true) ∧ Below w.heap.size w w' := by
  obtain ⟨ra, rb, hw⟩ := new2 w 27 27 #[.bool s, .slice A n c] #[.bool s', .slice A' n' c']
  have HZ := Lib.hid (And.intro i1.sz (And.intro i2.sz (i1.sz.mul i2.sz (show 40 + 40 ≤ 80 by omega))))
  have Q := Lib.hid (And.intro (Int.not_lt.1 qb) (And.intro (Int.not_lt.1 qd) (sz_shlz i1.sz qb qa)))
  clear qb qd
  go_enter Tryd.func5, Tryd.ntmps5
  go_wp2_with fail
  generalize (w.alloc (.cells #[.bool s, .slice A n c] 27)).alloc (.cells #[.bool s', .slice A' n' c'] 27) = W at *
  replace i1 := i1.below hw
  replace i2 := i2.below hw
  refine (awake_any W).mono ?_
  rintro ev w1 ⟨rfl, b2⟩
  replace ra := ra.belowR b2
  replace rb := rb.belowR b2
  replace i1 := i1.below b2
  replace i2 := i2.below b2
  replace hw := hw.trans (b2.mono hw.size)
  clear b2
  have fa := box_facts ra
  have fb := box_facts rb
  go_wp2_with fail
  clear fa fb
  refine (mulV i1 i2 (by omega) (by omega)).mono ?_
  rintro ev w2 ⟨vp, rfl, cp, b2⟩
  obtain ⟨tp, Bp, np, dp, rfl⟩ := cp.shape
  replace hw := hw.trans (b2.mono hw.size)
  replace ra := ra.belowR b2
  replace rb := rb.belowR b2
  replace i1 := i1.below b2
  replace i2 := i2.below b2
  have b3 := al_ w2 (.cells #[.bool tp, .slice Bp np dp] 27)
  replace ra := ra.belowR b3
  replace rb := rb.belowR b3
  replace i1 := i1.below b3
  replace i2 := i2.below b3
  replace cp := cp.below b3
  have rp : Row (w2.alloc (.cells #[.bool tp, .slice Bp np dp] 27)) w2.heap.size 27 #[.bool tp, .slice Bp np dp] := Row.newE rfl
  replace hw := hw.trans (b3.mono hw.size)
  clear b2 b3
  have fra := box_facts ra
  have frb := box_facts rb
  have frp := box_facts rp
  go_wp2_with fail
  generalize hG : w2.heap.size = gp at *
  clear hG
  generalize w2.alloc (.cells #[.bool tp, .slice Bp np dp] 27) = w3 at *
  clear fra frb frp
  refine (wshlVi v i1 (by omega) Q.out.1 Q.out.2.1).mono ?_
  rintro ev w2 ⟨vu, rfl, cu, b2⟩
  obtain ⟨tu, Bu, nu, du, rfl⟩ := cu.shape
  replace hw := hw.trans (b2.mono hw.size)
  replace ra := ra.belowR b2
  replace rb := rb.belowR b2
  replace i1 := i1.below b2
  replace i2 := i2.below b2
  replace rp := rp.belowR b2
  replace cp := cp.below b2
  have b3 := al_ w2 (.cells #[.bool tu, .slice Bu nu du] 27)
  replace ra := ra.belowR b3
  replace rb := rb.belowR b3
  replace i1 := i1.below b3
  replace i2 := i2.below b3
  replace rp := rp.belowR b3
  replace cp := cp.below b3
  replace cu := cu.below b3
  have ru : Row (w2.alloc (.cells #[.bool tu, .slice Bu nu du] 27)) w2.heap.size 27 #[.bool tu, .slice Bu nu du] := Row.newE rfl
  replace hw := hw.trans (b3.mono hw.size)
  clear b2 b3
  have fra := box_facts ra
  have frb := box_facts rb
  have frp := box_facts rp
  have fru := box_facts ru
  go_wp2_with fail
  generalize hG : w2.heap.size = gu at *
  clear hG
  generalize w2.alloc (.cells #[.bool tu, .slice Bu nu du] 27) = w3 at *
  clear fra frb frp fru
  replace hw := hw.drew
  replace ra := ra.belowR (dr_ _)
  replace rb := rb.belowR (dr_ _)
  replace i1 := i1.below (dr_ _)
  replace i2 := i2.below (dr_ _)
  replace rp := rp.belowR (dr_ _)
  replace cp := cp.below (dr_ _)
  replace ru := ru.belowR (dr_ _)
  replace cu := cu.below (dr_ _)
  have hc := rows3 ra rb rp
  go_region_held3 (fun wx => wx.cell? ⟨w.heap.size, 0, none⟩ = some (.bool s) ∧ wx.cell? ⟨w.heap.size, 1, none⟩ = some (.slice A n c) ∧ wx.cell? ⟨w.heap.size + 1, 0, none⟩ = some (.bool s') ∧ wx.cell? ⟨w.heap.size + 1, 1, none⟩ = some (.slice A' n' c') ∧ wx.cell? ⟨gp, 0, none⟩ = some (.bool tp) ∧ wx.cell? ⟨gp, 1, none⟩ = some (.slice Bp np dp)) (with_reducible exact hc) (first
    | (go_at_call 26; with_reducible refine (fromV i1 (by omega)).mono ?_; rintro ev wn ⟨o1, rfl, d1, b⟩; replace hw := hw.trans (b.mono hw.size); replace ra := ra.belowR b; replace rb := rb.belowR b; replace i1 := i1.below b; replace i2 := i2.below b; replace rp := rp.belowR b; replace cp := cp.below b; replace ru := ru.belowR b; replace cu := cu.below b; replace hc := rows3 ra rb rp; clear b)
    | (go_at_call 26; with_reducible refine (fromV i2 (by omega)).mono ?_; rintro ev wn ⟨o2, rfl, d2, b⟩; replace hw := hw.trans (b.mono hw.size); replace ra := ra.belowR b; replace rb := rb.belowR b; replace i1 := i1.below b; replace i2 := i2.below b; replace rp := rp.belowR b; replace cp := cp.below b; replace ru := ru.belowR b; replace cu := cu.below b; replace hc := rows3 ra rb rp; replace d1 := d1.below b; clear b)
    | (go_at_call 16; with_reducible refine (rmulD d1 d2 (HZ.out.1.mono (by omega)) HZ.out.2.1 (by omega)).mono ?_; rintro ev wn ⟨o3, rfl, d3, b⟩; replace hw := hw.trans (b.mono hw.size); replace ra := ra.belowR b; replace rb := rb.belowR b; replace i1 := i1.below b; replace i2 := i2.below b; replace rp := rp.belowR b; replace cp := cp.below b; replace ru := ru.belowR b; replace cu := cu.below b; replace hc := rows3 ra rb rp; clear b)
    | (go_at_call 25; with_reducible refine (toV d3 HZ.out.2.2 (by omega)).mono ?_; rintro ev wn ⟨o4, rfl, d4, b⟩; replace hw := hw.trans (b.mono hw.size); replace ra := ra.belowR b; replace rb := rb.belowR b; replace i1 := i1.below b; replace i2 := i2.below b; replace rp := rp.belowR b; replace cp := cp.below b; replace ru := ru.belowR b; replace cu := cu.below b; replace hc := rows3 ra rb rp; clear b)
    | (go_at_call 24; with_reducible refine (sameV cp d4 HZ.out.2.2 (by omega)).mono ?_; rintro ev wn ⟨rfl, b⟩; replace hw := hw.trans (b.mono hw.size); replace ra := ra.belowR b; replace rb := rb.belowR b; replace i1 := i1.below b; replace i2 := i2.below b; replace rp := rp.belowR b; replace cp := cp.below b; replace ru := ru.belowR b; replace cu := cu.below b; replace hc := rows3 ra rb rp; clear b))
  all_goals clear hc d1 d2 d3 d4
  have qb := Int.not_lt.2 Q.out.1
  have qd := Int.not_lt.2 Q.out.2.1
  clear qa
  go_wp2_with fail
  clear qb qd
  replace hw := hw.drew
  replace ra := ra.belowR (dr_ _)
  replace rb := rb.belowR (dr_ _)
  replace i1 := i1.below (dr_ _)
  replace i2 := i2.below (dr_ _)
  replace rp := rp.belowR (dr_ _)
  replace cp := cp.below (dr_ _)
  replace ru := ru.belowR (dr_ _)
  replace cu := cu.below (dr_ _)
  have hc := rows3 ra rb ru
  go_region_held3 (fun wx => wx.cell? ⟨w.heap.size, 0, none⟩ = some (.bool s) ∧ wx.cell? ⟨w.heap.size, 1, none⟩ = some (.slice A n c) ∧ wx.cell? ⟨w.heap.size + 1, 0, none⟩ = some (.bool s') ∧ wx.cell? ⟨w.heap.size + 1, 1, none⟩ = some (.slice A' n' c') ∧ wx.cell? ⟨gu, 0, none⟩ = some (.bool tu) ∧ wx.cell? ⟨gu, 1, none⟩ = some (.slice Bu nu du)) (with_reducible exact hc) (first
    | (go_at_call 26; with_reducible refine (fromV i1 (by omega)).mono ?_; rintro ev wn ⟨o1, rfl, d1, b⟩; replace hw := hw.trans (b.mono hw.size); replace ra := ra.belowR b; replace rb := rb.belowR b; replace i1 := i1.below b; replace i2 := i2.below b; replace rp := rp.belowR b; replace cp := cp.below b; replace ru := ru.belowR b; replace cu := cu.below b; replace hc := rows3 ra rb ru; clear b)
    | (go_at_call 28; with_reducible refine (rshlDi v d1 HZ.out.1 (by omega) Q.out.1 Q.out.2.1).mono ?_; rintro ev wn ⟨o3, rfl, d3, b⟩; replace hw := hw.trans (b.mono hw.size); replace ra := ra.belowR b; replace rb := rb.belowR b; replace i1 := i1.below b; replace i2 := i2.below b; replace rp := rp.belowR b; replace cp := cp.below b; replace ru := ru.belowR b; replace cu := cu.below b; replace hc := rows3 ra rb ru; clear b)
    | (go_at_call 25; with_reducible refine (toV d3 Q.out.2.2 (by omega)).mono ?_; rintro ev wn ⟨o4, rfl, d4, b⟩; replace hw := hw.trans (b.mono hw.size); replace ra := ra.belowR b; replace rb := rb.belowR b; replace i1 := i1.below b; replace i2 := i2.below b; replace rp := rp.belowR b; replace cp := cp.below b; replace ru := ru.belowR b; replace cu := cu.below b; replace hc := rows3 ra rb ru; clear b)
    | (go_at_call 24; with_reducible refine (sameV cu d4 Q.out.2.2 (by omega)).mono ?_; rintro ev wn ⟨rfl, b⟩; replace hw := hw.trans (b.mono hw.size); replace ra := ra.belowR b; replace rb := rb.belowR b; replace i1 := i1.below b; replace i2 := i2.below b; replace rp := rp.belowR b; replace cp := cp.below b; replace ru := ru.belowR b; replace cu := cu.below b; replace hc := rows3 ra rb ru; clear b))
  go_wp2_with fail
  go_ret
  exact ⟨rfl, hw⟩

theorem products_any (s s' : Bool) (A A' : Option Addr) (n n' c c' : Nat) (xs ys : List Int) (v : Int) (w : World) (he : ErrOk w) (hr : RdS w .u64 A n xs) (hr' : RdS w .u64 A' n' ys) (hc : n ≤ c) (hc' : n' ≤ c') (hx : Dg B64 xs) (hy : Dg B64 ys) :
    Calls Tryd.prog 5 #[.agg #[.bool s, .slice A n c], .agg #[.bool s', .slice A' n' c'], .int .i64 v] w fun ev w' => ev = .returned (.bool true) ∧ Below w.heap.size w w' := by
  by_cases h : 40 < n ∨ 40 < n' ∨ (5000 < v ∧ v ≤ 65536)
  · exact products_bad s s' A A' n n' c c' v w h
  have q0 : ¬ 40 < n := fun x => h (.inl x)
  have q1 : ¬ 40 < n' := fun x => h (.inr (.inl x))
  have q2 : ¬ (5000 < v ∧ v ≤ 65536) := fun x => h (.inr (.inr x))
  have i1 : IV w (.agg #[.bool s, .slice A n c]) (zi s xs) 40 := ⟨s, xs, A, c, by rw [hr.len], by rw [hr.len]; exact hc, by rw [hr.len]; exact hr, hx, rfl, by rw [hr.len]; omega⟩
  have i2 : IV w (.agg #[.bool s', .slice A' n' c']) (zi s' ys) 40 := ⟨s', ys, A', c', by rw [hr'.len], by rw [hr'.len]; exact hc', by rw [hr'.len]; exact hr', hy, rfl, by rw [hr'.len]; omega⟩
  by_cases h0 : v < 0
  · exact products_neg s s' A A' n n' c c' _ _ v w he i1 i2 q0 q1 (by omega) h0
  by_cases h1 : 65536 < v
  · exact products_big s s' A A' n n' c c' _ _ v w he i1 i2 q0 q1 (by omega) (by omega) h0 h1
  exact products_in s s' A A' n n' c c' _ _ v w i1 i2 q0 q1 (by omega) h0 h1
end Go.Proofs.YtlgecdkidgjgiaaDoor
