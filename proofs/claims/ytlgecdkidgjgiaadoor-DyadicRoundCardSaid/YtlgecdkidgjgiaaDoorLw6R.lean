/- The walk of the law of dyadic numbers there and back. -/
import Derived.Test.YtlgecdkidgjgiaaDoorLw6A
namespace Go.Proofs.YtlgecdkidgjgiaaDoor
open Go.RowKit

set_option exponentiation.threshold 3000 in
/-- a number of so few limbs and such a power, in units -/
theorem ifv_arg {w : World} {v : Value} {m e : Int} {k : Nat} (h : IDy w v m e 4) (hk : 4 ≤ k) (h0 : -1000 ≤ e) (h1 : e ≤ 1000) : IFV w v (-1000) (2 ^ (e - -1000).toNat * m) 2256 k := by
  have hs := h.sz
  obtain ⟨t, zs, B, d, g1, g2, g3, g4, g5, g6⟩ := h
  refine ⟨m, e, ⟨t, zs, B, d, g1, g2, g3, g4, g5, by omega⟩, h0, by omega, rfl, ?_⟩
  have e1 : (2 ^ (e - -1000).toNat * m).natAbs = 2 ^ (e - -1000).toNat * m.natAbs := by rw [Int.natAbs_mul, Int.natAbs_pow]; rfl
  have hm : m.natAbs < 2 ^ 256 := by
    unfold Sz at hs
    have : (B64 ^ 4 : Int) = ((2 ^ 256 : Nat) : Int) := by decide
    rw [this] at hs
    omega
  rw [e1, show 2256 = 2000 + 256 from rfl, Nat.pow_add]
  exact Nat.mul_lt_mul_of_le_of_lt (Nat.pow_le_pow_right (by decide) (by omega)) hm (Nat.two_pow_pos _)

set_option maxHeartbeats 1600000 in
theorem round_bad (s s' : Bool) (A A' : Option Addr) (n n' c c' : Nat) (e e' : Int) (w : World) (ht : TabOk w)
    (h : 4 < n ∨ 4 < n' ∨ 1000 < e ∨ e < -1000 ∨ 1000 < e' ∨ e' < -1000) :
    Calls Tryd.prog 4 #[.agg #[.bool s, .slice A n c, .int .i64 e], .agg #[.bool s', .slice A' n' c', .int .i64 e']] w fun ev w' => ev = .returned (.bool true) ∧ Below w.heap.size w w' := by
  obtain ⟨ra, rb, hw⟩ := new2 w 29 29 #[.bool s, .slice A n c, .int .i64 e] #[.bool s', .slice A' n' c', .int .i64 e']
  by_cases q0 : 4 < n
  · clear h
    go_enter Tryd.func4, Tryd.ntmps4
    go_wp2_with fail
    generalize (w.alloc (.cells #[.bool s, .slice A n c, .int .i64 e] 29)).alloc (.cells #[.bool s', .slice A' n' c', .int .i64 e'] 29) = W at *
    refine (awake6_any W (ht.below hw)).mono ?_
    rintro ev w1 ⟨rfl, b1⟩
    have fa := box3_facts (ra.belowR b1)
    have fb := box3_facts (rb.belowR b1)
    go_wp2_with fail
    go_ret
    exact ⟨rfl, hw.trans (b1.mono hw.size)⟩
  · have hx0 := True.intro
    by_cases q1 : 4 < n'
    · clear h
      go_enter Tryd.func4, Tryd.ntmps4
      go_wp2_with fail
      generalize (w.alloc (.cells #[.bool s, .slice A n c, .int .i64 e] 29)).alloc (.cells #[.bool s', .slice A' n' c', .int .i64 e'] 29) = W at *
      refine (awake6_any W (ht.below hw)).mono ?_
      rintro ev w1 ⟨rfl, b1⟩
      have fa := box3_facts (ra.belowR b1)
      have fb := box3_facts (rb.belowR b1)
      go_wp2_with fail
      go_ret
      exact ⟨rfl, hw.trans (b1.mono hw.size)⟩
    · have hx1 := True.intro
      by_cases q2 : 1000 < e
      · clear h
        go_enter Tryd.func4, Tryd.ntmps4
        go_wp2_with fail
        generalize (w.alloc (.cells #[.bool s, .slice A n c, .int .i64 e] 29)).alloc (.cells #[.bool s', .slice A' n' c', .int .i64 e'] 29) = W at *
        refine (awake6_any W (ht.below hw)).mono ?_
        rintro ev w1 ⟨rfl, b1⟩
        have fa := box3_facts (ra.belowR b1)
        have fb := box3_facts (rb.belowR b1)
        go_wp2_with fail
        go_ret
        exact ⟨rfl, hw.trans (b1.mono hw.size)⟩
      · have hx2 := True.intro
        by_cases q3 : e < -1000
        · clear h
          go_enter Tryd.func4, Tryd.ntmps4
          go_wp2_with fail
          generalize (w.alloc (.cells #[.bool s, .slice A n c, .int .i64 e] 29)).alloc (.cells #[.bool s', .slice A' n' c', .int .i64 e'] 29) = W at *
          refine (awake6_any W (ht.below hw)).mono ?_
          rintro ev w1 ⟨rfl, b1⟩
          have fa := box3_facts (ra.belowR b1)
          have fb := box3_facts (rb.belowR b1)
          go_wp2_with fail
          go_ret
          exact ⟨rfl, hw.trans (b1.mono hw.size)⟩
        · have hx3 := True.intro
          by_cases q4 : 1000 < e'
          · clear h
            go_enter Tryd.func4, Tryd.ntmps4
            go_wp2_with fail
            generalize (w.alloc (.cells #[.bool s, .slice A n c, .int .i64 e] 29)).alloc (.cells #[.bool s', .slice A' n' c', .int .i64 e'] 29) = W at *
            refine (awake6_any W (ht.below hw)).mono ?_
            rintro ev w1 ⟨rfl, b1⟩
            have fa := box3_facts (ra.belowR b1)
            have fb := box3_facts (rb.belowR b1)
            go_wp2_with fail
            go_ret
            exact ⟨rfl, hw.trans (b1.mono hw.size)⟩
          · have hx4 := True.intro
            have q5 : e' < -1000 := by omega
            clear h
            go_enter Tryd.func4, Tryd.ntmps4
            go_wp2_with fail
            generalize (w.alloc (.cells #[.bool s, .slice A n c, .int .i64 e] 29)).alloc (.cells #[.bool s', .slice A' n' c', .int .i64 e'] 29) = W at *
            refine (awake6_any W (ht.below hw)).mono ?_
            rintro ev w1 ⟨rfl, b1⟩
            have fa := box3_facts (ra.belowR b1)
            have fb := box3_facts (rb.belowR b1)
            go_wp2_with fail
            go_ret
            exact ⟨rfl, hw.trans (b1.mono hw.size)⟩

set_option maxRecDepth 100000 in
set_option maxHeartbeats 8000000 in
theorem round_any (s s' : Bool) (A A' : Option Addr) (n n' c c' : Nat) (xs ys : List Int) (e e' : Int) (w : World) (ht : TabOk w) (hr : RdS w .u64 A n xs) (hr' : RdS w .u64 A' n' ys) (hc : n ≤ c) (hc' : n' ≤ c') (hx : Dg B64 xs) (hy : Dg B64 ys) :
    Calls Tryd.prog 4 #[.agg #[.bool s, .slice A n c, .int .i64 e], .agg #[.bool s', .slice A' n' c', .int .i64 e']] w fun ev w' => ev = .returned (.bool true) ∧ Below w.heap.size w w' := by
  by_cases h : 4 < n ∨ 4 < n' ∨ 1000 < e ∨ e < -1000 ∨ 1000 < e' ∨ e' < -1000
  · exact round_bad s s' A A' n n' c c' e e' w ht h
  have q0 : ¬ 4 < n := fun x => h (.inl x)
  have q1 : ¬ 4 < n' := fun x => h (.inr (.inl x))
  have q2 : ¬ 1000 < e := fun x => h (.inr (.inr (.inl x)))
  have q3 : ¬ e < -1000 := fun x => h (.inr (.inr (.inr (.inl x))))
  have q4 : ¬ 1000 < e' := fun x => h (.inr (.inr (.inr (.inr (.inl x)))))
  have q5 : ¬ e' < -1000 := fun x => h (.inr (.inr (.inr (.inr (.inr x)))))
  have y1 : IDy w (.agg #[.bool s, .slice A n c, .int .i64 e]) (zi s xs) e 4 := ⟨s, xs, A, c, by rw [hr.len], by rw [hr.len]; exact hc, by rw [hr.len]; exact hr, hx, rfl, by rw [hr.len]; omega⟩
  have y2 : IDy w (.agg #[.bool s', .slice A' n' c', .int .i64 e']) (zi s' ys) e' 4 := ⟨s', ys, A', c', by rw [hr'.len], by rw [hr'.len]; exact hc', by rw [hr'.len]; exact hr', hy, rfl, by rw [hr'.len]; omega⟩
  have i1 := ifv_arg (k := 40) y1 (by omega) (by omega) (by omega)
  have i2 := ifv_arg (k := 40) y2 (by omega) (by omega) (by omega)
  generalize 2 ^ (e - -1000).toNat * zi s xs = X at *
  generalize 2 ^ (e' - -1000).toNat * zi s' ys = Y at *
  obtain ⟨ra, rb, hw⟩ := new2 w 29 29 #[.bool s, .slice A n c, .int .i64 e] #[.bool s', .slice A' n' c', .int .i64 e']
  have lw : w.heap.size + 1 < ((w.alloc (.cells #[.bool s, .slice A n c, .int .i64 e] 29)).alloc (.cells #[.bool s', .slice A' n' c', .int .i64 e'] 29)).heap.size := by simp
  clear y1 y2 h hr hr' hx hy hc hc'
  go_enter Tryd.func4, Tryd.ntmps4
  go_wp2_with fail
  generalize (w.alloc (.cells #[.bool s, .slice A n c, .int .i64 e] 29)).alloc (.cells #[.bool s', .slice A' n' c', .int .i64 e'] 29) = W at *
  replace i1 := i1.below hw
  replace i2 := i2.below hw
  refine (awake6_any W (ht.below hw)).mono ?_
  rintro ev w1 ⟨rfl, b1⟩
  replace ra := ra.belowR b1
  replace rb := rb.belowR b1
  replace i1 := i1.below b1
  replace i2 := i2.below b1
  replace hw := hw.trans (b1.mono hw.size)
  clear b1 lw
  have fa := box3_facts ra
  have fb := box3_facts rb
  go_wp2_with fail
  clear fa fb q0 q1 q2 q3 q4 q5
  refine (subF i1 i2 (by omega) (by omega) (by omega) (by omega) (ht.below hw)).mono ?_
  rintro ev w2 ⟨⟨tp, Bp, np, dp, xp, rfl, vp⟩, b2⟩
  replace hw := hw.trans (b2.mono hw.size)
  replace ra := ra.belowR b2
  replace rb := rb.belowR b2
  replace i1 := i1.below b2
  replace i2 := i2.below b2
  have b3 := al_ w2 (.cells #[.bool tp, .slice Bp np dp, .int .i64 xp] 29)
  replace ra := ra.belowR b3
  replace rb := rb.belowR b3
  replace i1 := i1.below b3
  replace i2 := i2.below b3
  replace vp := vp.below b3
  have rp : Row (w2.alloc (.cells #[.bool tp, .slice Bp np dp, .int .i64 xp] 29)) w2.heap.size 29 #[.bool tp, .slice Bp np dp, .int .i64 xp] := Row.newE rfl
  replace hw := hw.trans (b3.mono hw.size)
  clear b2 b3
  have cra := box3_facts ra
  have crb := box3_facts rb
  have crp := box3_facts rp
  go_wp2_with fail
  generalize hG : w2.heap.size = gp at *
  clear hG
  generalize w2.alloc (.cells #[.bool tp, .slice Bp np dp, .int .i64 xp] 29) = w3 at *
  clear cra crb crp
  refine (addF (vp.ifv (k := 40) (by omega)) (i2.mono (M := 2256 + 1) (by omega)) (by omega) (by omega) (by omega) (by omega) (ht.below hw)).mono ?_
  rintro ev w2 ⟨⟨tq, Bq, nq, dq, xq, rfl, vq⟩, b2⟩
  rw [Int.sub_add_cancel] at vq
  replace hw := hw.trans (b2.mono hw.size)
  replace ra := ra.belowR b2
  replace rb := rb.belowR b2
  replace i1 := i1.below b2
  replace i2 := i2.below b2
  replace rp := rp.belowR b2
  replace vp := vp.below b2
  have b3 := al_ w2 (.cells #[.bool tq, .slice Bq nq dq, .int .i64 xq] 29)
  replace ra := ra.belowR b3
  replace rb := rb.belowR b3
  replace i1 := i1.below b3
  replace i2 := i2.below b3
  replace rp := rp.belowR b3
  replace vp := vp.below b3
  replace vq := vq.below b3
  have rq : Row (w2.alloc (.cells #[.bool tq, .slice Bq nq dq, .int .i64 xq] 29)) w2.heap.size 29 #[.bool tq, .slice Bq nq dq, .int .i64 xq] := Row.newE rfl
  replace hw := hw.trans (b3.mono hw.size)
  clear b2 b3
  have cra := box3_facts ra
  have crb := box3_facts rb
  have crp := box3_facts rp
  have crq := box3_facts rq
  go_wp2_with fail
  generalize hG : w2.heap.size = gq at *
  clear hG
  generalize w2.alloc (.cells #[.bool tq, .slice Bq nq dq, .int .i64 xq] 29) = w3 at *
  clear cra crb crp crq
  clear rp vp
  refine (plainF i1 (by omega) (by omega) (by omega) (by omega) (ht.below hw)).mono ?_
  rintro ev w2 ⟨⟨tr, Br, nr, dr, xr, rfl, vr⟩, b2⟩
  replace hw := hw.trans (b2.mono hw.size)
  replace ra := ra.belowR b2
  replace rb := rb.belowR b2
  replace i1 := i1.below b2
  replace i2 := i2.below b2
  replace rq := rq.belowR b2
  replace vq := vq.below b2
  have b3 := al_ w2 (.cells #[.bool tr, .slice Br nr dr, .int .i64 xr] 29)
  replace ra := ra.belowR b3
  replace rb := rb.belowR b3
  replace i1 := i1.below b3
  replace i2 := i2.below b3
  replace rq := rq.belowR b3
  replace vq := vq.below b3
  replace vr := vr.below b3
  have rr : Row (w2.alloc (.cells #[.bool tr, .slice Br nr dr, .int .i64 xr] 29)) w2.heap.size 29 #[.bool tr, .slice Br nr dr, .int .i64 xr] := Row.newE rfl
  replace hw := hw.trans (b3.mono hw.size)
  clear b2 b3
  have cra := box3_facts ra
  have crb := box3_facts rb
  have crq := box3_facts rq
  have crr := box3_facts rr
  go_wp2_with fail
  generalize hG : w2.heap.size = gr at *
  clear hG
  generalize w2.alloc (.cells #[.bool tr, .slice Br nr dr, .int .i64 xr] 29) = w3 at *
  clear cra crb crq crr
  refine (mulF i1 i2 (by omega) (by omega) (by omega) (by omega) (by omega) (by omega) (ht.below hw)).mono ?_
  rintro ev w2 ⟨⟨tx, Bx, nx, dx, xx, rfl, vx⟩, b2⟩
  replace hw := hw.trans (b2.mono hw.size)
  replace ra := ra.belowR b2
  replace rb := rb.belowR b2
  replace i1 := i1.below b2
  replace i2 := i2.below b2
  replace rq := rq.belowR b2
  replace vq := vq.below b2
  replace rr := rr.belowR b2
  replace vr := vr.below b2
  have b3 := al_ w2 (.cells #[.bool tx, .slice Bx nx dx, .int .i64 xx] 29)
  replace ra := ra.belowR b3
  replace rb := rb.belowR b3
  replace i1 := i1.below b3
  replace i2 := i2.below b3
  replace rq := rq.belowR b3
  replace vq := vq.below b3
  replace rr := rr.belowR b3
  replace vr := vr.below b3
  replace vx := vx.below b3
  have rx : Row (w2.alloc (.cells #[.bool tx, .slice Bx nx dx, .int .i64 xx] 29)) w2.heap.size 29 #[.bool tx, .slice Bx nx dx, .int .i64 xx] := Row.newE rfl
  replace hw := hw.trans (b3.mono hw.size)
  clear b2 b3
  have cra := box3_facts ra
  have crb := box3_facts rb
  have crq := box3_facts rq
  have crr := box3_facts rr
  have crx := box3_facts rx
  go_wp2_with fail
  generalize hG : w2.heap.size = gx at *
  clear hG
  generalize w2.alloc (.cells #[.bool tx, .slice Bx nx dx, .int .i64 xx] 29) = w3 at *
  clear cra crb crq crr crx
  refine (mulF i2 i1 (by omega) (by omega) (by omega) (by omega) (by omega) (by omega) (ht.below hw)).mono ?_
  rintro ev w2 ⟨⟨ty, By, ny, dy, xy, rfl, vy⟩, b2⟩
  rw [Int.mul_comm] at vy
  replace hw := hw.trans (b2.mono hw.size)
  replace ra := ra.belowR b2
  replace rb := rb.belowR b2
  replace i1 := i1.below b2
  replace i2 := i2.below b2
  replace rq := rq.belowR b2
  replace vq := vq.below b2
  replace rr := rr.belowR b2
  replace vr := vr.below b2
  replace rx := rx.belowR b2
  replace vx := vx.below b2
  have b3 := al_ w2 (.cells #[.bool ty, .slice By ny dy, .int .i64 xy] 29)
  replace ra := ra.belowR b3
  replace rb := rb.belowR b3
  replace i1 := i1.below b3
  replace i2 := i2.below b3
  replace rq := rq.belowR b3
  replace vq := vq.below b3
  replace rr := rr.belowR b3
  replace vr := vr.below b3
  replace rx := rx.belowR b3
  replace vx := vx.below b3
  replace vy := vy.below b3
  have ry : Row (w2.alloc (.cells #[.bool ty, .slice By ny dy, .int .i64 xy] 29)) w2.heap.size 29 #[.bool ty, .slice By ny dy, .int .i64 xy] := Row.newE rfl
  replace hw := hw.trans (b3.mono hw.size)
  clear b2 b3
  have cra := box3_facts ra
  have crb := box3_facts rb
  have crq := box3_facts rq
  have crr := box3_facts rr
  have crx := box3_facts rx
  have cry := box3_facts ry
  go_wp2_with fail
  generalize hG : w2.heap.size = gy at *
  clear hG
  generalize w2.alloc (.cells #[.bool ty, .slice By ny dy, .int .i64 xy] 29) = w3 at *
  clear cra crb crq crr crx cry
  have vr2 := vr.mono (M := 2256 + 1 + 1) (by omega)
  refine (cmpF vq vr2 (k := 40) (by omega) (by omega) (by omega) (by omega)).mono ?_
  rintro ev w2 ⟨rfl, b2⟩
  replace ra := ra.belowR b2
  replace rb := rb.belowR b2
  replace i1 := i1.below b2
  replace i2 := i2.below b2
  replace rq := rq.belowR b2
  replace vq := vq.below b2
  replace rr := rr.belowR b2
  replace vr := vr.below b2
  replace rx := rx.belowR b2
  replace vx := vx.below b2
  replace ry := ry.belowR b2
  replace vy := vy.below b2
  replace vr2 := vr2.below b2
  replace hw := hw.trans (b2.mono hw.size)
  clear b2
  have f1 := box3_facts rq
  have f2 := box3_facts rr
  go_wp2_with fail
  refine (sameF vq vr2 (k := 40) (by omega) (by omega)).mono ?_
  rintro ev w4 ⟨rfl, b2⟩
  clear f1 f2
  replace ra := ra.belowR b2
  replace rb := rb.belowR b2
  replace i1 := i1.below b2
  replace i2 := i2.below b2
  replace rq := rq.belowR b2
  replace vq := vq.below b2
  replace rr := rr.belowR b2
  replace vr := vr.below b2
  replace rx := rx.belowR b2
  replace vx := vx.below b2
  replace ry := ry.belowR b2
  replace vy := vy.below b2
  replace vr2 := vr2.below b2
  replace hw := hw.trans (b2.mono hw.size)
  clear b2
  have f1 := box3_facts rx
  have f2 := box3_facts ry
  go_wp2_with fail
  refine (sameF vx vy (k := 100) (by omega) (by omega)).mono ?_
  rintro ev w5 ⟨rfl, b2⟩
  go_wp2_with fail
  go_ret
  exact ⟨rfl, hw.trans (b2.mono hw.size)⟩
end Go.Proofs.YtlgecdkidgjgiaaDoor
