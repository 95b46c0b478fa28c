/- The walk of the law of floats' dyadic numbers. -/
import Derived.Test.YtlgecdkidgjgiaaDoorLw6A
namespace Go.Proofs.YtlgecdkidgjgiaaDoor
open Go.RowKit

theorem numF (b : Int) {w : World} (h0 : 0 ≤ b) (h1 : b < B64) :
    Calls Tryd.prog 14 #[.int .u64 b] w fun ev w' => ∃ (t : Bool) (B : Option Addr) (n d : Nat), ev = .returned (.agg #[.bool t, .slice B n d]) ∧ DV w' (.agg #[.bool t, .slice B n d]) (fval b) ∧ Below w.heap.size w w' := by
  refine (numV b h0 h1).mono ?_
  rintro ev w' ⟨u, rfl, hu, hb⟩
  obtain ⟨t, B, n, d, rfl⟩ := hu.shape
  exact ⟨t, B, n, d, rfl, hu, hb⟩
theorem fval_sz (b : Int) : Sz (fval b) 33 := sz_of_abs (fval_bd b) (by decide)

set_option maxHeartbeats 800000 in
theorem bad_first (a b c d : Int) (w : World) (ht : TabOk w) (ha0 : 0 ≤ a) (ha1 : a < B64) (hb0 : 0 ≤ b) (hb1 : b < B64) (hc0 : 0 ≤ c) (hc1 : c < B64) (hd0 : 0 ≤ d) (hd1 : d < B64)
    (h : fX a = 2047 ∨ fX b = 2047 ∨ fX c = 2047 ∨ fX d = 2047) :
    Calls Tryd.prog 3 #[.int .u64 a, .int .u64 b, .int .u64 c, .int .u64 d] w fun ev w' => ev = .returned (.bool true) ∧ Below w.heap.size w w' := by
  by_cases ha : fX a = 2047
  · have ea : (fX a != 2047) = false := by simpa using ha
    clear h ha
    go_enter Tryd.func3, Tryd.ntmps3
    go_wp2_with fail
    refine (awake6_any w ht).mono ?_
    rintro ev w1 ⟨rfl, hw⟩
    go_wp2_with fail
    refine (rfinite_any a _ ha0 ha1).mono ?_
    rintro ev w2 ⟨rfl, b⟩
    replace hw := hw.trans (b.mono hw.size)
    clear b
    rw [ea]
    go_wp2_with fail
    go_ret
    exact ⟨rfl, hw⟩
  · have hx0 := True.intro
    by_cases hb : fX b = 2047
    · have eb : (fX b != 2047) = false := by simpa using hb
      have ea : (fX a != 2047) = true := by simpa using ha
      clear h ha hb
      go_enter Tryd.func3, Tryd.ntmps3
      go_wp2_with fail
      refine (awake6_any w ht).mono ?_
      rintro ev w1 ⟨rfl, hw⟩
      go_wp2_with fail
      refine (rfinite_any a _ ha0 ha1).mono ?_
      rintro ev w2 ⟨rfl, b⟩
      replace hw := hw.trans (b.mono hw.size)
      clear b
      rw [ea]
      go_wp2_with fail
      refine (rfinite_any b _ hb0 hb1).mono ?_
      rintro ev w3 ⟨rfl, b⟩
      replace hw := hw.trans (b.mono hw.size)
      clear b
      rw [eb]
      go_wp2_with fail
      go_ret
      exact ⟨rfl, hw⟩
    · have hx1 := True.intro
      by_cases hc : fX c = 2047
      · have ec : (fX c != 2047) = false := by simpa using hc
        have ea : (fX a != 2047) = true := by simpa using ha
        have eb : (fX b != 2047) = true := by simpa using hb
        clear h ha hb hc
        go_enter Tryd.func3, Tryd.ntmps3
        go_wp2_with fail
        refine (awake6_any w ht).mono ?_
        rintro ev w1 ⟨rfl, hw⟩
        go_wp2_with fail
        refine (rfinite_any a _ ha0 ha1).mono ?_
        rintro ev w2 ⟨rfl, b⟩
        replace hw := hw.trans (b.mono hw.size)
        clear b
        rw [ea]
        go_wp2_with fail
        refine (rfinite_any b _ hb0 hb1).mono ?_
        rintro ev w3 ⟨rfl, b⟩
        replace hw := hw.trans (b.mono hw.size)
        clear b
        rw [eb]
        go_wp2_with fail
        refine (rfinite_any c _ hc0 hc1).mono ?_
        rintro ev w4 ⟨rfl, b⟩
        replace hw := hw.trans (b.mono hw.size)
        clear b
        rw [ec]
        go_wp2_with fail
        go_ret
        exact ⟨rfl, hw⟩
      · have hx2 := True.intro
        have hd : fX d = 2047 := by omega
        have ed : (fX d != 2047) = false := by simpa using hd
        have ea : (fX a != 2047) = true := by simpa using ha
        have eb : (fX b != 2047) = true := by simpa using hb
        have ec : (fX c != 2047) = true := by simpa using hc
        clear h ha hb hc hd
        go_enter Tryd.func3, Tryd.ntmps3
        go_wp2_with fail
        refine (awake6_any w ht).mono ?_
        rintro ev w1 ⟨rfl, hw⟩
        go_wp2_with fail
        refine (rfinite_any a _ ha0 ha1).mono ?_
        rintro ev w2 ⟨rfl, b⟩
        replace hw := hw.trans (b.mono hw.size)
        clear b
        rw [ea]
        go_wp2_with fail
        refine (rfinite_any b _ hb0 hb1).mono ?_
        rintro ev w3 ⟨rfl, b⟩
        replace hw := hw.trans (b.mono hw.size)
        clear b
        rw [eb]
        go_wp2_with fail
        refine (rfinite_any c _ hc0 hc1).mono ?_
        rintro ev w4 ⟨rfl, b⟩
        replace hw := hw.trans (b.mono hw.size)
        clear b
        rw [ec]
        go_wp2_with fail
        refine (rfinite_any d _ hd0 hd1).mono ?_
        rintro ev w5 ⟨rfl, b⟩
        replace hw := hw.trans (b.mono hw.size)
        clear b
        rw [ed]
        go_wp2_with fail
        go_ret
        exact ⟨rfl, hw⟩

set_option maxRecDepth 100000 in
set_option maxHeartbeats 12000000 in
theorem floats_any (a b c d : Int) (w : World) (ht : TabOk w) (ha0 : 0 ≤ a) (ha1 : a < B64) (hb0 : 0 ≤ b) (hb1 : b < B64) (hc0 : 0 ≤ c) (hc1 : c < B64) (hd0 : 0 ≤ d) (hd1 : d < B64) :
    Calls Tryd.prog 3 #[.int .u64 a, .int .u64 b, .int .u64 c, .int .u64 d] w fun ev w' => ev = .returned (.bool true) ∧ Below w.heap.size w w' := by
  by_cases h : fX a = 2047 ∨ fX b = 2047 ∨ fX c = 2047 ∨ fX d = 2047
  · exact bad_first a b c d w ht ha0 ha1 hb0 hb1 hc0 hc1 hd0 hd1 h
  have na : fX a ≠ 2047 := fun e => h (.inl e)
  have nb : fX b ≠ 2047 := fun e => h (.inr (.inl e))
  have nc : fX c ≠ 2047 := fun e => h (.inr (.inr (.inl e)))
  have nd : fX d ≠ 2047 := fun e => h (.inr (.inr (.inr e)))
  have ea : (fX a != 2047) = true := by simpa using na
  have eb : (fX b != 2047) = true := by simpa using nb
  have ec : (fX c != 2047) = true := by simpa using nc
  have ed : (fX d != 2047) = true := by simpa using nd
  have NA := Lib.hid na
  have NB := Lib.hid nb
  have NC := Lib.hid nc
  have ND := Lib.hid nd
  clear h na nb nc nd
  go_enter Tryd.func3, Tryd.ntmps3
  go_wp2_with fail
  refine (awake6_any w ht).mono ?_
  rintro ev w1 ⟨rfl, hw⟩
  go_wp2_with fail
  refine (rfinite_any a _ ha0 ha1).mono ?_
  rintro ev w2 ⟨rfl, b⟩
  replace hw := hw.trans (b.mono hw.size)
  clear b
  rw [ea]
  go_wp2_with fail
  refine (rfinite_any b _ hb0 hb1).mono ?_
  rintro ev w3 ⟨rfl, b⟩
  replace hw := hw.trans (b.mono hw.size)
  clear b
  rw [eb]
  go_wp2_with fail
  refine (rfinite_any c _ hc0 hc1).mono ?_
  rintro ev w4 ⟨rfl, b⟩
  replace hw := hw.trans (b.mono hw.size)
  clear b
  rw [ec]
  go_wp2_with fail
  refine (rfinite_any d _ hd0 hd1).mono ?_
  rintro ev w5 ⟨rfl, b⟩
  replace hw := hw.trans (b.mono hw.size)
  clear b
  rw [ed]
  go_wp2_with fail
  clear ea eb ec ed
  refine (ofF a ha0 ha1 NA.out (ht.below hw)).mono ?_
  rintro ev w2 ⟨⟨tw, Bw, nw, dw, xw, rfl, vw⟩, b2⟩
  replace hw := hw.trans (b2.mono hw.size)
  have b3 := al_ w2 (.cells #[.bool tw, .slice Bw nw dw, .int .i64 xw] 29)
  replace vw := vw.below b3
  have rw : Row (w2.alloc (.cells #[.bool tw, .slice Bw nw dw, .int .i64 xw] 29)) w2.heap.size 29 #[.bool tw, .slice Bw nw dw, .int .i64 xw] := Row.newE rfl
  replace hw := hw.trans (b3.mono hw.size)
  clear b2 b3
  have cw := box3_facts rw
  go_wp2_with fail
  generalize hG : w2.heap.size = gw at *
  clear hG
  generalize w2.alloc (.cells #[.bool tw, .slice Bw nw dw, .int .i64 xw] 29) = w3 at *
  clear cw
  refine (ofF b hb0 hb1 NB.out (ht.below hw)).mono ?_
  rintro ev w2 ⟨⟨tx, Bx, nx, dx, xx, rfl, vx⟩, b2⟩
  replace hw := hw.trans (b2.mono hw.size)
  replace rw := rw.belowR b2
  replace vw := vw.below b2
  have b3 := al_ w2 (.cells #[.bool tx, .slice Bx nx dx, .int .i64 xx] 29)
  replace rw := rw.belowR b3
  replace vw := vw.below b3
  replace vx := vx.below b3
  have rx : Row (w2.alloc (.cells #[.bool tx, .slice Bx nx dx, .int .i64 xx] 29)) w2.heap.size 29 #[.bool tx, .slice Bx nx dx, .int .i64 xx] := Row.newE rfl
  replace hw := hw.trans (b3.mono hw.size)
  clear b2 b3
  have cw := box3_facts rw
  have cx := box3_facts rx
  go_wp2_with fail
  generalize hG : w2.heap.size = gx at *
  clear hG
  generalize w2.alloc (.cells #[.bool tx, .slice Bx nx dx, .int .i64 xx] 29) = w3 at *
  clear cw cx
  refine (ofF c hc0 hc1 NC.out (ht.below hw)).mono ?_
  rintro ev w2 ⟨⟨ty, By, ny, dy, xy, rfl, vy⟩, b2⟩
  replace hw := hw.trans (b2.mono hw.size)
  replace rw := rw.belowR b2
  replace vw := vw.below b2
  replace rx := rx.belowR b2
  replace vx := vx.below b2
  have b3 := al_ w2 (.cells #[.bool ty, .slice By ny dy, .int .i64 xy] 29)
  replace rw := rw.belowR b3
  replace vw := vw.below b3
  replace rx := rx.belowR b3
  replace vx := vx.below b3
  replace vy := vy.below b3
  have ry : Row (w2.alloc (.cells #[.bool ty, .slice By ny dy, .int .i64 xy] 29)) w2.heap.size 29 #[.bool ty, .slice By ny dy, .int .i64 xy] := Row.newE rfl
  replace hw := hw.trans (b3.mono hw.size)
  clear b2 b3
  have cw := box3_facts rw
  have cx := box3_facts rx
  have cy := box3_facts ry
  go_wp2_with fail
  generalize hG : w2.heap.size = gy at *
  clear hG
  generalize w2.alloc (.cells #[.bool ty, .slice By ny dy, .int .i64 xy] 29) = w3 at *
  clear cw cx cy
  refine (ofF d hd0 hd1 ND.out (ht.below hw)).mono ?_
  rintro ev w2 ⟨⟨tz, Bz, nz, dz, xz, rfl, vz⟩, b2⟩
  replace hw := hw.trans (b2.mono hw.size)
  replace rw := rw.belowR b2
  replace vw := vw.below b2
  replace rx := rx.belowR b2
  replace vx := vx.below b2
  replace ry := ry.belowR b2
  replace vy := vy.below b2
  have b3 := al_ w2 (.cells #[.bool tz, .slice Bz nz dz, .int .i64 xz] 29)
  replace rw := rw.belowR b3
  replace vw := vw.below b3
  replace rx := rx.belowR b3
  replace vx := vx.below b3
  replace ry := ry.belowR b3
  replace vy := vy.below b3
  replace vz := vz.below b3
  have rz : Row (w2.alloc (.cells #[.bool tz, .slice Bz nz dz, .int .i64 xz] 29)) w2.heap.size 29 #[.bool tz, .slice Bz nz dz, .int .i64 xz] := Row.newE rfl
  replace hw := hw.trans (b3.mono hw.size)
  clear b2 b3
  have cw := box3_facts rw
  have cx := box3_facts rx
  have cy := box3_facts ry
  have cz := box3_facts rz
  go_wp2_with fail
  generalize hG : w2.heap.size = gz at *
  clear hG
  generalize w2.alloc (.cells #[.bool tz, .slice Bz nz dz, .int .i64 xz] 29) = w3 at *
  clear cw cx cy cz
  refine (subF (vw.ifv (k := 40) (by omega)) (vx.ifv (by omega)) (by omega) (by omega) (by omega) (by omega) (ht.below hw)).mono ?_
  rintro ev w2 ⟨⟨tp, Bp, np, dp, xp, rfl, vp⟩, b2⟩
  replace hw := hw.trans (b2.mono hw.size)
  replace rw := rw.belowR b2
  replace vw := vw.below b2
  replace rx := rx.belowR b2
  replace vx := vx.below b2
  replace ry := ry.belowR b2
  replace vy := vy.below b2
  replace rz := rz.belowR b2
  replace vz := vz.below b2
  have b3 := al_ w2 (.cells #[.bool tp, .slice Bp np dp, .int .i64 xp] 29)
  replace rw := rw.belowR b3
  replace vw := vw.below b3
  replace rx := rx.belowR b3
  replace vx := vx.below b3
  replace ry := ry.belowR b3
  replace vy := vy.below b3
  replace rz := rz.belowR b3
  replace vz := vz.below b3
  replace vp := vp.below b3
  have rp : Row (w2.alloc (.cells #[.bool tp, .slice Bp np dp, .int .i64 xp] 29)) w2.heap.size 29 #[.bool tp, .slice Bp np dp, .int .i64 xp] := Row.newE rfl
  replace hw := hw.trans (b3.mono hw.size)
  clear b2 b3
  have cw := box3_facts rw
  have cx := box3_facts rx
  have cy := box3_facts ry
  have cz := box3_facts rz
  have cp := box3_facts rp
  go_wp2_with fail
  generalize hG : w2.heap.size = gp at *
  clear hG
  generalize w2.alloc (.cells #[.bool tp, .slice Bp np dp, .int .i64 xp] 29) = w3 at *
  clear cw cx cy cz cp
  clear rw vw
  clear rx vx
  refine (subF (vy.ifv (k := 40) (by omega)) (vz.ifv (by omega)) (by omega) (by omega) (by omega) (by omega) (ht.below hw)).mono ?_
  rintro ev w2 ⟨⟨tq, Bq, nq, dq, xq, rfl, vq⟩, b2⟩
  replace hw := hw.trans (b2.mono hw.size)
  replace ry := ry.belowR b2
  replace vy := vy.below b2
  replace rz := rz.belowR b2
  replace vz := vz.below b2
  replace rp := rp.belowR b2
  replace vp := vp.below b2
  have b3 := al_ w2 (.cells #[.bool tq, .slice Bq nq dq, .int .i64 xq] 29)
  replace ry := ry.belowR b3
  replace vy := vy.below b3
  replace rz := rz.belowR b3
  replace vz := vz.below b3
  replace rp := rp.belowR b3
  replace vp := vp.below b3
  replace vq := vq.below b3
  have rq : Row (w2.alloc (.cells #[.bool tq, .slice Bq nq dq, .int .i64 xq] 29)) w2.heap.size 29 #[.bool tq, .slice Bq nq dq, .int .i64 xq] := Row.newE rfl
  replace hw := hw.trans (b3.mono hw.size)
  clear b2 b3
  have cy := box3_facts ry
  have cz := box3_facts rz
  have cp := box3_facts rp
  have cq := box3_facts rq
  go_wp2_with fail
  generalize hG : w2.heap.size = gq at *
  clear hG
  generalize w2.alloc (.cells #[.bool tq, .slice Bq nq dq, .int .i64 xq] 29) = w3 at *
  clear cy cz cp cq
  clear ry vy
  clear rz vz
  refine (mulF (vp.ifv (k := 40) (by omega)) (vq.ifv (by omega)) (by omega) (by omega) (by omega) (by omega) (by omega) (by omega) (ht.below hw)).mono ?_
  rintro ev w2 ⟨⟨tm, Bm, nm, dm, xm, rfl, vm⟩, b2⟩
  replace hw := hw.trans (b2.mono hw.size)
  replace rp := rp.belowR b2
  replace vp := vp.below b2
  replace rq := rq.belowR b2
  replace vq := vq.below b2
  have b3 := al_ w2 (.cells #[.bool tm, .slice Bm nm dm, .int .i64 xm] 29)
  replace rp := rp.belowR b3
  replace vp := vp.below b3
  replace rq := rq.belowR b3
  replace vq := vq.below b3
  replace vm := vm.below b3
  have rm : Row (w2.alloc (.cells #[.bool tm, .slice Bm nm dm, .int .i64 xm] 29)) w2.heap.size 29 #[.bool tm, .slice Bm nm dm, .int .i64 xm] := Row.newE rfl
  replace hw := hw.trans (b3.mono hw.size)
  clear b2 b3
  have cp := box3_facts rp
  have cq := box3_facts rq
  have cm := box3_facts rm
  go_wp2_with fail
  generalize hG : w2.heap.size = gm at *
  clear hG
  generalize w2.alloc (.cells #[.bool tm, .slice Bm nm dm, .int .i64 xm] 29) = w3 at *
  clear cp cq cm
  refine (mulF (vq.ifv (k := 40) (by omega)) (vq.ifv (by omega)) (by omega) (by omega) (by omega) (by omega) (by omega) (by omega) (ht.below hw)).mono ?_
  rintro ev w2 ⟨⟨tn, Bn, nn, dn, xn, rfl, vn⟩, b2⟩
  replace hw := hw.trans (b2.mono hw.size)
  replace rp := rp.belowR b2
  replace vp := vp.below b2
  replace rq := rq.belowR b2
  replace vq := vq.below b2
  replace rm := rm.belowR b2
  replace vm := vm.below b2
  have b3 := al_ w2 (.cells #[.bool tn, .slice Bn nn dn, .int .i64 xn] 29)
  replace rp := rp.belowR b3
  replace vp := vp.below b3
  replace rq := rq.belowR b3
  replace vq := vq.below b3
  replace rm := rm.belowR b3
  replace vm := vm.below b3
  replace vn := vn.below b3
  have rn : Row (w2.alloc (.cells #[.bool tn, .slice Bn nn dn, .int .i64 xn] 29)) w2.heap.size 29 #[.bool tn, .slice Bn nn dn, .int .i64 xn] := Row.newE rfl
  replace hw := hw.trans (b3.mono hw.size)
  clear b2 b3
  have cp := box3_facts rp
  have cq := box3_facts rq
  have cm := box3_facts rm
  have cn := box3_facts rn
  go_wp2_with fail
  generalize hG : w2.heap.size = gn at *
  clear hG
  generalize w2.alloc (.cells #[.bool tn, .slice Bn nn dn, .int .i64 xn] 29) = w3 at *
  clear cp cq cm cn
  clear rp vp
  clear rq vq
  refine (subF (vm.ifv (k := 100) (by omega)) (vn.ifv (by omega)) (by omega) (by omega) (by omega) (by omega) (ht.below hw)).mono ?_
  rintro ev w2 ⟨⟨ts, Bs, ns, ds, xs, rfl, vs⟩, b2⟩
  replace hw := hw.trans (b2.mono hw.size)
  replace rm := rm.belowR b2
  replace vm := vm.below b2
  replace rn := rn.belowR b2
  replace vn := vn.below b2
  have b3 := al_ w2 (.cells #[.bool ts, .slice Bs ns ds, .int .i64 xs] 29)
  replace rm := rm.belowR b3
  replace vm := vm.below b3
  replace rn := rn.belowR b3
  replace vn := vn.below b3
  replace vs := vs.below b3
  have rs : Row (w2.alloc (.cells #[.bool ts, .slice Bs ns ds, .int .i64 xs] 29)) w2.heap.size 29 #[.bool ts, .slice Bs ns ds, .int .i64 xs] := Row.newE rfl
  replace hw := hw.trans (b3.mono hw.size)
  clear b2 b3
  have cm := box3_facts rm
  have cn := box3_facts rn
  have cs := box3_facts rs
  go_wp2_with fail
  generalize hG : w2.heap.size = gs at *
  clear hG
  generalize w2.alloc (.cells #[.bool ts, .slice Bs ns ds, .int .i64 xs] 29) = w3 at *
  clear cm cn cs
  clear rm vm
  clear rn vn
  refine (numF a ha0 ha1).mono ?_
  rintro ev w2 ⟨ta, Ba, na, da, rfl, ia, b2⟩
  replace hw := hw.trans (b2.mono hw.size)
  replace rs := rs.belowR b2
  replace vs := vs.below b2
  clear b2
  go_wp2_with fail
  refine (numF b hb0 hb1).mono ?_
  rintro ev w2 ⟨tb, Bb, nb, db, rfl, ib, b2⟩
  replace hw := hw.trans (b2.mono hw.size)
  replace rs := rs.belowR b2
  replace vs := vs.below b2
  replace ia := ia.below b2
  clear b2
  go_wp2_with fail
  refine (subD ia ib (fval_sz a) (fval_sz b) (by omega) (by omega)).mono ?_
  rintro ev w2 ⟨uu, rfl, iu, b2⟩
  clear ia ib
  obtain ⟨tu, Bu, nu, du, rfl⟩ := iu.shape
  replace hw := hw.trans (b2.mono hw.size)
  replace rs := rs.belowR b2
  replace vs := vs.below b2
  have b3 := al_ w2 (.cells #[.bool tu, .slice Bu nu du] 37)
  replace rs := rs.belowR b3
  replace vs := vs.below b3
  replace iu := iu.below b3
  have ru : Row (w2.alloc (.cells #[.bool tu, .slice Bu nu du] 37)) w2.heap.size 37 #[.bool tu, .slice Bu nu du] := Row.newE rfl
  replace hw := hw.trans (b3.mono hw.size)
  clear b2 b3
  go_wp2_with fail
  generalize hG : w2.heap.size = gu at *
  clear hG
  generalize w2.alloc (.cells #[.bool tu, .slice Bu nu du] 37) = w3 at *
  refine (numF c hc0 hc1).mono ?_
  rintro ev w2 ⟨tc, Bc, nc, dc, rfl, ic, b2⟩
  replace hw := hw.trans (b2.mono hw.size)
  replace rs := rs.belowR b2
  replace vs := vs.below b2
  replace ru := ru.belowR b2
  replace iu := iu.below b2
  clear b2
  go_wp2_with fail
  refine (numF d hd0 hd1).mono ?_
  rintro ev w2 ⟨td, Bd, nd, dd, rfl, id, b2⟩
  replace hw := hw.trans (b2.mono hw.size)
  replace rs := rs.belowR b2
  replace vs := vs.below b2
  replace ru := ru.belowR b2
  replace iu := iu.below b2
  replace ic := ic.below b2
  clear b2
  go_wp2_with fail
  refine (subD ic id (fval_sz c) (fval_sz d) (by omega) (by omega)).mono ?_
  rintro ev w2 ⟨uj, rfl, ij, b2⟩
  clear ic id
  obtain ⟨tj, Bj, nj, dj, rfl⟩ := ij.shape
  replace hw := hw.trans (b2.mono hw.size)
  replace rs := rs.belowR b2
  replace vs := vs.below b2
  replace ru := ru.belowR b2
  replace iu := iu.below b2
  have b3 := al_ w2 (.cells #[.bool tj, .slice Bj nj dj] 37)
  replace rs := rs.belowR b3
  replace vs := vs.below b3
  replace ru := ru.belowR b3
  replace iu := iu.below b3
  replace ij := ij.below b3
  have rj : Row (w2.alloc (.cells #[.bool tj, .slice Bj nj dj] 37)) w2.heap.size 37 #[.bool tj, .slice Bj nj dj] := Row.newE rfl
  replace hw := hw.trans (b3.mono hw.size)
  clear b2 b3
  go_wp2_with fail
  generalize hG : w2.heap.size = gj at *
  clear hG
  generalize w2.alloc (.cells #[.bool tj, .slice Bj nj dj] 37) = w3 at *
  have hP := abs_add (fval_bd a) (fval_bd_neg b)
  have hQ := abs_add (fval_bd c) (fval_bd_neg d)
  rw [← Int.sub_eq_add_neg] at hP hQ
  generalize fval a - fval b = P at *
  generalize fval c - fval d = Q at *
  have hR := abs_pq hP hQ
  have HR := Lib.hid hR
  have HZ := Lib.hid (And.intro (sz_of_abs (k := 40) hP (by decide)) (And.intro (sz_of_abs (k := 40) hQ (by decide)) (And.intro (sz_of_abs (k := 80) (abs_mul hP hQ) (by decide)) (And.intro (sz_of_abs (k := 80) (abs_mul hQ hQ) (by decide)) (sz_of_abs (k := 80) hR (by decide))))))
  clear hP hQ hR
  have lgu := ru.lt
  have lgj := rj.lt
  have lgs := rs.lt
  go_upto_region 18 with fail
  go_cut [29, 30] (fun v29 v30 wx => ∃ (g : Nat) (t : Bool) (B : Option Addr) (n d : Nat) (x : Int), v29 = .pointer (some ⟨g, 0, none⟩) ∧ v30 = .bool true ∧ Row wx g 29 #[.bool t, .slice B n d, .int .i64 x] ∧ FV wx (.agg #[.bool t, .slice B n d, .int .i64 x]) (-2148) (P * Q - Q * Q) (2099 + 1 + (2099 + 1) + 1) ∧
    Row wx gs 29 #[.bool ts, .slice Bs ns ds, .int .i64 xs] ∧ FV wx (.agg #[.bool ts, .slice Bs ns ds, .int .i64 xs]) (-1074 + -1074) (P * Q - Q * Q) (2099 + 1 + (2099 + 1) + 1) ∧ Below w.heap.size w wx)
  case first =>
    have hb := dr_ w3
    have hc := two_boxes ru.drew rj.drew
    have lb : w3.heap.size ≤ w3.drew.heap.size := Nat.le_refl _
    go_region_held3 (fun wx => wx.cell? ⟨gu, 0, none⟩ = some (.bool tu) ∧ wx.cell? ⟨gu, 1, none⟩ = some (.slice Bu nu du) ∧ wx.cell? ⟨gj, 0, none⟩ = some (.bool tj) ∧ wx.cell? ⟨gj, 1, none⟩ = some (.slice Bj nj dj))
      (first | with_reducible exact hc | (with_reducible refine two_boxes (e := 37) (e' := 37) ?_ ?_ <;> repeat (first | with_reducible exact Row.belowR ru hb | with_reducible exact Row.belowR rj hb | with_reducible exact ru | with_reducible exact rj | with_reducible refine Row.drew ?_ | with_reducible refine Row.allocR ?_ _ | with_reducible refine Row.sets3 ?_ _ _ _ (by omega))))
      (first
        | (go_at_call_of 16 (Value.agg #[Value.bool tu, Value.slice Bu nu du]); refine (rmulD (DV.below iu (by first | with_reducible exact hb | with_reducible exact on_ hb (al_ _ _) | with_reducible exact on_ (al_ _ _) (dr_ _))) (DV.below ij (by first | with_reducible exact hb | with_reducible exact on_ hb (al_ _ _) | with_reducible exact on_ (al_ _ _) (dr_ _))) HZ.out.1 HZ.out.2.1 (by omega)).mono ?_; rintro ev wa ⟨ua, rfl, d1, b⟩; obtain ⟨ta, Ba, na, da, rfl⟩ := d1.shape; have hb' : Below w3.heap.size w3 wa := (by first | with_reducible exact on_ hb b | with_reducible exact on_ (on_ hb (al_ _ _)) b | with_reducible exact on_ (on_ (al_ _ _) (dr_ _)) b); (first | (replace rn := rn.belowR b; have hn := box3_facts rn) | (have rn := Row.belowR (Row.newE (e := 29) (arr := #[.bool false, .slice none 0 0, .int .i64 0]) rfl) b; have hn := box3_facts rn) | (have rn := Row.belowR (Row.drew (Row.newE (e := 29) (arr := #[.bool false, .slice none 0 0, .int .i64 0]) rfl)) b; have hn := box3_facts rn) | skip); replace hb := hb'; clear hb'; replace lb := hb.size; have lwa := hb.size; replace hc := two_boxes (ru.belowR hb) (rj.belowR hb); clear b)
        | (go_at_call_of 16 (Value.agg #[Value.bool tj, Value.slice Bj nj dj]); refine (rmulD (DV.below ij (by first | with_reducible exact hb | with_reducible exact on_ hb (al_ _ _) | with_reducible exact on_ (al_ _ _) (dr_ _))) (DV.below ij (by first | with_reducible exact hb | with_reducible exact on_ hb (al_ _ _) | with_reducible exact on_ (al_ _ _) (dr_ _))) HZ.out.2.1 HZ.out.2.1 (by omega)).mono ?_; rintro ev wb ⟨ub, rfl, d2, b⟩; obtain ⟨tb, Bb, nb, db, rfl⟩ := d2.shape; have hb' : Below w3.heap.size w3 wb := (by first | with_reducible exact on_ hb b | with_reducible exact on_ (on_ hb (al_ _ _)) b | with_reducible exact on_ (on_ (al_ _ _) (dr_ _)) b); (first | replace d1 := DV.below d1 b | replace d1 := DV.below (DV.below d1 (al_ _ _)) b); (first | (replace rn := rn.belowR b; have hn := box3_facts rn) | (have rn := Row.belowR (Row.newE (e := 29) (arr := #[.bool false, .slice none 0 0, .int .i64 0]) rfl) b; have hn := box3_facts rn) | (have rn := Row.belowR (Row.drew (Row.newE (e := 29) (arr := #[.bool false, .slice none 0 0, .int .i64 0]) rfl)) b; have hn := box3_facts rn) | skip); replace hb := hb'; clear hb'; replace lb := hb.size; have lwb := hb.size; replace hc := two_boxes (ru.belowR hb) (rj.belowR hb); clear b)
        | (go_at_call 13; refine (subD (by first | with_reducible exact d1 | with_reducible exact DV.below d1 (al_ _ _)) (by first | with_reducible exact d2 | with_reducible exact DV.below d2 (al_ _ _)) HZ.out.2.2.1 HZ.out.2.2.2.1 (by omega) (by omega)).mono ?_; rintro ev wc ⟨uc, rfl, d3, b⟩; obtain ⟨tc, Bc, nc, dc, rfl⟩ := d3.shape; have hb' : Below w3.heap.size w3 wc := (by first | with_reducible exact on_ hb b | with_reducible exact on_ (on_ hb (al_ _ _)) b | with_reducible exact on_ (on_ (al_ _ _) (dr_ _)) b); (first | (replace rn := rn.belowR b; have hn := box3_facts rn) | (have rn := Row.belowR (Row.newE (e := 29) (arr := #[.bool false, .slice none 0 0, .int .i64 0]) rfl) b; have hn := box3_facts rn) | (have rn := Row.belowR (Row.drew (Row.newE (e := 29) (arr := #[.bool false, .slice none 0 0, .int .i64 0]) rfl)) b; have hn := box3_facts rn) | skip); replace hb := hb'; clear hb'; replace lb := hb.size; have lwc := hb.size; replace hc := two_boxes (ru.belowR hb) (rj.belowR hb); clear b; clear d1 d2)
        | (go_at_call 15; refine (rmadeD (-2148) (by first | with_reducible exact d3 | with_reducible exact DV.below d3 (al_ _ _)) HZ.out.2.2.2.2 (by omega) (by omega) (by omega)).mono ?_; rintro ev wd ⟨ud, rfl, hres, b⟩; obtain ⟨td, Bd, nd, dd, xd, rfl, vd⟩ := resB_fv hres HR.out (by omega) (by omega) (by omega); have hb' : Below w3.heap.size w3 wd := (by first | with_reducible exact on_ hb b | with_reducible exact on_ (on_ hb (al_ _ _)) b | with_reducible exact on_ (on_ (al_ _ _) (dr_ _)) b); (first | (replace rn := rn.belowR b; have hn := box3_facts rn) | (have rn := Row.belowR (Row.newE (e := 29) (arr := #[.bool false, .slice none 0 0, .int .i64 0]) rfl) b; have hn := box3_facts rn) | (have rn := Row.belowR (Row.drew (Row.newE (e := 29) (arr := #[.bool false, .slice none 0 0, .int .i64 0]) rfl)) b; have hn := box3_facts rn) | skip); replace hb := hb'; clear hb'; replace lb := hb.size; have lwd := hb.size; replace hc := two_boxes (ru.belowR hb) (rj.belowR hb); clear b; clear d3 hres))
    all_goals
      go_wp2_with fail
      go_meet
      refine ⟨_, td, Bd, nd, dd, xd, rfl, rfl, ?_, ?_, ?_, ?_, ?_⟩
      · first | with_reducible exact Row.newE rfl | with_reducible exact box3_set rn _ _ _
      · first | with_reducible exact FV.below vd (al_ _ _) | with_reducible exact FV.set3 vd rn _ _ _ _ _
      · first | with_reducible exact Row.allocR (Row.belowR rs hb) _ | with_reducible exact Row.sets3 (Row.belowR rs hb) _ _ _ (by omega)
      · first | with_reducible exact FV.below (FV.below vs hb) (al_ _ _) | with_reducible exact FV.set3 (FV.below vs hb) rn _ _ _ _ _
      · first | with_reducible exact hw.trans ((on_ hb (al_ _ _)).mono hw.size) | with_reducible exact Below.sets3 (hw.trans (hb.mono hw.size)) (by have := hw.size; omega) _ _ _
  case rest =>
    obtain ⟨g, t, B, n, d, x, rfl, rfl, r1, v1, r2, v2, hb⟩ := hcut
    have f1 := box3_facts r1
    have f2 := box3_facts r2
    clear hw
    go_wp2_with fail
    refine (sameF v2 v1 (k := 100) (by omega) (by omega)).mono ?_
    rintro ev w9 ⟨rfl, b9⟩
    go_wp2_with fail
    go_ret
    exact ⟨rfl, hb.trans (b9.mono hb.size)⟩
end Go.Proofs.YtlgecdkidgjgiaaDoor
