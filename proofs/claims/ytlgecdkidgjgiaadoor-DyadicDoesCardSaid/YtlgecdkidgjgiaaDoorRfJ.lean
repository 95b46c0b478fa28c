/- The walk of the reference's Made: a whole number times a power of two, plain, or none. -/
import Derived.Test.YtlgecdkidgjgiaaDoorRfI
namespace Go.Proofs.YtlgecdkidgjgiaaDoor
open Go.RowKit

/-- a number without its lowest digit, which is nought -/
theorem zd_drop {t : Bool} {xs : List Int} {z : Int} (h : zd t xs = z) (h0 : xs[0]?.getD 0 = 0) : zd t (xs.drop 1) * 65536 = z := by
  have e := vl_cons0 65536 xs
  rw [h0] at e
  rw [← h]
  unfold zd
  rw [e]
  cases t <;> simp <;> omega
theorem zd_half {t : Bool} {xs zs : List Int} {z : Int} (h : zd t xs = z) (h0 : xs[0]?.getD 0 % 2 = 0) (hz : vl 65536 zs = vl 65536 xs / 2) : zd t zs * 2 = z := by
  have e := vl_cons0 65536 xs
  rw [← h]
  unfold zd
  rw [hz, e]
  cases t <;> simp <;> omega
theorem zd_odd {t : Bool} {xs : List Int} {z : Int} (h : zd t xs = z) (h0 : xs[0]?.getD 0 % 2 ≠ 0) : z % 2 = 1 := by
  have e := vl_cons0 65536 xs
  rw [← h]
  unfold zd
  rw [e]
  cases t <;> simp <;> omega
/-- what is left of a number while its twos are taken off -/
structure Left (m z : Int) (N k : Nat) : Prop where
  eq : z * 2 ^ N = m
  ne : z ≠ 0
  sz : Sz z k
  bd : N < 64 * k
theorem Left.step {m z z' : Int} {N j k : Nat} (h : Left m z N k) (hz : z' * 2 ^ j = z) (hm : Sz m k) : Left m z' (N + j) k := by
  have ne : z' ≠ 0 := by
    intro e
    apply h.ne
    rw [← hz, e, Int.zero_mul]
  have eq : z' * 2 ^ (N + j) = m := by
    rw [Nat.add_comm N j, Int.pow_add, ← Int.mul_assoc, hz]; exact h.eq
  have abs : z'.natAbs * 2 ^ (N + j) = m.natAbs := by
    rw [← eq, Int.natAbs_mul, Int.natAbs_pow]; rfl
  have p : 0 < 2 ^ (N + j) := Nat.two_pow_pos _
  refine ⟨eq, ne, ?_, ?_⟩
  · unfold Sz at *
    have : z'.natAbs * 1 ≤ z'.natAbs * 2 ^ (N + j) := Nat.mul_le_mul_left _ p
    omega
  · apply Nat.lt_of_not_le
    intro hle
    have p1 : 2 ^ (64 * k) ≤ 2 ^ (N + j) := Nat.pow_le_pow_right (by decide) hle
    have p2 : 1 * 2 ^ (N + j) ≤ z'.natAbs * 2 ^ (N + j) := Nat.mul_le_mul_right _ (by omega)
    unfold Sz at hm
    have e : B64 ^ k = ((2 ^ (64 * k) : Nat) : Int) := by push_cast; rw [Int.pow_mul]; rfl
    rw [e] at hm
    omega
theorem DyV.set3 {w : World} {v : Value} {m e : Int} (h : DyV w v m e) {g : Nat} {ty : TypeId} {b0 : Bool} {a0 : Option Addr} {n0 c0 : Nat} {e0 : Int} (hb : Row w g ty #[.bool b0, .slice a0 n0 c0, .int .i64 e0]) (b1 : Bool) (a1 : Option Addr) (n1 c1 : Nat) (u2 : Value) :
    DyV (((w.setCell ⟨g, 0, none⟩ (.bool b1)).setCell ⟨g, 1, none⟩ (.slice a1 n1 c1)).setCell ⟨g, 2, none⟩ u2) v m e := by
  obtain ⟨t5, us, B5, d5, h2, h3, h4, h5⟩ := h
  exact ⟨t5, us, B5, d5, h2, h3, h4.set3 hb _ _ _ _ _, h5⟩
theorem Left.start {m : Int} {k : Nat} (h0 : m ≠ 0) (hm : Sz m k) : Left m m 0 k := by
  refine ⟨by simp, h0, hm, ?_⟩
  have := tz_lt hm h0
  omega
theorem DV.opened {w : World} {v : Value} {z : Int} {k : Nat} (h : DV w v z) (h0 : z ≠ 0) (hz : Sz z k) : ∃ (t : Bool) (b o n d : Nat) (zs : List Int), v = .agg #[.bool t, .slice (some ⟨b, o, none⟩) n d] ∧ 0 < n ∧ n ≤ d ∧ n ≤ 4 * k ∧ RdS w .u32 (some ⟨b, o, none⟩) n zs ∧ Dg 65536 zs ∧ zd t zs = z ∧ w.cell? ⟨b, o, none⟩ = some (.int .u32 (zs[0]?.getD 0)) := by
  obtain ⟨t, zs, B, d, h1, h2, h3, h4⟩ := h
  have hn : 0 < zs.length := by
    apply Nat.pos_of_ne_zero
    intro e
    apply h0
    rw [← h4.zd, List.length_eq_zero_iff.1 e]
    simp [zd, vl]
  obtain ⟨b, o, rfl, hc⟩ := h3.cell hn
  exact ⟨t, b, o, _, d, zs, h1, hn, h2, h4.len (Sd.of_sz hz (Nat.le_refl _)), h3, h4.can.dg, h4.zd, hc 0 hn⟩

set_option maxRecDepth 100000 in
set_option maxHeartbeats 3200000 in
theorem rmadeD {v : Value} {m : Int} {k : Nat} {w : World} (e : Int) (h : DV w v m) (hz : Sz m k) (hk : k ≤ 1000) (he0 : -1152921504606846976 ≤ e) (he1 : e ≤ 1152921504606846976) :
    Calls Tryd.prog 15 #[v, .int .i64 e] w fun ev w' => ∃ u, ev = .returned u ∧ ResB w' u (mk m e) ∧ Below w.heap.size w w' := by
  obtain ⟨t, B, n, d, rfl⟩ := h.shape
  obtain ⟨ra, rc, hw⟩ := new2 w 37 29 #[.bool t, .slice B n d] #[.bool false, .slice none 0 0, .int .i64 0]
  by_cases h0 : m = 0
  · subst h0
    rw [mk_zero]
    go_enter Tryd.func15, Tryd.ntmps15
    go_wp2_with fail
    generalize (w.alloc (.cells #[.bool t, .slice B n d] 37)).alloc (.cells #[.bool false, .slice none 0 0, .int .i64 0] 29) = W at *
    refine (signD (h.below hw) hz hk).mono ?_
    rintro ev w1 ⟨rfl, b1⟩
    rw [show sgz 0 = 0 by decide]
    replace rc := rc.belowR b1
    replace hw := hw.trans (b1.mono hw.size)
    have hc := box3_facts rc
    go_wp2_with fail
    exact bodyPost_ret (v := .tuple #[.agg #[.bool false, .slice none 0 0, .int .i64 0], .bool true]) (by simp [results, Tryd.results15, go_sem, hc]) rfl
      ⟨_, rfl, ⟨_, rfl, DyV.zero _⟩, Below.sets3 hw (by omega) _ _ _⟩
  · have hsg := sgz_ne h0
    have HL := Lib.hid (Left.start h0 hz)
    have HZ := Lib.hid hz
    clear hz
    go_enter Tryd.func15, Tryd.ntmps15
    go_wp2_with fail
    generalize (w.alloc (.cells #[.bool t, .slice B n d] 37)).alloc (.cells #[.bool false, .slice none 0 0, .int .i64 0] 29) = W at *
    refine (signD (h.below hw) HZ.out hk).mono ?_
    rintro ev w1 ⟨rfl, b1⟩
    replace h := (h.below hw).below b1
    replace ra := ra.belowR b1
    replace rc := rc.belowR b1
    replace hw := hw.trans (b1.mono hw.size)
    clear b1 W
    go_wp2_with fail
    go_loopw [6] (fun v6 wr => ∃ (z : Int) (N : Nat) (t : Bool) (B : Option Addr) (n d : Nat), v6 = .int .i64 N ∧ Row wr w.heap.size 37 #[.bool t, .slice B n d] ∧ Row wr (w.heap.size + 1) 29 #[.bool false, .slice none 0 0, .int .i64 0] ∧
      DV wr (.agg #[.bool t, .slice B n d]) z ∧ Hid (Left m z N k) ∧ Below w.heap.size w wr) (fun v6 _ => 64 * k - (intOf v6).toNat)
    case atStart => exact ⟨m, 0, t, B, n, d, rfl, ra, rc, h, HL, hw⟩
    case round =>
      clear ra rc h HL hw
      obtain ⟨z, N, t1, B1, n1, d1, rfl, ra, rc, h, HL, hw⟩ := hrel
      obtain ⟨t', b, o, n', d', zs, hv, hn, hnd, hnk, hr, hdg, hzd, hcell⟩ := h.opened HL.out.ne HL.out.sz
      simp only [Value.agg.injEq, Array.mk.injEq, List.cons.injEq, Value.bool.injEq, Value.slice.injEq, and_true] at hv
      obtain ⟨rfl, rfl, rfl, rfl⟩ := hv
      have ha := box_facts ra
      by_cases hz : zs[0]?.getD 0 = 0
      · have hz' := zd_drop hzd hz
        have hn2 : 2 ≤ n1 := by
          apply Classical.byContradiction
          intro hlt
          apply HL.out.ne
          rw [← hz', List.drop_eq_nil_of_le (by rw [hr.len]; omega)]
          simp [zd, vl]
        have hi1 : (1 : Int) ≤ (n1 : Int) := by omega
        have hi2 : 1 < d1 := by omega
        have hi3 : ¬ d1 = 1 := by omega
        have hi4 : ¬ d1 - 1 = 0 := by omega
        have hnx := Lib.hid (HL.out.step (j := 16) hz' HZ.out)
        have hbd := HL.out.bd
        rw [hz] at hcell
        have hdr := hr.drop 1
        have hdd := Lib.hid (hdg.drop 1)
        generalize hz2 : zd t1 (zs.drop 1) = z2 at *
        have HZ2 := Lib.hid hz2
        clear hz2
        clear hz hzd hz' hdg hr
        go_wp2_with fail
        have rad := ra.drew
        have had := box_facts rad
        go_region_with (go_at_call 48; refine (newD t1 hdr.drew (by omega) (by omega) hdd.out).mono ?_; rintro ev w2 ⟨u, rfl, hu, b2⟩; obtain ⟨t2, B2, n2, d2, rfl⟩ := hu.shape; have ra2 := rad.belowR b2; have rc2 := rc.drew.belowR b2; have ha2 := box_facts ra2; have hw2 := (hw.trans ((dr_ wr).mono hw.size)).trans (b2.mono (Nat.le_trans hw.size (Nat.le_refl _))))
        all_goals
          rw [HZ2.out] at hu
          have hu2 := hu.sets ra2 (.bool t2) (.slice B2 n2 d2)
          have ra3 := box_set ra2 (.bool t2) (.slice B2 n2 d2)
          have rc3 := rc2.sets (.bool t2) (.slice B2 n2 d2) (g' := w.heap.size) (by omega)
          have hw3 := Below.sets hw2 (g := w.heap.size) (Nat.le_refl _) (.bool t2) (.slice B2 n2 d2)
          clear hu ra2 rc2 hw2 ha2 had rad ra rc h b2 ha
          go_wp2_with fail
          go_roundw
          case rel => exact ⟨z2, N + 16, t2, B2, n2, d2, by go_num, ra3, rc3, hu2, hnx, hw3⟩
          case measure => simp [intOf]; omega
      · have hz0 : (zs[0]?.getD 0 == 0) = false := by simpa using hz
        have hb0 := hdg 0
        clear hz
        go_wp2_with fail
        clear ha hr hdg hzd hz0 hb0 hcell
        go_loopw [6] (fun v6 wr => ∃ (z : Int) (N : Nat) (t : Bool) (B : Option Addr) (n d : Nat), v6 = .int .i64 N ∧ Row wr w.heap.size 37 #[.bool t, .slice B n d] ∧ Row wr (w.heap.size + 1) 29 #[.bool false, .slice none 0 0, .int .i64 0] ∧
          DV wr (.agg #[.bool t, .slice B n d]) z ∧ Hid (Left m z N k) ∧ Below w.heap.size w wr) (fun v6 _ => 64 * k - (intOf v6).toNat)
        case atStart => exact ⟨z, N, t1, _, n1, d1, rfl, ra, rc, h, HL, hw⟩
        case round =>
          clear ra rc h HL hw hn hnd hnk
          obtain ⟨z, N, t1, B1, n1, d1, rfl, ra, rc, h, HL, hw⟩ := hrel
          obtain ⟨t', b, o, n', d', zs, hv, hn, hnd, hnk, hr, hdg, hzd, hcell⟩ := h.opened HL.out.ne HL.out.sz
          simp only [Value.agg.injEq, Array.mk.injEq, List.cons.injEq, Value.bool.injEq, Value.slice.injEq, and_true] at hv
          obtain ⟨rfl, rfl, rfl, rfl⟩ := hv
          have ha := box_facts ra
          have hb0 := hdg 0
          by_cases hz : zs[0]?.getD 0 % 2 = 0
          · have hnx : ∀ us, Can 65536 us (vl 65536 zs / 2) → Left m (zd t1 us) (N + 1) k := fun us ku => HL.out.step (j := 1) (by rw [Int.pow_one]; exact zd_half hzd hz ku.val) HZ.out
            have HN := Lib.hid hnx
            have hlus : ∀ us, Can 65536 us (vl 65536 zs / 2) → us.length ≤ n1 := fun us ku => by
              refine ku.len_le n1 ?_
              have h1 := vl_bd hdg
              rw [hr.len] at h1
              omega
            have HLU := Lib.hid hlus
            have HD := Lib.hid hdg
            have hbd := HL.out.bd
            have rad := ra.drew
            have had := box_facts rad
            clear hnx hlus hzd hdg
            go_wp2_with fail
            go_region_with (first | (go_at_call 50; refine (rshr1_any _ n1 zs d1 _ hr.drew hnd (by omega) hn HD.out).mono ?_; rintro ev w2 ⟨us, B2, c2, rfl, hcc, hru, ku, b2⟩; have hlu := HLU.out us ku; have hnx := Lib.hid (HN.out us ku); have hdu := Lib.hid ku.dg; have ra2 := rad.belowR b2; have rc2 := rc.drew.belowR b2; have ha2 := box_facts ra2; have hw2 := (hw.trans ((dr_ wr).mono hw.size)).trans (b2.mono (Nat.le_trans hw.size (Nat.le_refl _))); clear ku b2) | (go_at_call 48; refine (newD t1 hru hcc (by omega) hdu.out).mono ?_; rintro ev w3 ⟨u, rfl, hu, b3⟩; obtain ⟨t2, B3, n2, d2, rfl⟩ := hu.shape; have ra3 := ra2.belowR b3; have rc3 := rc2.belowR b3; have ha3 := box_facts ra3; have hw3 := hw2.trans (b3.mono hw2.size)))
            all_goals
              have hu2 := hu.sets ra3 (.bool t2) (.slice B3 n2 d2)
              have ra4 := box_set ra3 (.bool t2) (.slice B3 n2 d2)
              have rc4 := rc3.sets (.bool t2) (.slice B3 n2 d2) (g' := w.heap.size) (by omega)
              have hw4 := Below.sets hw3 (g := w.heap.size) (Nat.le_refl _) (.bool t2) (.slice B3 n2 d2)
              clear hu ra2 rc2 hw2 ha2 had rad ra rc h ha ra3 rc3 hw3 ha3 b3 hru hcc hdu hr
              go_wp2_with fail
              go_roundw
              case rel => exact ⟨_, N + 1, t2, B3, n2, d2, by go_num, ra4, rc4, hu2, hnx, hw4⟩
              case measure => simp [intOf]; omega
          · have hodd := zd_odd hzd hz
            have HT := Lib.hid (Twos.mk HL.out.eq.symm hodd)
            have HSZ := Lib.hid HL.out.sz
            have hmk := mk_of (e := e) HT.out
            have HMK := Lib.hid hmk
            have hbd := HL.out.bd
            have hz1 : (zs[0]?.getD 0 % 2 == 0) = false := by simpa using hz
            clear hz hmk HL hzd hdg
            go_wp2_with fail
            refine (toV h HSZ.out hk).mono ?_
            rintro ev w2 ⟨u, rfl, hu, b2⟩
            obtain ⟨t2, B2, n2, d2, rfl⟩ := hu.shape
            have hd2 := (DyV.of (e := e + (N : Int)) hu).below (al_ w2 (.cells #[.bool t2, .slice B2 n2 d2, .int .i64 (e + (N : Int))] 29))
            have hw2 := (hw.trans (b2.mono hw.size)).trans ((al_ w2 (.cells #[.bool t2, .slice B2 n2 d2, .int .i64 (e + (N : Int))] 29)).mono (Nat.le_trans hw.size b2.size))
            have rc2 := (rc.belowR b2).allocR (.cells #[.bool t2, .slice B2 n2 d2, .int .i64 (e + (N : Int))] 29)
            have rd2 : Row (w2.alloc (.cells #[.bool t2, .slice B2 n2 d2, .int .i64 (e + (N : Int))] 29)) w2.heap.size 29 #[.bool t2, .slice B2 n2 d2, .int .i64 (e + (N : Int))] := Row.newE rfl
            clear h ha ra rc hr hu
            go_wp2_with fail
            generalize w2.alloc (.cells #[.bool t2, .slice B2 n2 d2, .int .i64 (e + (N : Int))] 29) = w3 at *
            refine (rmayV (hd2.idy HSZ.out) hk).mono ?_
            rintro ev w4 ⟨rfl, b4⟩
            have hd4 := hd2.below b4
            have hw4 := hw2.trans (b4.mono hw2.size)
            have rc4 := rc2.belowR b4
            have rd4 := rd2.belowR b4
            have hc4 := box3_facts rc4
            have hd5 := box3_facts rd4
            clear hd2 hw2 rc2 rd2 b4 b2
            by_cases hmay : May z (e + (N : Int))
            · have hd : decide (May z (e + (N : Int))) = true := decide_eq_true hmay
              have HM := Lib.hid (HMK.out.trans (if_pos hmay))
              clear hmay HMK
              go_wp2_with fail
              exact bodyPost_ret (v := .tuple #[.agg #[.bool t2, .slice B2 n2 d2, .int .i64 (e + (N : Int))], .bool true]) (by simp [results, Tryd.results15, go_sem, hc4]) rfl
                ⟨_, rfl, by rw [HM.out]; exact ⟨_, rfl, hd4.set3 rc4 _ _ _ _ _⟩, Below.sets3 hw4 (by omega) _ _ _⟩
            · have hd : decide (May z (e + (N : Int))) = false := decide_eq_false hmay
              have HM := Lib.hid (HMK.out.trans (if_neg hmay))
              clear hmay HMK
              go_wp2_with fail
              exact bodyPost_ret (v := .tuple #[.agg #[.bool false, .slice none 0 0, .int .i64 0], .bool false]) (by simp [results, Tryd.results15, go_sem, hc4]) rfl
                ⟨_, rfl, by rw [HM.out]; exact rfl, Below.sets3 hw4 (by omega) _ _ _⟩
end Go.Proofs.YtlgecdkidgjgiaaDoor
