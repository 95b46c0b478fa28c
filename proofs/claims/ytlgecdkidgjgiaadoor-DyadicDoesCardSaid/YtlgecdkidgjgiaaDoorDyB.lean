/- The walk of dyadic.made: a whole number times a power of two, plain, or refused. -/
import Derived.Test.YtlgecdkidgjgiaaDoorDyA
namespace Go.Proofs.YtlgecdkidgjgiaaDoor
open Go.RowKit

/-- A value that holds the dyadic number m times 2^e, m in its one form. -/
def DyV (w : World) (v : Value) (m e : Int) : Prop :=
  ∃ (t : Bool) (zs : List Int) (B : Option Addr) (d : Nat), v = .agg #[.bool t, .slice B zs.length d, .int .i64 e] ∧ zs.length ≤ d ∧ RdS w .u64 B zs.length zs ∧ CanI t zs m
theorem DyV.below {w w' : World} {v : Value} {m e : Int} (h : DyV w v m e) (hb : Below w.heap.size w w') : DyV w' v m e := by
  obtain ⟨t, zs, B, d, h1, h2, h3, h4⟩ := h
  exact ⟨t, zs, B, d, h1, h2, h3.below hb, h4⟩
theorem DyV.shape {w : World} {v : Value} {m e : Int} (h : DyV w v m e) : ∃ (t : Bool) (B : Option Addr) (n d : Nat), v = .agg #[.bool t, .slice B n d, .int .i64 e] := by
  obtain ⟨t, zs, B, d, h1, _⟩ := h
  exact ⟨t, B, _, d, h1⟩
theorem canI_zero : CanI false [] 0 := ⟨Can.nil (by decide), by decide⟩
theorem DyV.zero (w : World) : DyV w (.agg #[.bool false, .slice none 0 0, .int .i64 0]) 0 0 := ⟨false, [], none, 0, rfl, Nat.le_refl _, ⟨rfl, fun h => absurd h (by simp)⟩, canI_zero⟩
/-- What a function answers that has a number or refuses it: the number and the error. -/
def Res (w : World) (v : Value) : Option (Int × Int) → Prop
  | some (m, e) => ∃ d, v = .tuple #[d, .nilIface] ∧ DyV w d m e
  | none => v = .tuple #[.agg #[.bool false, .slice none 0 0, .int .i64 0], .iface 74 (.int .i64 7)]
theorem Res.below {w w' : World} {v : Value} {r : Option (Int × Int)} (h : Res w v r) (hb : Below w.heap.size w w') : Res w' v r := by
  cases r with
  | none => exact h
  | some p => obtain ⟨d, h1, h2⟩ := h; exact ⟨d, h1, h2.below hb⟩

theorem sgz_ne {z : Int} (h : z ≠ 0) : (sgz z == 0) = false := by
  unfold sgz
  by_cases h1 : z < 0
  · rw [if_pos h1]; rfl
  · rw [if_neg h1, if_pos (by omega)]; rfl
theorem tz_lt {z : Int} {k : Nat} (h : Sz z k) (h0 : z ≠ 0) : tz z.natAbs < 64 * k := by
  apply Nat.lt_of_not_le
  intro hle
  have t := (tz_twos h0).natAbs
  have o1 := (tz_twos h0).odd
  generalize z / 2 ^ tz z.natAbs = o at *
  generalize tz z.natAbs = n at *
  have p1 : 2 ^ (64 * k) ≤ 2 ^ n := Nat.pow_le_pow_right (by decide) hle
  have p2 : 1 * 2 ^ n ≤ o.natAbs * 2 ^ n := Nat.mul_le_mul_right _ (by omega)
  unfold Sz at h
  have e : B64 ^ k = ((2 ^ (64 * k) : Nat) : Int) := by push_cast; rw [Int.pow_mul]; rfl
  rw [e] at h
  omega
theorem shr_can {z : Int} (h0 : z ≠ 0) {zs : List Int} (h : Can B64 zs ((z.natAbs : Int) / 2 ^ tz z.natAbs)) : CanI (decide (z < 0)) zs (z / 2 ^ tz z.natAbs) := by
  have t := tz_twos h0
  have ta := t.natAbs
  generalize z / 2 ^ tz z.natAbs = o at *
  generalize tz z.natAbs = n at *
  have p := two_pos n
  have e : (z.natAbs : Int) / 2 ^ n = (o.natAbs : Int) := by
    rw [← ta]; push_cast
    exact Int.mul_ediv_cancel _ (Int.ne_of_gt p)
  rw [e] at h
  refine ⟨h, ?_⟩
  have ez := t.eq
  congr 1
  rw [eq_iff_iff]
  constructor
  · intro hz
    apply Int.lt_of_not_ge
    intro ho
    have := Int.mul_nonneg ho (Int.le_of_lt p)
    omega
  · intro ho
    have := Int.mul_neg_of_neg_of_pos ho p
    omega

theorem box2_cells {w : World} {g : Nat} {e : TypeId} {v0 v1 : Value} (h : Row w g e #[v0, v1]) : w.cell? ⟨g, 0, none⟩ = some v0 ∧ w.cell? ⟨g, 1, none⟩ = some v1 := ⟨(box_facts h).1, (box_facts h).2.1⟩
theorem Row.sets3 {w : World} {g g' : Nat} {e : TypeId} {arr : Array Value} (h : Row w g e arr) (u0 u1 u2 : Value) (hne : g ≠ g') : Row (((w.setCell ⟨g', 0, none⟩ u0).setCell ⟨g', 1, none⟩ u1).setCell ⟨g', 2, none⟩ u2) g e arr :=
  ((h.other _ u0 hne).other _ u1 hne).other _ u2 hne
theorem Below.sets3 {B g : Nat} {w U : World} (h : Below B w U) (hg : B ≤ g) (u0 u1 u2 : Value) : Below B w (((U.setCell ⟨g, 0, none⟩ u0).setCell ⟨g, 1, none⟩ u1).setCell ⟨g, 2, none⟩ u2) :=
  ((h.setCell (p := ⟨g, 0, none⟩) hg u0).setCell (p := ⟨g, 1, none⟩) hg u1).setCell (p := ⟨g, 2, none⟩) hg u2

set_option maxHeartbeats 1600000 in
theorem made_any (s : Bool) (A : Option Addr) (n : Nat) (xs : List Int) (c : Nat) (e : Int) (w : World) (hr : RdS w .u64 A n xs) (hc : n ≤ c) (hsm : n ≤ 1048576) (hx : Dg B64 xs)
    (he0 : -1152921504606846976 ≤ e) (he1 : e ≤ 1152921504606846976) (ht : TabOk w) :
    Calls Tryd.prog 41 #[.agg #[.bool s, .slice A n c], .int .i64 e] w fun ev w' => ∃ v, ev = .returned v ∧ Res w' v (mk (zi s xs) e) ∧ Below w.heap.size w w' := by
  have hl := pl_le xs
  rw [hr.len] at hl
  have kz := zi_plain (s := s) hx
  have hsz : Sz (zi s xs) n := by rw [← hr.len]; exact Sz.of_zi hx
  by_cases h0 : zi s xs = 0
  · rw [h0, mk_zero]
    have KZ := Lib.hid kz
    have hpl0 : (pl xs).length = 0 := by
      have := kz.can.zero_iff.1 (by rw [h0]; rfl)
      rw [this]; rfl
    have hrp := hr.plain
    have HX := Lib.hid hx
    have hus : pl xs = [] := List.length_eq_zero_iff.1 hpl0
    have HP := Lib.hid hus
    clear kz hsz hl hpl0 hus hrp
    go_enter Tryd.func41, Tryd.ntmps41
    go_wp2_with fail
    obtain ⟨ra, rc, hw⟩ := new2 w 27 29 #[.bool s, .slice A n c] #[.bool false, .slice none 0 0, .int .i64 0]
    generalize ((w.alloc (.cells #[.bool s, .slice A n c] 27)).alloc (.cells #[.bool false, .slice none 0 0, .int .i64 0] 29)) = W at *
    have ha := box_facts ra
    refine (wplain_any s A n xs c _ (hr.below hw) hc (by omega) HX.out).mono ?_
    rintro ev w1 ⟨rfl, b1⟩
    rw [h0, HP.out]
    have ra1 := ra.belowR b1
    have rc1 := rc.belowR b1
    have ha1 := box_facts ra1
    go_wp2_with fail
    have ra2 := box_set ra1 (.bool false) (.slice A 0 0)
    have rc2 := rc1.sets (.bool false) (.slice A 0 0) (g' := w.heap.size) (by omega)
    have b2 := ((hw.trans (b1.mono hw.size)).setCell (p := ⟨w.heap.size, 0, none⟩) (Nat.le_refl _) (.bool false)).setCell (p := ⟨w.heap.size, 1, none⟩) (Nat.le_refl _) (.slice A 0 0)
    generalize (w1.setCell ⟨w.heap.size, 0, none⟩ (.bool false)).setCell ⟨w.heap.size, 1, none⟩ (.slice A 0 0) = w2 at *
    refine (wsign_any false A 0 [] 0 _ ⟨rfl, fun h => absurd h (by omega)⟩ (Nat.le_refl _) (by omega) (Dg.nil (by decide))).mono ?_
    rintro ev w3 ⟨rfl, b3⟩
    rw [show sgz (zi false []) = 0 by decide]
    have rc3 := rc2.belowR b3
    have hc3 := box3_facts rc3
    have b23 := b2.trans (b3.mono b2.size)
    go_wp2_with fail
    exact bodyPost_ret (v := .tuple #[.agg #[.bool false, .slice none 0 0, .int .i64 0], .nilIface]) (by simp [results, Tryd.results41, go_sem, hc3]) rfl
          ⟨_, rfl, ⟨_, rfl, DyV.zero _⟩, Below.sets3 b23 (by omega) _ _ _⟩
  · have KZ := Lib.hid kz
    have htz := tz_lt hsz h0
    have HS := Lib.hid hsz
    have hsg := sgz_ne h0
    have hrp := hr.plain
    have HX := Lib.hid hx
    clear kz hsz
    generalize hz : zi s xs = z at *
    generalize hus : pl xs = us at *
    have HZ := Lib.hid hz
    have HU := Lib.hid hus
    clear hz hus
    go_enter Tryd.func41, Tryd.ntmps41
    go_wp2_with fail
    obtain ⟨ra, rc, hw⟩ := new2 w 27 29 #[.bool s, .slice A n c] #[.bool false, .slice none 0 0, .int .i64 0]
    generalize ((w.alloc (.cells #[.bool s, .slice A n c] 27)).alloc (.cells #[.bool false, .slice none 0 0, .int .i64 0] 29)) = W at *
    have ha := box_facts ra
    refine (wplain_any s A n xs c _ (hr.below hw) hc (by omega) HX.out).mono ?_
    rintro ev w1 ⟨rfl, b1⟩
    rw [HZ.out, HU.out]
    have ra1 := ra.belowR b1
    have rc1 := rc.belowR b1
    have ha1 := box_facts ra1
    go_wp2_with fail
    have ra2 := box_set ra1 (.bool (decide (z < 0))) (.slice A us.length us.length)
    have rc2 := rc1.sets (.bool (decide (z < 0))) (.slice A us.length us.length) (g' := w.heap.size) (by omega)
    have b2 := ((hw.trans (b1.mono hw.size)).setCell (p := ⟨w.heap.size, 0, none⟩) (Nat.le_refl _) (.bool (decide (z < 0)))).setCell (p := ⟨w.heap.size, 1, none⟩) (Nat.le_refl _) (.slice A us.length us.length)
    generalize (w1.setCell ⟨w.heap.size, 0, none⟩ (.bool (decide (z < 0)))).setCell ⟨w.heap.size, 1, none⟩ (.slice A us.length us.length) = w2 at *
    clear ra1 rc1 ha1 ra rc ha hw b1 W w1
    have hus := KZ.out.can.dg
    refine (wsign_any _ A us.length us us.length _ (hrp.below b2) (Nat.le_refl _) (by omega) hus).mono ?_
    rintro ev w3 ⟨rfl, b3⟩
    rw [KZ.out.zi]
    have hUS := Lib.hid hus
    clear hus
    replace ra := ra2.belowR b3
    replace rc := rc2.belowR b3
    replace b2 := b2.trans (b3.mono b2.size)
    clear ra2 rc2 b3
    have ha := box_facts ra
    go_wp2_with fail
    refine (twos_any A us.length us us.length _ (hrp.below b2) (by omega) hUS.out ?_ (ht.below b2)).mono ?_
    · rw [KZ.out.can.val]; omega
    rintro ev w4 ⟨rfl, rfl⟩
    rw [KZ.out.can.val]
    generalize hN : tz ((z.natAbs : Int)).natAbs = N at *
    rw [Int.natAbs_natCast] at hN
    rw [hN] at htz
    have HN := Lib.hid hN
    clear hN
    have hwr : IntKind.i64.wrap (e + (N : Int)) = e + (N : Int) := wrap_i64_in (by omega) (by omega)
    have hg1 : w.heap.size + 1 < w3.heap.size := rc.lt
    go_upto_region 5 with fail
    go_cut [7] (fun v7 wx => ∃ (g : Nat) (zs : List Int) (B : Option Addr), v7 = .pointer (some ⟨g, 0, none⟩) ∧ Row wx g 29 #[.bool (decide (z < 0)), .slice B zs.length zs.length, .int .i64 (e + (N : Int))] ∧
      Row wx (w.heap.size + 1) 29 #[.bool false, .slice none 0 0, .int .i64 0] ∧ RdS wx .u64 B zs.length zs ∧ Can B64 zs (vl B64 us / 2 ^ N) ∧ Below w.heap.size w wx ∧ w.heap.size + 1 < g)
    case first =>
      have rad := ra.drew
      have rcd := rc.drew
      have bd := b2.trans ((dr_ w3).mono b2.size)
      have hcd := box2_cells rad
      clear ha
      go_region_held3 (fun wx => wx.cell? ⟨w.heap.size, 0, none⟩ = some (.bool (decide (z < 0))) ∧ wx.cell? ⟨w.heap.size, 1, none⟩ = some (.slice A us.length us.length)) (first | with_reducible exact hcd | (with_reducible refine box2_cells (e := 27) ?_; repeat (first | with_reducible exact rad | with_reducible exact ra5 | with_reducible exact ra | with_reducible refine Row.drew ?_ | with_reducible refine Row.allocR ?_ _ | with_reducible refine Row.sets3 ?_ _ _ _ (by simp; omega)))) (first | (go_at_call 71; refine (shr_any A us.length us us.length N _ (by first | exact hrp.below bd | exact ((hrp.below b2).alloc _).drew) (Nat.le_refl _) (by omega) (by omega) hUS.out).mono ?_; rintro ev w5 ⟨zs, B, rfl, rz, kz, b5⟩; (first | (have gN : Row w5 w3.heap.size 29 #[.bool false, .slice none 0 0, .int .i64 0] := Row.belowR (Row.drew (Row.newE rfl)) b5; have hgN := box3_facts gN) | skip); (first | (have ra5 := rad.belowR b5) | (have ra5 := ((ra.allocR _).drew).belowR b5)); (first | (have rc5 := rcd.belowR b5) | (have rc5 := ((rc.allocR _).drew).belowR b5)); (first | (have bd5 := bd.trans (b5.mono bd.size)) | (have bd5 := ((b2.trans ((al_ _ _).mono b2.size)).trans ((dr_ _).mono (Nat.le_trans b2.size (by simp)))).trans (b5.mono (Nat.le_trans b2.size (by simp)))))))
      all_goals
        go_wp2_with fail
        go_meet
        refine ⟨_, zs, B, rfl, ?_, ?_, ?_, kz, ?_, ?_⟩
        · first | with_reducible exact Row.newE rfl | with_reducible exact box3_set gN _ _ _
        · first | with_reducible exact rc5.allocR _ | with_reducible exact rc5.sets3 _ _ _ (by omega)
        · first | with_reducible exact rz.alloc _ | with_reducible exact rz.set3 gN _ _ _ _ _
        · first | with_reducible exact bd5.trans ((al_ _ _).mono bd5.size) | with_reducible exact Below.sets3 bd5 (by omega) _ _ _
        · first | exact rc5.lt | exact hg1
    case rest =>
      obtain ⟨g, zs, B, rfl, rg, rc4, rz, kz, b4, hlt⟩ := hcut
      have kv := KZ.out.can.val
      rw [kv, ← HN.out] at kz
      have ko := shr_can h0 kz
      have hso := (tz_twos h0).sz HS.out
      have hzl := ko.len hso
      have hmk := mk_of (e := e) (tz_twos h0)
      rw [HN.out] at ko hso hmk
      generalize z / 2 ^ N = o at *
      have hg := box3_facts rg
      have KO := Lib.hid ko
      have hdg := Lib.hid ko.can.dg
      have HMK := Lib.hid hmk
      clear kv kz ko hso hmk ha ra rc
      go_wp2_with fail
      refine (may_any (decide (z < 0)) B zs.length zs zs.length (e + (N : Int)) _ rz (Nat.le_refl _) (by omega) hdg.out).mono ?_
      rintro ev w7 ⟨rfl, b7⟩
      rw [KO.out.zi]
      have rc7 := rc4.belowR b7
      have rg7 := rg.belowR b7
      have rz7 := rz.below b7
      have b47 := b4.trans (b7.mono b4.size)
      have hc7 := box3_facts rc7
      have hg7 := box3_facts rg7
      by_cases hmay : May o (e + (N : Int))
      · have hd : decide (May o (e + (N : Int))) = true := decide_eq_true hmay
        go_wp2_with fail
        exact bodyPost_ret (v := .tuple #[.agg #[.bool (decide (z < 0)), .slice B zs.length zs.length, .int .i64 (e + (N : Int))], .nilIface]) (by simp [results, Tryd.results41, go_sem, hc7]) rfl
          ⟨_, rfl, by rw [HMK.out, if_pos hmay]; exact ⟨_, rfl, _, _, _, _, rfl, Nat.le_refl _, rz7.set3 rc7 _ _ _ _ _, KO.out⟩, Below.sets3 b47 (by omega) _ _ _⟩
      · have hd : decide (May o (e + (N : Int))) = false := decide_eq_false hmay
        go_wp2_with fail
        exact bodyPost_ret (v := .tuple #[.agg #[.bool false, .slice none 0 0, .int .i64 0], .iface 74 (.int .i64 7)]) (by simp [results, Tryd.results41, go_sem, hc7]) rfl
          ⟨_, rfl, by rw [HMK.out, if_neg hmay]; exact rfl, Below.sets3 b47 (by omega) _ _ _⟩
end Go.Proofs.YtlgecdkidgjgiaaDoor
