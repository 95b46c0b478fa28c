/- The walks of the reference's whole numbers: into an Int, signs, the same, numbers of 64 bits. -/
import Derived.Test.YtlgecdkidgjgiaaDoorRfA
namespace Go.Proofs.YtlgecdkidgjgiaaDoor
open Go.RowKit

set_option maxHeartbeats 1600000 in
theorem rto_any (s : Bool) (A : Option Addr) (n : Nat) (xs : List Int) (c : Nat) (z : Int) (w : World) (hr : RdS w .u32 A n xs) (hc : n ≤ c) (hsm : n ≤ 1048576) (hx : CanD s xs z) :
    Calls Tryd.prog 25 #[.agg #[.bool s, .slice A n c]] w fun e w' => ∃ (zs : List Int) (B : Option Addr) (d : Nat),
      e = .returned (.agg #[.bool s, .slice B zs.length d]) ∧ zs.length ≤ d ∧ RdS w' .u64 B zs.length zs ∧ CanI s zs z ∧ Below w.heap.size w w' := by
  have hdx := hx.can.dg
  have HX := Lib.hid hx
  clear hx
  go_enter Tryd.func25, Tryd.ntmps25
  go_wp2_with fail
  obtain ⟨ra, rb, hw⟩ := new2 w 37 27 #[.bool s, .slice A n c] #[.bool false, .slice none 0 0]
  generalize (w.alloc (.cells #[.bool s, .slice A n c] 37)).alloc (.cells #[.bool false, .slice none 0 0] 27) = W at *
  have hle : w.heap.size ≤ W.drew.heap.size := hw.size
  have q1 := (hr.below hw).drew
  obtain ⟨fa0, fa1, fa2, fa3⟩ := box_facts ra
  clear hr
  have HW := Lib.hid hw
  clear hw
  go_region_held3 (fun wx => wx.cell? ⟨w.heap.size, 0, none⟩ = some (.bool s) ∧ wx.cell? ⟨w.heap.size, 1, none⟩ = some (.slice A n c)) (first | exact ⟨ha1.1, ha1.2.1⟩ | exact ⟨fa0, fa1⟩ | exact ⟨set2 ha1.1 (by simp), set2 ha1.2.1 (by simp)⟩) (first | (go_at_call 61; refine (limbs_any A n xs c _ q1 hc hsm hdx).mono ?_; rintro e w1 ⟨zs, B, d, rfl, hd, rz, kz, b1⟩; have ra1 := ra.drew.below b1 ra.drew.lt; have ha1 := box_facts ra1; have rb1 := rb.drew.below b1 rb.drew.lt; have hb1 := box_facts rb1; have KZ := Lib.hid kz; clear kz))
  all_goals
    go_wp2_with fail
    have kz := KZ.out
    rw [HX.out.can.val] at kz
    have rz2 := rz.set2 rb1 (.bool s) (.slice B zs.length d)
    have hbw := (((HW.out.drew).trans (b1.mono hle)).setCell (p := ⟨w.heap.size + 1, 0, none⟩) (by simp) (.bool s)).setCell (p := ⟨w.heap.size + 1, 1, none⟩) (by simp) (.slice B zs.length d)
    exact bodyPost_ret (v := .agg #[.bool s, .slice B zs.length d]) (by simp [results, Tryd.results25, go_sem, hb1]) rfl ⟨zs, B, d, rfl, hd, rz2, ⟨kz, HX.out.sgn⟩, hbw⟩

set_option maxHeartbeats 800000 in
theorem rsign_any (s : Bool) (A : Option Addr) (n : Nat) (xs : List Int) (c : Nat) (z : Int) (w : World) (hr : RdS w .u32 A n xs) (hsm : n ≤ 1048576) (hx : CanD s xs z) :
    Calls Tryd.prog 49 #[.agg #[.bool s, .slice A n c]] w fun e w' => e = .returned (.int .i64 (sgz z)) ∧ Below w.heap.size w w' := by
  have h0 := hx.can.zero_iff
  have hl := hr.len
  have hs := hx.sgn
  have hb : Below w.heap.size w (w.alloc (.cells #[.bool s, .slice A n c] 37)) := (Below.refl _ _).alloc (Nat.le_refl _) _
  by_cases hz : z = 0
  · have E := Lib.hid (show 0 = sgz z by subst hz; rfl)
    have hn : n = 0 := by rw [← hl, h0.1 (by omega)]; rfl
    subst hn
    clear h0 hl hs hz hb
    go_enter Tryd.func49, Tryd.ntmps49
    go_wp2_with fail
    go_ret
    exact ⟨ret_i64 E.out, (Below.refl _ _).alloc (Nat.le_refl _) _⟩
  · have hn : 0 < n := by
      rw [← hl]
      apply Nat.pos_of_ne_zero
      intro e
      have := h0.2 (List.length_eq_zero_iff.1 e)
      omega
    have hnb : ((n : Int) == 0) = false := by simp; omega
    by_cases hlt : z < 0
    · have E := Lib.hid (show -1 = sgz z by unfold sgz; rw [if_pos hlt])
      have hs2 : s = true := by rw [hs]; exact decide_eq_true hlt
      subst hs2
      clear h0 hl hs hz hb hlt
      go_enter Tryd.func49, Tryd.ntmps49
      go_wp2_with fail
      go_ret
      exact ⟨ret_i64 E.out, (Below.refl _ _).alloc (Nat.le_refl _) _⟩
    · have E := Lib.hid (show 1 = sgz z by unfold sgz; rw [if_neg hlt, if_pos (by omega)])
      have hs2 : s = false := by rw [hs]; exact decide_eq_false hlt
      subst hs2
      clear h0 hl hs hz hb hlt
      go_enter Tryd.func49, Tryd.ntmps49
      go_wp2_with fail
      go_ret
      exact ⟨ret_i64 E.out, (Below.refl _ _).alloc (Nat.le_refl _) _⟩

set_option maxHeartbeats 800000 in
theorem rneg_any (s : Bool) (A : Option Addr) (n : Nat) (xs : List Int) (c : Nat) (z : Int) (w : World) (hr : RdS w .u32 A n xs) (hc : n ≤ c) (hsm : n ≤ 1048576) (hx : CanD s xs z) :
    Calls Tryd.prog 45 #[.agg #[.bool s, .slice A n c]] w fun e w' => ∃ t, e = .returned (.agg #[.bool t, .slice A n c]) ∧ CanD t xs (-z) ∧ Below w.heap.size w w' := by
  have hpl : pl xs = xs := pl_of_can hx.can
  have hl := hr.len
  have hk : CanD (decide (zd (!s) xs < 0)) xs (-z) := by
    have h := zd_plain (s := !s) hx.can.dg
    have e : zd (!s) xs = -z := by rw [← hx.zd]; unfold zd; cases s <;> simp
    rw [hpl, e] at h
    rw [e]; exact h
  have hdx := hx.can.dg
  have p1 := rnew_any (!s) A n xs c ((w.alloc (.cells #[.bool s, .slice A n c] 37)).alloc (.cells #[.bool false, .slice none 0 0] 37)) ((hr.alloc _).alloc _) hc (by omega) hdx
  rw [hpl, hl] at p1
  obtain ⟨t, ht⟩ : ∃ t, t = decide (zd (!s) xs < 0) := ⟨_, rfl⟩
  rw [← ht] at hk p1
  have HK := Lib.hid hk
  clear hk ht hx hpl hl
  obtain ⟨ra, rb, hw⟩ := new2 w 37 37 #[.bool s, .slice A n c] #[.bool false, .slice none 0 0]
  go_enter Tryd.func45, Tryd.ntmps45
  go_wp2_with fail
  refine p1.mono ?_
  rintro e w1 ⟨rfl, b1⟩
  have rb1 := rb.below b1 rb.lt
  have hb1 := box_facts rb1
  go_wp2_with fail
  exact bodyPost_ret (v := .agg #[.bool t, .slice A n c]) (by simp [results, Tryd.results45, go_sem, hb1]) rfl ⟨t, rfl, HK.out, ((hw.trans (b1.mono hw.size)).setCell (by simp) _).setCell (by simp) _⟩

set_option maxHeartbeats 800000 in
/-- Ints that are the same -/
theorem rsameI_any (s : Bool) (A A' : Option Addr) (n : Nat) (xs : List Int) (c c' : Nat) (w : World) (hr : RdS w .u64 A n xs) (hr' : RdS w .u64 A' n xs) (hsm : n ≤ 1048576) :
    Calls Tryd.prog 24 #[.agg #[.bool s, .slice A n c], .agg #[.bool s, .slice A' n c']] w fun e w' => e = .returned (.bool true) ∧ Below w.heap.size w w' := by
  have hsb : (s == s) = true := by simp
  obtain ⟨ra, rb, hw⟩ := new2 w 27 27 #[.bool s, .slice A n c] #[.bool s, .slice A' n c']
  have q1 := hr.below hw
  have q2 := hr'.below hw
  go_enter Tryd.func24, Tryd.ntmps24
  go_wp2_with fail
  refine (rsame_any A A' n xs c c' _ q1 q2 (by omega)).mono ?_
  rintro e w1 ⟨rfl, m, hm⟩
  have b1 : Below w.heap.size w w1 := by rw [hm]; exact hw.trans (below_drewN _ _ _)
  clear hm
  go_wp2_with fail
  go_ret
  exact ⟨rfl, b1⟩
end Go.Proofs.YtlgecdkidgjgiaaDoor
