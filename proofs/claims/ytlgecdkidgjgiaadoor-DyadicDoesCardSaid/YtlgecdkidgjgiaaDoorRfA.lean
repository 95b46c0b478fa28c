/- The walks of the reference's whole numbers: made, out of an Int and into one, signs. -/
import Derived.Test.YtlgecdkidgjgiaaDoorRefC
namespace Go.Proofs.YtlgecdkidgjgiaaDoor
open Go.RowKit

set_option maxHeartbeats 800000 in
theorem rnew_any (s : Bool) (A : Option Addr) (n : Nat) (xs : List Int) (c : Nat) (w : World) (hr : RdS w .u32 A n xs) (hc : n ≤ c) (hsm : n ≤ 16777216) (hx : Dg 65536 xs) :
    Calls Tryd.prog 48 #[.bool s, .slice A n c] w fun e w' => e = .returned (.agg #[.bool (decide (zd s xs < 0)), .slice A (pl xs).length c]) ∧ Below w.heap.size w w' := by
  have hd := (vl_bd hx).1
  have kz := (pl_can hx).zero_iff
  obtain ⟨p, hp⟩ : ∃ p, p = (pl xs).length := ⟨_, rfl⟩
  have hpz : p = 0 ↔ vl 65536 xs = 0 := by rw [kz, hp]; exact List.length_eq_zero_iff
  have hpc : p ≤ c := by rw [hp]; have := pl_le xs; rw [hr.len] at this; omega
  have p1 := rtrim_any A n xs c (w.alloc (.cells #[.bool false, .slice none 0 0] 37)) (hr.alloc _) hc hsm
  rw [← hp] at p1
  have HP := Lib.hid hp
  clear hp kz
  have hb1 : Below w.heap.size w (w.alloc (.cells #[.bool false, .slice none 0 0] 37)) := (Below.refl _ _).alloc (Nat.le_refl _) _
  cases s with
  | true =>
    by_cases h0 : p = 0
    · have HZ := Lib.hid (show false = decide (zd true xs < 0) by simp [zd, hpz.1 h0])
      have HP0 := Lib.hid (h0.symm.trans HP.out)
      subst h0
      clear hd hpz
      go_enter Tryd.func48, Tryd.ntmps48
      go_wp2_with fail
      refine p1.mono ?_
      rintro e w' ⟨rfl, rfl⟩
      go_wp2_with fail
      exact bodyPost_ret (v := .agg #[.bool false, .slice A 0 c]) (by simp [results, Tryd.results48, go_sem]) rfl ⟨ret_agg HZ.out HP0.out rfl, (Below.refl _ _).alloc (Nat.le_refl _) _⟩
    · have hne : vl 65536 xs ≠ 0 := fun e => h0 (hpz.2 e)
      have HZ := Lib.hid (show true = decide (zd true xs < 0) by have : -(vl 65536 xs) < 0 := by omega
                                                                 simp only [zd, if_true, this, decide_true])
      have hp0 : 0 < p := by omega
      clear hd hpz hne h0
      go_enter Tryd.func48, Tryd.ntmps48
      go_wp2_with fail
      refine p1.mono ?_
      rintro e w' ⟨rfl, rfl⟩
      go_wp2_with fail
      exact bodyPost_ret (v := .agg #[.bool true, .slice A p c]) (by simp [results, Tryd.results48, go_sem]) rfl ⟨ret_agg HZ.out HP.out rfl, (Below.refl _ _).alloc (Nat.le_refl _) _⟩
  | false =>
    have HZ := Lib.hid (show false = decide (zd false xs < 0) by have : ¬ vl 65536 xs < 0 := by omega
                                                                 simp only [zd, Bool.false_eq_true, if_false, this, decide_false])
    clear hd hpz
    go_enter Tryd.func48, Tryd.ntmps48
    go_wp2_with fail
    refine p1.mono ?_
    rintro e w' ⟨rfl, rfl⟩
    go_wp2_with fail
    exact bodyPost_ret (v := .agg #[.bool false, .slice A p c]) (by simp [results, Tryd.results48, go_sem]) rfl ⟨ret_agg HZ.out HP.out rfl, (Below.refl _ _).alloc (Nat.le_refl _) _⟩

set_option maxHeartbeats 1600000 in
theorem rfrom_any (s : Bool) (A : Option Addr) (n : Nat) (xs : List Int) (c : Nat) (w : World) (hr : RdS w .u64 A n xs) (hsm : n ≤ 1048576) (hx : Dg B64 xs) :
    Calls Tryd.prog 26 #[.agg #[.bool s, .slice A n c]] w fun e w' => ∃ (t : Bool) (zs : List Int) (B : Option Addr) (d : Nat),
      e = .returned (.agg #[.bool t, .slice B zs.length d]) ∧ zs.length ≤ d ∧ RdS w' .u32 B zs.length zs ∧ CanD t zs (zi s xs) ∧ Below w.heap.size w w' := by
  have hz : zi s xs = if s then -(vl B64 xs) else vl B64 xs := rfl
  have HZ := Lib.hid hz
  have hsz := Sz.vl hx
  rw [hr.len] at hsz
  have HS := Lib.hid (Sd.of_sz hsz (Nat.le_refl (4 * n)))
  clear hz hsz
  go_enter Tryd.func26, Tryd.ntmps26
  go_wp2_with fail
  obtain ⟨ra, rb, hw⟩ := new2 w 27 37 #[.bool s, .slice A n c] #[.bool false, .slice none 0 0]
  generalize (w.alloc (.cells #[.bool s, .slice A n c] 27)).alloc (.cells #[.bool false, .slice none 0 0] 37) = W at *
  have hle : w.heap.size ≤ W.drew.heap.size := hw.size
  have q1 := (hr.below hw).drew
  obtain ⟨fa0, fa1, fa2, fa3⟩ := box_facts ra
  clear hr
  have HW := Lib.hid hw
  clear hw
  go_region_held3 (fun wx => wx.cell? ⟨w.heap.size, 0, none⟩ = some (.bool s) ∧ wx.cell? ⟨w.heap.size, 1, none⟩ = some (.slice A n c)) (first | exact ⟨ha2.1, ha2.2.1⟩ | exact ⟨ha1.1, ha1.2.1⟩ | exact ⟨fa0, fa1⟩ | exact ⟨set2 ha2.1 (by simp), set2 ha2.2.1 (by simp)⟩) (first | (go_at_call 62; refine (digits_any A n xs c _ q1 hsm hx).mono ?_; rintro e w1 ⟨zs, B, d, rfl, hd, rz, kz, b1⟩; have ra1 := ra.drew.below b1 ra.drew.lt; have ha1 := box_facts ra1; have hl := kz.len_le (4 * n) (by have := HS.out; have := kz.nonneg; unfold Sd at *; omega); have KZ := Lib.hid kz; clear kz) | (go_at_call 48; refine (rnew_any s B zs.length zs d _ rz hd (by omega) KZ.out.dg).mono ?_; rintro e w2 ⟨rfl, b2⟩; have rb2 := (rb.drew.below b1 rb.drew.lt).below b2 (rb.drew.below b1 rb.drew.lt).lt; have hb2 := box_facts rb2; have ha2 := box_facts (ra1.below b2 ra1.lt)))
  all_goals
    go_wp2_with fail
    have hpz : pl zs = zs := pl_of_can KZ.out
    have kd := zd_of (s := s) KZ.out
    rw [← HZ.out] at kd
    have rz2 := (rz.below b2).set2 rb2 (.bool (decide (zd s zs < 0))) (.slice B (pl zs).length d)
    have hbw := ((((HW.out.drew).trans (b1.mono hle)).trans (b2.mono (Nat.le_trans hle b1.size))).setCell (p := ⟨w.heap.size + 1, 0, none⟩) (by simp) (.bool (decide (zd s zs < 0)))).setCell (p := ⟨w.heap.size + 1, 1, none⟩) (by simp) (.slice B (pl zs).length d)
    exact bodyPost_ret (v := .agg #[.bool (decide (zd s zs < 0)), .slice B (pl zs).length d]) (by simp [results, Tryd.results26, go_sem, hb2]) rfl ⟨_, zs, B, d, ret_agg rfl (by rw [hpz]) rfl, hd, rz2, kd, hbw⟩
end Go.Proofs.YtlgecdkidgjgiaaDoor
