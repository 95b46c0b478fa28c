/- The walks of whole's functions. -/
import Derived.Test.YtlgecdkidgjgiaaDoorNatB
namespace Go.Proofs.YtlgecdkidgjgiaaDoor
open Go.RowKit

set_option maxHeartbeats 800000 in
theorem wplain_any (s : Bool) (A : Option Addr) (n : Nat) (xs : List Int) (c : Nat) (w : World) (hr : RdS w .u64 A n xs) (hc : n ≤ c) (hsm : n ≤ 16777216) (hx : Dg B64 xs) :
    Calls Tryd.prog 58 #[.agg #[.bool s, .slice A n c]] w fun e w' => e = .returned (.agg #[.bool (decide (zi s xs < 0)), .slice A (pl xs).length (pl xs).length]) ∧ Below w.heap.size w w' := by
  go_enter Tryd.func58, Tryd.ntmps58
  go_wp2_with fail
  refine (plain_any A n xs c _ ((hr.alloc _).alloc _) hc hsm).mono ?_
  rintro e w' ⟨rfl, rfl⟩
  have hd := (vl_bd hx).1
  have kz := (pl_can hx).zero_iff
  obtain ⟨p, hp⟩ : ∃ p, p = (pl xs).length := ⟨_, rfl⟩
  rw [← hp]
  have hpz : p = 0 ↔ vl B64 xs = 0 := by rw [kz, hp]; exact List.length_eq_zero_iff
  have HP := Lib.hid hp
  clear hp kz
  cases s with
  | true =>
    by_cases h0 : p = 0
    · have HZ := Lib.hid (show false = decide (zi true xs < 0) by simp [zi, hpz.1 h0])
      have HP0 := Lib.hid (h0.symm.trans HP.out)
      subst h0
      clear hd hpz
      go_wp2_with fail
      exact bodyPost_ret (v := .agg #[.bool false, .slice A 0 0]) (by simp [results, Tryd.results58, go_sem]) rfl ⟨ret_agg HZ.out HP0.out HP0.out, below_new2 _ _ _⟩
    · have hne : vl B64 xs ≠ 0 := fun e => h0 (hpz.2 e)
      have HZ := Lib.hid (show true = decide (zi true xs < 0) by have : -(vl B64 xs) < 0 := by omega
                                                                 simp only [zi, if_true, this, decide_true])
      have hp0 : 0 < p := by omega
      clear hd hpz hne h0
      go_wp2_with fail
      exact bodyPost_ret (v := .agg #[.bool true, .slice A p p]) (by simp [results, Tryd.results58, go_sem]) rfl ⟨ret_agg HZ.out HP.out HP.out, below_new2 _ _ _⟩
  | false =>
    have HZ := Lib.hid (show false = decide (zi false xs < 0) by have : ¬ vl B64 xs < 0 := by omega
                                                                 simp only [zi, Bool.false_eq_true, if_false, this, decide_false])
    clear hd hpz
    go_wp2_with fail
    exact bodyPost_ret (v := .agg #[.bool false, .slice A p p]) (by simp [results, Tryd.results58, go_sem]) rfl ⟨ret_agg HZ.out HP.out HP.out, below_new2 _ _ _⟩


set_option maxHeartbeats 800000 in
theorem wsign_any (s : Bool) (A : Option Addr) (n : Nat) (xs : List Int) (c : Nat) (w : World) (hr : RdS w .u64 A n xs) (hc : n ≤ c) (hsm : n ≤ 16777216) (hx : Dg B64 xs) :
    Calls Tryd.prog 56 #[.agg #[.bool s, .slice A n c]] w fun e w' => e = .returned (.int .i64 (sgz (zi s xs))) ∧ Below w.heap.size w w' := by
  go_enter Tryd.func56, Tryd.ntmps56
  go_wp2_with fail
  refine (wplain_any s A n xs c _ (hr.alloc _) hc hsm hx).mono ?_
  rintro e w1 ⟨rfl, b1⟩
  obtain ⟨hcl, hfz⟩ := bcell b1
  have b2 := Lib.hid (((Below.refl w.heap.size w).alloc (Nat.le_refl _) (.cells #[.bool s, .slice A n c] 27)).trans (b1.mono (by simp)))
  clear b1
  have hd := (vl_bd hx).1
  have kz := (pl_can hx).zero_iff
  obtain ⟨p, hp⟩ : ∃ p, p = (pl xs).length := ⟨_, rfl⟩
  rw [← hp]
  have hpz : p = 0 ↔ vl B64 xs = 0 := by rw [kz, hp]; exact List.length_eq_zero_iff
  by_cases hz : zi s xs < 0
  · have hv : ¬ vl B64 xs = 0 := by intro e; unfold zi at hz; split at hz <;> omega
    have hp0 : 0 < p := by omega
    have E := Lib.hid (show -1 = sgz (zi s xs) by unfold sgz; rw [if_pos hz])
    have hzb : decide (zi s xs < 0) = true := decide_eq_true hz
    rw [hzb]
    clear hz hzb hd kz hpz hv hp
    go_wp2_with fail
    go_ret
    exact ⟨ret_i64 E.out, (b2.out.setCell (Nat.le_refl _) _).setCell (Nat.le_refl _) _⟩
  · have hzb : decide (zi s xs < 0) = false := decide_eq_false hz
    rw [hzb]
    by_cases h0 : p = 0
    · have E := Lib.hid (show 0 = sgz (zi s xs) by have := hpz.1 h0; unfold sgz zi; simp [this])
      subst h0
      clear hz hzb hd kz hpz hp
      go_wp2_with fail
      go_ret
      exact ⟨ret_i64 E.out, (b2.out.setCell (Nat.le_refl _) _).setCell (Nat.le_refl _) _⟩
    · have hv : ¬ vl B64 xs = 0 := fun e => h0 (hpz.2 e)
      have hp0 : 0 < p := by omega
      have E := Lib.hid (show 1 = sgz (zi s xs) by
        have : 0 < zi s xs := by unfold zi at hz ⊢; split at hz <;> rename_i hs <;> simp [hs] at hz ⊢ <;> omega
        unfold sgz; rw [if_neg hz, if_pos this])
      clear hz hzb hd kz hpz hv hp h0
      go_wp2_with fail
      go_ret
      exact ⟨ret_i64 E.out, (b2.out.setCell (Nat.le_refl _) _).setCell (Nat.le_refl _) _⟩

set_option maxHeartbeats 800000 in
theorem wneg_any (s : Bool) (A : Option Addr) (n : Nat) (xs : List Int) (c : Nat) (w : World) (hr : RdS w .u64 A n xs) (hc : n ≤ c) (hsm : n ≤ 16777216) (hx : Dg B64 xs) :
    Calls Tryd.prog 42 #[.agg #[.bool s, .slice A n c]] w fun e w' => e = .returned (.agg #[.bool (decide (-(zi s xs) < 0)), .slice A (pl xs).length (pl xs).length]) ∧ Below w.heap.size w w' := by
  have hz : zi (!s) xs = -(zi s xs) := by unfold zi; cases s <;> simp
  rw [← hz]
  have hz' := Lib.hid hz
  clear hz
  go_enter Tryd.func42, Tryd.ntmps42
  go_wp2_with fail
  refine (wplain_any (!s) A n xs c _ ((hr.alloc _).alloc _) hc hsm hx).mono ?_
  rintro e w1 ⟨rfl, b1⟩
  obtain ⟨hcl, hfz⟩ := bcell b1
  have b2 := Lib.hid ((below_new2 w (.cells #[.bool s, .slice A n c] 27) (.cells #[.bool false, .slice none 0 0] 27)).trans (b1.mono (by simp; omega)))
  clear b1
  go_wp2_with fail
  exact bodyPost_ret (v := .agg #[.bool (decide (zi (!s) xs < 0)), .slice A (pl xs).length (pl xs).length]) (by simp [results, Tryd.results42, go_sem, hcl]) rfl ⟨rfl, (b2.out.setCell (by simp) _).setCell (by simp) _⟩
end Go.Proofs.YtlgecdkidgjgiaaDoor
