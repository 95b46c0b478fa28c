/- The walks of the reference's functions on digits of 16 bits: trimmed, one digit, which is less, sums and differences, whether limbs are the same. -/
import Derived.Test.YtlgecdkidgjgiaaDoorBase
namespace Go.Proofs.YtlgecdkidgjgiaaDoor
open Go.RowKit

theorem ret_u32 {a b : Int} (h : a = b) : Ending.returned (.int .u32 a) = Ending.returned (.int .u32 b) := by rw [h]

set_option maxHeartbeats 400000 in
theorem rtrim_any (A : Option Addr) (n : Nat) (xs : List Int) (c : Nat) (w : World) (hr : RdS w .u32 A n xs) (hc : n ≤ c) (hsm : n ≤ 16777216) :
    Calls Tryd.prog 76 #[.slice A n c] w fun e w' => e = .returned (.slice A (pl xs).length c) ∧ w = w' := by
  have hl := pl_length xs
  rw [hr.len] at hl
  rw [hl]
  clear hl
  go_enter Tryd.func76, Tryd.ntmps76
  go_wp2
  go_loop [3] (fun m => ∃ k : Nat, k ≤ n ∧ m = .int .i64 k ∧ Hid (down xs n = down xs k)) (fun m => (intOf m).toNat)
  case atStart => exact ⟨n, Nat.le_refl _, rfl, rfl⟩
  case round =>
    obtain ⟨k, hk, rfl, hd⟩ := hrel
    cases k with
    | zero =>
      go_wp2
      go_ret
      exact ⟨ret_slice hd.out.symm rfl, rfl⟩
    | succ k =>
      obtain ⟨b, o, rfl, hcell⟩ := hr.cell (by omega)
      replace hcell := hcell k (by omega)
      go_wp2
      · have hz : (xs[k]?.getD 0 == 0) = true := by assumption
        go_round
        case rel => exact ⟨k, by omega, rfl, hd.out.trans (down_go (by simpa using hz))⟩
        case measure => simp [intOf]
      · have hz : (xs[k]?.getD 0 == 0) = false := by assumption
        have e : down xs n = k + 1 := hd.out.trans (down_stop (.inr (by simpa using hz)))
        go_ret
        exact ⟨ret_slice e.symm rfl, rfl⟩

set_option maxHeartbeats 400000 in
theorem rdigit_any (A : Option Addr) (n : Nat) (xs : List Int) (c k : Nat) (w : World) (hr : RdS w .u32 A n xs) (hsm : n ≤ 16777216) :
    Calls Tryd.prog 77 #[.slice A n c, .int .i64 k] w fun e w' => e = .returned (.int .u32 (xs[k]?.getD 0)) ∧ w = w' := by
  by_cases hk : k < n
  · obtain ⟨b, o, rfl, hcell⟩ := hr.cell (by omega)
    replace hcell := hcell k hk
    go_enter Tryd.func77, Tryd.ntmps77
    go_wp2
    go_ret
    exact ⟨rfl, rfl⟩
  · have e : xs[k]?.getD 0 = 0 := by have hl := hr.len; rw [List.getElem?_eq_none (by omega)]; rfl
    rw [e]; clear e
    go_enter Tryd.func77, Tryd.ntmps77
    go_wp2
    go_ret
    exact ⟨rfl, rfl⟩

theorem Tryd.info_u32 : (Tryd.prog.info? 80).map (fun i => (i.zero, i.size, i.bytes)) = some (some (.int .u32 0), 1, 4) := by kernel_rfl

theorem pl_cap {xs : List Int} {n c : Nat} (h : xs.length = n) (hc : n ≤ c) : (pl xs).length ≤ c := by have := pl_le xs; omega

set_option maxHeartbeats 1600000 in
theorem radd_any (A A' : Option Addr) (n n' : Nat) (xs ys : List Int) (c c' : Nat) (w : World) (hr : RdS w .u32 A n xs) (hr' : RdS w .u32 A' n' ys)
    (hsm : n ≤ 1048576) (hsm' : n' ≤ 1048576) (hx : Dg 65536 xs) (hy : Dg 65536 ys) :
    Calls Tryd.prog 73 #[.slice A n c, .slice A' n' c'] w fun e w' => ∃ (zs : List Int) (B : Option Addr) (d : Nat),
      e = .returned (.slice B zs.length d) ∧ zs.length ≤ d ∧ RdS w' .u32 B zs.length zs ∧ Can 65536 zs (vl 65536 xs + vl 65536 ys) ∧ Below w.heap.size w w' := by
  have hcy := fun k => cy_bd hx hy k
  obtain ⟨m, hm⟩ : ∃ m, m = max n n' := ⟨_, rfl⟩
  have hend : cy 65536 xs ys (m + 1) = 0 := cy_end hx hy (by decide) m (by rw [hr.len]; omega) (by rw [hr'.len]; omega)
  have hval : ∀ k, m ≤ k → cy 65536 xs ys k = 0 → Dg 65536 (rowOf (dg 65536 xs ys) k) ∧ vl 65536 (rowOf (dg 65536 xs ys) k) = vl 65536 xs + vl 65536 ys :=
    fun k hk h0 => add_val hx k (by rw [hr.len]; omega) (by rw [hr'.len]; omega) h0
  have HV := Lib.hid hval
  have HE := Lib.hid hend
  have HM := Lib.hid hm
  have hm1 : n ≤ m := by omega
  have hm2 : n' ≤ m := by omega
  have hm3 : m ≤ 1048576 := by omega
  clear hval hend hm
  go_enter Tryd.func73, Tryd.ntmps73
  go_wp2_with fail
  go_loopw [5, 6, 7] (fun v cr i wr => ∃ k : Nat, k ≤ m + 1 ∧ i = .int .i64 k ∧ cr = .int .u32 (cy 65536 xs ys k) ∧ Own wr w.heap.size 80 .u32 v (rowOf (dg 65536 xs ys) k) ∧ Below w.heap.size w wr) (fun _ _ i _ => (m + 2) - (intOf i).toNat)
  case atStart => exact ⟨0, by omega, rfl, rfl, Own.nil _ _ _ _, Below.refl _ _⟩
  case round =>
    obtain ⟨k, hk, rfl, rfl, hown, hbel⟩ := hrel
    have hc2 := hcy k
    have ha := hx k
    have hb := hy k
    have q1 := hr.below hbel
    have q2 := hr'.below hbel
    have hnext := rowOf_succ (dg 65536 xs ys) k
    have hlen := rowOf_length (dg 65536 xs ys) k
    by_cases hgo : k < n ∨ k < n' ∨ 0 < cy 65536 xs ys k
    · have hk2 : k ≤ m := by
        apply Nat.le_of_not_lt
        intro h
        have : k = m + 1 := by omega
        rw [this, HE.out] at hgo
        omega
      obtain ⟨d, hd⟩ : ∃ d, d = dg 65536 xs ys k := ⟨_, rfl⟩
      have hd' : d = (xs[k]?.getD 0 + ys[k]?.getD 0 + cy 65536 xs ys k) % 65536 := hd
      rw [← hd] at hnext
      have HN := Lib.hid hnext
      have e1 := hd'.symm
      clear hd hd' hnext
      have hsz : w.heap.size ≤ wr.heap.size := hbel.size
      have hl4 : ((rowOf (dg 65536 xs ys) k).length + 1) * 4 ≤ 140737488355328 := by omega
      by_cases h1 : k < n
      · clear hgo
        go_wp2_with fail
        refine (rdigit_any A n xs c k _ q1 (by omega)).mono ?_
        rintro e w' ⟨rfl, rfl⟩
        go_wp2_with fail
        refine (rdigit_any A' n' ys c' k _ q2 (by omega)).mono ?_
        rintro e w' ⟨rfl, rfl⟩
        go_wp2_with (at_builtin; refine append_num w.heap.size rfl (.tmp 34) (.tmp 37) 35 80 .u32 4 rfl Tryd.underlying35 Tryd.info_u32 (by decide) _ (rowOf (dg 65536 xs ys) k) d rfl rfl hown hbel hsz hl4 ?_; intro v1 w1 hown1 hbel1)
        rw [← HN.out] at hown1
        go_roundw
        case rel => exact ⟨k + 1, by omega, by go_num, rfl, hown1, hbel1⟩
        case measure => simp [intOf]; omega
      · by_cases h2 : k < n'
        · clear hgo
          go_wp2_with fail
          refine (rdigit_any A n xs c k _ q1 (by omega)).mono ?_
          rintro e w' ⟨rfl, rfl⟩
          go_wp2_with fail
          refine (rdigit_any A' n' ys c' k _ q2 (by omega)).mono ?_
          rintro e w' ⟨rfl, rfl⟩
          go_wp2_with (at_builtin; refine append_num w.heap.size rfl (.tmp 34) (.tmp 37) 35 80 .u32 4 rfl Tryd.underlying35 Tryd.info_u32 (by decide) _ (rowOf (dg 65536 xs ys) k) d rfl rfl hown hbel hsz hl4 ?_; intro v1 w1 hown1 hbel1)
          rw [← HN.out] at hown1
          go_roundw
          case rel => exact ⟨k + 1, by omega, by go_num, rfl, hown1, hbel1⟩
          case measure => simp [intOf]; omega
        · have h3 : 0 < cy 65536 xs ys k := by omega
          clear hgo
          go_wp2_with fail
          refine (rdigit_any A n xs c k _ q1 (by omega)).mono ?_
          rintro e w' ⟨rfl, rfl⟩
          go_wp2_with fail
          refine (rdigit_any A' n' ys c' k _ q2 (by omega)).mono ?_
          rintro e w' ⟨rfl, rfl⟩
          go_wp2_with (at_builtin; refine append_num w.heap.size rfl (.tmp 34) (.tmp 37) 35 80 .u32 4 rfl Tryd.underlying35 Tryd.info_u32 (by decide) _ (rowOf (dg 65536 xs ys) k) d rfl rfl hown hbel hsz hl4 ?_; intro v1 w1 hown1 hbel1)
          rw [← HN.out] at hown1
          go_roundw
          case rel => exact ⟨k + 1, by omega, by go_num, rfl, hown1, hbel1⟩
          case measure => simp [intOf]; omega
    · have h1 : ¬ k < n := by omega
      have h2 : ¬ k < n' := by omega
      have h3 : ¬ 0 < cy 65536 xs ys k := by omega
      have hfin := HV.out k (by have := HM.out; omega) (by omega)
      have HF := Lib.hid hfin
      obtain ⟨B, d, hv, hd, hrd⟩ := hown.rds
      rw [hlen] at hv hd hrd
      subst hv
      clear hgo hfin hown hnext
      go_wp2_with fail
      refine (rtrim_any B k _ d _ hrd hd (by omega)).mono ?_
      rintro e w' ⟨rfl, rfl⟩
      go_wp2_with fail
      go_ret
      have kz := pl_can HF.out.1
      rw [HF.out.2] at kz
      exact ⟨_, B, d, rfl, pl_cap hlen hd, hrd.plain, kz, hbel⟩
end Go.Proofs.YtlgecdkidgjgiaaDoor
