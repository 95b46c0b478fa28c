/- The walks of the reference's products, on digits of 16 bits. -/
import Derived.Test.YtlgecdkidgjgiaaDoorRfD
import Derived.Test.YtlgecdkidgjgiaaDoorLwB
namespace Go.Proofs.YtlgecdkidgjgiaaDoor
open Go.RowKit

theorem dig_prod {x y o c : Int} (hx : 0 ≤ x ∧ x < 65536) (hy : 0 ≤ y ∧ y < 65536) (ho : 0 ≤ o ∧ o < 65536) (hc : 0 ≤ c ∧ c < 65536) : 0 ≤ x * y ∧ x * y ≤ 4294836225 ∧ 0 ≤ o + x * y + c ∧ o + x * y + c < 4294967296 := by
  have h1 := Int.mul_nonneg hx.1 hy.1
  have h2 : x * y ≤ 65535 * 65535 := Int.le_trans (Int.mul_le_mul_of_nonneg_right (by omega) hy.1) (Int.mul_le_mul_of_nonneg_left (by omega) (by decide))
  omega

set_option maxRecDepth 100000 in
set_option maxHeartbeats 3200000 in
theorem rmul_any (A A' : Option Addr) (n n' : Nat) (xs ys : List Int) (c c' : Nat) (w : World) (hr : RdS w .u32 A n xs) (hr' : RdS w .u32 A' n' ys)
    (hsm : n ≤ 1048576) (hsm' : n' ≤ 1048576) (hx : Dg 65536 xs) (hy : Dg 65536 ys) :
    Calls Tryd.prog 51 #[.slice A n c, .slice A' n' c'] w fun e w' => ∃ (zs : List Int) (B : Option Addr) (d : Nat),
      e = .returned (.slice B zs.length d) ∧ zs.length ≤ d ∧ RdS w' .u32 B zs.length zs ∧ Can 65536 zs (vl 65536 xs * vl 65536 ys) ∧ Below w.heap.size w w' ∧ B ≠ none := by
  have hmk := make_num1 35 80 .u32 4 Tryd.underlying35 Tryd.info_u32 (by decide) (fun _ => 0) (n + n') (by omega)
  rw [nums_zero, Int.natCast_add] at hmk
  have M0 := Lib.hid (MulJ.start 65536 xs ys (by decide) (n + n' + 1) (by have := hr.len; have := hr'.len; omega))
  have HP := Lib.hid hr.len
  have HQ := Lib.hid hr'.len
  go_enter Tryd.func51, Tryd.ntmps51
  go_wp2_with fail
  have b2 : Below w.heap.size w (w.alloc (.cells (nums .u32 (List.replicate (n + n' + 1) 0)) 80)) := (Below.refl _ _).alloc (Nat.le_refl _) _
  have row0 := Row.new w 80 (nums .u32 (List.replicate (n + n' + 1) 0))
  go_loopw [6, 7, 8, 9] (fun i _ _ _ wr => ∃ (k : Nat) (row : List Int), k ≤ n ∧ i = .int .i64 k ∧ Hid (MulJ 65536 xs ys (n + n' + 1) k 0 row 0) ∧ Row wr w.heap.size 80 (nums .u32 row) ∧ Below w.heap.size w wr) (fun i _ _ _ _ => n - (intOf i).toNat)
  case atStart => exact ⟨0, _, by omega, rfl, M0, row0, b2⟩
  case round =>
    obtain ⟨i, row, hi, rfl, hm, hrow, hbel⟩ := hrel
    clear row0 b2
    by_cases hlt : i < n
    · have hM := Lib.hid hm
      go_wp2_with fail
      go_loopw [7, 8, 9] (fun cr j _ wr => ∃ (k : Nat) (row : List Int) (cc : Int), j = .int .i64 k ∧ cr = .int .u64 cc ∧ 0 ≤ cc ∧ cc < 65536 ∧ (k ≤ n' ∧ Hid (MulJ 65536 xs ys (n + n' + 1) i k row cc) ∨ k = n' + 1 ∧ cc = 0 ∧ Hid (MulJ 65536 xs ys (n + n' + 1) (i + 1) 0 row 0)) ∧ Row wr w.heap.size 80 (nums .u32 row) ∧ Below w.heap.size w wr) (fun _ j _ _ => (n' + 1) - (intOf j).toNat)
      case atStart => exact ⟨0, row, 0, rfl, rfl, by omega, by omega, .inl ⟨by omega, hm⟩, hrow, hbel⟩
      case round =>
        clear hM hm hrow hbel row M0
        obtain ⟨j, row, cc, rfl, rfl, hc0, hc1, hcase, hrow, hbel⟩ := hrel
        obtain ⟨b, o, rfl, hcell⟩ := (hr.below hbel).cell (by omega)
        replace hcell := hcell i hlt
        have hx1 := hx i
        have hy1 := hy j
        have q2 := hr'.below hbel
        have hend : ∀ (g : Prop), j = n' + 1 ∨ (j = n' ∧ cc = 0) → True := fun _ _ => trivial
        clear hend
        by_cases hgo : j < n' ∨ (j ≤ n' ∧ 0 < cc)
        · have hjn : j ≤ n' := by omega
          have hm : Hid (MulJ 65536 xs ys (n + n' + 1) i j row cc) := by
            rcases hcase with h | h
            · exact h.2
            · omega
          have hlen := hm.out.len
          have ho := hm.out.dg (i + j)
          have hcur := (hrow.cell (i + j)).trans (nums_get .u32 row (i + j) (by omega))
          have hfr := hrow.frozen (i + j)
          obtain ⟨p1, p2, p3, p4⟩ := dig_prod hx1 hy1 ho ⟨hc0, hc1⟩
          obtain ⟨P, hP⟩ : ∃ P, P = xs[i]?.getD 0 * ys[j]?.getD 0 := ⟨_, rfl⟩
          rw [← hP] at p1 p2 p3 p4
          obtain ⟨S, hS⟩ : ∃ S, S = row[i + j]?.getD 0 + P + cc := ⟨_, rfl⟩
          rw [← hS] at p3 p4
          have g1 := wrap_in (z := P) p1 (by unfold B64; omega)
          have g2 := wrap_in (z := row[i + j]?.getD 0) ho.1 (by unfold B64; omega)
          have g3 := wrap_in (z := xs[i]?.getD 0) hx1.1 (by unfold B64; omega)
          have g4 := wrap_in (z := ys[j]?.getD 0) hy1.1 (by unfold B64; omega)
          have g5 : IntKind.u32.wrap (S % 65536) = S % 65536 := by rw [IntKind.wrap_u32']; omega
          have hPP := hP.symm
          have hSS := hS.symm
          have HL := Lib.hid hlen
          clear hlen
          have g6 : 0 ≤ S / 65536 ∧ S / 65536 < 65536 := by omega
          have hset := nums_set .u32 row (i + j) (S % 65536)
          by_cases h1 : j < n'
          · have hnext := hm.out.step hx hy (by have := HP.out; omega) (by have := HQ.out; omega) (s := S) (by rw [hS, hP]; omega) rfl rfl
            have HN := Lib.hid hnext
            clear hnext hm hP hS hcase
            go_wp2_with fail
            go_quiet ((go_at_call 77; exact Calls.quiet_of_same ((rdigit_any A' n' ys c' j _ (q2.drewN _) (by omega)).mono fun _ _ ⟨h, h2⟩ => ⟨h, h2.symm⟩)))
            have hcur2 := ((hrow.drewN nq).cell (i + j)).trans (nums_get .u32 row (i + j) (by have := HL.out; omega))
            have hfr2 := (hrow.drewN nq).frozen (i + j)
            have HR := Lib.hid ((hrow.drewN nq).set (i + j) (.int .u32 (S % 65536)))
            rw [hset] at HR
            have HB := Lib.hid ((hbel.trans (below_drewN wr w.heap.size nq)).setCell (p := ⟨w.heap.size, i + j, none⟩) (Nat.le_refl _) (.int .u32 (S % 65536)))
            clear hcur hfr hrow hbel hset
            go_wp2_with fail
            go_roundw
            case rel => exact ⟨j + 1, row.set (i + j) (S % 65536), S / 65536, by go_num, rfl, g6.1, g6.2, .inl ⟨by omega, HN⟩, HR.out, HB.out⟩
            case measure => simp [intOf]; omega
          · have ej : j = n' := by omega
            subst ej
            have hy0 : ys[j]?.getD 0 = 0 := by rw [List.getElem?_eq_none (by have := HQ.out; omega)]; rfl
            have hr0 : row[i + j]?.getD 0 = 0 := hm.out.above _ (by have := HQ.out; omega)
            have hcc : S = cc := by rw [hS, hP, hy0, hr0]; omega
            have hm2 : MulJ 65536 xs ys (n + j + 1) i ys.length row cc := by have := hm.out; rw [HQ.out]; exact this
            have hnext := hm2.close (by have := HP.out; omega)
            rw [HQ.out] at hnext
            have hq0 : S / 65536 = 0 := by omega
            have hq1 : S % 65536 = cc := by omega
            rw [← hq1] at hnext
            have HN := Lib.hid hnext
            have HQ0 := Lib.hid hq0
            have hcp : 0 < cc := by omega
            clear hnext hm hm2 hP hS hcase hy0 hr0 hq1 hq0 hgo
            have HC := Lib.hid hcc
            clear hcc
            go_wp2_with fail
            go_quiet ((go_at_call 77; exact Calls.quiet_of_same ((rdigit_any A' j ys c' j _ (q2.drewN _) (by omega)).mono fun _ _ ⟨h, h2⟩ => ⟨h, h2.symm⟩)))
            have hcur2 := ((hrow.drewN nq).cell (i + j)).trans (nums_get .u32 row (i + j) (by have := HL.out; omega))
            have hfr2 := (hrow.drewN nq).frozen (i + j)
            have HR := Lib.hid ((hrow.drewN nq).set (i + j) (.int .u32 (S % 65536)))
            rw [hset] at HR
            have HB := Lib.hid ((hbel.trans (below_drewN wr w.heap.size nq)).setCell (p := ⟨w.heap.size, i + j, none⟩) (Nat.le_refl _) (.int .u32 (S % 65536)))
            clear hcur hfr hrow hbel hset
            go_wp2_with fail
            go_roundw
            case rel => exact ⟨j + 1, row.set (i + j) (S % 65536), S / 65536, by go_num, rfl, g6.1, g6.2, .inr ⟨rfl, HQ0.out, HN⟩, HR.out, HB.out⟩
            case measure => simp [intOf]
        · have h1 : ¬ j < n' := by omega
          have hend : cc = 0 ∧ Hid (MulJ 65536 xs ys (n + n' + 1) (i + 1) 0 row 0) := by
            rcases hcase with ⟨h2, h3⟩ | ⟨h2, h3, h4⟩
            · have e0 : cc = 0 := by omega
              have ej : j = n' := by omega
              subst e0 ej
              refine ⟨rfl, ?_⟩
              have hm2 : MulJ 65536 xs ys (n + j + 1) i ys.length row 0 := by have := h3.out; rw [HQ.out]; exact this
              exact hm2.close0
            · exact ⟨h3, h4⟩
          obtain ⟨rfl, HN⟩ := hend
          clear hcase hgo
          go_wp2_with fail
          go_roundw
          case rel => exact ⟨i + 1, row, by omega, by go_num, HN, hrow, hbel⟩
          case measure => simp [intOf]; omega
    · have ei : i = n := by omega
      subst ei
      have hl : row.length = i + n' + 1 := hm.out.len
      have hrd := hrow.reads (i + n' + 1) hl
      have hfin : MulJ 65536 xs ys (i + n' + 1) xs.length 0 row 0 := by have := hm.out; rw [HP.out]; exact this
      have kz := pl_can hfin.dg
      rw [hfin.done] at kz
      have HK := Lib.hid kz
      clear hm hrow hl hfin kz
      go_wp2_with fail
      refine (rtrim_any _ (i + n' + 1) _ (i + n' + 1) _ hrd (Nat.le_refl _) (by omega)).mono ?_
      rintro e w' ⟨rfl, rfl⟩
      go_wp2_with fail
      go_ret
      exact ⟨_, some ⟨w.heap.size, 0, none⟩, _, rfl, pl_cap hrd.len (Nat.le_refl _), hrd.plain, HK.out, hbel, by simp⟩
end Go.Proofs.YtlgecdkidgjgiaaDoor
