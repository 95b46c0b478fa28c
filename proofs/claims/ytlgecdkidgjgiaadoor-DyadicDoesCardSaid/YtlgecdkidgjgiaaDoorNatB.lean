/- The walks of nat's functions: products. -/
import Derived.Test.YtlgecdkidgjgiaaDoorNatA
import Derived.Laws.MathBits
namespace Go.Proofs.YtlgecdkidgjgiaaDoor
open Go.RowKit

theorem and32 (z : Int) (h0 : 0 ≤ z) (h1 : z < B64) : bits .and .u64 z 4294967295 = z % 4294967296 := and_low32 z h0 h1
theorem tup2 {a b c d : Int} (h1 : a = c) (h2 : b = d) : Ending.returned (.tuple #[.int .u64 a, .int .u64 b]) = Ending.returned (.tuple #[.int .u64 c, .int .u64 d]) := by rw [h1, h2]

set_option maxHeartbeats 800000 in
theorem mul64_any (x y : Int) (w : World) (hx : 0 ≤ x) (hx2 : x < B64) (hy : 0 ≤ y) (hy2 : y < B64) :
    Calls Tryd.prog 82 #[.int .u64 x, .int .u64 y] w fun e w' => e = .returned (.tuple #[.int .u64 (x * y / B64), .int .u64 (x * y % B64)]) ∧ w = w' := by
  have a1 := and32 x hx hx2
  have a2 := and32 y hy hy2
  have ar := Lib.hid (mul64_arith x y hx hx2 hy hy2)
  go_enter Tryd.func82, Tryd.ntmps82
  go_wp2
  go_ret2
  refine ⟨tup2 ?_ rfl, rfl⟩
  simp only [wrap_u64]
  rw [and32 _ (Int.emod_nonneg _ (by decide)) (Int.emod_lt_of_pos _ (by decide))]
  exact ar.out

set_option maxHeartbeats 1600000 in
theorem mul_any (A A' : Option Addr) (n n' : Nat) (xs ys : List Int) (c c' : Nat) (w : World) (hr : RdS w .u64 A n xs) (hr' : RdS w .u64 A' n' ys) (hc : n ≤ c) (hc' : n' ≤ c')
    (hsm : n + n' ≤ 1024) (hx : Dg B64 xs) (hy : Dg B64 ys) :
    Calls Tryd.prog 57 #[.slice A n c, .slice A' n' c'] w fun e w' => ∃ (zs : List Int) (B : Option Addr),
      e = .returned (.tuple #[.slice B zs.length zs.length, .nilIface]) ∧ RdS w' .u64 B zs.length zs ∧ Can B64 zs (vl B64 xs * vl B64 ys) ∧ Below w.heap.size w w' := by
  have r1 := hr.plain
  have r2 := hr'.plain
  have k1 := pl_can hx
  have k2 := pl_can hy
  have l1 := pl_le xs
  have l2 := pl_le ys
  rw [hr.len] at l1
  rw [hr'.len] at l2
  have p1 := fun w => plain_any A n xs c w
  have p2 := fun w => plain_any A' n' ys c' w
  rw [← k1.val, ← k2.val]
  have hxs := k1.dg
  have hys := k2.dg
  clear k1 k2
  generalize pl xs = us at *
  generalize pl ys = vs at *
  obtain ⟨p, hp⟩ : ∃ p, p = us.length := ⟨_, rfl⟩
  obtain ⟨q, hq⟩ : ∃ q, q = vs.length := ⟨_, rfl⟩
  rw [← hp] at r1 l1 p1
  rw [← hq] at r2 l2 p2
  have hmk := make_num 25 22 .u64 8 Tryd.underlying25 Tryd.info_u64 (by decide) (fun _ => 0) (p + q) (by omega)
  rw [nums_zero, Int.natCast_add] at hmk
  have M0 := Lib.hid (MulJ.start B64 us vs (by decide) (p + q) (by omega))
  have HP := Lib.hid hp
  have HQ := Lib.hid hq
  clear hp hq
  go_enter Tryd.func57, Tryd.ntmps57
  go_wp2_with fail
  refine (p1 w hr hc (by omega)).mono ?_
  rintro e w' ⟨rfl, rfl⟩
  go_wp2_with fail
  refine (p2 w hr' hc' (by omega)).mono ?_
  rintro e w' ⟨rfl, rfl⟩
  clear p1 p2 hr hr'
  go_wp2_with fail
  have b2 : Below w.heap.size w (w.alloc (.cells (nums .u64 (List.replicate (p + q) 0)) 22)) := (Below.refl _ _).alloc (Nat.le_refl _) _
  have row0 := Row.new w 22 (nums .u64 (List.replicate (p + q) 0))
  go_loopw [34] (fun i wr => ∃ (k : Nat) (row : List Int), k ≤ p ∧ i = .int .i64 k ∧ Hid (MulJ B64 us vs (p + q) k 0 row 0) ∧ Row wr w.heap.size 22 (nums .u64 row) ∧ Below w.heap.size w wr) (fun i _ => p - (intOf i).toNat)
  case atStart => exact ⟨0, _, by omega, rfl, M0, row0, b2⟩
  case round =>
    obtain ⟨i, row, hi, rfl, hm, hrow, hbel⟩ := hrel
    clear row0 b2
    by_cases hlt : i < p
    · obtain ⟨b, o, rfl, hcell⟩ := (r1.below hbel).cell (by omega)
      replace hcell := hcell i hlt
      have hx1 := hxs i
      have hM := Lib.hid hm
      go_wp2_with fail
      go_loopw [9, 41] (fun cr j wr => ∃ (k : Nat) (row : List Int) (cc : Int), k ≤ q ∧ j = .int .i64 k ∧ cr = .int .u64 cc ∧ Hid (MulJ B64 us vs (p + q) i k row cc) ∧ Row wr w.heap.size 22 (nums .u64 row) ∧ Below w.heap.size w wr) (fun _ j _ => q - (intOf j).toNat)
      case atStart => exact ⟨0, row, 0, by omega, rfl, rfl, hm, hrow, hbel⟩
      case round =>
        clear hM hm hrow hbel hcell row M0
        obtain ⟨j, row, cc, hj, rfl, rfl, hm, hrow, hbel⟩ := hrel
        have hlen := hm.out.len
        by_cases hlt2 : j < q
        · obtain ⟨b', o', rfl, hcell⟩ := (r2.below hbel).cell (by omega)
          replace hcell := hcell j hlt2
          have hy1 := hys j
          have ho := hm.out.dg (i + j)
          have hcb := hm.out.cb
          have hcur := (hrow.cell (i + j)).trans (nums_get .u64 row (i + j) (by omega))
          have hfr := hrow.frozen (i + j)
          obtain ⟨lo, hlo⟩ : ∃ lo, lo = us[i]?.getD 0 * vs[j]?.getD 0 % B64 := ⟨_, rfl⟩
          obtain ⟨hh, hhi⟩ : ∃ hh, hh = us[i]?.getD 0 * vs[j]?.getD 0 / B64 := ⟨_, rfl⟩
          obtain ⟨l1, hl1⟩ : ∃ l1, l1 = (lo + row[i + j]?.getD 0 + 0) % B64 := ⟨_, rfl⟩
          obtain ⟨c1, hc1⟩ : ∃ c1, c1 = (lo + row[i + j]?.getD 0 + 0) / B64 := ⟨_, rfl⟩
          obtain ⟨lz, hl2⟩ : ∃ lz, lz = (l1 + cc + 0) % B64 := ⟨_, rfl⟩
          obtain ⟨c2, hc2⟩ : ∃ c2, c2 = (l1 + cc + 0) / B64 := ⟨_, rfl⟩
          obtain ⟨g1, g2, g3, g4, g5, g6, g7, g8, g9, g10⟩ := mac_eq (b := B64) (by decide) hx1 hy1 ho hcb hlo hhi hl1 hc1 hl2 hc2
          have hnext := hm.out.step hxs hys (by have := HP.out; omega) (by have := HQ.out; omega) rfl g9 g10
          have HN := Lib.hid hnext
          have hmul := fun w => mul64_any (us[i]?.getD 0) (vs[j]?.getD 0) w hx1.1 hx1.2 hy1.1 hy1.2
          have hadd1 := add64_run lo (row[i + j]?.getD 0) 0 g1 ho.1 (Int.le_refl _) (by decide)
          have hadd2 := add64_run l1 cc 0 g3 hcb.1 (Int.le_refl _) (by decide)
          rw [← hlo, ← hhi] at hmul
          rw [← hl1, ← hc1] at hadd1
          rw [← hl2, ← hc2] at hadd2
          have w1 := wrap_in g5 g6
          have w2 := wrap_in g7 g8
          clear hnext hm hlo hhi hl1 hc1 hl2 hc2 g1 g2 g3 g4 g5 g6 g7 g8 g9 g10 hx1 hy1 ho hcb
          have HR := Lib.hid ((hrow.set (i + j) (.int .u64 lz)))
          rw [nums_set] at HR
          have HB := Lib.hid (hbel.setCell (p := ⟨w.heap.size, i + j, none⟩) (Nat.le_refl _) (.int .u64 lz))
          clear hrow hbel
          go_wp2_with fail
          refine (hmul _).mono ?_
          rintro e w' ⟨rfl, rfl⟩
          go_wp2_with fail
          go_roundw
          case rel => exact ⟨j + 1, row.set (i + j) lz, hh + c1 + c2, by omega, by go_num, rfl, HN, HR, HB⟩
          case measure => simp [intOf]; omega
        · have ej : j = q := by omega
          subst ej
          by_cases hq0 : 0 < j
          · have hcur := (hrow.cell (i + j)).trans (nums_get .u64 row (i + j) (by omega))
            have hfr := hrow.frozen (i + j)
            have hm2 : MulJ B64 us vs (p + j) i vs.length row cc := by have := hm.out; rw [← HQ.out]; exact this
            have hnext := hm2.close (by have := HP.out; omega)
            rw [← HQ.out] at hnext
            clear hm2
            have HN := Lib.hid hnext
            have HR := Lib.hid ((hrow.set (i + j) (.int .u64 cc)))
            rw [nums_set] at HR
            have HB := Lib.hid (hbel.setCell (p := ⟨w.heap.size, i + j, none⟩) (Nat.le_refl _) (.int .u64 cc))
            clear hnext hrow hbel hm
            go_wp2_with fail
            go_roundw
            case rel => exact ⟨i + 1, row.set (i + j) cc, by omega, by go_num, HN, HR, HB⟩
            case measure => simp [intOf]; omega
          · have HN := Lib.hid (hm.out.none (List.length_eq_zero_iff.1 (by have := HQ.out; omega)))
            have hj0 : j = 0 := by omega
            subst hj0
            clear hm
            go_wp2_with fail
            go_roundw
            case rel => exact ⟨i + 1, row, by omega, by go_num, HN, hrow, hbel⟩
            case measure => simp [intOf]; omega
    · have ei : i = p := by omega
      subst ei
      have hl : row.length = i + q := hm.out.len
      have hrd := hrow.reads (i + q) hl
      have hfin : MulJ B64 us vs (i + q) us.length 0 row 0 := by have := hm.out; rw [← HP.out]; exact this
      have kz := pl_can hfin.dg
      rw [hfin.done] at kz
      have HK := Lib.hid kz
      clear hm hrow hl hfin kz
      go_wp2_with fail
      refine (plain_any _ (i + q) _ (i + q) _ hrd (Nat.le_refl _) (by omega)).mono ?_
      rintro e w' ⟨rfl, rfl⟩
      go_wp2_with fail
      go_ret2
      exact ⟨_, some ⟨w.heap.size, 0, none⟩, rfl, hrd.plain, HK.out, hbel⟩

set_option maxHeartbeats 800000 in
theorem sub_less (A A' : Option Addr) (n n' : Nat) (xs ys : List Int) (c c' : Nat) (w : World) (hr : RdS w .u64 A n xs) (hr' : RdS w .u64 A' n' ys) (hc : n ≤ c) (hc' : n' ≤ c')
    (hsm : n ≤ 1048576) (hsm' : n' ≤ 1048576) (hx : Dg B64 xs) (hy : Dg B64 ys) (hlt : vl B64 xs < vl B64 ys) :
    Calls Tryd.prog 80 #[.slice A n c, .slice A' n' c'] w fun e w' => e = .returned (.tuple #[.slice none 0 0, .iface 74 (.int .i64 8)]) ∧ Below w.heap.size w w' := by
  have r1 := hr.plain
  have r2 := hr'.plain
  have k1 := pl_can hx
  have k2 := pl_can hy
  have l1 := pl_le xs
  have l2 := pl_le ys
  rw [hr.len] at l1
  rw [hr'.len] at l2
  have p1 := fun w => plain_any A n xs c w
  have p2 := fun w => plain_any A' n' ys c' w
  rw [← k1.val, ← k2.val] at hlt
  have hxs := k1.dg
  have hys := k2.dg
  clear k1 k2
  generalize pl xs = us at *
  generalize pl ys = vs at *
  have hsg : sg (vl B64 us) (vl B64 vs) = -1 := by unfold sg; rw [if_pos hlt]
  obtain ⟨p, hp⟩ : ∃ p, p = us.length := ⟨_, rfl⟩
  obtain ⟨q, hq⟩ : ∃ q, q = vs.length := ⟨_, rfl⟩
  rw [← hp] at r1 l1 p1
  rw [← hq] at r2 l2 p2
  clear hp hq hlt
  go_enter Tryd.func80, Tryd.ntmps80
  go_wp2_with fail
  refine (p1 w hr hc (by omega)).mono ?_
  rintro e w' ⟨rfl, rfl⟩
  go_wp2_with fail
  refine (p2 w hr' hc' (by omega)).mono ?_
  rintro e w' ⟨rfl, rfl⟩
  clear p1 p2 hr hr'
  go_wp2_with fail
  refine (cmp_any A A' p q us vs p q w r1 r2 (Nat.le_refl _) (Nat.le_refl _) (by omega) (by omega) hxs hys).mono ?_
  rintro e w1 ⟨rfl, d, hw⟩
  have b1 : Below w.heap.size w w1 := by rw [hw]; exact below_drewN _ _ _
  clear hw
  rw [hsg]
  clear hsg
  go_wp2_with fail
  go_ret2
  exact ⟨rfl, b1⟩
end Go.Proofs.YtlgecdkidgjgiaaDoor
