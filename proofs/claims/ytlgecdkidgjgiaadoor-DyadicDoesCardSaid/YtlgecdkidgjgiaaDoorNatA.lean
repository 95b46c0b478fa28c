/- The walks of nat's functions: plain, one limb, which is less, sums and differences. -/
import Derived.Test.YtlgecdkidgjgiaaDoorBase
import Derived.Laws.Externs
namespace Go.Proofs.YtlgecdkidgjgiaaDoor
open Go.RowKit

set_option maxHeartbeats 400000 in
theorem plain_any (A : Option Addr) (n : Nat) (xs : List Int) (c : Nat) (w : World) (hr : RdS w .u64 A n xs) (hc : n ≤ c) (hsm : n ≤ 16777216) :
    Calls Tryd.prog 72 #[.slice A n c] w fun e w' => e = .returned (.slice A (pl xs).length (pl xs).length) ∧ w = w' := by
  have hl := pl_length xs
  rw [hr.len] at hl
  rw [hl]
  clear hl
  go_enter Tryd.func72, Tryd.ntmps72
  go_wp2
  go_loop [3] (fun m => ∃ k : Nat, k ≤ n ∧ m = .int .i64 k ∧ Hid (down xs n = down xs k)) (fun m => (intOf m).toNat)
  case atStart => exact ⟨n, Nat.le_refl _, rfl, rfl⟩
  case round =>
    obtain ⟨k, hk, rfl, hd⟩ := hrel
    cases k with
    | zero =>
      go_wp2
      go_ret
      exact ⟨ret_slice hd.out.symm hd.out.symm, rfl⟩
    | succ k =>
      obtain ⟨b, o, rfl, hcell⟩ := hr.cell (by omega)
      replace hcell := hcell k (by omega)
      go_wp2
      · have hz : (xs[k]?.getD 0 == 0) = true := by assumption
        go_round
        case rel => exact ⟨k, by omega, rfl, hd.out.trans (down_go (by simpa using hz))⟩
        case measure => simp [intOf]
      · have hz : (xs[k]?.getD 0 == 0) = false := by assumption
        have e : down xs n = k + 1 := hd.out.trans (down_stop (.inr (by simpa using hz)))
        go_ret
        exact ⟨ret_slice e.symm e.symm, rfl⟩

set_option maxHeartbeats 400000 in
theorem limb_any (A : Option Addr) (n : Nat) (xs : List Int) (c k : Nat) (w : World) (hr : RdS w .u64 A n xs) (hsm : n ≤ 16777216) :
    Calls Tryd.prog 89 #[.slice A n c, .int .i64 k] w fun e w' => e = .returned (.int .u64 (xs[k]?.getD 0)) ∧ w = w' := by
  by_cases hk : k < n
  · obtain ⟨b, o, rfl, hcell⟩ := hr.cell (by omega)
    replace hcell := hcell k hk
    go_enter Tryd.func89, Tryd.ntmps89
    go_wp2
    go_ret
    exact ⟨rfl, rfl⟩
  · have e : xs[k]?.getD 0 = 0 := by have hl := hr.len; rw [List.getElem?_eq_none (by omega)]; rfl
    rw [e]; clear e
    go_enter Tryd.func89, Tryd.ntmps89
    go_wp2
    go_ret
    exact ⟨rfl, rfl⟩

theorem Tryd.info_u64 : (Tryd.prog.info? 22).map (fun i => (i.zero, i.size, i.bytes)) = some (some (.int .u64 0), 1, 8) := by kernel_rfl

theorem add64_run (x y c : Int) (hx : 0 ≤ x) (hy : 0 ≤ y) (hc0 : 0 ≤ c) (hc : c ≤ 1) (w : World) :
    (callFunc 83 #[.int .u64 x, .int .u64 y, .int .u64 c]).run Tryd.prog w = .ok (.value (.tuple #[.int .u64 ((x + y + c) % B64), .int .u64 ((x + y + c) / B64)])) w := by
  rw [run_callFunc_extern Tryd.func83 (by kernel_rfl) (by kernel_rfl) (by kernel_rfl) (e := add64Entry) (by kernel_rfl), run_add64 x y c hx hy hc0 hc]
  rfl

set_option maxHeartbeats 400000 in
theorem add_any (A A' : Option Addr) (n n' : Nat) (xs ys : List Int) (c c' : Nat) (w : World) (hr : RdS w .u64 A n xs) (hr' : RdS w .u64 A' n' ys) (hc : n ≤ c) (hc' : n' ≤ c')
    (hsm : n ≤ 1048576) (hsm' : n' ≤ 1048576) (hx : Dg B64 xs) (hy : Dg B64 ys) :
    Calls Tryd.prog 79 #[.slice A n c, .slice A' n' c'] w fun e w' => ∃ (zs : List Int) (B : Option Addr),
      e = .returned (.slice B zs.length zs.length) ∧ RdS w' .u64 B zs.length zs ∧ Can B64 zs (vl B64 xs + vl B64 ys) ∧ Below w.heap.size w w' := by
  have r1 := hr.plain
  have r2 := hr'.plain
  have k1 := pl_can hx
  have k2 := pl_can hy
  have l1 := pl_le xs
  have l2 := pl_le ys
  rw [hr.len] at l1
  rw [hr'.len] at l2
  have p1 := fun w => plain_any A n xs c w
  have p2 := fun w => plain_any A' n' ys c' w
  rw [← k1.val, ← k2.val]
  have hxs := k1.dg
  have hys := k2.dg
  clear k1 k2
  generalize pl xs = us at *
  generalize pl ys = vs at *
  have hcy := fun k => cy_bd hxs hys k
  obtain ⟨p, hp⟩ : ∃ p, p = us.length := ⟨_, rfl⟩
  obtain ⟨q, hq⟩ : ∃ q, q = vs.length := ⟨_, rfl⟩
  rw [← hp] at r1 l1 p1
  rw [← hq] at r2 l2 p2
  obtain ⟨m, hm⟩ : ∃ m, m = max p q := ⟨_, rfl⟩
  have hmax := fun ats ty w => max_run ats ty p q m hm w
  have hmk := make_num1 25 22 .u64 8 Tryd.underlying25 Tryd.info_u64 (by decide) (dg B64 us vs) m (by omega)
  have hm' : m ≤ 1048576 := by omega
  have hend : cy B64 us vs (m + 1) = 0 := cy_end hxs hys (by decide) m (by omega) (by omega)
  have hval := add_val hxs (m + 1) (by omega) (by omega) hend
  have HV := Lib.hid hval
  clear hval hend
  have HM := Lib.hid hm
  clear hm hp hq
  go_enter Tryd.func79, Tryd.ntmps79
  go_wp2_with fail
  refine (p1 w hr hc (by omega)).mono ?_
  rintro e w' ⟨rfl, rfl⟩
  go_wp2_with fail
  refine (p2 w hr' hc' (by omega)).mono ?_
  rintro e w' ⟨rfl, rfl⟩
  clear p1 p2 hr hr'
  go_wp2_with fail
  go_loopw [6, 21] (fun cr i wr => ∃ k : Nat, k ≤ m + 1 ∧ i = .int .i64 k ∧ cr = .int .u64 (cy B64 us vs k) ∧ wr = w.alloc (.cells (arrOf .u64 (dg B64 us vs) (m + 1) k) 22)) (fun _ i _ => (m + 1) - (intOf i).toNat)
  case atStart => exact ⟨0, by omega, rfl, rfl, rfl⟩
  case round =>
    obtain ⟨k, hk, rfl, rfl, rfl⟩ := hrel
    have hc2 := hcy k
    have ha := hxs k
    have hb := hys k
    by_cases hlt : k < m + 1
    · have hadd := add64_run (us[k]?.getD 0) (vs[k]?.getD 0) (cy B64 us vs k) ha.1 hb.1 hc2.1 hc2.2
      go_wp2_with fail
      refine (limb_any A p us p k _ (r1.alloc _) (by omega)).mono ?_
      rintro e w' ⟨rfl, rfl⟩
      go_wp2_with fail
      refine (limb_any A' q vs q k _ (r2.alloc _) (by omega)).mono ?_
      rintro e w' ⟨rfl, rfl⟩
      have hcur := arrOf_cur .u64 (dg B64 us vs) (m + 1) k hlt
      have hset : (arrOf .u64 (dg B64 us vs) (m + 1) k).setIfInBounds k (.int .u64 ((us[k]?.getD 0 + vs[k]?.getD 0 + cy B64 us vs k) % B64)) = arrOf .u64 (dg B64 us vs) (m + 1) (k + 1) := arrOf_set _ _ _ _
      go_wp2_with fail
      go_roundw
      case rel => exact ⟨k + 1, by omega, by go_num, rfl, rfl⟩
      case measure => simp [intOf]; omega
    · have e : k = m + 1 := by omega
      subst e
      have hrd := arrOf_rds w .u64 (dg B64 us vs) (m + 1) 22
      go_wp2_with fail
      refine (plain_any _ (m + 1) _ (m + 1) _ hrd (Nat.le_refl _) (by omega)).mono ?_
      rintro e w' ⟨rfl, rfl⟩
      go_wp2_with fail
      go_ret
      have kz := pl_can HV.out.1
      rw [HV.out.2] at kz
      exact ⟨_, some ⟨w.heap.size, 0, none⟩, rfl, hrd.plain, kz, (Below.refl _ _).alloc (Nat.le_refl _) _⟩


set_option maxHeartbeats 800000 in
theorem cmp_any (A A' : Option Addr) (n n' : Nat) (xs ys : List Int) (c c' : Nat) (w : World) (hr : RdS w .u64 A n xs) (hr' : RdS w .u64 A' n' ys) (hc : n ≤ c) (hc' : n' ≤ c')
    (hsm : n ≤ 1048576) (hsm' : n' ≤ 1048576) (hx : Dg B64 xs) (hy : Dg B64 ys) :
    Calls Tryd.prog 90 #[.slice A n c, .slice A' n' c'] w fun e w' => e = .returned (.int .i64 (sg (vl B64 xs) (vl B64 ys))) ∧ ∃ n, w' = w.drewN n := by
  have r1 := hr.plain
  have r2 := hr'.plain
  have k1 := pl_can hx
  have k2 := pl_can hy
  have l1 := pl_le xs
  have l2 := pl_le ys
  rw [hr.len] at l1
  rw [hr'.len] at l2
  have p1 := fun w => plain_any A n xs c w
  have p2 := fun w => plain_any A' n' ys c' w
  generalize pl xs = us at *
  generalize pl ys = vs at *
  generalize vl B64 xs = X at *
  generalize vl B64 ys = Y at *
  obtain ⟨p, hp⟩ : ∃ p, p = us.length := ⟨_, rfl⟩
  obtain ⟨q, hq⟩ : ∃ q, q = vs.length := ⟨_, rfl⟩
  have hlt : p < q → sg X Y = -1 := fun h => by
    have := k1.lt_of_len k2 (by omega)
    unfold sg; rw [if_pos this]
  have hgt : q < p → sg X Y = 1 := fun h => by
    have := k2.lt_of_len k1 (by omega)
    unfold sg; rw [if_neg (by omega), if_pos this]
  have HK := Lib.hid (And.intro k1 k2)
  clear k1 k2
  rw [← hp] at r1 l1 p1
  rw [← hq] at r2 l2 p2
  have HP := Lib.hid hp
  have HQ := Lib.hid hq
  clear hp hq
  have HLT := Lib.hid hlt
  have HGT := Lib.hid hgt
  clear hlt hgt
  go_enter Tryd.func90, Tryd.ntmps90
  go_wp2_with fail
  refine (p1 w hr hc (by omega)).mono ?_
  rintro e w' ⟨rfl, rfl⟩
  go_wp2_with fail
  refine (p2 w hr' hc' (by omega)).mono ?_
  rintro e w' ⟨rfl, rfl⟩
  clear p1 p2 hr hr'
  rcases Nat.lt_trichotomy p q with h | h | h
  · have hb : decide ((p : Int) < (q : Int)) = true := by simpa using h
    go_wp2_with fail
    go_ret
    exact ⟨ret_i64 (HLT.out h).symm, 0, rfl⟩
  · subst h
    clear HLT HGT
    go_wp2_with fail
    go_loopw [5] (fun i wr => ∃ j d : Nat, j ≤ p ∧ i = .int .i64 ((j : Int) - 1) ∧ wr = w.drewN d ∧ Hid (X - Y = vl B64 (us.take j) - vl B64 (vs.take j))) (fun i _ => (intOf i + 1).toNat)
    case atStart =>
      refine ⟨p, 0, Nat.le_refl _, rfl, rfl, ?_⟩
      show X - Y = _
      rw [List.take_of_length_le (by have := HP.out; omega), List.take_of_length_le (by have := HQ.out; omega), HK.out.1.val, HK.out.2.val]
    case round =>
      obtain ⟨j, d, hj, rfl, rfl, hd⟩ := hrel
      cases j with
      | zero =>
        have e : sg X Y = 0 := by
          have h0 : X - Y = 0 := by rw [hd.out]; simp
          unfold sg; rw [if_neg (by omega), if_neg (by omega)]
        have E := Lib.hid e
        clear e
        go_wp2_with fail
        go_ret
        exact ⟨ret_i64 E.out.symm, d, rfl⟩
      | succ j =>
        obtain ⟨b, o, rfl, hcell⟩ := r1.cell (by omega)
        obtain ⟨b', o', rfl, hcell'⟩ := r2.cell (by omega)
        replace hcell := hcell j (by omega)
        replace hcell' := hcell' j (by omega)
        have hst := vl_take_succ B64 us j
        have hst' := vl_take_succ B64 vs j
        have D := hd.out
        clear hd
        rcases Int.lt_trichotomy (us[j]?.getD 0) (vs[j]?.getD 0) with g | g | g
        · have e : sg X Y = -1 := by
            have := cmp_lt HK.out.1.dg HK.out.2.dg j g
            unfold sg; rw [if_pos (by omega)]
          have E := Lib.hid e
          clear e D hst hst'
          go_wp2_with fail
          go_quiet (fail)
          go_wp2_with fail
          go_ret
          exact ⟨ret_i64 E.out.symm, _, World.drewN_drewN ..⟩
        · have E : Hid (X - Y = vl B64 (us.take j) - vl B64 (vs.take j)) := by
            show X - Y = vl B64 (us.take j) - vl B64 (vs.take j)
            rw [D, hst, hst', g]; omega
          have g1 : ¬ us[j]?.getD 0 < vs[j]?.getD 0 := by omega
          have g2 : ¬ vs[j]?.getD 0 < us[j]?.getD 0 := by omega
          clear D hst hst' g
          go_wp2_with fail
          go_quiet (fail)
          go_wp2_with fail
          go_quiet (fail)
          go_wp2_with fail
          go_roundw
          case rel => exact ⟨j, _, by omega, by go_num, rfl, E⟩
          case measure => simp [intOf]
        · have e : sg X Y = 1 := by
            have := cmp_lt HK.out.2.dg HK.out.1.dg j g
            unfold sg; rw [if_neg (by omega), if_pos (by omega)]
          have E := Lib.hid e
          have g1 : ¬ us[j]?.getD 0 < vs[j]?.getD 0 := by omega
          clear e D hst hst'
          go_wp2_with fail
          go_quiet (fail)
          go_wp2_with fail
          go_quiet (fail)
          go_wp2_with fail
          go_ret
          exact ⟨ret_i64 E.out.symm, _, by rw [World.drewN_drewN, World.drewN_drewN]⟩
  · go_wp2_with fail
    go_ret
    exact ⟨ret_i64 (HGT.out h).symm, 0, rfl⟩

/-- the model's entry for math/bits.Sub64 -/
def sub64E : Array Value → Sem Value := fun args => do
  let (x, y, b) ← Extern.MathBitsCarry.three "Sub64" args
  pure (Extern.MathBitsCarry.pair ((x + Extern.MathBitsCarry.m64 - y - b) % Extern.MathBitsCarry.m64) (if x < y + b then 1 else 0))
theorem run_sub64E {P : Program} (x y b : Nat) (hb : b ≤ 1) (w : World) :
    (sub64E #[.int .u64 x, .int .u64 y, .int .u64 b]).run P w =
      .ok (.tuple #[.int .u64 (((x + 18446744073709551616 - y - b) % 18446744073709551616 : Nat) : Int), .int .u64 ((if x < y + b then 1 else 0 : Nat) : Int)]) w := by
  have : b = 0 ∨ b = 1 := by omega
  rcases this with rfl | rfl <;> rfl
theorem sub64_run (x y b : Int) (hx : 0 ≤ x) (hy : 0 ≤ y) (hx2 : x < B64) (hy2 : y < B64) (hb0 : 0 ≤ b) (hb : b ≤ 1) (w : World) :
    (callFunc 91 #[.int .u64 x, .int .u64 y, .int .u64 b]).run Tryd.prog w = .ok (.value (.tuple #[.int .u64 ((x + B64 - y - b) % B64), .int .u64 (if x < y + b then 1 else 0)])) w := by
  have key : ∀ x y b : Nat, b ≤ 1 → (callFunc 91 #[.int .u64 x, .int .u64 y, .int .u64 b]).run Tryd.prog w = .ok (.value (.tuple #[.int .u64 (((x + 18446744073709551616 - y - b) % 18446744073709551616 : Nat) : Int), .int .u64 ((if x < y + b then 1 else 0 : Nat) : Int)])) w := by
    intro x y b hb
    rw [run_callFunc_extern Tryd.func91 (by kernel_rfl) (by kernel_rfl) (by kernel_rfl) (e := sub64E) (by kernel_rfl), run_sub64E x y b hb]
    rfl
  obtain ⟨X, rfl⟩ := Int.eq_ofNat_of_zero_le hx
  obtain ⟨Y, rfl⟩ := Int.eq_ofNat_of_zero_le hy
  obtain ⟨b, rfl⟩ := Int.eq_ofNat_of_zero_le hb0
  rw [key X Y b (by omega)]
  unfold B64 at *
  have e : ((if X < Y + b then 1 else 0 : Nat) : Int) = if (X : Int) < (Y : Int) + (b : Int) then 1 else 0 := by
    by_cases h : X < Y + b
    · rw [if_pos h, if_pos (by omega)]; rfl
    · rw [if_neg h, if_neg (by omega)]; rfl
  rw [e]
  congr 6
  omega

set_option maxHeartbeats 800000 in
theorem sub_any (A A' : Option Addr) (n n' : Nat) (xs ys : List Int) (c c' : Nat) (w : World) (hr : RdS w .u64 A n xs) (hr' : RdS w .u64 A' n' ys) (hc : n ≤ c) (hc' : n' ≤ c')
    (hsm : n ≤ 1048576) (hsm' : n' ≤ 1048576) (hx : Dg B64 xs) (hy : Dg B64 ys) (hle : vl B64 ys ≤ vl B64 xs) :
    Calls Tryd.prog 80 #[.slice A n c, .slice A' n' c'] w fun e w' => ∃ (zs : List Int) (B : Option Addr),
      e = .returned (.tuple #[.slice B zs.length zs.length, .nilIface]) ∧ RdS w' .u64 B zs.length zs ∧ Can B64 zs (vl B64 xs - vl B64 ys) ∧ Below w.heap.size w w' := by
  have r1 := hr.plain
  have r2 := hr'.plain
  have k1 := pl_can hx
  have k2 := pl_can hy
  have l1 := pl_le xs
  have l2 := pl_le ys
  rw [hr.len] at l1
  rw [hr'.len] at l2
  have p1 := fun w => plain_any A n xs c w
  have p2 := fun w => plain_any A' n' ys c' w
  rw [← k1.val, ← k2.val] at hle ⊢
  have hxs := k1.dg
  have hys := k2.dg
  have hlen : (pl ys).length ≤ (pl xs).length := by
    apply Nat.le_of_not_lt
    intro h
    have := k1.lt_of_len k2 h
    rw [← k1.val, ← k2.val] at this
    omega
  clear k1 k2
  generalize pl xs = us at *
  generalize pl ys = vs at *
  have hsg : 0 ≤ sg (vl B64 us) (vl B64 vs) := by unfold sg; rw [if_neg (by omega)]; split <;> omega
  obtain ⟨p, hp⟩ : ∃ p, p = us.length := ⟨_, rfl⟩
  obtain ⟨q, hq⟩ : ∃ q, q = vs.length := ⟨_, rfl⟩
  rw [← hp] at r1 l1 p1 hlen
  rw [← hq] at r2 l2 p2 hlen
  have hmk := make_num 25 22 .u64 8 Tryd.underlying25 Tryd.info_u64 (by decide) (df B64 us vs) p (by omega)
  have hval := sub_val hxs hys p (by omega) (by omega) hle
  have HV := Lib.hid hval
  have hbw := fun k => bw_bd B64 us vs k
  clear hval hp hq
  have HL := Lib.hid hle
  clear hle
  go_enter Tryd.func80, Tryd.ntmps80
  go_wp2_with fail
  refine (p1 w hr hc (by omega)).mono ?_
  rintro e w' ⟨rfl, rfl⟩
  go_wp2_with fail
  refine (p2 w hr' hc' (by omega)).mono ?_
  rintro e w' ⟨rfl, rfl⟩
  clear p1 p2 hr hr'
  go_wp2_with fail
  refine (cmp_any A A' p q us vs p q w r1 r2 (Nat.le_refl _) (Nat.le_refl _) (by omega) (by omega) hxs hys).mono ?_
  rintro e w1 ⟨rfl, d, hw⟩
  have b1 : Below w.heap.size w w1 := by rw [hw]; exact below_drewN _ _ _
  clear hw
  replace r1 := r1.below b1
  replace r2 := r2.below b1
  generalize sg (vl B64 us) (vl B64 vs) = s at *
  go_wp2_with fail
  have b2 : Below w1.heap.size w1 (w1.alloc (.cells (arrOf .u64 (df B64 us vs) p 0) 22)) := (Below.refl _ _).alloc (Nat.le_refl _) _
  have row0 : Row (w1.alloc (.cells (arrOf .u64 (df B64 us vs) p 0) 22)) w1.heap.size 22 (arrOf .u64 (df B64 us vs) p 0) := Row.new _ _ _
  go_loopw [7, 23] (fun cr i wr => ∃ k : Nat, k ≤ p ∧ i = .int .i64 k ∧ cr = .int .u64 (bw B64 us vs k) ∧ Row wr w1.heap.size 22 (arrOf .u64 (df B64 us vs) p k) ∧ Below w1.heap.size w1 wr) (fun _ i _ => p - (intOf i).toNat)
  case atStart => exact ⟨0, by omega, rfl, rfl, row0, b2⟩
  case round =>
    obtain ⟨k, hk, rfl, rfl, hrow, hbel⟩ := hrel
    have hc2 := hbw k
    have ha := hxs k
    have hb := hys k
    have hsucc := bw_succ B64 us vs k
    have q1 := r1.below hbel
    have q2 := (r2.below hbel).drew
    by_cases hlt : k < p
    · have hsub := sub64_run (us[k]?.getD 0) (vs[k]?.getD 0) (bw B64 us vs k) ha.1 hb.1 ha.2 hb.2 hc2.1 hc2.2
      rw [← hsucc] at hsub
      clear hsucc
      obtain ⟨b, o, rfl, hcell⟩ := q1.cell (by omega)
      replace hcell := hcell k hlt
      have hcur := (hrow.cell k).trans (arrOf_cur .u64 (df B64 us vs) p k hlt)
      have hfr := hrow.frozen k
      have hset : (arrOf .u64 (df B64 us vs) p k).setIfInBounds k (.int .u64 ((us[k]?.getD 0 + B64 - vs[k]?.getD 0 - bw B64 us vs k) % B64)) = arrOf .u64 (df B64 us vs) p (k + 1) := arrOf_set _ _ _ _
      have hnext := hrow.set k (.int .u64 ((us[k]?.getD 0 + B64 - vs[k]?.getD 0 - bw B64 us vs k) % B64))
      rw [hset] at hnext
      have HN := Lib.hid hnext.drew
      have HB := Lib.hid (Below.drew (hbel.setCell (p := ⟨w1.heap.size, k, none⟩) (Nat.le_refl _) (.int .u64 ((us[k]?.getD 0 + B64 - vs[k]?.getD 0 - bw B64 us vs k) % B64))))
      clear hset hnext hbel hrow
      go_wp2_with fail
      go_region_with (go_at_call 89; refine (limb_any A' q vs q k _ q2 (by omega)).mono ?_; rintro e w' ⟨rfl, rfl⟩)
      all_goals
        go_wp2_with fail
        go_roundw
        case rel => exact ⟨k + 1, by omega, by go_num, rfl, HN.out, HB.out⟩
        case measure => simp [intOf]; omega
    · have e : k = p := by omega
      subst e
      have hrd := hrow.rds
      clear hrow hsucc
      go_wp2_with fail
      refine (plain_any _ k _ k _ hrd (Nat.le_refl _) (by omega)).mono ?_
      rintro e w' ⟨rfl, rfl⟩
      go_wp2_with fail
      go_ret2
      have kz := pl_can HV.out.1
      rw [HV.out.2] at kz
      exact ⟨_, some ⟨w1.heap.size, 0, none⟩, rfl, hrd.plain, kz, b1.trans (hbel.mono b1.size)⟩
end Go.Proofs.YtlgecdkidgjgiaaDoor
