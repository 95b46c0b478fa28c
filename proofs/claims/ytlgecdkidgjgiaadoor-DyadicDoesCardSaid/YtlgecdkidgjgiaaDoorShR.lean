/- The walks of what is moved by bits in the program: nat.Shl out of its bounds, nat.Shr. -/
import Derived.Test.YtlgecdkidgjgiaaDoorShW
namespace Go.Proofs.YtlgecdkidgjgiaaDoor
open Go.RowKit

theorem Own.set {w : World} {base g n c : Nat} {e : TypeId} {t : IntKind} {xs : List Int} (h : Own w base e t (.slice (some ⟨g, 0, none⟩) n c) xs) (j : Nat) (y : Int) :
    Own (w.setCell ⟨g, j, none⟩ (.int t y)) base e t (.slice (some ⟨g, 0, none⟩) n c) (xs.set j y) := by
  obtain ⟨h1, h2⟩ := h
  rcases h2 with ⟨hv, hn⟩ | ⟨g', cap, cur, hv, h3, h4, h5, h6, h7, h8⟩
  · cases hv
  · simp only [Value.slice.injEq, Option.some.injEq, Addr.mk.injEq, and_true] at hv
    obtain ⟨rfl, hn, rfl⟩ := hv
    refine ⟨by simp, .inr ⟨g, c, cur.setIfInBounds j (.int t y), by simp [hn], h3, ?_, by simpa using h5, h6, by simpa using h7, ?_⟩⟩
    · simp [World.setCell, Array.getElem?_modify, h4]
    · rw [List.map_set, ← h8, Array.toList_setIfInBounds, List.length_set, List.take_set]
theorem Own.free {w : World} {base g n c : Nat} {e : TypeId} {t : IntKind} {xs : List Int} (h : Own w base e t (.slice (some ⟨g, 0, none⟩) n c) xs) (j : Nat) : w.frozen? ⟨g, j, none⟩ = false := by
  obtain ⟨h1, h2⟩ := h
  rcases h2 with ⟨hv, hn⟩ | ⟨g', cap, cur, hv, h3, h4, h5⟩
  · cases hv
  · simp only [Value.slice.injEq, Option.some.injEq, Addr.mk.injEq, and_true] at hv
    obtain ⟨rfl, hn, rfl⟩ := hv
    simp [World.frozen?, h4]
theorem RdS.drop {w : World} {k : IntKind} {b o n : Nat} {xs : List Int} (h : RdS w k (some ⟨b, o, none⟩) n xs) (m : Nat) : RdS w k (some ⟨b, o + m, none⟩) (n - m) (xs.drop m) := by
  refine ⟨by simp [h.len], fun hn => ⟨b, o + m, rfl, fun j hj => ?_⟩⟩
  obtain ⟨b', o', e, hc⟩ := h.cell (by omega)
  injection e with e
  injection e with e1 e2
  subst e1 e2
  have := hc (m + j) (by omega)
  rw [List.getElem?_drop, ← this, Nat.add_assoc]
/-- the first k are moved, the others aren't -/
def mix (f : Nat → Int) (ys : List Int) (k : Nat) : List Int := rowOf f k ++ ys.drop k
theorem mix_zero (f : Nat → Int) (ys : List Int) : mix f ys 0 = ys := by simp [mix, rowOf]
theorem mix_length {f : Nat → Int} {ys : List Int} {k : Nat} (h : k ≤ ys.length) : (mix f ys k).length = ys.length := by simp [mix, rowOf]; omega
theorem mix_at {f : Nat → Int} {ys : List Int} {k j : Nat} (h : k ≤ j) : (mix f ys k)[j]?.getD 0 = ys[j]?.getD 0 := by
  unfold mix
  rw [List.getElem?_append_right (by rw [rowOf_length]; exact h), rowOf_length, List.getElem?_drop, show k + (j - k) = j by omega]
theorem mix_set {f : Nat → Int} {ys : List Int} {k : Nat} (h : k < ys.length) : (mix f ys k).set k (f k) = mix f ys (k + 1) := by
  unfold mix
  rw [List.set_append_right _ _ (by rw [rowOf_length]; exact Nat.le_refl _), rowOf_length, Nat.sub_self, List.drop_eq_getElem_cons h, List.set_cons_zero, rowOf_succ, List.append_assoc]
  rfl
theorem mix_end (f : Nat → Int) (ys : List Int) : mix f ys ys.length = rowOf f ys.length := by simp [mix]

set_option maxHeartbeats 800000 in
theorem shl_range (A : Option Addr) (n : Nat) (xs : List Int) (c : Nat) (N : Int) (w : World) (hr : RdS w .u64 A n xs) (hc : n ≤ c) (hsm : n ≤ 16777216) (hN : N < 0 ∨ 65536 < N) :
    Calls Tryd.prog 59 #[.slice A n c, .int .i64 N] w fun e w' => e = .returned (.tuple #[.slice none 0 0, .iface 74 (.int .i64 7)]) ∧ w = w' := by
  rcases hN with h | h
  · go_enter Tryd.func59, Tryd.ntmps59
    go_wp2_with fail
    refine (plain_any A n xs c w hr hc hsm).mono ?_
    rintro e w' ⟨rfl, rfl⟩
    go_wp2_with fail
    go_ret2
    exact ⟨rfl, rfl⟩
  · have h0 : ¬ N < 0 := by omega
    go_enter Tryd.func59, Tryd.ntmps59
    go_wp2_with fail
    refine (plain_any A n xs c w hr hc hsm).mono ?_
    rintro e w' ⟨rfl, rfl⟩
    go_wp2_with fail
    go_ret2
    exact ⟨rfl, rfl⟩

theorem shr_run {P : Program} (x : Int) (r : Nat) (hr : r < 64) (yk : IntKind) (w : World) : (Op.shift .shr .u64 x yk (r : Int)).run P w = .ok (.int .u64 (x / 2 ^ r)) w := by
  rw [shift_shr_any _ _ _ _ (by omega)]
  simp [IntKind.bits, Nat.min_eq_left (Nat.le_of_lt hr)]
theorem shl_run {P : Program} (x : Int) (r : Nat) (hr : r < 64) (yk : IntKind) (w : World) : (Op.shift .shl .u64 x yk (r : Int)).run P w = .ok (.int .u64 (IntKind.u64.wrap (x * 2 ^ r))) w := by
  rw [shift_shl_any _ _ _ _ (by omega)]
  simp [IntKind.bits, Nat.min_eq_left (Nat.le_of_lt hr)]
theorem tmod_nat {N m r : Nat} (h : N % m = r) : (N : Int).tmod (m : Int) = (r : Int) := by
  rw [Int.tmod_eq_emod_of_nonneg (by omega), ← Int.natCast_emod, h]
theorem wrap_i64_in {z : Int} (h0 : -9223372036854775808 ≤ z) (h1 : z ≤ 9223372036854775807) : IntKind.i64.wrap z = z := by
  rw [IntKind.wrap_i64]; omega

set_option maxRecDepth 100000 in
set_option maxHeartbeats 1600000 in
theorem shr_any (A : Option Addr) (n : Nat) (xs : List Int) (c N : Nat) (w : World) (hr : RdS w .u64 A n xs) (hc : n ≤ c) (hsm : n ≤ 1048576) (hN : N ≤ 1152921504606846976) (hx : Dg B64 xs) :
    Calls Tryd.prog 71 #[.slice A n c, .int .i64 N] w fun e w' => ∃ (zs : List Int) (B : Option Addr),
      e = .returned (.slice B zs.length zs.length) ∧ RdS w' .u64 B zs.length zs ∧ Can B64 zs (vl B64 xs / 2 ^ N) ∧ Below w.heap.size w w' := by
  have r1 := hr.plain
  have k1 := pl_can hx
  have l1 := pl_le xs
  rw [hr.len] at l1
  have p1 := fun w => plain_any A n xs c w
  rw [← k1.val]
  have hxs := k1.dg
  clear k1
  generalize pl xs = us at *
  obtain ⟨p, hp⟩ : ∃ p, p = us.length := ⟨_, rfl⟩
  rw [← hp] at r1 l1 p1
  obtain ⟨q, hq⟩ : ∃ q, q = N / 64 := ⟨_, rfl⟩
  obtain ⟨r, hrr⟩ : ∃ r, r = N % 64 := ⟨_, rfl⟩
  have hr64 : r < 64 := by omega
  have hq' : (N : Int) / 64 = (q : Int) := by omega
  have hr' : (N : Int) % 64 = (r : Int) := by omega
  have hqb : q ≤ 1152921504606846976 := by omega
  have htm : (N : Int).tmod 64 = (r : Int) := tmod_nat (m := 64) hrr.symm
  have hw2 : IntKind.i64.wrap (63 - (r : Int)) = ((63 - r : Nat) : Int) := by rw [wrap_i64_in (by omega) (by omega)]; omega
  have hmax := fun ats ty w => max_run ats ty N 0 N (by omega) w
  have hfin := dn_val (r := r) (by omega) hxs q
  rw [show 64 * q + r = N by omega, List.length_drop, ← hp] at hfin
  have HF := Lib.hid hfin
  have HP := Lib.hid hp
  clear hfin hp hq hrr
  by_cases hpq : p ≤ q
  · have h0 : vl B64 us / 2 ^ N = 0 := by
      rw [← HF.out.2, show p - q = 0 by omega]; rfl
    rw [h0]
    clear h0
    go_enter Tryd.func71, Tryd.ntmps71
    go_wp2_with fail
    refine (p1 w hr hc (by omega)).mono ?_
    rintro e w' ⟨rfl, rfl⟩
    clear p1 hr
    go_wp2_with fail
    go_ret
    exact ⟨[], none, rfl, ⟨rfl, fun h => absurd h (by simp)⟩, Can.nil (by decide), Below.refl _ _⟩
  · obtain ⟨b, o, rfl, hcell0⟩ := r1.cell (by omega)
    have r2 := r1.drop q
    clear hcell0
    obtain ⟨m, hm⟩ : ∃ m, p - q = m := ⟨_, rfl⟩
    rw [hm] at r2
    go_enter Tryd.func71, Tryd.ntmps71
    go_wp2_with fail
    refine (p1 w hr hc (by omega)).mono ?_
    rintro e w' ⟨rfl, rfl⟩
    clear p1 hr
    go_wp2_with fail
    refine (clone_any (some ⟨b, o + q, none⟩) m (us.drop q) w r2 (by omega)).mono ?_
    rintro e w1 ⟨v, rfl, ho, hb⟩
    have hlen : (us.drop q).length = m := by rw [List.length_drop, ← HP.out]; exact hm
    have hys := hxs.drop q
    have HF2 := Lib.hid HF.out
    rw [hm] at HF2
    clear HF r2
    generalize us.drop q = ys at *
    obtain ⟨g, c3, rfl, hc3, hg, hrd⟩ := ho.opened m hlen (by omega)
    clear hrd
    have HL := Lib.hid hlen
    clear hlen
    have hm2 : m ≤ 1048576 := by omega
    have hm0 : 0 < m := by omega
    have HM := Lib.hid hm
    clear hm
    go_wp2_with fail
    go_loopw [23] (fun i wr => ∃ k : Nat, k ≤ m ∧ i = .int .i64 k ∧ Own wr w.heap.size 22 .u64 (.slice (some ⟨g, 0, none⟩) m c3) (mix (dn r ys) ys k) ∧ Below w.heap.size w wr) (fun i _ => m - (intOf i).toNat)
    case atStart => exact ⟨0, by omega, rfl, by rw [mix_zero]; exact ho, hb⟩
    case round =>
      clear ho hb
      obtain ⟨k, hk, rfl, ho, hb⟩ := hrel
      have hml : (mix (dn r ys) ys k).length = m := by rw [mix_length (by have := HL.out; omega)]; exact HL.out
      by_cases hlt : k < m
      · obtain ⟨g', c', hv', -, -, hrd⟩ := ho.opened m hml (by omega)
        simp only [Value.slice.injEq, Option.some.injEq, Addr.mk.injEq, and_true, true_and] at hv'
        obtain ⟨rfl, rfl⟩ := hv'
        have hcur := hrd.at0 k hlt
        rw [mix_at (Nat.le_refl k)] at hcur
        have hfr := ho.free k
        have hlimb := limb_any (some ⟨g, 0, none⟩) m (mix (dn r ys) ys k) c3 (k + 1) wr.drew hrd.drew (by omega)
        rw [mix_at (by omega)] at hlimb
        have hw1 : IntKind.i64.wrap ((k : Int) + 1) = (k : Int) + 1 := wrap_i64_in (by omega) (by omega)
        have hs1 := fun yk w => shr_run (P := Tryd.prog) (ys[k]?.getD 0) r hr64 yk w
        have hs2 := fun yk w => shl_run (P := Tryd.prog) (IntKind.u64.wrap (ys[k + 1]?.getD 0 * 2)) (63 - r) (by omega) yk w
        have hor : bits .or .u64 (ys[k]?.getD 0 / 2 ^ r) (IntKind.u64.wrap (IntKind.u64.wrap (ys[k + 1]?.getD 0 * 2) * 2 ^ (63 - r))) = dn r ys k := by
          rw [wrap_u64, wrap_u64, dn_hi hr64]
          exact dn_or (by omega) hys k
        have hset : (mix (dn r ys) ys k).set k (dn r ys k) = mix (dn r ys) ys (k + 1) := mix_set (by have := HL.out; omega)
        have ho2 := ho.set k (dn r ys k)
        rw [hset] at ho2
        have HO := Lib.hid ho2.drew
        have HB := Lib.hid (Below.drew (hb.setCell (p := ⟨g, k, none⟩) hg (.int .u64 (dn r ys k))))
        clear hset ho2 ho hb hrd hml
        go_wp2_with fail
        go_region_with (go_at_call 89; refine hlimb.mono ?_; rintro e w' ⟨rfl, rfl⟩)
        all_goals
          go_wp2_with fail
          go_roundw
          case rel => exact ⟨k + 1, by omega, by go_num, HO.out, HB.out⟩
          case measure => simp [intOf]; omega
      · have e : k = m := by omega
        subst e
        obtain ⟨g', c', hv', hc', -, hrd⟩ := ho.opened k hml (by omega)
        simp only [Value.slice.injEq, Option.some.injEq, Addr.mk.injEq, and_true, true_and] at hv'
        obtain ⟨rfl, rfl⟩ := hv'
        have hme : mix (dn r ys) ys k = rowOf (dn r ys) k := by have := mix_end (dn r ys) ys; rwa [HL.out] at this
        rw [hme] at hrd
        clear ho hme hml
        go_wp2_with fail
        refine (plain_any _ k _ c3 _ hrd hc' (by omega)).mono ?_
        rintro e w' ⟨rfl, rfl⟩
        go_wp2_with fail
        go_ret
        have kz := pl_can HF2.out.1
        rw [HF2.out.2] at kz
        exact ⟨_, some ⟨g, 0, none⟩, rfl, hrd.plain, kz, hb⟩
end Go.Proofs.YtlgecdkidgjgiaaDoor
