/- The walks of what tells how many twos a number has: math/bits.TrailingZeros64 (its table read as laid), dyadic.twos. -/
import Derived.Test.YtlgecdkidgjgiaaDoorShR
namespace Go.Proofs.YtlgecdkidgjgiaaDoor
open Go.RowKit

/-- The table of math/bits lies as it was laid. -/
def TabOk (w : World) : Prop := ∀ j : Nat, j < 64 → w.cell? ⟨1, j, none⟩ = some (.int .u8 (tab64[j]?.getD 0))
theorem TabOk.lt {w : World} (h : TabOk w) : 1 < w.heap.size := World.block_lt_of_cell? w _ (h 0 (by decide))
theorem TabOk.below {w w' : World} (h : TabOk w) (hb : Below w.heap.size w w') : TabOk w' := fun j hj => (hb.cell (p := ⟨1, j, none⟩) h.lt).trans (h j hj)

theorem nat_odd {q : Nat} (h : q % 2 = 1) : q = 2 * (q / 2) + 1 := by omega
theorem tz_bits {x : Int} (h0 : 0 < x) (h1 : x < 18446744073709551616) : bits .and .u64 x (18446744073709551616 - x) = (2 : Int) ^ tz x.natAbs ∧ tz x.natAbs < 64 := by
  obtain ⟨q, e, hq⟩ := tz_nat x.natAbs (by omega)
  have hx : x.toNat = x.natAbs := by omega
  have hn : tz x.natAbs < 64 := by
    apply Nat.lt_of_not_le
    intro h
    have h2 : 2 ^ 64 ≤ 2 ^ tz x.natAbs := Nat.pow_le_pow_right (by decide) h
    have : 1 * 2 ^ tz x.natAbs ≤ q * 2 ^ tz x.natAbs := Nat.mul_le_mul_right _ (by omega)
    omega
  refine ⟨?_, hn⟩
  rw [u64_and _ _ (by omega) (by omega) (by omega) (by omega), hx, show (18446744073709551616 - x).toNat = 18446744073709551616 - x.natAbs by omega]
  have e2 := e
  rw [nat_odd hq] at e2
  rw [and_neg x.natAbs (tz x.natAbs) (q / 2) e2 (by omega)]
  push_cast
  rfl
theorem tab_idx {n : Nat} (h : n < 64) : ∃ i : Nat, i < 64 ∧ IntKind.u64.wrap ((2 : Int) ^ n * 285870213051353865) / 288230376151711744 = (i : Int) ∧ tab64[i]?.getD 0 = (n : Int) := by
  have a : tab64[2 ^ n * 285870213051353865 % 18446744073709551616 / 288230376151711744]? = some (n : Int) := tab64_at ⟨n, h⟩
  refine ⟨2 ^ n * 285870213051353865 % 18446744073709551616 / 288230376151711744, ?_, ?_, by rw [a]; rfl⟩
  · generalize 2 ^ n * 285870213051353865 = z
    have := Nat.mod_lt z (show 0 < 18446744073709551616 by decide)
    omega
  · rw [wrap_u64]
    unfold B64
    rw [Int.natCast_ediv, Int.natCast_emod, Int.natCast_mul, Int.natCast_pow]
    rfl

set_option maxRecDepth 100000 in
set_option maxHeartbeats 800000 in
theorem tz64_any (x : Int) (w : World) (h0 : 0 < x) (h1 : x < 18446744073709551616) (ht : TabOk w) :
    Calls Tryd.prog 69 #[.int .u64 x] w fun e w' => e = .returned (.int .i64 (tz x.natAbs : Int)) ∧ w = w' := by
  obtain ⟨e1, hn⟩ := tz_bits h0 h1
  generalize tz x.natAbs = n at *
  obtain ⟨i, hi, e2, e3⟩ := tab_idx hn
  have hcell := ht i hi
  rw [e3] at hcell
  clear e3 ht
  have hx : (x == 0) = false := by simp; omega
  have hneg : IntKind.u64.wrap (-x) = 18446744073709551616 - x := by rw [wrap_u64]; unfold B64; omega
  go_enter Tryd.func69, Tryd.ntmps69
  go_wp2_with fail
  go_ret
  exact ⟨rfl, rfl⟩

theorem sm_zero {b : Int} {f : Nat → Int} {n : Nat} (h : ∀ j, j < n → f j = 0) : sm b f n = 0 := by
  induction n with
  | zero => rfl
  | succ n ih => simp only [sm]; rw [ih (fun j hj => h j (by omega)), h n (by omega)]; simp
theorem vl_cons0 (b : Int) (xs : List Int) : vl b xs = xs[0]?.getD 0 + b * vl b (xs.drop 1) := by
  cases xs with
  | nil => simp [vl]
  | cons x xs => simp [vl]
theorem vl_split (b : Int) (xs : List Int) (i : Nat) (h : ∀ j, j < i → xs[j]?.getD 0 = 0) : vl b xs = b ^ i * (xs[i]?.getD 0 + b * vl b (xs.drop (i + 1))) := by
  have e0 : vl b (xs.take i) = 0 := by rw [vl_take]; exact sm_zero h
  have e1 := vl_cons0 b (xs.drop i)
  rw [List.getElem?_drop, List.drop_drop, Nat.add_zero] at e1
  rw [← e1]
  by_cases hl : i ≤ xs.length
  · have := vl_append b (xs.take i) (xs.drop i)
    rw [List.take_append_drop, List.length_take, Nat.min_eq_left hl, e0, Int.zero_add] at this
    exact this
  · rw [List.take_of_length_le (by omega)] at e0
    rw [e0, List.drop_eq_nil_of_le (by omega)]; simp [vl]
theorem tz_first {xs : List Int} (hd : Dg B64 xs) (i : Nat) (h : ∀ j, j < i → xs[j]?.getD 0 = 0) (hi : xs[i]?.getD 0 ≠ 0) : tz (vl B64 xs).natAbs = 64 * i + tz (xs[i]?.getD 0).natAbs := by
  have e := vl_split B64 xs i h
  have b := hd i
  have ht := (tz_bits (x := xs[i]?.getD 0) (by omega) b.2).2
  have tw := tz_twos hi
  generalize xs[i]?.getD 0 = x at *
  generalize vl B64 (xs.drop (i + 1)) = r at *
  generalize tz x.natAbs = t at *
  generalize x / 2 ^ t = o at *
  have e64 : B64 = 2 ^ t * (2 * 2 ^ (63 - t)) := by
    rw [B64_two' t (by omega), show 64 - t = (63 - t) + 1 by omega, Int.pow_succ']
  have key : Twos (vl B64 xs) (64 * i + t) (o + 2 * (2 ^ (63 - t) * r)) := by
    refine ⟨?_, by have := tw.odd; omega⟩
    rw [e, Int.pow_add, Int.pow_mul, show (2 : Int) ^ 64 = B64 from rfl, tw.eq]
    generalize B64 ^ i = z
    rw [e64]
    generalize (2 : Int) ^ t = u
    generalize (2 : Int) ^ (63 - t) = v
    grind
  exact ((key.uniq (tz_twos key.ne)).1).symm

set_option maxHeartbeats 800000 in
theorem twos_any (A : Option Addr) (n : Nat) (xs : List Int) (c : Nat) (w : World) (hr : RdS w .u64 A n xs) (hsm : n ≤ 1048576) (hx : Dg B64 xs) (hnz : vl B64 xs ≠ 0) (ht : TabOk w) :
    Calls Tryd.prog 70 #[.slice A n c] w fun e w' => e = .returned (.int .i64 (tz (vl B64 xs).natAbs : Int)) ∧ w = w' := by
  have hex : ∀ i : Nat, i ≤ n → (∀ j, j < i → xs[j]?.getD 0 = 0) → i < n := by
    intro i hi h
    apply Classical.byContradiction
    intro hlt
    apply hnz
    rw [vl_split B64 xs i h, List.getElem?_eq_none (by have := hr.len; omega), List.drop_eq_nil_of_le (by have := hr.len; omega)]
    simp [vl]
  have hfirst := fun i => tz_first hx i
  have HE := Lib.hid hex
  have HF := Lib.hid hfirst
  clear hex hfirst hnz
  generalize tz (vl B64 xs).natAbs = N at *
  go_enter Tryd.func70, Tryd.ntmps70
  go_wp2_with fail
  go_loop [3] (fun m => ∃ k : Nat, k ≤ n ∧ m = .int .i64 k ∧ Hid (∀ j, j < k → xs[j]?.getD 0 = 0)) (fun m => n - (intOf m).toNat)
  case atStart => exact ⟨0, by omega, rfl, fun j hj => absurd hj (by omega)⟩
  case round =>
    obtain ⟨k, hk, rfl, hd⟩ := hrel
    have hlt := HE.out k hk hd.out
    have hb := hx k
    obtain ⟨b, o, rfl, hcell⟩ := hr.cell (by omega)
    replace hcell := hcell k hlt
    by_cases hz : xs[k]?.getD 0 = 0
    · have HN : Hid (∀ j, j < k + 1 → xs[j]?.getD 0 = 0) := fun j hj => by
        by_cases e : j = k
        · subst e; exact hz
        · exact hd.out j (by omega)
      clear hd
      rw [hz] at hcell
      clear hz hb
      go_wp2_with fail
      go_round
      case rel => exact ⟨k + 1, by omega, by go_num, HN⟩
      case measure => simp [intOf]; omega
    · have hN := HF.out k hd.out hz
      have hz' : (xs[k]?.getD 0 == 0) = false := by simpa using hz
      have hT := (tz_bits (x := xs[k]?.getD 0) (by omega) hb.2).2
      have t1 := fun w ht => tz64_any (xs[k]?.getD 0) w (by omega) hb.2 ht
      clear hd hz hb
      generalize tz (xs[k]?.getD 0).natAbs = t at *
      go_wp2_with fail
      refine (t1 w ht).mono ?_
      rintro e w' ⟨rfl, rfl⟩
      go_wp2_with fail
      go_ret
      exact ⟨ret_i64 (by rw [hN]; push_cast; rfl), rfl⟩
end Go.Proofs.YtlgecdkidgjgiaaDoor
