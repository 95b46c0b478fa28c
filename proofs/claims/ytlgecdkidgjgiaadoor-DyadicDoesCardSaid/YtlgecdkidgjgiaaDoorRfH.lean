/- The walk of the reference's halving, on digits of 16 bits. -/
import Derived.Test.YtlgecdkidgjgiaaDoorRfG
import Derived.Test.YtlgecdkidgjgiaaDoorShR
namespace Go.Proofs.YtlgecdkidgjgiaaDoor
open Go.RowKit

/-- digit k of a number that is halved -/
def hf (xs : List Int) (k : Nat) : Int := (xs[k + 1]?.getD 0 % 2 * 65536 + xs[k]?.getD 0) / 2
theorem hf_step (xs : List Int) (k : Nat) : 2 * hf xs k = xs[k]?.getD 0 - xs[k]?.getD 0 % 2 + 65536 * (xs[k + 1]?.getD 0 % 2) := by
  unfold hf; omega
theorem hf_bd {xs : List Int} (h : Dg 65536 xs) (k : Nat) : 0 ≤ hf xs k ∧ hf xs k < 65536 := by
  have := h k
  unfold hf; omega
theorem hf_sum (xs : List Int) (k : Nat) : 2 * sm 65536 (hf xs) k = vl 65536 (xs.take k) - xs[0]?.getD 0 % 2 + 65536 ^ k * (xs[k]?.getD 0 % 2) := by
  induction k with
  | zero => simp [sm, vl]; omega
  | succ k ih =>
    have e := hf_step xs k
    rw [vl_take_succ]
    show 2 * (sm 65536 (hf xs) k + hf xs k * 65536 ^ k) = _
    rw [Int.pow_succ]
    generalize xs[k + 1]?.getD 0 % 2 = c at *
    generalize hf xs k = u at *
    grind
theorem hf_val {xs : List Int} (h : Dg 65536 xs) : Dg 65536 (rowOf (hf xs) xs.length) ∧ vl 65536 (rowOf (hf xs) xs.length) = vl 65536 xs / 2 := by
  refine ⟨Dg.rowOf (by decide) fun j _ => hf_bd h j, ?_⟩
  rw [vl_rowOf]
  have e := hf_sum xs xs.length
  rw [List.take_length, List.getElem?_eq_none (Nat.le_refl _)] at e
  simp only [Option.getD_none, Int.zero_emod, Int.mul_zero, Int.add_zero] at e
  have y0 : vl 65536 xs % 2 = xs[0]?.getD 0 % 2 := by
    cases xs with
    | nil => simp [vl]
    | cons y ys => simp only [vl, List.getElem?_cons_zero, Option.getD_some]; omega
  omega
/-- those from k on are moved, the others aren't -/
def mixT (f : Nat → Int) (ys : List Int) (k : Nat) : List Int := ys.take k ++ (rowOf f ys.length).drop k
theorem mixT_length {f : Nat → Int} {ys : List Int} {k : Nat} (h : k ≤ ys.length) : (mixT f ys k).length = ys.length := by simp [mixT, rowOf]; omega
theorem mixT_at {f : Nat → Int} {ys : List Int} {k j : Nat} (h : j < k) (hk : k ≤ ys.length) : (mixT f ys k)[j]?.getD 0 = ys[j]?.getD 0 := by
  unfold mixT
  rw [List.getElem?_append_left (by simp; omega), List.getElem?_take_of_lt h]
theorem mixT_end (f : Nat → Int) (ys : List Int) : mixT f ys ys.length = ys := by simp [mixT, rowOf]
theorem mixT_zero (f : Nat → Int) (ys : List Int) : mixT f ys 0 = rowOf f ys.length := by simp [mixT]
theorem mixT_set {f : Nat → Int} {ys : List Int} {k : Nat} (h : k < ys.length) : (mixT f ys (k + 1)).set k (f k) = mixT f ys k := by
  apply List.ext_getElem?
  intro j
  unfold mixT
  rw [List.getElem?_set]
  by_cases e : k = j
  · subst e
    rw [if_pos rfl, if_pos (by simp [rowOf]; omega), List.getElem?_append_right (by simp; omega), List.getElem?_drop]
    have e1 : k + (k - (List.take k ys).length) = k := by simp; omega
    rw [e1]
    simp [rowOf, h]
  · rw [if_neg e]
    by_cases h1 : j < k
    · rw [List.getElem?_append_left (by simp; omega), List.getElem?_append_left (by simp; omega), List.getElem?_take_of_lt (by omega), List.getElem?_take_of_lt h1]
    · rw [List.getElem?_append_right (by simp; omega), List.getElem?_append_right (by simp; omega), List.getElem?_drop, List.getElem?_drop]
      congr 1
      simp; omega

set_option maxRecDepth 100000 in
set_option maxHeartbeats 3200000 in
theorem rshr1_any (A : Option Addr) (n : Nat) (xs : List Int) (c : Nat) (w : World) (hr : RdS w .u32 A n xs) (hc : n ≤ c) (hsm : n ≤ 1048576) (h0 : 0 < n) (hx : Dg 65536 xs) :
    Calls Tryd.prog 50 #[.slice A n c, .int .i64 1] w fun e w' => ∃ (zs : List Int) (B : Option Addr) (d : Nat),
      e = .returned (.slice B zs.length d) ∧ zs.length ≤ d ∧ RdS w' .u32 B zs.length zs ∧ Can 65536 zs (vl 65536 xs / 2) ∧ Below w.heap.size w w' := by
  obtain ⟨b, o, rfl, hcell0⟩ := hr.cell h0
  clear hcell0
  have hv := hf_val hx
  have hbd := fun k => hf_bd hx k
  have HL := Lib.hid hr.len
  have HV := Lib.hid hv
  clear hv
  go_enter Tryd.func50, Tryd.ntmps50
  have ho := Own.empty w 80 .u32
  have hr1 := hr.alloc (.cells #[] 80)
  have hb1 := al' w (.cells #[] 80)
  go_wp2_with (at_builtin; refine append_nums w.heap.size rfl (.tmp 15) (.tmp 19) 35 80 .u32 4 rfl Tryd.underlying35 Tryd.info_u32 (by decide) _ [] ⟨b, o, none⟩ n c xs rfl rfl ho hr1 hb1 (by simp) (by simp; omega) ?_; intro v1 w1 hown1 hbel1; obtain ⟨g, c1, rfl, hc1, hg, hrd⟩ := hown1.opened n (by have := HL.out; simpa using this) h0)
  clear ho hr1 hb1 hrd
  rw [List.nil_append] at hown1
  go_loopw [6, 7, 8, 9] (fun i _ _ _ wr => ∃ (k : Nat) (L : List Int), k ≤ 1 ∧ i = .int .i64 k ∧ (k = 0 ∧ L = xs ∨ k = 1 ∧ L = rowOf (hf xs) xs.length) ∧ Own wr w.heap.size 80 .u32 (.slice (some ⟨g, 0, none⟩) n c1) L ∧ Below w.heap.size w wr) (fun i _ _ _ _ => 1 - (intOf i).toNat)
  case atStart => exact ⟨0, xs, by omega, rfl, .inl ⟨rfl, rfl⟩, hown1, hbel1⟩
  case round =>
    clear hown1 hbel1
    obtain ⟨k, L, hk, rfl, hcase, hown, hbel⟩ := hrel
    rcases hcase with ⟨rfl, rfl⟩ | ⟨rfl, rfl⟩
    · have hx0 : L[n]?.getD 0 = 0 := by rw [List.getElem?_eq_none (by have := HL.out; omega)]; rfl
      have HX0 := Lib.hid hx0
      clear hx0
      go_wp2_with fail
      go_loopw [7, 8, 9] (fun lo kk _ wr => ∃ j : Nat, j ≤ n ∧ kk = .int .i64 ((j : Int) - 1) ∧ lo = .int .u32 (L[j]?.getD 0 % 2) ∧ Own wr w.heap.size 80 .u32 (.slice (some ⟨g, 0, none⟩) n c1) (mixT (hf L) L j) ∧ Below w.heap.size w wr) (fun _ kk _ _ => (intOf kk + 1).toNat)
      case atStart => exact ⟨n, Nat.le_refl _, rfl, by rw [HX0.out]; rfl, by have := mixT_end (hf L) L; rw [HL.out] at this; rw [this]; exact hown, hbel⟩
      case round =>
        clear hown hbel
        obtain ⟨j, hj, rfl, rfl, hown, hbel⟩ := hrel
        cases j with
        | zero =>
          have hend := mixT_zero (hf L) L
          rw [hend] at hown
          clear hend
          go_wp2_with fail
          go_roundw
          case rel => exact ⟨1, _, by omega, by go_num, .inr ⟨rfl, rfl⟩, hown, hbel⟩
          case measure => simp [intOf]
        | succ j =>
          have hml : (mixT (hf L) L (j + 1)).length = n := by rw [mixT_length (by have := HL.out; omega)]; exact HL.out
          obtain ⟨g', c', hv', -, -, hrd⟩ := hown.opened n hml (by omega)
          simp only [Value.slice.injEq, Option.some.injEq, Addr.mk.injEq, and_true, true_and] at hv'
          obtain ⟨rfl, rfl⟩ := hv'
          have hcur := hrd.at0 j (by omega)
          rw [mixT_at (by omega) (by have := HL.out; omega)] at hcur
          have hfr := hown.free j
          have hxj := hx j
          have hlo : 0 ≤ L[j + 1]?.getD 0 % 2 ∧ L[j + 1]?.getD 0 % 2 ≤ 1 := by omega
          have hh : (L[j + 1]?.getD 0 % 2 * 65536 + L[j]?.getD 0) / 2 = hf L j := rfl
          have hl2 : (L[j + 1]?.getD 0 % 2 * 65536 + L[j]?.getD 0) % 2 = L[j]?.getD 0 % 2 := by omega
          have hb := hbd j
          have ho2 := hown.set j (hf L j)
          rw [mixT_set (by have := HL.out; omega)] at ho2
          have HO := Lib.hid ho2
          have HB := Lib.hid (hbel.setCell (p := ⟨g, j, none⟩) hg (.int .u32 (hf L j)))
          generalize L[j + 1]?.getD 0 % 2 = lo at *
          clear ho2 hown hbel hrd hml
          go_wp2_with fail
          go_roundw
          case rel => exact ⟨j, by omega, by go_num, by rw [hl2], HO.out, HB.out⟩
          case measure => simp [intOf]
    · have hl : (rowOf (hf xs) xs.length).length = n := by rw [rowOf_length]; exact HL.out
      obtain ⟨g', c', hv', hc', -, hrd⟩ := hown.opened n hl h0
      simp only [Value.slice.injEq, Option.some.injEq, Addr.mk.injEq, and_true, true_and] at hv'
      obtain ⟨rfl, rfl⟩ := hv'
      clear hown hl
      go_wp2_with fail
      refine (rtrim_any _ n _ c1 _ hrd hc' (by omega)).mono ?_
      rintro e w' ⟨rfl, rfl⟩
      go_wp2_with fail
      go_ret
      have kz := pl_can HV.out.1
      rw [HV.out.2] at kz
      exact ⟨_, some ⟨g, 0, none⟩, c1, rfl, pl_cap hrd.len hc', hrd.plain, kz, hbel⟩
end Go.Proofs.YtlgecdkidgjgiaaDoor
