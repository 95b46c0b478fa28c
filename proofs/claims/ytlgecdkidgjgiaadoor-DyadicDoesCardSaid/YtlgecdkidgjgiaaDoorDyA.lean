/- The walks of layer 6's first functions: a product with a power of two; may it be; a number made plain. -/
import Derived.Test.YtlgecdkidgjgiaaDoorTz
import Derived.Test.YtlgecdkidgjgiaaDoorLwB
namespace Go.Proofs.YtlgecdkidgjgiaaDoor
open Go.RowKit

/-- A block that holds no number of the kind. -/
def NoInt (k : IntKind) (arr : Array Value) : Prop := ∀ (j : Nat) (z : Int), arr[j]? ≠ some (Value.int k z)
theorem RdS.setB {w : World} {k : IntKind} {A : Option Addr} {n : Nat} {xs : List Int} (h : RdS w k A n xs) {g : Nat} {e : TypeId} {arr : Array Value} (hb : Row w g e arr) (hn : NoInt k arr) (j : Nat) (u : Value) : RdS (w.setCell ⟨g, j, none⟩ u) k A n xs := by
  refine ⟨h.len, fun h0 => ?_⟩
  obtain ⟨b, o, e, hc⟩ := h.cell h0
  refine ⟨b, o, e, fun i hi => ?_⟩
  have h1 := hc i hi
  by_cases hbg : b = g
  · subst hbg
    rw [hb.cell] at h1
    exact (hn _ _ h1).elim
  · rw [World.cell?_of_block (Below.heap_setCell _ _ _ _ (by exact hbg))]; exact h1
theorem noInt2 (b : Bool) (A : Option Addr) (n c : Nat) (k : IntKind) : NoInt k #[.bool b, .slice A n c] := by
  intro j z
  match j with
  | 0 => simp
  | 1 => simp
  | j + 2 => simp
theorem noInt3 (b : Bool) (A : Option Addr) (n c : Nat) (e : Int) : NoInt .u64 #[.bool b, .slice A n c, .int .i64 e] := by
  intro j z
  match j with
  | 0 => simp
  | 1 => simp
  | 2 => simp
  | j + 3 => simp
/-- A store into a box of a dyadic number leaves a slice of numbers as it was. -/
theorem RdS.set3 {w : World} {A : Option Addr} {n : Nat} {xs : List Int} (h : RdS w .u64 A n xs) {g : Nat} {e : TypeId} {b0 : Bool} {a0 : Option Addr} {n0 c0 : Nat} {e0 : Int} (hb : Row w g e #[.bool b0, .slice a0 n0 c0, .int .i64 e0]) (b1 : Bool) (a1 : Option Addr) (n1 c1 : Nat) (u2 : Value) :
    RdS (((w.setCell ⟨g, 0, none⟩ (.bool b1)).setCell ⟨g, 1, none⟩ (.slice a1 n1 c1)).setCell ⟨g, 2, none⟩ u2) .u64 A n xs := by
  have r1 := hb.set 0 (.bool b1)
  have r2 := r1.set 1 (.slice a1 n1 c1)
  exact ((h.setB hb (noInt3 _ _ _ _ _) 0 _).setB r1 (noInt3 _ _ _ _ _) 1 _).setB r2 (noInt3 _ _ _ _ _) 2 _
theorem box3_facts {w : World} {g : Nat} {e : TypeId} {v0 v1 v2 : Value} (h : Row w g e #[v0, v1, v2]) :
    w.cell? ⟨g, 0, none⟩ = some v0 ∧ w.cell? ⟨g, 1, none⟩ = some v1 ∧ w.cell? ⟨g, 2, none⟩ = some v2 ∧ w.frozen? ⟨g, 0, none⟩ = false ∧ w.frozen? ⟨g, 1, none⟩ = false ∧ w.frozen? ⟨g, 2, none⟩ = false :=
  ⟨by rw [h.cell]; rfl, by rw [h.cell]; rfl, by rw [h.cell]; rfl, h.frozen 0, h.frozen 1, h.frozen 2⟩
theorem box3_set {w : World} {g : Nat} {e : TypeId} {v0 v1 v2 : Value} (h : Row w g e #[v0, v1, v2]) (u0 u1 u2 : Value) : Row (((w.setCell ⟨g, 0, none⟩ u0).setCell ⟨g, 1, none⟩ u1).setCell ⟨g, 2, none⟩ u2) g e #[u0, u1, u2] := ((h.set 0 u0).set 1 u1).set 2 u2

theorem ret_res {A : Option Addr} {s s' : Bool} {n m c d : Nat} {e e' : Int} {v : Value} (h : s = s') (h' : n = m) (h2 : c = d) (h3 : e = e') :
    Ending.returned (.tuple #[.agg #[.bool s, .slice A n c, .int .i64 e], v]) = Ending.returned (.tuple #[.agg #[.bool s', .slice A m d, .int .i64 e'], v]) := by rw [h, h', h2, h3]

set_option maxHeartbeats 1600000 in
theorem wshl_any (s : Bool) (A : Option Addr) (n : Nat) (xs : List Int) (c N : Nat) (w : World) (hr : RdS w .u64 A n xs) (hc : n ≤ c)
    (hsm : n ≤ 1024) (hN : N ≤ 65536) (hx : Dg B64 xs) :
    Calls Tryd.prog 23 #[.agg #[.bool s, .slice A n c], .int .i64 N] w fun e w' => ∃ (t : Bool) (zs : List Int) (B : Option Addr),
      e = .returned (.tuple #[.agg #[.bool t, .slice B zs.length zs.length], .nilIface]) ∧ RdS w' .u64 B zs.length zs ∧ CanI t zs (2 ^ N * zi s xs) ∧ Below w.heap.size w w' := by
  have hval : ∀ (zs : List Int), Can B64 zs (2 ^ N * vl B64 xs) → zi s zs = 2 ^ N * zi s xs := fun zs kz => by
    unfold zi; rw [kz.val]; cases s <;> simp <;> grind
  have hlen : ∀ (zs : List Int), Can B64 zs (2 ^ N * vl B64 xs) → zs.length ≤ 3072 := fun zs kz => by
    have h1 : Sz (vl B64 xs) 1024 := (Sz.vl hx).mono (by rw [hr.len]; exact hsm)
    have h2 := h1.shl (N := N) (j := 1024) (by omega)
    exact Can.len kz (h2.mono (by decide))
  have HV := Lib.hid hval
  have HL := Lib.hid hlen
  clear hval hlen
  go_enter Tryd.func23, Tryd.ntmps23
  go_wp2_with fail
  obtain ⟨ra, rc, hw⟩ := new2 w 27 27 #[.bool s, .slice A n c] #[.bool false, .slice none 0 0]
  generalize ((w.alloc (.cells #[.bool s, .slice A n c] 27)).alloc (.cells #[.bool false, .slice none 0 0] 27)) = W at *
  refine (shl_any A n xs c N _ (hr.below hw) hc hsm hN hx).mono ?_
  rintro e w1 ⟨zs, B, rfl, rz, kz, b1⟩
  have hl := HL.out zs kz
  have KZ := Lib.hid kz
  clear kz
  have ra1 := ra.belowR b1
  have rc1 := rc.belowR b1
  have ha1 := box_facts ra1
  go_wp2_with fail
  refine (wplain_any s B zs.length zs zs.length _ rz (Nat.le_refl _) (by omega) KZ.out.dg).mono ?_
  rintro e w2 ⟨rfl, b2⟩
  have rc2 := rc1.belowR b2
  have hc2 := box_facts rc2
  go_wp2_with fail
  have hpz : pl zs = zs := pl_of_can KZ.out
  have kz := zi_plain (s := s) KZ.out.dg
  rw [HV.out zs KZ.out, hpz] at kz
  have rz2 := (rz.below b2).set2 rc2 (.bool (decide (zi s zs < 0))) (.slice B (pl zs).length (pl zs).length)
  have hb2 := (((hw.trans (b1.mono hw.size)).trans (b2.mono (Nat.le_trans hw.size b1.size))).setCell (p := ⟨w.heap.size + 1, 0, none⟩) (by simp) (.bool (decide (zi s zs < 0)))).setCell (p := ⟨w.heap.size + 1, 1, none⟩) (by simp) (.slice B (pl zs).length (pl zs).length)
  exact bodyPost_ret (v := .tuple #[.agg #[.bool (decide (zi s zs < 0)), .slice B (pl zs).length (pl zs).length], .nilIface]) (by simp [results, Tryd.results23, go_sem, hc2]) rfl ⟨_, zs, B, ret_agg2 (by rw [HV.out zs KZ.out]) (by rw [hpz]) (by rw [hpz]), rz2, kz, hb2⟩

set_option maxHeartbeats 800000 in
theorem wshl_range (s : Bool) (A : Option Addr) (n : Nat) (xs : List Int) (c : Nat) (N : Int) (w : World) (hr : RdS w .u64 A n xs) (hc : n ≤ c)
    (hsm : n ≤ 16777216) (hN : N < 0 ∨ 65536 < N) :
    Calls Tryd.prog 23 #[.agg #[.bool s, .slice A n c], .int .i64 N] w fun e w' =>
      e = .returned (.tuple #[.agg #[.bool false, .slice none 0 0], .iface 74 (.int .i64 7)]) ∧ Below w.heap.size w w' := by
  go_enter Tryd.func23, Tryd.ntmps23
  go_wp2_with fail
  obtain ⟨ra, rc, hw⟩ := new2 w 27 27 #[.bool s, .slice A n c] #[.bool false, .slice none 0 0]
  generalize ((w.alloc (.cells #[.bool s, .slice A n c] 27)).alloc (.cells #[.bool false, .slice none 0 0] 27)) = W at *
  refine (shl_range A n xs c N _ (hr.below hw) hc hsm hN).mono ?_
  rintro e w1 ⟨rfl, rfl⟩
  have hc2 := box_facts rc
  go_wp2_with fail
  have hb2 := (hw.setCell (p := ⟨w.heap.size + 1, 0, none⟩) (by simp) (.bool false)).setCell (p := ⟨w.heap.size + 1, 1, none⟩) (by simp) (.slice none 0 0)
  exact bodyPost_ret (v := .tuple #[.agg #[.bool false, .slice none 0 0], .iface 74 (.int .i64 7)]) (by simp [results, Tryd.results23, go_sem, hc2]) rfl ⟨rfl, hb2⟩

theorem ret_bool {a b : Bool} (h : a = b) : Ending.returned (.bool a) = Ending.returned (.bool b) := by rw [h]
theorem pl_le_iff {xs : List Int} (h : Dg B64 xs) (s : Bool) (k : Nat) : (pl xs).length ≤ k ↔ Sz (zi s xs) k := by
  have kz := pl_can h
  have e : ((zi s xs).natAbs : Int) = vl B64 xs := by
    have := (vl_bd h).1
    unfold zi; cases s <;> simp <;> omega
  unfold Sz
  rw [e]
  constructor
  · intro hk
    have := (vl_bd kz.dg).2
    rw [kz.val] at this
    exact Int.lt_of_lt_of_le this (pow_mono hk)
  · intro hk
    exact kz.len_le k hk

set_option maxHeartbeats 800000 in
theorem may_any (s : Bool) (A : Option Addr) (n : Nat) (xs : List Int) (c : Nat) (e : Int) (w : World) (hr : RdS w .u64 A n xs) (hc : n ≤ c) (hsm : n ≤ 1048576) (hx : Dg B64 xs) :
    Calls Tryd.prog 43 #[.agg #[.bool s, .slice A n c, .int .i64 e]] w fun ev w' => ev = .returned (.bool (decide (May (zi s xs) e))) ∧ Below w.heap.size w w' := by
  have hpl := pl_le_iff hx s 256
  have hd : decide (May (zi s xs) e) = (decide (-16384 ≤ e) && decide (e ≤ 16384) && decide ((pl xs).length ≤ 256)) := by
    rw [Bool.eq_iff_iff, decide_eq_true_iff]
    simp only [Bool.and_eq_true, decide_eq_true_iff, hpl]
    unfold May
    exact ⟨fun h => ⟨⟨h.1, h.2.1⟩, h.2.2⟩, fun h => ⟨h.1.1, h.1.2, h.2⟩⟩
  rw [hd]
  clear hd hpl
  have p1 := fun w => plain_any A n xs c w
  have hl : (pl xs).length ≤ 1048576 := by have := pl_le xs; have := hr.len; omega
  generalize (pl xs).length = p at *
  by_cases h1 : -16384 ≤ e
  · by_cases h2 : e ≤ 16384
    · go_enter Tryd.func43, Tryd.ntmps43
      go_wp2_with fail
      refine (p1 _ (hr.alloc _) hc (by omega)).mono ?_
      rintro ev w' ⟨rfl, rfl⟩
      go_wp2_with fail
      go_ret
      exact ⟨ret_bool (by simp [h1, h2]; omega), al_ _ _⟩
    · go_enter Tryd.func43, Tryd.ntmps43
      go_wp2_with fail
      go_ret
      exact ⟨ret_bool (by simp; omega), al_ _ _⟩
  · go_enter Tryd.func43, Tryd.ntmps43
    go_wp2_with fail
    go_ret
    exact ⟨ret_bool (by simp; omega), al_ _ _⟩
end Go.Proofs.YtlgecdkidgjgiaaDoor
