/- Whole numbers as values: what each function of the document and of its reference answers, said of the number alone. -/
import Derived.Test.YtlgecdkidgjgiaaDoorRfD
import Derived.Test.YtlgecdkidgjgiaaDoorWhC
namespace Go.Proofs.YtlgecdkidgjgiaaDoor
open Go.RowKit

theorem CanI.uniq {t t' : Bool} {zs ys : List Int} {z : Int} (h : CanI t zs z) (h' : CanI t' ys z) : t = t' ∧ zs = ys :=
  ⟨h.sgn.trans h'.sgn.symm, h.can.uniq h'.can⟩

/-- a value that holds the whole number z in at most k limbs, not always in its one form -/
def IV (w : World) (v : Value) (z : Int) (k : Nat) : Prop :=
  ∃ (t : Bool) (zs : List Int) (B : Option Addr) (d : Nat), v = .agg #[.bool t, .slice B zs.length d] ∧ zs.length ≤ d ∧ RdS w .u64 B zs.length zs ∧ Dg B64 zs ∧ zi t zs = z ∧ zs.length ≤ k
/-- a value that holds the whole number z in its one form -/
def CV (w : World) (v : Value) (z : Int) : Prop :=
  ∃ (t : Bool) (zs : List Int) (B : Option Addr) (d : Nat), v = .agg #[.bool t, .slice B zs.length d] ∧ zs.length ≤ d ∧ RdS w .u64 B zs.length zs ∧ CanI t zs z
/-- a value of the reference that holds the whole number z in its one form -/
def DV (w : World) (v : Value) (z : Int) : Prop :=
  ∃ (t : Bool) (zs : List Int) (B : Option Addr) (d : Nat), v = .agg #[.bool t, .slice B zs.length d] ∧ zs.length ≤ d ∧ RdS w .u32 B zs.length zs ∧ CanD t zs z

theorem on_ {w w1 w2 : World} (b1 : Below w.heap.size w w1) (b2 : Below w1.heap.size w1 w2) : Below w.heap.size w w2 := b1.trans (b2.mono b1.size)
theorem RdS.nil (w : World) (t : IntKind) (A : Option Addr) : RdS w t A 0 [] := ⟨rfl, fun h => absurd h (by omega)⟩
theorem CV.shape {w : World} {v : Value} {z : Int} (h : CV w v z) : ∃ (t : Bool) (B : Option Addr) (n d : Nat), v = .agg #[.bool t, .slice B n d] := by
  obtain ⟨t, zs, B, d, h1, _⟩ := h
  exact ⟨t, B, _, d, h1⟩
theorem IV.below {w w' : World} {v : Value} {z : Int} {k : Nat} (h : IV w v z k) (hb : Below w.heap.size w w') : IV w' v z k := by
  obtain ⟨t, zs, B, d, h1, h2, h3, h4⟩ := h
  exact ⟨t, zs, B, d, h1, h2, h3.below hb, h4⟩
theorem CV.below {w w' : World} {v : Value} {z : Int} (h : CV w v z) (hb : Below w.heap.size w w') : CV w' v z := by
  obtain ⟨t, zs, B, d, h1, h2, h3, h4⟩ := h
  exact ⟨t, zs, B, d, h1, h2, h3.below hb, h4⟩
theorem DV.below {w w' : World} {v : Value} {z : Int} (h : DV w v z) (hb : Below w.heap.size w w') : DV w' v z := by
  obtain ⟨t, zs, B, d, h1, h2, h3, h4⟩ := h
  exact ⟨t, zs, B, d, h1, h2, h3.below hb, h4⟩
theorem IV.sz {w : World} {v : Value} {z : Int} {k : Nat} (h : IV w v z k) : Sz z k := by
  obtain ⟨t, zs, B, d, _, _, _, h4, h5, h6⟩ := h
  rw [← h5]; exact (Sz.of_zi h4).mono h6
theorem CV.iv {w : World} {v : Value} {z : Int} {k : Nat} (h : CV w v z) (hk : Sz z k) : IV w v z k := by
  obtain ⟨t, zs, B, d, h1, h2, h3, h4⟩ := h
  exact ⟨t, zs, B, d, h1, h2, h3, h4.can.dg, h4.zi, h4.len hk⟩

theorem zi_neg_plain {s : Bool} {xs : List Int} (h : Dg B64 xs) : CanI (decide (-(zi s xs) < 0)) (pl xs) (-(zi s xs)) := by
  have := zi_plain (s := !s) h
  rwa [show zi (!s) xs = -(zi s xs) by unfold zi; cases s <;> simp] at this

theorem plainV {v : Value} {z : Int} {k : Nat} {w : World} (h : IV w v z k) (hk : k ≤ 1000) :
    Calls Tryd.prog 58 #[v] w fun e w' => ∃ v', e = .returned v' ∧ CV w' v' z ∧ Below w.heap.size w w' := by
  obtain ⟨t, zs, B, d, rfl, h2, h3, h4, rfl, h6⟩ := h
  refine (wplain_any t B zs.length zs d w h3 h2 (by omega) h4).mono ?_
  rintro e w' ⟨rfl, hb⟩
  exact ⟨_, rfl, ⟨_, _, _, _, rfl, Nat.le_refl _, (h3.below hb).plain, zi_plain h4⟩, hb⟩
theorem signV {v : Value} {z : Int} {k : Nat} {w : World} (h : IV w v z k) (hk : k ≤ 1000) :
    Calls Tryd.prog 56 #[v] w fun e w' => e = .returned (.int .i64 (sgz z)) ∧ Below w.heap.size w w' := by
  obtain ⟨t, zs, B, d, rfl, h2, h3, h4, rfl, h6⟩ := h
  exact wsign_any t B zs.length zs d w h3 h2 (by omega) h4
theorem negV {v : Value} {z : Int} {k : Nat} {w : World} (h : IV w v z k) (hk : k ≤ 1000) :
    Calls Tryd.prog 42 #[v] w fun e w' => ∃ v', e = .returned v' ∧ CV w' v' (-z) ∧ Below w.heap.size w w' := by
  obtain ⟨t, zs, B, d, rfl, h2, h3, h4, rfl, h6⟩ := h
  refine (wneg_any t B zs.length zs d w h3 h2 (by omega) h4).mono ?_
  rintro e w' ⟨rfl, hb⟩
  exact ⟨_, rfl, ⟨_, _, _, _, rfl, Nat.le_refl _, (h3.below hb).plain, zi_neg_plain h4⟩, hb⟩
theorem addV {v v' : Value} {z z' : Int} {k k' : Nat} {w : World} (h : IV w v z k) (h' : IV w v' z' k') (hk : k ≤ 1000) (hk' : k' ≤ 1000) :
    Calls Tryd.prog 53 #[v, v'] w fun e w' => ∃ v', e = .returned v' ∧ CV w' v' (z + z') ∧ Below w.heap.size w w' := by
  obtain ⟨t, zs, B, d, rfl, h2, h3, h4, rfl, h6⟩ := h
  obtain ⟨t', zs', B', d', rfl, g2, g3, g4, rfl, g6⟩ := h'
  refine (wadd_any t t' B B' zs.length zs'.length zs zs' d d' w h3 g3 h2 g2 (by omega) (by omega) h4 g4).mono ?_
  rintro e w' ⟨t1, us, C, rfl, hr, hc, hb⟩
  exact ⟨_, rfl, ⟨_, _, _, _, rfl, Nat.le_refl _, hr, hc⟩, hb⟩
theorem subV {v v' : Value} {z z' : Int} {k k' : Nat} {w : World} (h : IV w v z k) (h' : IV w v' z' k') (hk : k ≤ 1000) (hk' : k' ≤ 1000) :
    Calls Tryd.prog 81 #[v, v'] w fun e w' => ∃ v', e = .returned v' ∧ CV w' v' (z - z') ∧ Below w.heap.size w w' := by
  obtain ⟨t, zs, B, d, rfl, h2, h3, h4, rfl, h6⟩ := h
  obtain ⟨t', zs', B', d', rfl, g2, g3, g4, rfl, g6⟩ := h'
  refine (wsub_any t t' B B' zs.length zs'.length zs zs' d d' w h3 g3 h2 g2 (by omega) (by omega) h4 g4).mono ?_
  rintro e w' ⟨t1, us, C, rfl, hr, hc, hb⟩
  exact ⟨_, rfl, ⟨_, _, _, _, rfl, Nat.le_refl _, hr, hc⟩, hb⟩
theorem cmpV {v v' : Value} {z z' : Int} {k k' : Nat} {w : World} (h : IV w v z k) (h' : IV w v' z' k') (hk : k ≤ 1000) (hk' : k' ≤ 1000) :
    Calls Tryd.prog 54 #[v, v'] w fun e w' => e = .returned (.int .i64 (sgz (z - z'))) ∧ Below w.heap.size w w' := by
  obtain ⟨t, zs, B, d, rfl, h2, h3, h4, rfl, h6⟩ := h
  obtain ⟨t', zs', B', d', rfl, g2, g3, g4, rfl, g6⟩ := h'
  exact wcmp_any t t' B B' zs.length zs'.length zs zs' d d' w h3 g3 h2 g2 (by omega) (by omega) h4 g4
theorem mulV {v v' : Value} {z z' : Int} {k k' : Nat} {w : World} (h : IV w v z k) (h' : IV w v' z' k') (hk : k ≤ 500) (hk' : k' ≤ 500) :
    Calls Tryd.prog 22 #[v, v'] w fun e w' => ∃ v', e = .returned (.tuple #[v', .nilIface]) ∧ CV w' v' (z * z') ∧ Below w.heap.size w w' := by
  obtain ⟨t, zs, B, d, rfl, h2, h3, h4, rfl, h6⟩ := h
  obtain ⟨t', zs', B', d', rfl, g2, g3, g4, rfl, g6⟩ := h'
  refine (wmul_any t t' B B' zs.length zs'.length zs zs' d d' w h3 g3 h2 g2 (by omega) h4 g4).mono ?_
  rintro e w' ⟨t1, us, C, rfl, hr, hc, hb⟩
  exact ⟨_, rfl, ⟨_, _, _, _, rfl, Nat.le_refl _, hr, hc⟩, hb⟩
theorem ofV (v : Int) {w : World} (hv : -9223372036854775808 ≤ v) (hv2 : v ≤ 9223372036854775807) :
    Calls Tryd.prog 55 #[.int .i64 v] w fun e w' => ∃ v', e = .returned v' ∧ CV w' v' v ∧ Below w.heap.size w w' := by
  refine (wof_any v w hv hv2).mono ?_
  rintro e w' ⟨t1, us, C, rfl, hr, hc, hb⟩
  exact ⟨_, rfl, ⟨_, _, _, _, rfl, Nat.le_refl _, hr, hc⟩, hb⟩
theorem sameV {v v' : Value} {z : Int} {k : Nat} {w : World} (h : CV w v z) (h' : CV w v' z) (hz : Sz z k) (hk : k ≤ 1000) :
    Calls Tryd.prog 24 #[v, v'] w fun e w' => e = .returned (.bool true) ∧ Below w.heap.size w w' := by
  obtain ⟨t, zs, B, d, rfl, h2, h3, h4⟩ := h
  obtain ⟨t', zs', B', d', rfl, g2, g3, g4⟩ := h'
  have hl := h4.len hz
  obtain ⟨rfl, rfl⟩ := h4.uniq g4
  exact rsameI_any t B B' zs.length zs d d' w h3 g3 (by omega)
theorem fromV {v : Value} {z : Int} {k : Nat} {w : World} (h : IV w v z k) (hk : k ≤ 1000) :
    Calls Tryd.prog 26 #[v] w fun e w' => ∃ v', e = .returned v' ∧ DV w' v' z ∧ Below w.heap.size w w' := by
  obtain ⟨t, zs, B, d, rfl, h2, h3, h4, rfl, h6⟩ := h
  refine (rfrom_any t B zs.length zs d w h3 (by omega) h4).mono ?_
  rintro e w' ⟨t1, us, C, d1, rfl, hd, hr, hc, hb⟩
  exact ⟨_, rfl, ⟨_, _, _, _, rfl, hd, hr, hc⟩, hb⟩
theorem toV {v : Value} {z : Int} {k : Nat} {w : World} (h : DV w v z) (hz : Sz z k) (hk : k ≤ 1000) :
    Calls Tryd.prog 25 #[v] w fun e w' => ∃ v', e = .returned v' ∧ CV w' v' z ∧ Below w.heap.size w w' := by
  obtain ⟨t, zs, B, d, rfl, h2, h3, h4⟩ := h
  have hl := h4.len (Sd.of_sz hz (Nat.le_refl _))
  refine (rto_any t B zs.length zs d z w h3 h2 (by omega) h4).mono ?_
  rintro e w' ⟨us, C, d1, rfl, hd, hr, hc, hb⟩
  exact ⟨_, rfl, ⟨_, _, _, _, rfl, hd, hr, hc⟩, hb⟩
theorem signD {v : Value} {z : Int} {k : Nat} {w : World} (h : DV w v z) (hz : Sz z k) (hk : k ≤ 1000) :
    Calls Tryd.prog 49 #[v] w fun e w' => e = .returned (.int .i64 (sgz z)) ∧ Below w.heap.size w w' := by
  obtain ⟨t, zs, B, d, rfl, h2, h3, h4⟩ := h
  have hl := h4.len (Sd.of_sz hz (Nat.le_refl _))
  exact rsign_any t B zs.length zs d z w h3 (by omega) h4
theorem negD {v : Value} {z : Int} {k : Nat} {w : World} (h : DV w v z) (hz : Sz z k) (hk : k ≤ 1000) :
    Calls Tryd.prog 45 #[v] w fun e w' => ∃ v', e = .returned v' ∧ DV w' v' (-z) ∧ Below w.heap.size w w' := by
  obtain ⟨t, zs, B, d, rfl, h2, h3, h4⟩ := h
  have hl := h4.len (Sd.of_sz hz (Nat.le_refl _))
  refine (rneg_any t B zs.length zs d z w h3 h2 (by omega) h4).mono ?_
  rintro e w' ⟨t1, rfl, hc, hb⟩
  exact ⟨_, rfl, ⟨_, _, _, _, rfl, h2, h3.below hb, hc⟩, hb⟩
theorem addD {v v' : Value} {z z' : Int} {k k' : Nat} {w : World} (h : DV w v z) (h' : DV w v' z') (hz : Sz z k) (hz' : Sz z' k') (hk : k ≤ 1000) (hk' : k' ≤ 1000) :
    Calls Tryd.prog 44 #[v, v'] w fun e w' => ∃ v', e = .returned v' ∧ DV w' v' (z + z') ∧ Below w.heap.size w w' := by
  obtain ⟨t, zs, B, d, rfl, h2, h3, h4⟩ := h
  obtain ⟨t', zs', B', d', rfl, g2, g3, g4⟩ := h'
  have hl := h4.len (Sd.of_sz hz (Nat.le_refl _))
  have hl' := g4.len (Sd.of_sz hz' (Nat.le_refl _))
  refine (radd2_any t t' B B' zs.length zs'.length zs zs' d d' z z' w h3 g3 h2 g2 (by omega) (by omega) h4 g4).mono ?_
  rintro e w' ⟨t1, us, C, d1, rfl, hd, hr, hc, hb⟩
  exact ⟨_, rfl, ⟨_, _, _, _, rfl, hd, hr, hc⟩, hb⟩
theorem subD {v v' : Value} {z z' : Int} {k k' : Nat} {w : World} (h : DV w v z) (h' : DV w v' z') (hz : Sz z k) (hz' : Sz z' k') (hk : k ≤ 1000) (hk' : k' ≤ 1000) :
    Calls Tryd.prog 13 #[v, v'] w fun e w' => ∃ v', e = .returned v' ∧ DV w' v' (z - z') ∧ Below w.heap.size w w' := by
  obtain ⟨t, zs, B, d, rfl, h2, h3, h4⟩ := h
  obtain ⟨t', zs', B', d', rfl, g2, g3, g4⟩ := h'
  have hl := h4.len (Sd.of_sz hz (Nat.le_refl _))
  have hl' := g4.len (Sd.of_sz hz' (Nat.le_refl _))
  refine (rsub2_any t t' B B' zs.length zs'.length zs zs' d d' z z' w h3 g3 h2 g2 (by omega) (by omega) h4 g4).mono ?_
  rintro e w' ⟨t1, us, C, d1, rfl, hd, hr, hc, hb⟩
  exact ⟨_, rfl, ⟨_, _, _, _, rfl, hd, hr, hc⟩, hb⟩
theorem cmpD {v v' : Value} {z z' : Int} {k k' : Nat} {w : World} (h : DV w v z) (h' : DV w v' z') (hz : Sz z k) (hz' : Sz z' k') (hk : k ≤ 1000) (hk' : k' ≤ 1000) :
    Calls Tryd.prog 67 #[v, v'] w fun e w' => e = .returned (.int .i64 (sgz (z - z'))) ∧ Below w.heap.size w w' := by
  obtain ⟨t, zs, B, d, rfl, h2, h3, h4⟩ := h
  obtain ⟨t', zs', B', d', rfl, g2, g3, g4⟩ := h'
  have hl := h4.len (Sd.of_sz hz (Nat.le_refl _))
  have hl' := g4.len (Sd.of_sz hz' (Nat.le_refl _))
  exact rcmp2_any t t' B B' zs.length zs'.length zs zs' d d' z z' w h3 g3 h2 g2 (by omega) (by omega) h4 g4
theorem smallD (v : Int) {w : World} (hv : -9223372036854775808 ≤ v) (hv2 : v ≤ 9223372036854775807) :
    Calls Tryd.prog 66 #[.int .i64 v] w fun e w' => ∃ v', e = .returned v' ∧ DV w' v' v ∧ Below w.heap.size w w' := by
  refine (rsmall_any v w hv hv2).mono ?_
  rintro e w' ⟨t1, us, C, d1, rfl, hd, hr, hc, hb⟩
  exact ⟨_, rfl, ⟨_, _, _, _, rfl, hd, hr, hc⟩, hb⟩
end Go.Proofs.YtlgecdkidgjgiaaDoor
