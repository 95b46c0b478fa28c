/- Words that the walks of this claim share: a slice of whole numbers that is read; a row of numbers that is filled. -/
import Derived.Test.YtlgecdkidgjgiaaDoorProg
import Derived.Test.YtlgecdkidgjgiaaDoorNum
import Derived.WalkKit
import Derived.WalkLawsBesides
import Derived.WalkSpells
import Derived.KernelRfl
import Derived.Deep.QuietTactic
import Derived.BigQuiet
import Derived.Lib.Hide
import Derived.Deep.RegionWith
import Derived.Deep.RegionHeld3
import Derived.Deep.RegionLaw
import Derived.StillTailTactics
import Derived.Deep.AppendLies
import Derived.Deep.DeepCutAuto
import Derived.Deep.LoopGhost
import Derived.Deep.DeepFit
import Derived.Laws.MakeOwn
import Derived.Deep.OwnRows
namespace Go.Proofs.YtlgecdkidgjgiaaDoor
open Go.RowKit

/-- The slice value '.slice A n c' reads as the numbers xs, of the kind k. -/
structure RdS (w : World) (k : IntKind) (A : Option Addr) (n : Nat) (xs : List Int) : Prop where
  len : xs.length = n
  cell : 0 < n → ∃ b o, A = some ⟨b, o, none⟩ ∧ ∀ j, j < n → w.cell? ⟨b, o + j, none⟩ = some (.int k (xs[j]?.getD 0))

theorem RdS.below {w w' : World} {k : IntKind} {A : Option Addr} {n : Nat} {xs : List Int} (h : RdS w k A n xs) (hb : Below w.heap.size w w') : RdS w' k A n xs :=
  ⟨h.len, fun hn => by
    obtain ⟨b, o, e, hc⟩ := h.cell hn
    exact ⟨b, o, e, fun j hj => (hb.cell (World.block_lt_of_cell? w _ (hc j hj))).trans (hc j hj)⟩⟩
theorem RdS.alloc {w : World} {k : IntKind} {A : Option Addr} {n : Nat} {xs : List Int} (h : RdS w k A n xs) (o : Obj) : RdS (w.alloc o) k A n xs :=
  h.below ((Below.refl _ _).alloc (Nat.le_refl _) o)
theorem RdS.drew {w : World} {k : IntKind} {A : Option Addr} {n : Nat} {xs : List Int} (h : RdS w k A n xs) : RdS w.drew k A n xs := h.below (Below.refl _ _).drew
theorem RdS.drewN {w : World} {k : IntKind} {A : Option Addr} {n : Nat} {xs : List Int} (h : RdS w k A n xs) (m : Nat) : RdS (w.drewN m) k A n xs := h.below ⟨rfl, rfl, rfl, Nat.le_refl _, fun _ _ => rfl⟩
theorem RdS.plain {w : World} {k : IntKind} {A : Option Addr} {n : Nat} {xs : List Int} (h : RdS w k A n xs) : RdS w k A (pl xs).length (pl xs) := by
  refine ⟨rfl, fun h0 => ?_⟩
  have hl := h.len
  have hd := down_le xs xs.length
  rw [pl_length] at h0 ⊢
  obtain ⟨b, o, e, hc⟩ := h.cell (by omega)
  refine ⟨b, o, e, fun j hj => ?_⟩
  rw [hc j (by omega)]
  unfold Go.Proofs.YtlgecdkidgjgiaaDoor.pl
  rw [List.getElem?_take_of_lt hj]
theorem RdS.take {w : World} {k : IntKind} {A : Option Addr} {n : Nat} {xs : List Int} (h : RdS w k A n xs) (m : Nat) (hm : m ≤ n) : RdS w k A m (xs.take m) := by
  refine ⟨by have := h.len; simp; omega, fun h0 => ?_⟩
  obtain ⟨b, o, e, hc⟩ := h.cell (by omega)
  refine ⟨b, o, e, fun j hj => ?_⟩
  rw [hc j (by omega), List.getElem?_take_of_lt hj]

/-- A row of n cells, of which the first k are filled. -/
def arrOf (t : IntKind) (f : Nat → Int) (n k : Nat) : Array Value := ((List.range n).map fun j => Value.int t (if j < k then f j else 0)).toArray
theorem arrOf_get (t : IntKind) (f : Nat → Int) (n k j : Nat) (h : j < n) : (arrOf t f n k)[j]? = some (.int t (if j < k then f j else 0)) := by
  simp [arrOf, List.getElem?_range h]
theorem arrOf_cur (t : IntKind) (f : Nat → Int) (n k : Nat) (h : k < n) : (arrOf t f n k)[k]? = some (.int t 0) := by
  rw [arrOf_get _ _ _ _ _ h, if_neg (Nat.lt_irrefl k)]
theorem arrOf_size (t : IntKind) (f : Nat → Int) (n k : Nat) : (arrOf t f n k).size = n := by simp [arrOf]
theorem arrOf_set (t : IntKind) (f : Nat → Int) (n k : Nat) : (arrOf t f n k).setIfInBounds k (.int t (f k)) = arrOf t f n (k + 1) := by
  apply Array.ext
  · simp [arrOf]
  · intro i h1 h2
    simp [arrOf] at h2
    rw [Array.getElem_setIfInBounds (by simpa [arrOf] using h2)]
    by_cases e : k = i
    · subst e; simp [arrOf]
    · simp only [e, if_false]
      simp only [arrOf, List.getElem_toArray, List.getElem_map, List.getElem_range]
      congr 1
      by_cases h3 : i < k
      · rw [if_pos h3, if_pos (by omega)]
      · rw [if_neg h3, if_neg (by omega)]
theorem arrOf_zero (t : IntKind) (f : Nat → Int) (n : Nat) : madeCells #[.int t 0] n = arrOf t f n 0 := by
  apply Array.ext
  · simp [arrOf, madeCells]
  · intro i h1 h2
    simp [arrOf, madeCells, Nat.mod_one]
theorem arrOf_rds (w : World) (t : IntKind) (f : Nat → Int) (n : Nat) (e : TypeId) : RdS (w.alloc (.cells (arrOf t f n n) e)) t (some ⟨w.heap.size, 0, none⟩) n (rowOf f n) := by
  refine ⟨rowOf_length _ _, fun _ => ⟨_, _, rfl, fun j hj => ?_⟩⟩
  rw [World.cell?_alloc_at _ _ _ _ rfl, Nat.zero_add, arrOf_get _ _ _ _ _ hj]
  simp [rowOf, hj]

/-- numbers as cells -/
def nums (t : IntKind) (row : List Int) : Array Value := (row.map (Value.int t)).toArray
theorem nums_get (t : IntKind) (row : List Int) (j : Nat) (h : j < row.length) : (nums t row)[j]? = some (.int t (row[j]?.getD 0)) := by
  simp [nums, List.getElem?_eq_getElem h]
theorem nums_set (t : IntKind) (row : List Int) (j : Nat) (v : Int) : (nums t row).setIfInBounds j (.int t v) = nums t (row.set j v) := by
  simp [nums, List.map_set]
theorem nums_size (t : IntKind) (row : List Int) : (nums t row).size = row.length := by simp [nums]
theorem nums_zero (t : IntKind) (f : Nat → Int) (n : Nat) : arrOf t f n 0 = nums t (List.replicate n 0) := by
  apply Array.ext
  · simp [arrOf, nums]
  · intro i h1 h2
    simp [arrOf, nums]
/-- Block g is a row of cells of the call's own. -/
structure Row (w : World) (g : Nat) (e : TypeId) (arr : Array Value) : Prop where
  blk : w.heap[g]? = some (.cells arr e (0, 0))
theorem Row.cell {w : World} {g : Nat} {e : TypeId} {arr : Array Value} (h : Row w g e arr) (j : Nat) : w.cell? ⟨g, j, none⟩ = arr[j]? := by simp [World.cell?, h.blk]
theorem Row.frozen {w : World} {g : Nat} {e : TypeId} {arr : Array Value} (h : Row w g e arr) (j : Nat) : w.frozen? ⟨g, j, none⟩ = false := by simp [World.frozen?, h.blk]
theorem Row.lt {w : World} {g : Nat} {e : TypeId} {arr : Array Value} (h : Row w g e arr) : g < w.heap.size := (Array.getElem?_eq_some_iff.1 h.blk).1
theorem Row.below {w w' : World} {g B : Nat} {e : TypeId} {arr : Array Value} (h : Row w g e arr) (hb : Below B w w') (hg : g < B) : Row w' g e arr := ⟨(hb.block g hg).trans h.blk⟩
theorem Row.new (w : World) (e : TypeId) (arr : Array Value) : Row (w.alloc (.cells arr e)) w.heap.size e arr := ⟨by show (w.heap.push _)[w.heap.size]? = _; simp⟩
theorem Row.set {w : World} {g : Nat} {e : TypeId} {arr : Array Value} (h : Row w g e arr) (j : Nat) (v : Value) : Row (w.setCell ⟨g, j, none⟩ v) g e (arr.setIfInBounds j v) := by
  refine ⟨?_⟩
  simp [World.setCell, Array.getElem?_modify, h.blk]
theorem Row.drew {w : World} {g : Nat} {e : TypeId} {arr : Array Value} (h : Row w g e arr) : Row w.drew g e arr := ⟨h.blk⟩
theorem Row.drewN {w : World} {g : Nat} {e : TypeId} {arr : Array Value} (h : Row w g e arr) (m : Nat) : Row (w.drewN m) g e arr := ⟨h.blk⟩
theorem Row.rds {w : World} {g n : Nat} {e : TypeId} {t : IntKind} {f : Nat → Int} (h : Row w g e (arrOf t f n n)) : RdS w t (some ⟨g, 0, none⟩) n (rowOf f n) := by
  refine ⟨rowOf_length _ _, fun _ => ⟨_, _, rfl, fun j hj => ?_⟩⟩
  rw [h.cell, Nat.zero_add, arrOf_get _ _ _ _ _ hj]
  simp [rowOf, hj]
theorem Row.reads {w : World} {g : Nat} {e : TypeId} {t : IntKind} {row : List Int} (h : Row w g e (nums t row)) (n : Nat) (hn : row.length = n) : RdS w t (some ⟨g, 0, none⟩) n row := by
  refine ⟨hn, fun _ => ⟨_, _, rfl, fun j hj => ?_⟩⟩
  rw [h.cell, Nat.zero_add, nums_get _ _ _ (by omega)]
theorem bcell {W w1 : World} (hb : Below W.heap.size W w1) : (∀ b o, b < W.heap.size → w1.cell? ⟨b, o, none⟩ = W.cell? ⟨b, o, none⟩) ∧ (∀ b o, b < W.heap.size → w1.frozen? ⟨b, o, none⟩ = W.frozen? ⟨b, o, none⟩) :=
  ⟨fun b o h => hb.cell (p := ⟨b, o, none⟩) h, fun b o h => hb.frozen (p := ⟨b, o, none⟩) h⟩
theorem below_drewN (w : World) (B m : Nat) : Below B w (w.drewN m) := ⟨rfl, rfl, rfl, Nat.le_refl _, fun _ _ => rfl⟩
theorem RdS.lt {w : World} {k : IntKind} {b o n : Nat} {xs : List Int} (h : RdS w k (some ⟨b, o, none⟩) n xs) (hn : 0 < n) : b < w.heap.size := by
  obtain ⟨b', o', e, hc⟩ := h.cell hn
  have : b' < w.heap.size := World.block_lt_of_cell? w _ (hc 0 hn)
  injection e with e
  injection e with e1
  omega
/-- A slice that the call appends to: it owns the numbers xs. -/
def Own (w : World) (base : Nat) (e : TypeId) (t : IntKind) (v : Value) (xs : List Int) : Prop := w.ownsRow base e 1 v xs.length (xs.map (Value.int t))
theorem Own.nil (w : World) (base : Nat) (e : TypeId) (t : IntKind) : Own w base e t (.slice none 0 0) [] := ⟨by simp, .inl ⟨rfl, rfl⟩⟩
theorem Own.drew {w : World} {base : Nat} {e : TypeId} {t : IntKind} {v : Value} {xs : List Int} (h : Own w base e t v xs) : Own w.drew base e t v xs := h
theorem Own.below {w w' : World} {base : Nat} {e : TypeId} {t : IntKind} {v : Value} {xs : List Int} (h : Own w base e t v xs) (hb : Below w.heap.size w w') : Own w' base e t v xs :=
  World.ownsRow.kept (row := none) h ⟨hb.os, hb.tape, hb.output, hb.size, fun k hk _ => hb.block k hk⟩ (by cases v.ownBlock <;> simp)
theorem Own.rds {w : World} {base : Nat} {e : TypeId} {t : IntKind} {v : Value} {xs : List Int} (h : Own w base e t v xs) : ∃ A c, v = .slice A xs.length c ∧ xs.length ≤ c ∧ RdS w t A xs.length xs := by
  obtain ⟨h1, h2⟩ := h
  rcases h2 with ⟨hv, hn⟩ | ⟨g, cap, cur, hv, hb, hg, hc, _, hsz, ht⟩
  · exact ⟨none, 0, by rw [hv, hn], by omega, rfl, fun h0 => absurd h0 (by omega)⟩
  · refine ⟨_, cap, hv, hc, rfl, fun _ => ⟨g, 0, rfl, fun j hj => ?_⟩⟩
    have e1 : w.cell? ⟨g, 0 + j, none⟩ = cur[j]? := by simp [World.cell?, hg]
    rw [e1]
    have e2 : (cur.toList.take (xs.length * 1))[j]? = cur.toList[j]? := List.getElem?_take_of_lt (by omega)
    rw [← Array.getElem?_toList, ← e2, ht, List.getElem?_map, List.getElem?_eq_getElem hj]
    rfl
/-- append(v, y): behind 'at_builtin'. -/
theorem append_num {P : Program} {ops : Array Oper} {rest : List Oper} {o : Oper} {a : Act} {Q : Exit → Act → World → Prop} {w0 W : World} (base : Nat) (hgd : o.guard = none) (s x : Operand) (t e : TypeId) (k : IntKind) (bytes : Nat)
    (ho : o.op = .call { callee := .builtin .append, args := #[s, x], argTypes := #[t, t] })
    (ht : P.underlying t = some (.slice e)) (hinfo : (P.info? e).map (fun i => (i.zero, i.size, i.bytes)) = some (some (.int k 0), 1, bytes)) (hb0 : 0 < bytes)
    (v : Value) (xs : List Int) (y : Int) (hs : a.eval s = v) (hx : a.eval x = .slice (some ⟨W.heap.size, 0, none⟩) 1 1)
    (HO : Own W base e k v xs) (HB : Below base w0 W) (hbase : base ≤ W.heap.size) (hl : (xs.length + 1) * bytes ≤ 140737488355328)
    (h : ∀ v1 w1, Own w1 base e k v1 (xs ++ [y]) → Below base w0 w1 → wpList P ops Q rest (a.put o.dst v1) w1) :
    wpList P ops Q (o :: rest) a (W.alloc (.cells #[.int k y] e)) := by
  obtain ⟨i0, hi, hz⟩ := Option.map_eq_some_iff.1 hinfo
  simp only [Prod.mk.injEq] at hz
  have hlen : xs.length + 1 ≤ 140737488355328 := Nat.le_trans (Nat.le_mul_of_pos_right _ hb0) hl
  have hcell : (W.alloc (.cells #[.int k y] e)).cell? ⟨W.heap.size, 0, none⟩ = some (.int k y) := by rw [World.cell?_alloc_at _ _ _ _ rfl]; rfl
  refine wpList_append_own (W.alloc (.cells #[.int k y] e)) hgd s x t ho base e i0 (.int k 0) 1 bytes ht hi hz.1 hz.2.1 hz.2.2 rfl (by omega) v xs.length (xs.map (Value.int k)) hs (World.ownsRow.alloc HO _) ⟨W.heap.size, 0, none⟩ 1 1 [.int k y] hx rfl
    (fun j u hu => by
      cases j with
      | zero => simp at hu; subst hu; exact hcell
      | succ j => simp at hu) (by simp [Value.oneCell']) (by simp only [maxLen]; omega) hl (by simp; omega) ?_
  intro v1 w1 hown hg _
  refine h v1 w1 (by unfold Own; simpa using hown) ((HB.alloc hbase _).grown hg (by simp; omega) (fun g hgb => (World.ownsRow.lt HO g hgb).1))
theorem ret_i64 {a b : Int} (h : a = b) : Ending.returned (.int .i64 a) = Ending.returned (.int .i64 b) := by rw [h]
theorem ret_slice {A : Option Addr} {n m c d : Nat} (h : n = m) (h' : c = d) : Ending.returned (.slice A n c) = Ending.returned (.slice A m d) := by rw [h, h']

theorem wrap_u64 (z : Int) : IntKind.u64.wrap z = z % B64 := rfl
theorem wrap_in {z : Int} (h0 : 0 ≤ z) (h1 : z < B64) : IntKind.u64.wrap z = z := by rw [wrap_u64]; exact Int.emod_eq_of_lt h0 h1
theorem quo_u64 {y : Int} (h0 : 0 ≤ y) (h1 : y < B64) (d : Int) (hd : 0 < d) : IntKind.u64.wrap (y.tdiv d) = y / d := by
  rw [Int.tdiv_eq_ediv_of_nonneg h0]
  refine wrap_in (Int.ediv_nonneg h0 (by omega)) (Int.lt_of_le_of_lt ?_ h1)
  exact Int.ediv_le_self _ h0

/-- make([]T, m), T a kind of whole numbers. -/
theorem make_num (t e : TypeId) (k : IntKind) (bytes : Nat) (ht : Tryd.prog.underlying t = some (.slice e)) (hinfo : (Tryd.prog.info? e).map (fun i => (i.zero, i.size, i.bytes)) = some (some (.int k 0), 1, bytes)) (hb0 : 0 < bytes)
    (f : Nat → Int) (m : Nat) (hn : m * bytes ≤ 281474976710656) :
    ∀ W : World, (Instr.makeSlice t (.int .i64 (m : Int)) (.int .i64 (m : Int))).run Tryd.prog W = .ok (.slice (some ⟨W.heap.size, 0, none⟩) m m) (W.alloc (.cells (arrOf k f m 0) e)) := by
  intro W
  have hm : m ≤ 281474976710656 := Nat.le_trans (Nat.le_mul_of_pos_right _ hb0) hn
  rw [← arrOf_zero]
  exact run_make_row' t e (.int k 0) bytes ht hinfo rfl .i64 .i64 m (by rw [Nat.mul_comm]; exact hn) (by omega) W
theorem make_num1 (t e : TypeId) (k : IntKind) (bytes : Nat) (ht : Tryd.prog.underlying t = some (.slice e)) (hinfo : (Tryd.prog.info? e).map (fun i => (i.zero, i.size, i.bytes)) = some (some (.int k 0), 1, bytes)) (hb0 : 0 < bytes)
    (f : Nat → Int) (m : Nat) (hn : (m + 1) * bytes ≤ 281474976710656) :
    ∀ W : World, (Instr.makeSlice t (.int .i64 ((m : Int) + 1)) (.int .i64 ((m : Int) + 1))).run Tryd.prog W = .ok (.slice (some ⟨W.heap.size, 0, none⟩) (m + 1) (m + 1)) (W.alloc (.cells (arrOf k f (m + 1) 0) e)) :=
  make_num t e k bytes ht hinfo hb0 f (m + 1) hn
theorem max_run (ats : Array TypeId) (ty : TypeId) (p q m : Nat) (hm : m = max p q) (w : World) : (Builtin.max_ ats ty #[.int .i64 p, .int .i64 q]).run Tryd.prog w = .ok (.int .i64 m) w := by
  simp only [Builtin.max_, List.foldlM_cons, List.foldlM_nil, Builtin.max2, gt_iff_lt, Sem.run_bind, Sem.run_pure, Result.andThen]
  subst hm
  congr 2
  split <;> omega

theorem ret_agg {A : Option Addr} {s s' : Bool} {n m c d : Nat} (h : s = s') (h' : n = m) (h2 : c = d) : Ending.returned (.agg #[.bool s, .slice A n c]) = Ending.returned (.agg #[.bool s', .slice A m d]) := by rw [h, h', h2]
theorem ret_agg2 {A : Option Addr} {s s' : Bool} {n m c d : Nat} {e : Value} (h : s = s') (h' : n = m) (h2 : c = d) : Ending.returned (.tuple #[.agg #[.bool s, .slice A n c], e]) = Ending.returned (.tuple #[.agg #[.bool s', .slice A m d], e]) := by rw [h, h', h2]

theorem below_new2 (w : World) (o o' : Obj) : Below w.heap.size w ((w.alloc o).alloc o') := ((Below.refl _ _).alloc (Nat.le_refl _) o).alloc (by simp) o'

/-- A struct of two cells in a block of the call's own: what it reads as, and that it may be written. -/
theorem box_facts {w : World} {g : Nat} {e : TypeId} {v0 v1 : Value} (h : Row w g e #[v0, v1]) :
    w.cell? ⟨g, 0, none⟩ = some v0 ∧ w.cell? ⟨g, 1, none⟩ = some v1 ∧ w.frozen? ⟨g, 0, none⟩ = false ∧ w.frozen? ⟨g, 1, none⟩ = false :=
  ⟨by rw [h.cell]; rfl, by rw [h.cell]; rfl, h.frozen 0, h.frozen 1⟩
theorem box_set {w : World} {g : Nat} {e : TypeId} {v0 v1 : Value} (h : Row w g e #[v0, v1]) (u0 u1 : Value) : Row ((w.setCell ⟨g, 0, none⟩ u0).setCell ⟨g, 1, none⟩ u1) g e #[u0, u1] := (h.set 0 u0).set 1 u1
theorem Row.other {w : World} {g : Nat} {e : TypeId} {arr : Array Value} (h : Row w g e arr) (a : Addr) (v : Value) (hne : g ≠ a.block) : Row (w.setCell a v) g e arr :=
  ⟨by rw [Below.heap_setCell _ _ _ _ hne]; exact h.blk⟩

theorem set2 {w : World} {a : Addr} {g : Nat} {u0 u1 v : Value} (h : w.cell? a = some v) (hne : a.block ≠ g) : ((w.setCell ⟨g, 0, none⟩ u0).setCell ⟨g, 1, none⟩ u1).cell? a = some v := by
  rw [World.cell?_of_block (Below.heap_setCell _ _ _ _ hne), World.cell?_of_block (Below.heap_setCell _ _ _ _ hne)]; exact h
/-- A store into a box leaves a slice of numbers as it was. -/
theorem RdS.set2 {w : World} {k : IntKind} {A : Option Addr} {n : Nat} {xs : List Int} (h : RdS w k A n xs) {g : Nat} {e : TypeId} {b0 : Bool} {a0 : Option Addr} {n0 c0 : Nat} (hb : Row w g e #[.bool b0, .slice a0 n0 c0]) (u0 u1 : Value) :
    RdS ((w.setCell ⟨g, 0, none⟩ u0).setCell ⟨g, 1, none⟩ u1) k A n xs := by
  refine ⟨h.len, fun hn => ?_⟩
  obtain ⟨b, o, e, hc⟩ := h.cell hn
  refine ⟨b, o, e, fun j hj => ?_⟩
  have h1 := hc j hj
  refine Go.Proofs.YtlgecdkidgjgiaaDoor.set2 h1 ?_
  intro (hbg : b = g)
  subst hbg
  rw [hb.cell] at h1
  have : o + j = 0 ∨ o + j = 1 ∨ 2 ≤ o + j := by omega
  rcases this with h2 | h2 | h2
  · rw [h2] at h1; simp at h1
  · rw [h2] at h1; simp at h1
  · rw [Array.getElem?_eq_none (by simpa using h2)] at h1; cases h1
theorem new3 (w : World) (e e' e'' : TypeId) (a1 a2 a3 : Array Value) : Row (((w.alloc (.cells a1 e)).alloc (.cells a2 e')).alloc (.cells a3 e'')) w.heap.size e a1 ∧ Row (((w.alloc (.cells a1 e)).alloc (.cells a2 e')).alloc (.cells a3 e'')) (w.heap.size + 1) e' a2 ∧
    Row (((w.alloc (.cells a1 e)).alloc (.cells a2 e')).alloc (.cells a3 e'')) (w.heap.size + 1 + 1) e'' a3 ∧ Below w.heap.size w (((w.alloc (.cells a1 e)).alloc (.cells a2 e')).alloc (.cells a3 e'')) ∧ (((w.alloc (.cells a1 e)).alloc (.cells a2 e')).alloc (.cells a3 e'')).heap.size = w.heap.size + 1 + 1 + 1 := by
  have n1 := Row.new w e a1
  have n2 := Row.new (w.alloc (.cells a1 e)) e' a2
  have n3 := Row.new ((w.alloc (.cells a1 e)).alloc (.cells a2 e')) e'' a3
  have e1 : (w.alloc (.cells a1 e)).heap.size = w.heap.size + 1 := by simp
  have e2 : ((w.alloc (.cells a1 e)).alloc (.cells a2 e')).heap.size = w.heap.size + 1 + 1 := by simp
  rw [e1] at n2
  rw [e2] at n3
  have s2 : ∀ (w : World) (o : Obj), Below w.heap.size w (w.alloc o) := fun w o => (Below.refl _ _).alloc (Nat.le_refl _) o
  refine ⟨(n1.below (s2 _ _) (by simp)).below (s2 _ _) (by simp; omega), n2.below (s2 _ _) (by simp), n3, ?_, by simp⟩
  exact ((s2 w _).alloc (by simp) _).alloc (by simp; omega) _
theorem new2 (w : World) (e e' : TypeId) (a1 a2 : Array Value) : Row ((w.alloc (.cells a1 e)).alloc (.cells a2 e')) w.heap.size e a1 ∧ Row ((w.alloc (.cells a1 e)).alloc (.cells a2 e')) (w.heap.size + 1) e' a2 ∧ Below w.heap.size w ((w.alloc (.cells a1 e)).alloc (.cells a2 e')) := by
  have n1 := Row.new w e a1
  have n2 := Row.new (w.alloc (.cells a1 e)) e' a2
  have e1 : (w.alloc (.cells a1 e)).heap.size = w.heap.size + 1 := by simp
  rw [e1] at n2
  exact ⟨n1.below ((Below.refl _ _).alloc (Nat.le_refl _) _) (by simp), n2, below_new2 w _ _⟩

end Go.Proofs.YtlgecdkidgjgiaaDoor
