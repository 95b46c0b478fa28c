/- The walks of what is moved by bits in the program: slices.Clone, nat.Shl, nat.Shr; how many twos. -/
import Derived.Test.YtlgecdkidgjgiaaDoorNatA
import Derived.Test.YtlgecdkidgjgiaaDoorShf
namespace Go.Proofs.YtlgecdkidgjgiaaDoor
open Go.RowKit

/-- append(v, ys...): behind 'at_builtin'; what is appended is a slice that reads. -/
theorem append_nums {P : Program} {ops : Array Oper} {rest : List Oper} {o : Oper} {a : Act} {Q : Exit → Act → World → Prop} {w0 W : World} (base : Nat) (hgd : o.guard = none) (s x : Operand) (t e : TypeId) (k : IntKind) (bytes : Nat)
    (ho : o.op = .call { callee := .builtin .append, args := #[s, x], argTypes := #[t, t] })
    (ht : P.underlying t = some (.slice e)) (hinfo : (P.info? e).map (fun i => (i.zero, i.size, i.bytes)) = some (some (.int k 0), 1, bytes)) (hb0 : 0 < bytes)
    (v : Value) (xs : List Int) (A : Addr) (m c : Nat) (ys : List Int) (hs : a.eval s = v) (hx : a.eval x = .slice (some A) m c)
    (HO : Own W base e k v xs) (HR : RdS W k (some A) m ys) (HB : Below base w0 W) (hbase : base ≤ W.heap.size) (hl : (xs.length + m) * bytes ≤ 140737488355328)
    (h : ∀ v1 w1, Own w1 base e k v1 (xs ++ ys) → Below base w0 w1 → wpList P ops Q rest (a.put o.dst v1) w1) :
    wpList P ops Q (o :: rest) a W := by
  obtain ⟨i0, hi, hz⟩ := Option.map_eq_some_iff.1 hinfo
  simp only [Prod.mk.injEq] at hz
  have hlen : xs.length + m ≤ 140737488355328 := Nat.le_trans (Nat.le_mul_of_pos_right _ hb0) hl
  refine wpList_append_own W hgd s x t ho base e i0 (.int k 0) 1 bytes ht hi hz.1 hz.2.1 hz.2.2 rfl (by omega) v xs.length (xs.map (Value.int k)) hs HO A m c (ys.map (Value.int k)) hx (by simp [HR.len])
    (fun j u hu => by
      have hj : j < ys.length := by
        have := (List.getElem?_eq_some_iff.1 hu).1
        simpa using this
      have hm : 0 < m := by have := HR.len; omega
      obtain ⟨b, o', e', hc⟩ := HR.cell hm
      injection e' with e'
      subst e'
      have := hc j (by have := HR.len; omega)
      rw [List.getElem?_map, List.getElem?_eq_getElem hj] at hu
      simp only [Option.map_some, Option.some.injEq] at hu
      subst hu
      rw [List.getElem?_eq_getElem hj] at this
      have e3 : (⟨b, o', none⟩ : Addr).add j = ⟨b, o' + j, none⟩ := by
        by_cases h0 : j = 0
        · subst h0; rfl
        · simp [Addr.add, h0]
      rw [e3]
      exact this) (fun u hu => by
      obtain ⟨z, _, rfl⟩ := List.mem_map.1 hu
      rfl) (by simp only [maxLen]; omega) hl hbase ?_
  intro v1 w1 hown hg _
  refine h v1 w1 (by unfold Own; simpa [HR.len] using hown) (HB.grown hg hbase (fun g hgb => (World.ownsRow.lt HO g hgb).1))

theorem Own.empty (w : World) (e : TypeId) (t : IntKind) : Own (w.alloc (.cells #[] e)) w.heap.size e t (.slice (some ⟨w.heap.size, 0, none⟩) 0 0) [] := by
  refine ⟨by simp, .inr ⟨w.heap.size, 0, #[], rfl, Nat.le_refl _, ?_, Nat.le_refl _, by simp [maxLen], by simp, by simp⟩⟩
  show (w.heap.push _)[w.heap.size]? = _
  simp
theorem al' (w : World) (o : Obj) : Below w.heap.size w (w.alloc o) := (Below.refl _ _).alloc (Nat.le_refl _) o

set_option maxRecDepth 100000 in
set_option maxHeartbeats 800000 in
theorem clone_any (A : Option Addr) (n : Nat) (xs : List Int) (w : World) (hr : RdS w .u64 A n xs) (hsm : n ≤ 1048576) :
    Calls Tryd.prog 84 #[.slice A n n] w fun e w' => ∃ v, e = .returned v ∧ Own w' w.heap.size 22 .u64 v xs ∧ Below w.heap.size w w' := by
  have hnil := fun (A : Option Addr) (w : World) => Lib.run_eql_slice_nil (P := Tryd.prog) w 25 22 A n n 0 0 Tryd.underlying25
  cases A with
  | none =>
    have hnil := hnil none
    have hn : n = 0 := by
      apply Classical.byContradiction
      intro h
      obtain ⟨b, o, e, _⟩ := hr.cell (by omega)
      cases e
    subst hn
    have hx : xs = [] := List.length_eq_zero_iff.1 hr.len
    subst hx
    go_enter Tryd.func84, Tryd.ntmps84
    go_wp2_with fail
    go_ret
    exact ⟨_, rfl, Own.nil _ _ _ _, Below.refl _ _⟩
  | some A =>
    have hnil := hnil (some A)
    go_enter Tryd.func84, Tryd.ntmps84
    have ho := Own.empty w 22 .u64
    have hr1 := hr.alloc (.cells #[] 22)
    have hb1 := al' w (.cells #[] 22)
    go_wp2_with (at_builtin; refine append_nums w.heap.size rfl (.tmp 5) (.tmp 6) 25 22 .u64 8 rfl Tryd.underlying25 Tryd.info_u64 (by decide) _ [] A n n xs rfl rfl ho hr1 hb1 (by simp) (by simp; omega) ?_; intro v1 w1 hown1 hbel1)
    go_ret
    exact ⟨_, rfl, hown1, hbel1⟩


theorem RdS.grown {w w' : World} {k : IntKind} {a : Addr} {n : Nat} {xs : List Int} {row : Option Nat} (h : RdS w k (some a) n xs) (hg : w.grownBy w' row) (hne : some a.block ≠ row) : RdS w' k (some a) n xs := by
  refine ⟨h.len, fun hn => ?_⟩
  obtain ⟨b, o, e, hc⟩ := h.cell hn
  refine ⟨b, o, e, fun j hj => ?_⟩
  injection e with e
  subst e
  exact hg.cell (hc j hj) hne
theorem RdS.at0 {w : World} {k : IntKind} {g : Nat} {n : Nat} {xs : List Int} (h : RdS w k (some ⟨g, 0, none⟩) n xs) (j : Nat) (hj : j < n) : w.cell? ⟨g, j, none⟩ = some (.int k (xs[j]?.getD 0)) := by
  obtain ⟨b, o, e, hc⟩ := h.cell (by omega)
  injection e with e
  injection e with e1 e2
  subst e1 e2
  have := hc j hj
  rwa [Nat.zero_add] at this
/-- make([]T, l, c) -/
theorem make_lc (t e : TypeId) (k : IntKind) (bytes : Nat) (ht : Tryd.prog.underlying t = some (.slice e)) (hinfo : (Tryd.prog.info? e).map (fun i => (i.zero, i.size, i.bytes)) = some (some (.int k 0), 1, bytes)) (hb0 : 0 < bytes)
    (l c : Nat) (hlc : l ≤ c) (hn : c * bytes ≤ 281474976710656) :
    ∀ W : World, (Instr.makeSlice t (.int .i64 (l : Int)) (.int .i64 (c : Int))).run Tryd.prog W = .ok (.slice (some ⟨W.heap.size, 0, none⟩) l c) (W.alloc (.cells (arrOf k (fun _ => 0) c 0) e)) := by
  intro W
  have hm : c ≤ 281474976710656 := Nat.le_trans (Nat.le_mul_of_pos_right _ hb0) hn
  obtain ⟨i, hi, hzz⟩ := Option.map_eq_some_iff.1 hinfo
  simp only [Prod.mk.injEq] at hzz
  obtain ⟨hz, hs, hb⟩ := hzz
  have hb' : (i.bytes : Int) * (c : Int) ≤ 281474976710656 := by
    have h : ((i.bytes * c : Nat) : Int) ≤ 281474976710656 := by rw [hb, Nat.mul_comm]; omega
    rwa [Int.natCast_mul] at h
  have hr := run_make (P := Tryd.prog) W t e i (.int k 0) ht hi hz .i64 .i64 l c (by omega) (by omega) hb' (by omega)
  simp only [Int.toNat_natCast, hs, Nat.mul_one] at hr
  rw [← arrOf_zero]
  exact hr
theorem Own.made (w : World) (e : TypeId) (t : IntKind) (l c : Nat) (hlc : l ≤ c) (hc : c ≤ 281474976710656) :
    Own (w.alloc (.cells (arrOf t (fun _ => 0) c 0) e)) w.heap.size e t (.slice (some ⟨w.heap.size, 0, none⟩) l c) (List.replicate l 0) := by
  refine ⟨by simp, .inr ⟨w.heap.size, c, _, by simp, Nat.le_refl _, (Row.new w e _).blk, by simpa using hlc, by simp [maxLen]; omega, by simp [arrOf_size], ?_⟩⟩
  rw [nums_zero]
  simp [nums, hlc]
theorem Own.atB {w w' : World} {base B g n c : Nat} {e : TypeId} {t : IntKind} {xs : List Int} (h : Own w base e t (.slice (some ⟨g, 0, none⟩) n c) xs) (hb : Below B w w') (hg : g < B) : Own w' base e t (.slice (some ⟨g, 0, none⟩) n c) xs := by
  obtain ⟨h1, h2⟩ := h
  rcases h2 with ⟨hv, hn⟩ | ⟨g', cap, cur, hv, h3, h4, h5⟩
  · cases hv
  · refine ⟨h1, .inr ⟨g', cap, cur, hv, h3, ?_, h5⟩⟩
    simp only [Value.slice.injEq, Option.some.injEq, Addr.mk.injEq] at hv
    rw [hb.block g' (by omega)]
    exact h4
theorem Own.opened {w : World} {base : Nat} {e : TypeId} {t : IntKind} {v : Value} {xs : List Int} (h : Own w base e t v xs) (n : Nat) (hl : xs.length = n) (hn : 0 < n) :
    ∃ g c, v = .slice (some ⟨g, 0, none⟩) n c ∧ n ≤ c ∧ base ≤ g ∧ RdS w t (some ⟨g, 0, none⟩) n xs := by
  subst hl
  obtain ⟨A, c, hv, hc, hr⟩ := h.rds
  obtain ⟨h1, h2⟩ := h
  rcases h2 with ⟨hv', hn'⟩ | ⟨g', cap, cur, hv', h3, h4, h5⟩
  · omega
  · rw [hv] at hv'
    simp only [Value.slice.injEq] at hv'
    obtain ⟨rfl, -, rfl⟩ := hv'
    exact ⟨g', c, hv, hc, h3, hr⟩
/-- append(v, ys...), where there is room. -/
theorem append_room {P : Program} {ops : Array Oper} {rest : List Oper} {o : Oper} {a : Act} {Q : Exit → Act → World → Prop} {w0 W : World} (base : Nat) (hgd : o.guard = none) (s x : Operand) (t e : TypeId) (k : IntKind) (bytes : Nat)
    (ho : o.op = .call { callee := .builtin .append, args := #[s, x], argTypes := #[t, t] })
    (ht : P.underlying t = some (.slice e)) (hinfo : (P.info? e).map (fun i => (i.zero, i.size, i.bytes)) = some (some (.int k 0), 1, bytes))
    (g n cap : Nat) (xs : List Int) (y : Int) (hs : a.eval s = .slice (some ⟨g, 0, none⟩) n cap) (hx : a.eval x = .slice (some ⟨W.heap.size, 0, none⟩) 1 1)
    (HO : Own W base e k (.slice (some ⟨g, 0, none⟩) n cap) xs) (hlen : xs.length = n) (HB : Below base w0 W) (hroom : n + 1 ≤ cap) (hbase : base ≤ W.heap.size)
    {S : Addr} {m : Nat} {ys : List Int} (HR : RdS W k (some S) m ys) (hS : S.block ≠ g)
    (h : ∀ w1, Own w1 base e k (.slice (some ⟨g, 0, none⟩) (n + 1) cap) (xs ++ [y]) → Below base w0 w1 → RdS w1 k (some S) m ys → wpList P ops Q rest (a.put o.dst (.slice (some ⟨g, 0, none⟩) (n + 1) cap)) w1) :
    wpList P ops Q (o :: rest) a (W.alloc (.cells #[.int k y] e)) := by
  obtain ⟨i0, hi, hz⟩ := Option.map_eq_some_iff.1 hinfo
  simp only [Prod.mk.injEq] at hz
  have hcell : (W.alloc (.cells #[.int k y] e)).cell? ⟨W.heap.size, 0, none⟩ = some (.int k y) := by rw [World.cell?_alloc_at _ _ _ _ rfl]; rfl
  subst hlen
  refine wpList_append_fits (W.alloc (.cells #[.int k y] e)) hgd s x t ho base e i0 1 ht hi hz.2.1 g xs.length cap (xs.map (Value.int k)) hs (World.ownsRow.alloc HO _) ⟨W.heap.size, 0, none⟩ 1 1 [.int k y] hx rfl
    (fun j u hu => by
      cases j with
      | zero => simp at hu; subst hu; exact hcell
      | succ j => simp at hu) (by simp [Value.oneCell']) hroom ?_
  intro w1 hown hg
  exact h w1 (by unfold Own; simpa using hown) ((HB.alloc hbase _).grown hg (by simp; omega) (fun g hgb => (World.ownsRow.lt HO g hgb).1)) ((HR.alloc _).grown hg (by simpa using hS))

theorem app0_get (us : List Int) (k : Nat) : (us ++ [0])[k]?.getD 0 = us[k]?.getD 0 := by
  by_cases h : k < us.length
  · rw [List.getElem?_append_left h]
  · rw [List.getElem?_append_right (by omega), List.getElem?_eq_none (l := us) (by omega)]
    cases k - us.length <;> rfl

set_option maxRecDepth 100000 in
set_option maxHeartbeats 1600000 in
theorem shl_any (A : Option Addr) (n : Nat) (xs : List Int) (c N : Nat) (w : World) (hr : RdS w .u64 A n xs) (hc : n ≤ c) (hsm : n ≤ 1024) (hN : N ≤ 65536) (hx : Dg B64 xs) :
    Calls Tryd.prog 59 #[.slice A n c, .int .i64 N] w fun e w' => ∃ (zs : List Int) (B : Option Addr),
      e = .returned (.tuple #[.slice B zs.length zs.length, .nilIface]) ∧ RdS w' .u64 B zs.length zs ∧ Can B64 zs (2 ^ N * vl B64 xs) ∧ Below w.heap.size w w' := by
  have r1 := hr.plain
  have k1 := pl_can hx
  have l1 := pl_le xs
  rw [hr.len] at l1
  have p1 := fun w => plain_any A n xs c w
  rw [← k1.val]
  have hxs := k1.dg
  clear k1
  generalize pl xs = us at *
  obtain ⟨p, hp⟩ : ∃ p, p = us.length := ⟨_, rfl⟩
  rw [← hp] at r1 l1 p1
  obtain ⟨q, hq⟩ : ∃ q, q = N / 64 := ⟨_, rfl⟩
  obtain ⟨r, hrr⟩ : ∃ r, r = N % 64 := ⟨_, rfl⟩
  have hr64 : r < 64 := by omega
  have hq' : (N : Int) / 64 = (q : Int) := by omega
  have hr' : (N : Int) % 64 = (r : Int) := by omega
  have hqb : q ≤ 1024 := by omega
  have hmk := make_lc 25 22 .u64 8 Tryd.underlying25 Tryd.info_u64 (by decide) q (q + p + 1) (by omega) (by omega)
  rw [show ((q + p + 1 : Nat) : Int) = (q : Int) + (p : Int) + 1 by push_cast; rfl] at hmk
  have hfin := up_val (r := r) (by omega) hxs q
  rw [show 64 * q + r = N by omega, ← hp] at hfin
  have HF := Lib.hid hfin
  have HP := Lib.hid hp
  clear hfin hp hq hrr
  go_enter Tryd.func59, Tryd.ntmps59
  go_wp2_with fail
  refine (p1 w hr hc (by omega)).mono ?_
  rintro e w' ⟨rfl, rfl⟩
  clear p1 hr
  go_wp2_with fail
  have hown := Own.made w 22 .u64 q (q + p + 1) (by omega) (by omega)
  have hb := al' w (.cells (arrOf .u64 (fun _ => 0) (q + p + 1) 0) 22)
  replace r1 := r1.below hb
  have hg : w.heap.size < (w.alloc (.cells (arrOf .u64 (fun _ => 0) (q + p + 1) 0) 22)).heap.size := by simp
  clear hmk
  generalize w.alloc (.cells (arrOf .u64 (fun _ => 0) (q + p + 1) 0) 22) = w1 at *
  refine (clone_any A p us w1 r1 (by omega)).mono ?_
  rintro e w2 ⟨v, rfl, ho2, hb2⟩
  replace hown := hown.below hb2
  replace hb := hb.trans (hb2.mono hb.size)
  have hg2 : w1.heap.size ≤ w2.heap.size := hb2.size
  clear hb2 r1
  go_wp2_with (at_builtin; refine append_num w1.heap.size rfl (.tmp 34) (.tmp 35) 25 22 .u64 8 rfl Tryd.underlying25 Tryd.info_u64 (by decide) _ us 0 rfl rfl ho2 (Below.refl _ _) hg2 (by have := HP.out; omega) ?_; intro v3 w3 ho3 hb3; obtain ⟨g3, c3, rfl, hc3, hg3, hr3⟩ := ho3.opened (p + 1) (by have := HP.out; simp; omega) (by omega))
  replace hown := hown.atB hb3 hg
  replace hb := hb.trans (hb3.mono (Nat.le_of_lt hg))
  have hne : (⟨g3, 0, none⟩ : Addr).block ≠ w.heap.size := by show g3 ≠ _; omega
  have hxk := app0_get us
  have hsz3 : w.heap.size ≤ w3.heap.size := hb.size
  clear ho3 hb3 hg hg2 hg3 ho2
  go_loopw [6, 7, 38] (fun v6 lo i wr => ∃ k : Nat, k ≤ p + 1 ∧ i = .int .i64 k ∧ lo = .int .u64 (upc r us k) ∧ v6 = .slice (some ⟨w.heap.size, 0, none⟩) (q + k) (q + p + 1) ∧
    Own wr w.heap.size 22 .u64 (.slice (some ⟨w.heap.size, 0, none⟩) (q + k) (q + p + 1)) (List.replicate q 0 ++ rowOf (up r us) k) ∧ RdS wr .u64 (some ⟨g3, 0, none⟩) (p + 1) (us ++ [0]) ∧ Below w.heap.size w wr) (fun _ _ i _ => (p + 1) - (intOf i).toNat)
  case atStart => exact ⟨0, by omega, rfl, rfl, rfl, by simpa [rowOf] using hown, hr3, hb⟩
  case round =>
    obtain ⟨k, hk, rfl, rfl, rfl, ho, hr3, hb⟩ := hrel
    by_cases hlt : k < p + 1
    · have hcell := hr3.at0 k hlt
      rw [hxk] at hcell
      have hor : bits .or .u64 (IntKind.u64.wrap (us[k]?.getD 0 * 2 ^ r)) (upc r us k) = up r us k := up_or (by omega) hxs k
      have hnx : us[k]?.getD 0 / 2 / 2 ^ (63 - r) = upc r us (k + 1) := up_next hr64 _
      have hlen : (List.replicate q 0 ++ rowOf (up r us) k).length = q + k := by simp [rowOf]
      have hsz : w.heap.size ≤ wr.heap.size := hb.size
      go_wp2_with (at_builtin; refine append_room w.heap.size rfl (.tmp 42) (.tmp 49) 25 22 .u64 8 rfl Tryd.underlying25 Tryd.info_u64 w.heap.size (q + k) (q + p + 1) (List.replicate q 0 ++ rowOf (up r us) k) (up r us k) rfl rfl ho hlen hb (by omega) hsz hr3 hne ?_; intro w4 ho4 hb4 hr4)
      rw [List.append_assoc, ← rowOf_succ] at ho4
      go_roundw
      case rel => exact ⟨k + 1, by omega, by go_num, rfl, rfl, ho4, hr4, hb4⟩
      case measure => simp [intOf]; omega
    · have e : k = p + 1 := by omega
      subst e
      obtain ⟨g5, c5, hv5, hc5, hg5, hrd⟩ := ho.opened (q + (p + 1)) (by simp [rowOf]) (by omega)
      simp only [Value.slice.injEq, Option.some.injEq, Addr.mk.injEq, and_true, true_and] at hv5
      obtain ⟨rfl, rfl⟩ := hv5
      clear ho hr3 hg5
      go_wp2_with fail
      refine (plain_any _ (q + (p + 1)) _ (q + p + 1) _ hrd (by omega) (by omega)).mono ?_
      rintro e w' ⟨rfl, rfl⟩
      go_wp2_with fail
      go_ret2
      have kz := pl_can HF.out.1
      rw [HF.out.2] at kz
      exact ⟨_, some ⟨w.heap.size, 0, none⟩, rfl, hrd.plain, kz, hb⟩
end Go.Proofs.YtlgecdkidgjgiaaDoor
