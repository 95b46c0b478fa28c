/- The walks of the reference's products and products with powers of two, of whole numbers. -/
import Derived.Test.YtlgecdkidgjgiaaDoorRfF
namespace Go.Proofs.YtlgecdkidgjgiaaDoor
open Go.RowKit

theorem newD (s : Bool) {A : Option Addr} {n : Nat} {xs : List Int} {c : Nat} {w : World} (hr : RdS w .u32 A n xs) (hc : n ≤ c) (hsm : n ≤ 16777216) (hx : Dg 65536 xs) :
    Calls Tryd.prog 48 #[.bool s, .slice A n c] w fun e w' => ∃ v', e = .returned v' ∧ DV w' v' (zd s xs) ∧ Below w.heap.size w w' := by
  refine (rnew_any s A n xs c w hr hc hsm hx).mono ?_
  rintro e w' ⟨rfl, hb⟩
  exact ⟨_, rfl, ⟨_, _, _, _, rfl, pl_cap hr.len hc, (hr.below hb).plain, zd_plain hx⟩, hb⟩
theorem DV.sz {w : World} {v : Value} {z : Int} (h : DV w v z) : ∃ (t : Bool) (B : Option Addr) (n d : Nat), v = .agg #[.bool t, .slice B n d] ∧ ∃ zs, zs.length = n ∧ n ≤ d ∧ RdS w .u32 B n zs ∧ CanD t zs z := by
  obtain ⟨t, zs, B, d, h1, h2, h3, h4⟩ := h
  exact ⟨t, B, _, d, h1, zs, rfl, h2, h3, h4⟩

set_option maxHeartbeats 1600000 in
theorem rmulD {v v' : Value} {z z' : Int} {k : Nat} {w : World} (h : DV w v z) (h' : DV w v' z') (hz : Sz z k) (hz' : Sz z' k) (hk : k ≤ 4000) :
    Calls Tryd.prog 16 #[v, v'] w fun e w' => ∃ u, e = .returned u ∧ DV w' u (z * z') ∧ Below w.heap.size w w' := by
  obtain ⟨s, A, n, c, rfl, xs, hl, hc, hr, hx⟩ := h.sz
  obtain ⟨s', A', n', c', rfl, ys, hl', hc', hr', hy⟩ := h'.sz
  have hn : n ≤ 16000 := by have := hx.len (Sd.of_sz hz (Nat.le_refl _)); omega
  have hn' : n' ≤ 16000 := by have := hy.len (Sd.of_sz hz' (Nat.le_refl _)); omega
  have hxd := Lib.hid hx.can.dg
  have hyd := Lib.hid hy.can.dg
  have hprod : ∀ (zs : List Int), Can 65536 zs (vl 65536 xs * vl 65536 ys) → zd (!(s == s')) zs = z * z' := fun zs kz => by
    rw [← hx.zd, ← hy.zd]
    unfold zd; rw [kz.val]; cases s <;> cases s' <;> simp <;> grind
  have hlz : ∀ (zs : List Int), Can 65536 zs (vl 65536 xs * vl 65536 ys) → zs.length ≤ 32000 := fun zs kz => by
    have h1 := (vl_bd hxd.out)
    have h2 := (vl_bd hyd.out)
    have h3 := kz.len_le (xs.length + ys.length) (by
      rw [Int.pow_add]
      have a1 : vl 65536 xs * vl 65536 ys ≤ vl 65536 xs * 65536 ^ ys.length := Int.mul_le_mul_of_nonneg_left (by omega) h1.1
      have a2 : vl 65536 xs * 65536 ^ ys.length < 65536 ^ xs.length * 65536 ^ ys.length := Int.mul_lt_mul_of_pos_right h1.2 (bpow_pos (by decide) _)
      omega)
    omega
  have HP := Lib.hid hprod
  have HL := Lib.hid hlz
  obtain ⟨b, hb⟩ : ∃ b, b = (!(s == s')) := ⟨_, rfl⟩
  rw [← hb] at HP
  have hneq : (s != s') = b := hb.symm
  have hneq2 := hb.symm
  clear hprod hlz h h' hz hz' hx hy hl hl' hb
  obtain ⟨ra, rb, rc, hw, hs⟩ := new3 w 37 37 37 #[.bool s, .slice A n c] #[.bool s', .slice A' n' c'] #[.bool false, .slice none 0 0]
  go_enter Tryd.func16, Tryd.ntmps16
  go_wp2_with fail
  generalize ((w.alloc (.cells #[.bool s, .slice A n c] 37)).alloc (.cells #[.bool s', .slice A' n' c'] 37)).alloc (.cells #[.bool false, .slice none 0 0] 37) = W at *
  clear hs
  replace ra := ra.drew
  replace rb := rb.drew
  replace rc := rc.drew
  replace hw := hw.trans ((dr_ W).mono hw.size)
  have hcl := two_boxes ra rb
  have hcc := True.intro
  go_region_held3 (fun wx => wx.cell? ⟨w.heap.size, 0, none⟩ = some (.bool s) ∧ wx.cell? ⟨w.heap.size, 1, none⟩ = some (.slice A n c) ∧ wx.cell? ⟨w.heap.size + 1, 0, none⟩ = some (.bool s') ∧ wx.cell? ⟨w.heap.size + 1, 1, none⟩ = some (.slice A' n' c'))
    (first | with_reducible exact hcl | (with_reducible refine two_boxes (e := 37) (e' := 37) ?_ ?_ <;> repeat (first | with_reducible exact ra | with_reducible exact rb | with_reducible refine Row.sets ?_ _ _ (by omega))))
    (first
      | (go_at_call 51; refine (rmul_any A A' n n' xs ys c c' _ (hr.below hw) (hr'.below hw) (by omega) (by omega) hxd.out hyd.out).mono ?_; rintro e w1 ⟨zs, B, d, rfl, hd, hrz, kz, b1, -⟩; have hzl := HL.out zs kz; have hzp := HP.out zs kz; have HZ := Lib.hid hzp; have hdz := Lib.hid kz.dg; replace ra := ra.belowR b1; replace rb := rb.belowR b1; replace rc := rc.belowR b1; replace hw := hw.trans (b1.mono hw.size); replace hcl := two_boxes ra rb; clear kz hzp b1)
      | (go_at_call 48; refine (newD b hrz hd (by omega) hdz.out).mono ?_; rintro e w2 ⟨u, rfl, hu, b2⟩; obtain ⟨tu, Bu, nu, du, rfl⟩ := hu.shape; replace ra := ra.belowR b2; replace rb := rb.belowR b2; replace rc := rc.belowR b2; replace hw := hw.trans (b2.mono hw.size); replace hcl := two_boxes ra rb; replace hcc := box_facts rc; clear b2))
  have hu1 := hu.sets rc (.bool tu) (.slice Bu nu du)
  have rc1 := box_set rc (.bool tu) (.slice Bu nu du)
  have hw1 := Below.sets hw (g := w.heap.size + 1 + 1) (by omega) (.bool tu) (.slice Bu nu du)
  have f1 := box_facts rc1
  rw [HZ.out] at hu1
  go_wp2_with fail
  exact bodyPost_ret (v := .agg #[.bool tu, .slice Bu nu du]) (by simp [results, Tryd.results16, go_sem, f1]) rfl ⟨_, rfl, hu1, hw1⟩

set_option maxHeartbeats 1600000 in
theorem rshlD {v : Value} {z : Int} {k : Nat} {w : World} (N : Nat) (h : DV w v z) (hz : Sz z k) (hk : k ≤ 4000) (hN : N ≤ 1048576) :
    Calls Tryd.prog 28 #[v, .int .i64 N] w fun e w' => ∃ u, e = .returned u ∧ DV w' u (2 ^ N * z) ∧ Below w.heap.size w w' := by
  obtain ⟨s, A, n, c, rfl, xs, hl, hc, hr, hx⟩ := h.sz
  have hn : n ≤ 16000 := by have := hx.len (Sd.of_sz hz (Nat.le_refl _)); omega
  have hxd := Lib.hid hx.can.dg
  have hprod : ∀ (zs : List Int), Can 65536 zs (2 ^ N * vl 65536 xs) → zd s zs = 2 ^ N * z := fun zs kz => by
    rw [← hx.zd]
    unfold zd; rw [kz.val]; cases s <;> simp <;> grind
  have hlz : ∀ (zs : List Int), Can 65536 zs (2 ^ N * vl 65536 xs) → zs.length ≤ 16777216 := fun zs kz => by
    obtain ⟨j, hj, hjb⟩ : ∃ j : Nat, N ≤ 64 * j ∧ j ≤ 16385 := ⟨N / 64 + 1, by omega, by omega⟩
    have e1 : Sz (2 ^ N * vl 65536 xs) (k + j) := by
      have e2 : Sz (vl 65536 xs) k := by
        have := hx.zd
        have h0 := (vl_bd hxd.out).1
        unfold Sz at *
        unfold zd at this
        cases s <;> simp at this <;> omega
      exact e2.shl hj
    have h0 : 0 ≤ 2 ^ N * vl 65536 xs := Int.mul_nonneg (Int.le_of_lt (two_pos N)) (vl_bd hxd.out).1
    have e3 := Sd.of_sz e1 (Nat.le_refl _)
    unfold Sd at e3
    have := kz.len_le (4 * (k + j)) (by omega)
    omega
  have HP := Lib.hid hprod
  have HL := Lib.hid hlz
  clear hprod hlz h hz hx hl
  obtain ⟨ra, rc, hw⟩ := new2 w 37 37 #[.bool s, .slice A n c] #[.bool false, .slice none 0 0]
  go_enter Tryd.func28, Tryd.ntmps28
  go_wp2_with fail
  generalize (w.alloc (.cells #[.bool s, .slice A n c] 37)).alloc (.cells #[.bool false, .slice none 0 0] 37) = W at *
  replace ra := ra.drew
  replace rc := rc.drew
  replace hw := hw.trans ((dr_ W).mono hw.size)
  have hcl := (And.intro (box_facts ra).1 (box_facts ra).2.1)
  have hcc := True.intro
  go_region_held3 (fun wx => wx.cell? ⟨w.heap.size, 0, none⟩ = some (.bool s) ∧ wx.cell? ⟨w.heap.size, 1, none⟩ = some (.slice A n c))
    (first | with_reducible exact hcl | (have hq := box_facts (ra.sets (.bool tu) (.slice Bu nu du) (g' := w.heap.size + 1) (by omega)); exact ⟨hq.1, hq.2.1⟩))
    (first
      | (go_at_call 64; refine (rshl_any A n xs c N _ (hr.below hw) (by omega) hN hxd.out).mono ?_; rintro e w1 ⟨zs, B, d, rfl, hd, hrz, kz, b1⟩; have hzl := HL.out zs kz; have hzp := HP.out zs kz; have HZ := Lib.hid hzp; have hdz := Lib.hid kz.dg; replace ra := ra.belowR b1; replace rc := rc.belowR b1; replace hw := hw.trans (b1.mono hw.size); replace hcl := (And.intro (box_facts ra).1 (box_facts ra).2.1); clear kz hzp b1)
      | (go_at_call 48; refine (newD s hrz hd (by omega) hdz.out).mono ?_; rintro e w2 ⟨u, rfl, hu, b2⟩; obtain ⟨tu, Bu, nu, du, rfl⟩ := hu.shape; replace ra := ra.belowR b2; replace rc := rc.belowR b2; replace hw := hw.trans (b2.mono hw.size); replace hcl := (And.intro (box_facts ra).1 (box_facts ra).2.1); replace hcc := box_facts rc; clear b2))
  have hu1 := hu.sets rc (.bool tu) (.slice Bu nu du)
  have rc1 := box_set rc (.bool tu) (.slice Bu nu du)
  have hw1 := Below.sets hw (g := w.heap.size + 1) (by omega) (.bool tu) (.slice Bu nu du)
  have f1 := box_facts rc1
  rw [HZ.out] at hu1
  go_wp2_with fail
  exact bodyPost_ret (v := .agg #[.bool tu, .slice Bu nu du]) (by simp [results, Tryd.results28, go_sem, f1]) rfl ⟨_, rfl, hu1, hw1⟩

set_option maxHeartbeats 1600000 in
theorem from2D {x : Int} {w : World} (h0 : 0 ≤ x) (h1 : x < B64) :
    Calls Tryd.prog 47 #[.int .u64 x] w fun e w' => ∃ u, e = .returned u ∧ DV w' u x ∧ Below w.heap.size w w' := by
  obtain ⟨rc, ra, hw⟩ := new2 w 37 22 #[.bool false, .slice none 0 0] (nums .u64 [x])
  have hd : Dg B64 [x] := Dg.cons.2 ⟨⟨h0, h1⟩, Dg.nil (by decide)⟩
  have hr := ra.reads 1 rfl
  have e1 : nums .u64 [x] = #[.int .u64 x] := rfl
  rw [e1] at rc ra hw hr
  go_enter Tryd.func47, Tryd.ntmps47
  go_wp2_with fail
  generalize (w.alloc (.cells #[.bool false, .slice none 0 0] 37)).alloc (.cells #[.int .u64 x] 22) = W at *
  refine (digits_any _ 1 [x] 1 W hr (by omega) hd).mono ?_
  rintro e w1 ⟨zs, B, d, rfl, hdl, hrz, kz, b1⟩
  have hl : zs.length ≤ 4 := by
    refine kz.len_le 4 ?_
    have : (65536 : Int) ^ 4 = B64 := rfl
    rw [this]
    simpa [vl] using h1
  have hz : zd false zs = x := by unfold zd; rw [kz.val]; simp [vl]
  replace rc := rc.belowR b1
  replace hw := hw.trans (b1.mono hw.size)
  have HK := Lib.hid kz.dg
  have HZ := Lib.hid hz
  clear kz hz hd b1
  go_wp2_with fail
  refine (newD false hrz hdl (by omega) HK.out).mono ?_
  rintro e w2 ⟨u, rfl, hu, b2⟩
  obtain ⟨tu, Bu, nu, du, rfl⟩ := hu.shape
  replace rc := rc.belowR b2
  replace hw := hw.trans (b2.mono hw.size)
  have hcc := box_facts rc
  rw [HZ.out] at hu
  have hu1 := hu.sets rc (.bool tu) (.slice Bu nu du)
  have rc1 := box_set rc (.bool tu) (.slice Bu nu du)
  have hw1 := Below.sets hw (g := w.heap.size) (by omega) (.bool tu) (.slice Bu nu du)
  have f1 := box_facts rc1
  go_wp2_with fail
  exact bodyPost_ret (v := .agg #[.bool tu, .slice Bu nu du]) (by simp [results, Tryd.results47, go_sem, f1]) rfl ⟨_, rfl, hu1, hw1⟩
end Go.Proofs.YtlgecdkidgjgiaaDoor
