/- The reference's number at a lower power of two, and what builtin max answers. -/
import Derived.Test.YtlgecdkidgjgiaaDoorRfJ
import Derived.Test.YtlgecdkidgjgiaaDoorDyG
namespace Go.Proofs.YtlgecdkidgjgiaaDoor
open Go.RowKit

set_option maxHeartbeats 1600000 in
theorem atV {v : Value} {m e : Int} {k N : Nat} {w : World} (E : Int) (h : IDy w v m e k) (hk : k ≤ 1000) (hN : e - E = (N : Int)) (hN1 : N ≤ 65536) :
    Calls Tryd.prog 65 #[v, .int .i64 E] w fun ev w' => ∃ u, ev = .returned u ∧ DV w' u (2 ^ N * m) ∧ Below w.heap.size w w' := by
  obtain ⟨t, B, n, d, rfl, hv⟩ := h.shape
  clear h
  obtain ⟨ra, rc, hw⟩ := new2 w 29 37 #[.bool t, .slice B n d, .int .i64 e] #[.bool false, .slice none 0 0]
  have HZ := Lib.hid hv.sz
  have hwr : IntKind.i64.wrap (e - E) = (N : Int) := by rw [hN]; exact IntWalk.i64_in _ (by omega)
  have HN := Lib.hid hN1
  clear hN hN1
  replace hv := hv.below hw
  go_enter Tryd.func65, Tryd.ntmps65
  go_wp2_with fail
  generalize (w.alloc (.cells #[.bool t, .slice B n d, .int .i64 e] 29)).alloc (.cells #[.bool false, .slice none 0 0] 37) = W at *
  replace ra := ra.drew
  replace rc := rc.drew
  replace hv := hv.below (dr_ W)
  replace hw := hw.trans ((dr_ W).mono hw.size)
  have hcl := (And.intro (box3_facts ra).1 (And.intro (box3_facts ra).2.1 (box3_facts ra).2.2.1))
  have hcc := True.intro
  go_region_held3 (fun wx => wx.cell? ⟨w.heap.size, 0, none⟩ = some (.bool t) ∧ wx.cell? ⟨w.heap.size, 1, none⟩ = some (.slice B n d) ∧ wx.cell? ⟨w.heap.size, 2, none⟩ = some (.int .i64 e))
    (first | with_reducible exact hcl | (have hq := box3_facts (ra.sets (.bool tu) (.slice Bu nu du) (g' := w.heap.size + 1) (by omega)); exact ⟨hq.1, hq.2.1, hq.2.2.1⟩))
    (first
      | (go_at_call 26; with_reducible refine (fromV hv (by omega)).mono ?_; rintro ev w1 ⟨u1, rfl, d1, b1⟩; replace ra := ra.belowR b1; replace rc := rc.belowR b1; replace hw := hw.trans (b1.mono hw.size); replace hcl := (And.intro (box3_facts ra).1 (And.intro (box3_facts ra).2.1 (box3_facts ra).2.2.1)); clear b1)
      | (go_at_call 28; refine (rshlD N d1 HZ.out (by omega) (Nat.le_trans HN.out (by omega))).mono ?_; rintro ev w2 ⟨u, rfl, hu, b2⟩; obtain ⟨tu, Bu, nu, du, rfl⟩ := DV.shape hu; replace ra := ra.belowR b2; replace rc := rc.belowR b2; replace hw := hw.trans (b2.mono hw.size); replace hcl := (And.intro (box3_facts ra).1 (And.intro (box3_facts ra).2.1 (box3_facts ra).2.2.1)); replace hcc := box_facts rc; clear b2))
  have hu1 := hu.sets rc (.bool tu) (.slice Bu nu du)
  have rc1 := box_set rc (.bool tu) (.slice Bu nu du)
  have hw1 := Below.sets hw (g := w.heap.size + 1) (by omega) (.bool tu) (.slice Bu nu du)
  have f1 := box_facts rc1
  go_wp2_with fail
  exact bodyPost_ret (v := .agg #[.bool tu, .slice Bu nu du]) (by simp [results, Tryd.results65, go_sem, f1]) rfl ⟨_, rfl, hu1, hw1⟩
end Go.Proofs.YtlgecdkidgjgiaaDoor
