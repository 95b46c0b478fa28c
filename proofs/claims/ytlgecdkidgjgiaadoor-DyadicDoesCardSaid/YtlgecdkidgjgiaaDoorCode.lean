/- The code that an error has: nil: 0; one of the project's codes above 0: itself. -/
import Derived.Test.YtlgecdkidgjgiaaDoorAs
namespace Go.Proofs.YtlgecdkidgjgiaaDoor
open Go.RowKit

theorem as_own (k z : Int) (g : Nat) (w : World) (hg : ErrOk w) (hR : Row w g 74 #[.int .i64 z]) :
    Calls Tryd.prog 63 #[.iface 74 (.int .i64 k), .iface 96 (.pointer (some ⟨g, 0, none⟩))] w fun ev w' => ev = .returned (.bool true) ∧ Row w' g 74 #[.int .i64 k] ∧ Below g w w' := by
  refine (as_hit k ⟨g, 0, none⟩ (.int .i64 z) w hg (by rw [hR.cell]; rfl) (hR.frozen 0)).mono ?_
  rintro ev w' ⟨rfl, rfl⟩
  refine ⟨rfl, ?_, ?_⟩
  · exact ((((hR.allocR _).allocR _).allocR _).allocR _).set 0 _
  · have hlt := hR.lt
    exact ((((((Below.refl g w).alloc (by omega) _).alloc (by simp; omega) _).alloc (by simp; omega) _).alloc (by simp; omega) _).setCell (p := ⟨g, 0, none⟩) (Nat.le_refl _) _)

theorem code_nil (w : World) : Calls Tryd.prog 27 #[.nilIface] w fun ev w' => ev = .returned (.int .i64 0) ∧ Below w.heap.size w w' := by
  go_enter Tryd.func27, Tryd.ntmps27
  go_wp2_with fail
  go_ret
  exact ⟨rfl, Below.refl _ _⟩

set_option maxHeartbeats 4000000 in
theorem code_any (k : Int) (hk : 0 < k) (w : World) (he : ErrOk w) : Calls Tryd.prog 27 #[.iface 74 (.int .i64 k)] w fun ev w' => ev = .returned (.int .i64 k) ∧ Below w.heap.size w w' := by
  have r0 := Row.new w 74 #[.int .i64 0]
  have hb := al_ w (.cells #[.int .i64 0] 74)
  have he1 := he.below hb
  go_enter Tryd.func27, Tryd.ntmps27
  go_wp2_with fail
  generalize w.alloc (.cells #[.int .i64 0] 74) = W at *
  refine (as_own k 0 _ W he1 r0).mono ?_
  rintro ev w1 ⟨rfl, r1, b1⟩
  have c1 : w1.cell? ⟨w.heap.size, 0, none⟩ = some (.int .i64 k) := by rw [r1.cell]; rfl
  go_wp2_with fail
  go_ret
  exact ⟨rfl, hb.trans b1⟩
end Go.Proofs.YtlgecdkidgjgiaaDoor
