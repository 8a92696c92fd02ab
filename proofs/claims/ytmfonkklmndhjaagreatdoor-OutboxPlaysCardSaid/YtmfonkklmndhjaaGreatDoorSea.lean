import Derived.Test.YtmfonkklmndhjaaGreatDoorChecked
import Derived.Test.YtmfonkklmndhjaaGreatDoorZOl
namespace Go.Proofs.YtmfonkklmndhjaaGreatDoor
open Go Go.Sl
set_option maxRecDepth 100000
theorem own' : ownKnob Tryz.prog.godebug = none := by kernel_rfl
theorem kids : Kids Tryz.prog (· < Tryz.prog.types.size) := kids_rows (by kernel_rfl) (by kernel_rfl)
theorem full : ∀ t e, t < Tryz.prog.types.size → Tryz.prog.underlying t = some (.slice e) → 0 < Tryz.prog.cellsOf e := slices_full_of Tryz.prog (by kernel_rfl)
end Go.Proofs.YtmfonkklmndhjaaGreatDoor
