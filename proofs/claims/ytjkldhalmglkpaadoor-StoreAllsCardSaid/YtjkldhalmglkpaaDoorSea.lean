import Derived.Test.YtjkldhalmglkpaaDoorChecked
import Derived.Test.YtjkldhalmglkpaaDoorZOl
namespace Go.Proofs.YtjkldhalmglkpaaDoor
open Go Go.Sl
set_option maxRecDepth 100000
theorem own' : ownKnob Tryd.prog.godebug = none := by kernel_rfl
theorem kids : Kids Tryd.prog (· < Tryd.prog.types.size) := kids_rows (by kernel_rfl) (by kernel_rfl)
theorem full : ∀ t e, t < Tryd.prog.types.size → Tryd.prog.underlying t = some (.slice e) → 0 < Tryd.prog.cellsOf e := slices_full_of Tryd.prog (by kernel_rfl)
end Go.Proofs.YtjkldhalmglkpaaDoor
