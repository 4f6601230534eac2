/-
  Closed facts of the seat's program.
-/
import Derived.Test.YtejjhikbdchjaaaGreatChecked
import Derived.ReadAgain
import Derived.KernelRfl
namespace Go.Proofs.YtejjhikbdchjaaaGreat
set_option maxRecDepth 100000
theorem laidOut : laidOutB Tryz.prog = true := by kernel_rfl
theorem mapsRows : mapsRowed Tryz.prog = true := by kernel_rfl
theorem slicesFull : ∀ t e, t < Tryz.prog.types.size → Tryz.prog.underlying t = some (.slice e) → 0 < Tryz.prog.cellsOf e := slices_full_of _ (by kernel_rfl)

end Go.Proofs.YtejjhikbdchjaaaGreat
