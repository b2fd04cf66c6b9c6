/- Closed facts. No condition. -/
import Derived.Test.YtbdknlblnfnkkaaRows
import Derived.Test.YtbdknlblnfnkkaaEF
namespace Go.Proofs.Ytbdknlblnfnkkaa
open Go Go.EL Go.RowKit Go.Proofs
theorem ownK : ownKnob Try.prog.godebug = none := by kernel_rfl
theorem laidK : laidOutB Try.prog = true := by kernel_rfl
end Go.Proofs.Ytbdknlblnfnkkaa
