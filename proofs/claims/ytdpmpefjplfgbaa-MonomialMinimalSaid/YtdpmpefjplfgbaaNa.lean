/- The given statements, out of the contracts. No condition. -/
import Derived.Test.YtdpmpefjplfgbaaRows
import Derived.Test.YtdpmpefjplfgbaaElw
import Derived.Test.YtdpmpefjplfgbaaMf
namespace Go.Proofs.Ytdpmpefjplfgbaa
open Go Go.EL Go.RowKit Go.ChangeShapes Go.WideShapes Go.ChangeAt

theorem ownK : ownKnob Try.prog.godebug = none := by kernel_rfl
theorem laidK : laidOutB Try.prog = true := by kernel_rfl
theorem cells24 : Try.prog.cellsOf 24 = 8 := by kernel_rfl
theorem cells22 : Try.prog.cellsOf 22 = 1 := by kernel_rfl
theorem cells27 : Try.prog.cellsOf 27 = 8 := by kernel_rfl
theorem cells3 : Try.prog.cellsOf 3 = 1 := by kernel_rfl
end Go.Proofs.Ytdpmpefjplfgbaa
