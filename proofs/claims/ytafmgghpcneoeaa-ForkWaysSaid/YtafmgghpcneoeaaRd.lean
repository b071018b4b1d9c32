/- What is read at the types of the arguments. -/
import Derived.Test.YtafmgghpcneoeaaRow
import Derived.Test.YtafmgghpcneoeaaTyp
import Derived.Test.YtafmgghpcneoeaaRows
namespace Go.Proofs.Ytafmgghpcneoeaa
open Go Go.ChangeShapes Go.WideShapes Go.ChangeAt Go.RowKit

set_option maxRecDepth 100000
theorem rd28 : RD Try.prog 28 RAdr := RD.adr Try.underlying28 Try.underlying5 (by kernel_rfl) (by kernel_rfl)
theorem rd29 : RD Try.prog 29 (RInt .u64) := RD.int Try.underlying29
theorem rd31 : RD Try.prog 31 RWd := RD.wd Try.underlying31 Try.underlying29 (by kernel_rfl) (by kernel_rfl)
theorem rd24 : RD Try.prog 24 (RSl 1 1 (RInt .u8)) := RD.sl Try.underlying24 (by kernel_rfl) (by decide) (by kernel_rfl) (RD.int Try.underlying5)
theorem rd131 : RD Try.prog 131 RSlot := RD.slot Try.underlying131 (.cons rfl (by kernel_rfl) rd31 (.cons rfl (by kernel_rfl) rd31 .nil)) (by kernel_rfl)
theorem rd32 : RD Try.prog 32 (RSl 8 64 RSlot) := RD.sl Try.underlying32 (by kernel_rfl) (by decide) (by kernel_rfl) rd131
theorem rd34 : RD Try.prog 34 RAv := RD.av Try.underlying34 (.cons rfl (by kernel_rfl) rd28 (.cons rfl (by kernel_rfl) rd29 (.cons rfl (by kernel_rfl) rd31 (.cons rfl (by kernel_rfl) rd24 (.cons rfl (by kernel_rfl) rd32 .nil))))) (by kernel_rfl)

theorem own : ownKnob Try.prog.godebug = none := by kernel_rfl
theorem laid : laidOutB Try.prog = true := by kernel_rfl

end Go.Proofs.Ytafmgghpcneoeaa
