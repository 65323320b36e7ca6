/- Part of a proof by an abstract run of the program's code: TV. No condition. -/
import Derived.SevenTiedAt
import Derived.Test.YtoeienklpfbfmaaGreatDoorRows
/-! Facts on the card. -/
namespace Go.Proofs.YtoeienklpfbfmaaGreatDoor
open Go
theorem sfuNone_c1 : Rows.sfuNoneRow.wfByText (OpenSpec.ofChange Rows.sfuNoneSpec) = true := by kernel_rfl
theorem sfuNone_c2 : Tryz.pinned.checked.prog.mainIs = some (((true, "84da1f447d043cba515b356a4fe4f08c81da5fb6fd6fc8c6b0b6c886d3775824") : Bool × String).1, ((true, "84da1f447d043cba515b356a4fe4f08c81da5fb6fd6fc8c6b0b6c886d3775824") : Bool × String).2.toList) := by kernel_rfl
theorem sfuNone_c3 : Tryz.prog.funcNamed Rows.sfuNoneRow.func = some 3 := by kernel_rfl
theorem sfuNone_c5 : (Tryz.f3.params.toList.all fun t => !Tryz.prog.wantsStandIn t) = true := by kernel_rfl
end Go.Proofs.YtoeienklpfbfmaaGreatDoor

