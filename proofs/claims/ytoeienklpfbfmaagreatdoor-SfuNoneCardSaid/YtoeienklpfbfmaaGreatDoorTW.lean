/- Part of a proof by an abstract run of the program's code: TW. No condition. -/
import Derived.SevenTiedAt
import Derived.Test.YtoeienklpfbfmaaGreatDoorRows
/-! Facts on the card. -/
namespace Go.Proofs.YtoeienklpfbfmaaGreatDoor
open Go
theorem sfuNone_c4 : false = Tryz.pinned.checked.prog.looks [] := by kernel_rfl
end Go.Proofs.YtoeienklpfbfmaaGreatDoor

