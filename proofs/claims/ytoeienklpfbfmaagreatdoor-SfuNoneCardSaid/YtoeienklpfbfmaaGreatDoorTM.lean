/- Part of a proof by an abstract run of the program's code: TM. No condition. -/
import Derived.Test.YtoeienklpfbfmaaGreatDoorTE
/-! Pieces of the run of awake(). -/
namespace Go.Proofs.YtoeienklpfbfmaaGreatDoor
open Go Vm
theorem awe9 : awE9.ok Tryz.prog GC 390 59 := Piece.ok_of (by kernel_rfl)
end Go.Proofs.YtoeienklpfbfmaaGreatDoor

