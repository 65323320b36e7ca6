/- Part of a proof by an abstract run of the program's code: TH. No condition. -/
import Derived.Test.YtoeienklpfbfmaaGreatDoorTE
/-! Pieces of the run of awake(). -/
namespace Go.Proofs.YtoeienklpfbfmaaGreatDoor
open Go Vm
theorem awe2 : awE2.ok Tryz.prog GC 390 59 := Piece.ok_of (by kernel_rfl)
theorem awe3 : awE3.ok Tryz.prog GC 390 59 := Piece.ok_of (by kernel_rfl)
theorem awe6 : awE6.ok Tryz.prog GC 390 59 := Piece.ok_of (by kernel_rfl)
theorem awe7 : awE7.ok Tryz.prog GC 390 59 := Piece.ok_of (by kernel_rfl)
theorem awe10 : awE10.ok Tryz.prog GC 390 59 := Piece.ok_of (by kernel_rfl)
end Go.Proofs.YtoeienklpfbfmaaGreatDoor

