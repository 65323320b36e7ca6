/- Part of a proof by an abstract run of the program's code: TR. No condition. -/
import Derived.Test.YtoeienklpfbfmaaGreatDoorRows
/-! Facts on the row. -/
namespace Go.Proofs.YtoeienklpfbfmaaGreatDoor
open Go
theorem sfuNone_k0 : (Rows.sfuNoneRow.wf (OpenSpec.ofChange Rows.sfuNoneSpec)) = true := by kernel_rfl
theorem sfuNone_k2 : (mapsRowed Tryz.prog) = true := by kernel_rfl
theorem sfuNone_k3 : (Tryz.f3.params.all (Tryz.prog.readableRec ·)) = true := by kernel_rfl
theorem sfuNone_k4 : (namedTie Tryz.prog Rows.sfuNoneRow.named Rows.sfuNoneSpec.vars) = true := by kernel_rfl
theorem sfuNone_k5 : ((Rows.sfuNoneRow.stops == [])) = true := by kernel_rfl
theorem sfuNone_k6 : ((Tryz.prog.stops == [])) = true := by kernel_rfl
theorem sfuNone_k7 : ((Rows.sfuNoneRow.knobs == [])) = true := by kernel_rfl
theorem sfuNone_k8 : ((Tryz.prog.stopKnobs == [])) = true := by kernel_rfl
theorem sfuNone_k9 : ((Rows.sfuNoneRow.inPlace == Tryz.prog.inPlace 3)) = true := by kernel_rfl
theorem sfuNone_k10 : ((Rows.sfuNoneRow.unfollowed == Tryz.prog.unfollowed 3)) = true := by kernel_rfl
theorem sfuNone_k11 : ((Rows.sfuNoneRow.recurses == Tryz.prog.recurses 3)) = true := by kernel_rfl
end Go.Proofs.YtoeienklpfbfmaaGreatDoor

