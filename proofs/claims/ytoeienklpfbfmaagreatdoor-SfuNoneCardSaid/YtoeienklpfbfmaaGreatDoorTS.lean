/- Part of a proof by an abstract run of the program's code: TS. No condition. -/
import Derived.Test.YtoeienklpfbfmaaGreatDoorRows
/-! Facts on the row. -/
namespace Go.Proofs.YtoeienklpfbfmaaGreatDoor
open Go
theorem sfuNone_k12 : ((Rows.sfuNoneRow.named == Tryz.prog.varsNamed 3)) = true := by kernel_rfl
theorem sfuNone_k13 : ((Rows.sfuNoneRow.maps == (Tryz.f3.params.toList ++ Rows.sfuNoneSpec.plain.varTypes Tryz.prog).any (Tryz.prog.mapsRec ·))) = true := by kernel_rfl
theorem sfuNone_k14 : ((Rows.sfuNoneRow.ifaces == (Tryz.f3.params.toList ++ Rows.sfuNoneSpec.plain.varTypes Tryz.prog).any (Tryz.prog.ifacesRec ·))) = true := by kernel_rfl
theorem sfuNone_k15 : ((Rows.sfuNoneRow.mapsOut == Tryz.prog.mapsAmong Tryz.f3.resultTypes.toList)) = true := by kernel_rfl
theorem sfuNone_k16 : ((Rows.sfuNoneRow.loops == (Tryz.f3.params.toList ++ Rows.sfuNoneSpec.plain.varTypes Tryz.prog).any (Tryz.prog.loopsFrom ·))) = true := by kernel_rfl
theorem sfuNone_k17 : ((Rows.sfuNoneRow.wideKeys == (Tryz.f3.params.toList ++ Rows.sfuNoneSpec.plain.varTypes Tryz.prog ++ Tryz.f3.resultTypes.toList).any (Tryz.prog.wideKeysFrom ·))) = true := by kernel_rfl
theorem sfuNone_k18 : (Rows.sfuNoneSpec.vars.all (Tryz.prog.varReadable ·)) = true := by kernel_rfl
theorem sfuNone_k19 : (Tryz.f3.resultTypes.all (fun t => Tryz.prog.readableRec t && decide (t < Tryz.prog.types.size))) = true := by kernel_rfl
theorem sfuNone_k20 : ((Rows.sfuNoneRow.ifacesOut == Tryz.f3.resultTypes.toList.any (Tryz.prog.ifacesRec ·))) = true := by kernel_rfl
theorem sfuNone_k21 : ((Rows.sfuNoneRow.loopsOut == Tryz.f3.resultTypes.toList.any (Tryz.prog.loopsFrom ·))) = true := by kernel_rfl
end Go.Proofs.YtoeienklpfbfmaaGreatDoor

