/- Part of a proof by an abstract run of the program's code: TT. No condition. -/
import Derived.Test.YtoeienklpfbfmaaGreatDoorRows
/-! Facts on the row. -/
namespace Go.Proofs.YtoeienklpfbfmaaGreatDoor
open Go
theorem sfuNone_k22 : ((Rows.sfuNoneRow.plainKeys == Tryz.prog.plainKeys)) = true := by kernel_rfl
theorem sfuNone_k23 : (Rows.sfuNoneRow.shortTexts.isNone) = true := by kernel_rfl
theorem sfuNone_k24 : (Tryz.prog.stopsHeard) = true := by kernel_rfl
theorem sfuNone_k25 : (Tryz.prog.mayEnter) = true := by kernel_rfl
theorem sfuNone_k26 : ((Rows.sfuNoneRow.lifted == Tryz.prog.liftsFinal)) = true := by kernel_rfl
theorem sfuNone_k27 : ((Tryz.prog.make == some Rows.sfuNoneRow.make)) = true := by kernel_rfl
theorem sfuNone_k28 : ((Rows.sfuNoneRow.kinds == (if Rows.sfuNoneRow.domain.isEmpty then [] else Tryz.f3.params.toList.map fun t => match Tryz.prog.underlying t with | some (.int k) => some k | _ => none))) = true := by kernel_rfl
theorem sfuNone_k29 : ((Rows.sfuNoneRow.pinned == Rows.sfuNoneRow.pinnedBy)) = true := by kernel_rfl
theorem sfuNone_k30 : ((Rows.sfuNoneRow.veiled == (Tryz.f3.params.toList ++ Rows.sfuNoneSpec.plain.varTypes Tryz.prog ++ Tryz.f3.resultTypes.toList).any (Tryz.prog.veiledRec ·))) = true := by kernel_rfl
theorem sfuNone_k31 : (Rows.sfuNoneRow.veiledFits Tryz.prog Tryz.f3.params.toList (Tryz.f3.params.toList ++ Rows.sfuNoneSpec.plain.varTypes Tryz.prog ++ Tryz.f3.resultTypes.toList)) = true := by kernel_rfl
end Go.Proofs.YtoeienklpfbfmaaGreatDoor

