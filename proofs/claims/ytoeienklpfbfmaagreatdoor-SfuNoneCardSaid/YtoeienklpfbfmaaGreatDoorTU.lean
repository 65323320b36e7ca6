/- Part of a proof by an abstract run of the program's code: TU. No condition. -/
import Derived.Test.YtoeienklpfbfmaaGreatDoorTQ
import Derived.Test.YtoeienklpfbfmaaGreatDoorTR
import Derived.Test.YtoeienklpfbfmaaGreatDoorTS
import Derived.Test.YtoeienklpfbfmaaGreatDoorTT
/-! The row. -/
set_option linter.unusedVariables false
namespace Go.Proofs.YtoeienklpfbfmaaGreatDoor
open Go Vm Go.ChangeShapes Go.WideShapes Go.ChangeAt Go.RowKit
set_option maxRecDepth 100000 in
theorem sfuNone_closed : joinedFacts Tryz.prog 3 Tryz.f3 Rows.sfuNoneSpec Rows.sfuNoneRow = true := by
  unfold joinedFacts
  exact (and2 (and2 (and2 (and2 (and2 (and2 (and2 (and2 (and2 (and2 (and2 (and2 (and2 (and2 (and2 (and2 (and2 (and2 (and2 (and2 (and2 (and2 (and2 (and2 (and2 (and2 (and2 (and2 (and2 (and2 (and2 sfuNone_k0 laidOut) sfuNone_k2) sfuNone_k3) sfuNone_k4) sfuNone_k5) sfuNone_k6) sfuNone_k7) sfuNone_k8) sfuNone_k9) sfuNone_k10) sfuNone_k11) sfuNone_k12) sfuNone_k13) sfuNone_k14) sfuNone_k15) sfuNone_k16) sfuNone_k17) sfuNone_k18) sfuNone_k19) sfuNone_k20) sfuNone_k21) sfuNone_k22) sfuNone_k23) sfuNone_k24) sfuNone_k25) sfuNone_k26) sfuNone_k27) sfuNone_k28) sfuNone_k29) sfuNone_k30) sfuNone_k31)
theorem sfuNone_over : Rows.sfuNoneRow.holds Tryz.pinned (OpenSpec.ofChange Rows.sfuNoneSpec) :=
  OpenClaim.holds_of_wide 3 Tryz.f3 rfl rfl rfl rfl rfl rfl rfl ⟨rfl, rfl, rfl, rfl, rfl⟩ rfl rfl rfl rfl rfl (by kernel_rfl) Tryz.func3 sfuNone_closed
    (of_decide_eq_true (by kernel_rfl)) (by unfold Func.isWrapper; first | (rw [if_pos (by decide +kernel)]; kernel_rfl) | (rw [if_neg (by decide +kernel)]; exact ⟨rfl, rfl⟩))
    (fun os started H enc _ => sfuNone_lifted os started H enc)
theorem sfuNone_row : Rows.SfuNoneSaid := sfuNone_over
end Go.Proofs.YtoeienklpfbfmaaGreatDoor

