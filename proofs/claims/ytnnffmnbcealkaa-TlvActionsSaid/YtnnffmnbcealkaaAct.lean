/-
  The law TlvActions holds for every input: what is done with any kind that is not known is what the document's answer says.
  No condition.
-/
import Derived.Test.YtnnffmnbcealkaaRows
import Derived.Test.YtnnffmnbcealkaaVmD
import Derived.Test.YtnnffmnbcealkaaOct
import Derived.Test.YtnnffmnbcealkaaActA
set_option linter.unusedVariables false
namespace Go.Proofs.Ytnnffmnbcealkaa
open Go Vm Go.ChangeShapes Go.WideShapes Go.ChangeAt Go.RowKit
set_option maxRecDepth 100000 in
theorem tlvActions_lifted (os : Os) (started : os.Started) (H : Type) (enc : TypeId × Value → H) :
    ReturnsInHanded {} Try.checked os 5 .any (Rows.tlvActionsSpec.pre6 enc Try.prog Try.f5 Rows.tlvActionsRow.domain false) (Rows.tlvActionsSpec.post enc Try.prog Try.f5 false true false false) := by
  refine lift_law (C := Try.checked) (tb := 4) own started (by kernel_rfl) Try.func5
    (ChangeSpec.witness6 (enc := enc) (C := Try.checked) false ⟨#[], #[.int .u16 0], []⟩ 8 (by kernel_rfl) (by kernel_rfl) (by kernel_rfl) (by kernel_rfl))
    laidOut (by kernel_rfl) rfl (by kernel_rfl) (by kernel_rfl) ?_ ?_
  · intro ds hl
    match ds, hl with
    | [d1], _ => exact ⟨rfl, rfl, rfl⟩
  · intro W base args ds ps hv hT hsz hH
    refine law_call (fn := Try.f5) mixed [.int .u16] (by kernel_rfl) hH hv hT (sumsAwake _) ?_
    · intro h us r
      match us, r with
      | [u1], ⟨r1, _⟩ =>
        obtain ⟨k, rfl, hk⟩ := r1.u16
        exact ⟨3, w_actions k hk h 3 (Nat.le_refl _)⟩
theorem tlvActions_over : Rows.tlvActionsRow.holds Try.pinned (OpenSpec.ofChange Rows.tlvActionsSpec) :=
  OpenClaim.holds_of_wide 5 Try.f5 rfl rfl rfl rfl rfl rfl rfl ⟨rfl, rfl, rfl, rfl, rfl⟩ rfl rfl rfl rfl rfl (by kernel_rfl) Try.func5 (by kernel_rfl)
    (of_decide_eq_true (by kernel_rfl)) (by unfold Func.isWrapper; first | (rw [if_pos (by decide +kernel)]; kernel_rfl) | (rw [if_neg (by decide +kernel)]; exact ⟨rfl, rfl⟩))
    (fun os started H enc _ => tlvActions_lifted os started H enc)
theorem tlvActions_holds : Rows.TlvActionsSaid := tlvActions_over
end Go.Proofs.Ytnnffmnbcealkaa
#print axioms Go.Proofs.Ytnnffmnbcealkaa.tlvActions_holds

