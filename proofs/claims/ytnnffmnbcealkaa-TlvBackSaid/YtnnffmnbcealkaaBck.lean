/-
  The law TlvBack holds for every input: parameters that are not too many nor too long are decoded to the same, in a multiple of four octets.
  No condition.
-/
import Derived.Test.YtnnffmnbcealkaaRows
import Derived.Test.YtnnffmnbcealkaaOct
import Derived.Test.YtnnffmnbcealkaaBckA
set_option linter.unusedVariables false
namespace Go.Proofs.Ytnnffmnbcealkaa
open Go Vm Go.ChangeShapes Go.WideShapes Go.ChangeAt Go.RowKit
set_option maxRecDepth 100000 in
theorem tlvBack_lifted (os : Os) (started : os.Started) (H : Type) (enc : TypeId × Value → H) :
    ReturnsInHanded {} Try.checked os 6 .any (Rows.tlvBackSpec.pre6 enc Try.prog Try.f6 Rows.tlvBackRow.domain false) (Rows.tlvBackSpec.post enc Try.prog Try.f6 false true false false) := by
  refine lift_law (C := Try.checked) (tb := 4) own started (by kernel_rfl) Try.func6
    (ChangeSpec.witness6 (enc := enc) (C := Try.checked) false ⟨#[], #[.slice none 0 0], []⟩ 8 (by kernel_rfl) (by kernel_rfl) (by kernel_rfl) (by kernel_rfl))
    laidOut (by kernel_rfl) rfl (by kernel_rfl) (by kernel_rfl) ?_ ?_
  · intro ds hl
    match ds, hl with
    | [d1], _ => exact ⟨rfl, rfl, rfl⟩
  · intro W base args ds ps hv hT hsz hH
    refine law_call (fn := Try.f6) mixed [.slice (.pair (.int .u16) (.pair (.slice (.int .u8)) .unit))] (by kernel_rfl) hH hv hT (sumsAwake _) ?_
    · intro h us r
      match us, r with
      | [u1], ⟨r1, _⟩ =>
        obtain ⟨o, m, c, l, cs, rfl, hr, hp, hl, hc⟩ := RepV.prms r1
        exact ⟨300, w_back hr hp hl 300 (Nat.le_refl _)⟩
theorem tlvBack_over : Rows.tlvBackRow.holds Try.pinned (OpenSpec.ofChange Rows.tlvBackSpec) :=
  OpenClaim.holds_of_wide 6 Try.f6 rfl rfl rfl rfl rfl rfl rfl ⟨rfl, rfl, rfl, rfl, rfl⟩ rfl rfl rfl rfl rfl (by kernel_rfl) Try.func6 (by kernel_rfl)
    (of_decide_eq_true (by kernel_rfl)) (by unfold Func.isWrapper; first | (rw [if_pos (by decide +kernel)]; kernel_rfl) | (rw [if_neg (by decide +kernel)]; exact ⟨rfl, rfl⟩))
    (fun os started H enc _ => tlvBack_lifted os started H enc)
theorem tlvBack_holds : Rows.TlvBackSaid := tlvBack_over
end Go.Proofs.Ytnnffmnbcealkaa
#print axioms Go.Proofs.Ytnnffmnbcealkaa.tlvBack_holds

