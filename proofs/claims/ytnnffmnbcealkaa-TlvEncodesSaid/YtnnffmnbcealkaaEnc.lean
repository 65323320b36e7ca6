/-
  The law TlvEncodes holds for every input: any parameters' octets, or that they are too many or too long, and where a kind stands, is what the document says.
  No condition.
-/
import Derived.Test.YtnnffmnbcealkaaRows
import Derived.Test.YtnnffmnbcealkaaOct
import Derived.Test.YtnnffmnbcealkaaPar
import Derived.Test.YtnnffmnbcealkaaEncA
set_option linter.unusedVariables false
namespace Go.Proofs.Ytnnffmnbcealkaa
open Go Vm Go.ChangeShapes Go.WideShapes Go.ChangeAt Go.RowKit
set_option maxRecDepth 100000 in
theorem tlvEncodes_lifted (os : Os) (started : os.Started) (H : Type) (enc : TypeId × Value → H) :
    ReturnsInHanded {} Try.checked os 3 .any (Rows.tlvEncodesSpec.pre6 enc Try.prog Try.f3 Rows.tlvEncodesRow.domain false) (Rows.tlvEncodesSpec.post enc Try.prog Try.f3 false true false false) := by
  refine lift_law (C := Try.checked) (tb := 4) own started (by kernel_rfl) Try.func3
    (ChangeSpec.witness6 (enc := enc) (C := Try.checked) false ⟨#[], #[.slice none 0 0, .int .u16 0], []⟩ 8 (by kernel_rfl) (by kernel_rfl) (by kernel_rfl) (by kernel_rfl))
    laidOut (by kernel_rfl) rfl (by kernel_rfl) (by kernel_rfl) ?_ ?_
  · intro ds hl
    match ds, hl with
    | [d1, d2], _ => exact ⟨rfl, rfl, rfl⟩
  · intro W base args ds ps hv hT hsz hH
    refine law_call (fn := Try.f3) mixed [.slice (.pair (.int .u16) (.pair (.slice (.int .u8)) .unit)), .int .u16] (by kernel_rfl) hH hv hT (sumsAwake _) ?_
    · intro h us r
      match us, r with
      | [u1, u2], ⟨r1, r2, _⟩ =>
        obtain ⟨o, m, c, l, cs, rfl, hr, hp, hl, hc⟩ := RepV.prms r1
        obtain ⟨k, rfl, hk⟩ := r2.u16
        exact ⟨200, w_encodes hr hp hl k 200 (Nat.le_refl _)⟩
theorem tlvEncodes_over : Rows.tlvEncodesRow.holds Try.pinned (OpenSpec.ofChange Rows.tlvEncodesSpec) :=
  OpenClaim.holds_of_wide 3 Try.f3 rfl rfl rfl rfl rfl rfl rfl ⟨rfl, rfl, rfl, rfl, rfl⟩ rfl rfl rfl rfl rfl (by kernel_rfl) Try.func3 (by kernel_rfl)
    (of_decide_eq_true (by kernel_rfl)) (by unfold Func.isWrapper; first | (rw [if_pos (by decide +kernel)]; kernel_rfl) | (rw [if_neg (by decide +kernel)]; exact ⟨rfl, rfl⟩))
    (fun os started H enc _ => tlvEncodes_lifted os started H enc)
theorem tlvEncodes_holds : Rows.TlvEncodesSaid := tlvEncodes_over
end Go.Proofs.Ytnnffmnbcealkaa
#print axioms Go.Proofs.Ytnnffmnbcealkaa.tlvEncodes_holds

