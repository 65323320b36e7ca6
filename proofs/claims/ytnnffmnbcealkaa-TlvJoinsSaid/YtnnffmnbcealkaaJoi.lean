/-
  The law TlvJoins holds for every input: the octets of parameters, one behind the other, are those of all of them; cut off within one they are none.
  No condition.
-/
import Derived.Test.YtnnffmnbcealkaaRows
import Derived.Test.YtnnffmnbcealkaaOct
import Derived.Test.YtnnffmnbcealkaaJoiA
set_option linter.unusedVariables false
namespace Go.Proofs.Ytnnffmnbcealkaa
open Go Vm Go.ChangeShapes Go.WideShapes Go.ChangeAt Go.RowKit
set_option maxRecDepth 100000 in
theorem tlvJoins_lifted (os : Os) (started : os.Started) (H : Type) (enc : TypeId × Value → H) :
    ReturnsInHanded {} Try.checked os 8 .any (Rows.tlvJoinsSpec.pre6 enc Try.prog Try.f8 Rows.tlvJoinsRow.domain false) (Rows.tlvJoinsSpec.post enc Try.prog Try.f8 false true false false) := by
  refine lift_law (C := Try.checked) (tb := 4) own started (by kernel_rfl) Try.func8
    (ChangeSpec.witness6 (enc := enc) (C := Try.checked) false ⟨#[], #[.slice none 0 0, .slice none 0 0, .int .i64 0], []⟩ 8 (by kernel_rfl) (by kernel_rfl) (by kernel_rfl) (by kernel_rfl))
    laidOut (by kernel_rfl) rfl (by kernel_rfl) (by kernel_rfl) ?_ ?_
  · intro ds hl
    match ds, hl with
    | [d1, d2, d3], _ => exact ⟨rfl, rfl, rfl⟩
  · intro W base args ds ps hv hT hsz hH
    refine law_call (fn := Try.f8) mixed [.slice (.pair (.int .u16) (.pair (.slice (.int .u8)) .unit)), .slice (.pair (.int .u16) (.pair (.slice (.int .u8)) .unit)), .int .i64] (by kernel_rfl) hH hv hT (sumsAwake _) ?_
    · intro h us r
      match us, r with
      | [u1, u2, u3], ⟨r1, r2, r3, _⟩ =>
        obtain ⟨o, m, c, l, cs, rfl, hr, hp, hl, hc⟩ := RepV.prms r1
        obtain ⟨o', m', c', l', cs', rfl, hr', hp', hl', hc'⟩ := RepV.prms r2
        obtain ⟨k, rfl, _⟩ := r3.i64
        exact ⟨400, w_joins hr hp hl hr' hp' hl' hc hc' k 400 (Nat.le_refl _)⟩
theorem tlvJoins_over : Rows.tlvJoinsRow.holds Try.pinned (OpenSpec.ofChange Rows.tlvJoinsSpec) :=
  OpenClaim.holds_of_wide 8 Try.f8 rfl rfl rfl rfl rfl rfl rfl ⟨rfl, rfl, rfl, rfl, rfl⟩ rfl rfl rfl rfl rfl (by kernel_rfl) Try.func8 (by kernel_rfl)
    (of_decide_eq_true (by kernel_rfl)) (by unfold Func.isWrapper; first | (rw [if_pos (by decide +kernel)]; kernel_rfl) | (rw [if_neg (by decide +kernel)]; exact ⟨rfl, rfl⟩))
    (fun os started H enc _ => tlvJoins_lifted os started H enc)
theorem tlvJoins_holds : Rows.TlvJoinsSaid := tlvJoins_over
end Go.Proofs.Ytnnffmnbcealkaa
#print axioms Go.Proofs.Ytnnffmnbcealkaa.tlvJoins_holds

