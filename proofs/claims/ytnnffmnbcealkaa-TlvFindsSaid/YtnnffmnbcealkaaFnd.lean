/-
  The law TlvFinds holds for every input: the place of a kind is that of the first one; of a kind put in front it is the first, however many follow.
  No condition.
-/
import Derived.Test.YtnnffmnbcealkaaRows
import Derived.Test.YtnnffmnbcealkaaOct
import Derived.Test.YtnnffmnbcealkaaPar
import Derived.Test.YtnnffmnbcealkaaFndA
set_option linter.unusedVariables false
namespace Go.Proofs.Ytnnffmnbcealkaa
open Go Vm Go.ChangeShapes Go.WideShapes Go.ChangeAt Go.RowKit
set_option maxRecDepth 100000 in
theorem tlvFinds_lifted (os : Os) (started : os.Started) (H : Type) (enc : TypeId × Value → H) :
    ReturnsInHanded {} Try.checked os 9 .any (Rows.tlvFindsSpec.pre6 enc Try.prog Try.f9 Rows.tlvFindsRow.domain false) (Rows.tlvFindsSpec.post enc Try.prog Try.f9 false true false false) := by
  refine lift_law (C := Try.checked) (tb := 4) own started (by kernel_rfl) Try.func9
    (ChangeSpec.witness6 (enc := enc) (C := Try.checked) false ⟨#[], #[.slice none 0 0, .int .u16 0], []⟩ 8 (by kernel_rfl) (by kernel_rfl) (by kernel_rfl) (by kernel_rfl))
    laidOut (by kernel_rfl) rfl (by kernel_rfl) (by kernel_rfl) ?_ ?_
  · intro ds hl
    match ds, hl with
    | [d1, d2], _ => exact ⟨rfl, rfl, rfl⟩
  · intro W base args ds ps hv hT hsz hH
    refine law_call (fn := Try.f9) mixed [.slice (.pair (.int .u16) (.pair (.slice (.int .u8)) .unit)), .int .u16] (by kernel_rfl) hH hv hT (sumsAwake _) ?_
    · intro h us r
      match us, r with
      | [u1, u2], ⟨r1, r2, _⟩ =>
        obtain ⟨o, m, c, l, cs, rfl, hr, hp, hl, hc⟩ := RepV.prms r1
        obtain ⟨k, rfl, hk⟩ := r2.u16
        exact ⟨200, w_finds hr hp hl hc k hk 200 (Nat.le_refl _)⟩
theorem tlvFinds_over : Rows.tlvFindsRow.holds Try.pinned (OpenSpec.ofChange Rows.tlvFindsSpec) :=
  OpenClaim.holds_of_wide 9 Try.f9 rfl rfl rfl rfl rfl rfl rfl ⟨rfl, rfl, rfl, rfl, rfl⟩ rfl rfl rfl rfl rfl (by kernel_rfl) Try.func9 (by kernel_rfl)
    (of_decide_eq_true (by kernel_rfl)) (by unfold Func.isWrapper; first | (rw [if_pos (by decide +kernel)]; kernel_rfl) | (rw [if_neg (by decide +kernel)]; exact ⟨rfl, rfl⟩))
    (fun os started H enc _ => tlvFinds_lifted os started H enc)
theorem tlvFinds_holds : Rows.TlvFindsSaid := tlvFinds_over
end Go.Proofs.Ytnnffmnbcealkaa
#print axioms Go.Proofs.Ytnnffmnbcealkaa.tlvFinds_holds

