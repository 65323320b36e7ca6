/-
  The law JoinNone holds for every input: of a Join that is none nothing is told; what was handed in, or told, is not changed by what comes then.
  No condition.
-/
import Derived.Test.YtnffglfpjcbfaaaRows
import Derived.Test.YtnffglfpjcbfaaaNB
set_option linter.unusedVariables false
namespace Go.Proofs.Ytnffglfpjcbfaaa
open Go Vm Go.ChangeShapes Go.WideShapes Go.ChangeAt Go.RowKit
set_option maxRecDepth 100000 in
theorem joinNone_lifted (os : Os) (started : os.Started) (H : Type) (enc : TypeId × Value → H) :
    ReturnsInHanded {} Try.checked os 7 .any (Rows.joinNoneSpec.pre6 enc Try.prog Try.f7 Rows.joinNoneRow.domain false) (Rows.joinNoneSpec.post enc Try.prog Try.f7 false true false false) := by
  refine lift_law (C := Try.checked) (tb := 4) own started (by kernel_rfl) Try.func7
    (ChangeSpec.witness6 (enc := enc) (C := Try.checked) false ⟨#[], #[.agg #[.int .u8 0, .int .u8 0, .int .u32 0, .int .u32 0, .int .u16 0, .int .u16 0, .int .u32 0, .slice none 0 0, .slice none 0 0, .slice none 0 0, .slice none 0 0, .slice none 0 0], .int .u32 0, .slice none 0 0], []⟩ 8 (by kernel_rfl) (by kernel_rfl) (by kernel_rfl) (by kernel_rfl))
    laidOut (by kernel_rfl) rfl (by kernel_rfl) (by kernel_rfl) ?_ ?_
  · intro ds hl
    match ds, hl with
    | [d1, d2, d3], _ => exact ⟨rfl, rfl, rfl⟩
  · intro W base args ds ps hv hT hsz hH
    refine law_call_far (fn := Try.f7) mixed [PTc, .int .u32, .slice PTp] (by kernel_rfl) hH hv hT (sumsAwake _) 1000 ?_
    · intro h us r
      match us, r with
      | [u1, u2, u3], ⟨r1, r2, r3, _⟩ =>
        obtain ⟨x0, x1, x2, x3, x4, x5, x6, x7, x8, x9, x10, x11, rfl, _, _, _, _, _, rc⟩ := repV_chk r1
        obtain ⟨oc, c, cc, rfl⟩ := rc.sl
        obtain ⟨k, rfl, _⟩ := r2.u32
        obtain ⟨os, m, cs, rfl⟩ := r3.sl
        exact ⟨301, w_lnone⟩
theorem joinNone_over : Rows.joinNoneRow.holds Try.pinned (OpenSpec.ofChange Rows.joinNoneSpec) :=
  OpenClaim.holds_of_wide 7 Try.f7 rfl rfl rfl rfl rfl rfl rfl ⟨rfl, rfl, rfl, rfl, rfl⟩ rfl rfl rfl rfl rfl (by kernel_rfl) Try.func7 (by kernel_rfl)
    (of_decide_eq_true (by kernel_rfl)) (by unfold Func.isWrapper; first | (rw [if_pos (by decide +kernel)]; kernel_rfl) | (rw [if_neg (by decide +kernel)]; exact ⟨rfl, rfl⟩))
    (fun os started H enc _ => joinNone_lifted os started H enc)
theorem joinNone_holds : Rows.JoinNoneSaid := joinNone_over
end Go.Proofs.Ytnffglfpjcbfaaa
#print axioms Go.Proofs.Ytnffglfpjcbfaaa.joinNone_holds

