/-
  The law JoinBounds holds for every input: whatever comes, no more than 65536 octets are held, and no more is told than came.
  No condition.
-/
import Derived.Test.YtnffglfpjcbfaaaRows
import Derived.Test.YtnffglfpjcbfaaaBS
set_option linter.unusedVariables false
namespace Go.Proofs.Ytnffglfpjcbfaaa
open Go Vm Go.ChangeShapes Go.WideShapes Go.ChangeAt Go.RowKit
set_option maxRecDepth 100000 in
theorem joinBounds_lifted (os : Os) (started : os.Started) (H : Type) (enc : TypeId × Value → H) :
    ReturnsInHanded {} Try.checked os 6 .any (Rows.joinBoundsSpec.pre6 enc Try.prog Try.f6 Rows.joinBoundsRow.domain false) (Rows.joinBoundsSpec.post enc Try.prog Try.f6 false true false false) := by
  refine lift_law (C := Try.checked) (tb := 4) own started (by kernel_rfl) Try.func6
    (ChangeSpec.witness6 (enc := enc) (C := Try.checked) false ⟨#[], #[.int .i64 0, .slice none 0 0], []⟩ 8 (by kernel_rfl) (by kernel_rfl) (by kernel_rfl) (by kernel_rfl))
    laidOut (by kernel_rfl) rfl (by kernel_rfl) (by kernel_rfl) ?_ ?_
  · intro ds hl
    match ds, hl with
    | [d1, d2], _ => exact ⟨rfl, rfl, rfl⟩
  · intro W base args ds ps hv hT hsz hH
    refine law_call (fn := Try.f6) mixed [.int .i64, .slice PTop] (by kernel_rfl) hH hv hT hsz (sumsAwake _) ?_
    · intro h us r
      match us, r with
      | [u1, u2], ⟨r1, r2, _⟩ =>
        obtain ⟨z, rfl, _⟩ := r1.i64
        obtain ⟨o, m, c, els, rfl, hr, hl, _, hel, _, _⟩ := Rep.row r2
        obtain ⟨l, e, hl2, hok⟩ := stps_of els hel
        have hm : m = l.length := by omega
        subst hm
        rw [e] at hr
        exact ⟨400000, w_lbounds hr hok (by omega)⟩
theorem joinBounds_over : Rows.joinBoundsRow.holds Try.pinned (OpenSpec.ofChange Rows.joinBoundsSpec) :=
  OpenClaim.holds_of_wide 6 Try.f6 rfl rfl rfl rfl rfl rfl rfl ⟨rfl, rfl, rfl, rfl, rfl⟩ rfl rfl rfl rfl rfl (by kernel_rfl) Try.func6 (by kernel_rfl)
    (of_decide_eq_true (by kernel_rfl)) (by unfold Func.isWrapper; first | (rw [if_pos (by decide +kernel)]; kernel_rfl) | (rw [if_neg (by decide +kernel)]; exact ⟨rfl, rfl⟩))
    (fun os started H enc _ => joinBounds_lifted os started H enc)
theorem joinBounds_holds : Rows.JoinBoundsSaid := joinBounds_over
end Go.Proofs.Ytnffglfpjcbfaaa
#print axioms Go.Proofs.Ytnffglfpjcbfaaa.joinBounds_holds

