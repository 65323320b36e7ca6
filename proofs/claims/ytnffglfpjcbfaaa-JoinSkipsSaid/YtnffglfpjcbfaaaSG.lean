/-
  The law JoinSkips holds for every input: a message that is skipped is not waited for; those behind it are told, in order.
  No condition.
-/
import Derived.Test.YtnffglfpjcbfaaaRows
import Derived.Test.YtnffglfpjcbfaaaSF
set_option linter.unusedVariables false
namespace Go.Proofs.Ytnffglfpjcbfaaa
open Go Vm Go.ChangeShapes Go.WideShapes Go.ChangeAt Go.RowKit
set_option maxRecDepth 100000 in
theorem joinSkips_lifted (os : Os) (started : os.Started) (H : Type) (enc : TypeId × Value → H) :
    ReturnsInHanded {} Try.checked os 5 .any (Rows.joinSkipsSpec.pre6 enc Try.prog Try.f5 Rows.joinSkipsRow.domain false) (Rows.joinSkipsSpec.post enc Try.prog Try.f5 false true false false) := by
  refine lift_law (C := Try.checked) (tb := 4) own started (by kernel_rfl) Try.func5
    (ChangeSpec.witness6 (enc := enc) (C := Try.checked) false ⟨#[], #[.int .u32 0, .int .i64 0, .int .i64 0], []⟩ 8 (by kernel_rfl) (by kernel_rfl) (by kernel_rfl) (by kernel_rfl))
    laidOut (by kernel_rfl) rfl (by kernel_rfl) (by kernel_rfl) ?_ ?_
  · intro ds hl
    match ds, hl with
    | [d1, d2, d3], _ => exact ⟨rfl, rfl, rfl⟩
  · intro W base args ds ps hv hT hsz hH
    refine law_call (fn := Try.f5) mixed [.int .u32, .int .i64, .int .i64] (by kernel_rfl) hH hv hT (sumsAwake _) ?_
    · intro h us r
      match us, r with
      | [u1, u2, u3], ⟨r1, r2, r3, _⟩ =>
        obtain ⟨t, rfl, ht⟩ := r1.u32
        obtain ⟨k, rfl, _⟩ := r2.i64
        obtain ⟨m, rfl, _⟩ := r3.i64
        exact ⟨1000, w_lskips ht (by omega)⟩
theorem joinSkips_over : Rows.joinSkipsRow.holds Try.pinned (OpenSpec.ofChange Rows.joinSkipsSpec) :=
  OpenClaim.holds_of_wide 5 Try.f5 rfl rfl rfl rfl rfl rfl rfl ⟨rfl, rfl, rfl, rfl, rfl⟩ rfl rfl rfl rfl rfl (by kernel_rfl) Try.func5 (by kernel_rfl)
    (of_decide_eq_true (by kernel_rfl)) (by unfold Func.isWrapper; first | (rw [if_pos (by decide +kernel)]; kernel_rfl) | (rw [if_neg (by decide +kernel)]; exact ⟨rfl, rfl⟩))
    (fun os started H enc _ => joinSkips_lifted os started H enc)
theorem joinSkips_holds : Rows.JoinSkipsSaid := joinSkips_over
end Go.Proofs.Ytnffglfpjcbfaaa
#print axioms Go.Proofs.Ytnffglfpjcbfaaa.joinSkips_holds

