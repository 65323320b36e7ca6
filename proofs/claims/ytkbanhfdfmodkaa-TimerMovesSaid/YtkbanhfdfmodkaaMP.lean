/-
  The law TimerMoves holds for every input: a timer that is started again is due at its new time alone; one that is stopped is not due.
  No condition.
-/
import Derived.Test.YtkbanhfdfmodkaaRows
import Derived.Test.YtkbanhfdfmodkaaTmM
set_option linter.unusedVariables false
namespace Go.Proofs.Ytkbanhfdfmodkaa
open Go Vm Go.ChangeShapes Go.WideShapes Go.ChangeAt Go.RowKit
set_option maxRecDepth 100000 in
theorem timerMoves_lifted (os : Os) (started : os.Started) (H : Type) (enc : TypeId × Value → H) :
    ReturnsInHanded {} Try.checked os 7 .any (Rows.timerMovesSpec.pre6 enc Try.prog Try.f7 Rows.timerMovesRow.domain false) (Rows.timerMovesSpec.post enc Try.prog Try.f7 false true false false) := by
  refine lift_law (C := Try.checked) (tb := 4) own started (by kernel_rfl) Try.func7
    (ChangeSpec.witness6 (enc := enc) (C := Try.checked) false ⟨#[], #[.int .i64 0, .int .i64 0, .int .i64 0, .int .i64 0], []⟩ 8 (by kernel_rfl) (by kernel_rfl) (by kernel_rfl) (by kernel_rfl))
    laidOut (by kernel_rfl) rfl (by kernel_rfl) (by kernel_rfl) ?_ ?_
  · intro ds hl
    match ds, hl with
    | [d1, d2, d3, d4], _ => exact ⟨rfl, rfl, rfl⟩
  · intro W base args ds ps hv hT hsz hH
    refine law_call (fn := Try.f7) mixed [.int .i64, .int .i64, .int .i64, .int .i64] (by kernel_rfl) hH hv hT (sumsAwake _) ?_
    · intro h us r
      match us, r with
      | [u1, u2, u3, u4], ⟨r1, r2, r3, r4, _⟩ =>
        obtain ⟨k1, rfl, _⟩ := r1.int
        obtain ⟨k2, rfl, _⟩ := r2.int
        obtain ⟨k3, rfl, hb⟩ := r3.int
        obtain ⟨k4, rfl, _⟩ := r4.int
        simp [Lit.wf, IntKind.min, IntKind.max, IntKind.bits, IntKind.signed] at hb
        exact ⟨400, w_lmoves (by omega) 400 (by omega)⟩
theorem timerMoves_over : Rows.timerMovesRow.holds Try.pinned (OpenSpec.ofChange Rows.timerMovesSpec) :=
  OpenClaim.holds_of_wide 7 Try.f7 rfl rfl rfl rfl rfl rfl rfl ⟨rfl, rfl, rfl, rfl, rfl⟩ rfl rfl rfl rfl rfl (by kernel_rfl) Try.func7 (by kernel_rfl)
    (of_decide_eq_true (by kernel_rfl)) (by unfold Func.isWrapper; first | (rw [if_pos (by decide +kernel)]; kernel_rfl) | (rw [if_neg (by decide +kernel)]; exact ⟨rfl, rfl⟩))
    (fun os started H enc _ => timerMoves_lifted os started H enc)
theorem timerMoves_holds : Rows.TimerMovesSaid := timerMoves_over
end Go.Proofs.Ytkbanhfdfmodkaa
#print axioms Go.Proofs.Ytkbanhfdfmodkaa.timerMoves_holds

