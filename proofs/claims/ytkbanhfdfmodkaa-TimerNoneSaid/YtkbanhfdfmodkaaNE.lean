/-
  The law TimerNone holds for every input: a set that is none has no timers, whatever is done.
  No condition.
-/
import Derived.Test.YtkbanhfdfmodkaaRows
import Derived.Test.YtkbanhfdfmodkaaNB
set_option linter.unusedVariables false
namespace Go.Proofs.Ytkbanhfdfmodkaa
open Go Vm Go.ChangeShapes Go.WideShapes Go.ChangeAt Go.RowKit
set_option maxRecDepth 100000 in
theorem timerNone_lifted (os : Os) (started : os.Started) (H : Type) (enc : TypeId × Value → H) :
    ReturnsInHanded {} Try.checked os 6 .any (Rows.timerNoneSpec.pre6 enc Try.prog Try.f6 Rows.timerNoneRow.domain false) (Rows.timerNoneSpec.post enc Try.prog Try.f6 false true false false) := by
  refine lift_law (C := Try.checked) (tb := 4) own started (by kernel_rfl) Try.func6
    (ChangeSpec.witness6 (enc := enc) (C := Try.checked) false ⟨#[], #[.int .i64 0, .int .i64 0], []⟩ 8 (by kernel_rfl) (by kernel_rfl) (by kernel_rfl) (by kernel_rfl))
    laidOut (by kernel_rfl) rfl (by kernel_rfl) (by kernel_rfl) ?_ ?_
  · intro ds hl
    match ds, hl with
    | [d1, d2], _ => exact ⟨rfl, rfl, rfl⟩
  · intro W base args ds ps hv hT hsz hH
    refine law_call_far (fn := Try.f6) mixed [.int .i64, .int .i64] (by kernel_rfl) hH hv hT (sumsAwake _) 1000 ?_
    · intro h us r
      match us, r with
      | [u1, u2], ⟨r1, r2, _⟩ =>
        obtain ⟨k, rfl, _⟩ := r1.int
        obtain ⟨m, rfl, _⟩ := r2.int
        exact ⟨301, w_lnone⟩
theorem timerNone_over : Rows.timerNoneRow.holds Try.pinned (OpenSpec.ofChange Rows.timerNoneSpec) :=
  OpenClaim.holds_of_wide 6 Try.f6 rfl rfl rfl rfl rfl rfl rfl ⟨rfl, rfl, rfl, rfl, rfl⟩ rfl rfl rfl rfl rfl (by kernel_rfl) Try.func6 (by kernel_rfl)
    (of_decide_eq_true (by kernel_rfl)) (by unfold Func.isWrapper; first | (rw [if_pos (by decide +kernel)]; kernel_rfl) | (rw [if_neg (by decide +kernel)]; exact ⟨rfl, rfl⟩))
    (fun os started H enc _ => timerNone_lifted os started H enc)
theorem timerNone_holds : Rows.TimerNoneSaid := timerNone_over
end Go.Proofs.Ytkbanhfdfmodkaa
#print axioms Go.Proofs.Ytkbanhfdfmodkaa.timerNone_holds

