/-
  The law TimerOnce holds for every input: timers that were started are told once each, as soon as it is time, whatever the times are at which is asked, if these rise.
  No condition.
-/
import Derived.Test.YtkbanhfdfmodkaaRows
import Derived.Test.YtkbanhfdfmodkaaTmU
set_option linter.unusedVariables false
namespace Go.Proofs.Ytkbanhfdfmodkaa
open Go Vm Go.ChangeShapes Go.WideShapes Go.ChangeAt Go.RowKit
set_option maxRecDepth 100000 in
theorem timerOnce_lifted (os : Os) (started : os.Started) (H : Type) (enc : TypeId × Value → H) :
    ReturnsInHanded {} Try.checked os 3 .any (Rows.timerOnceSpec.pre6 enc Try.prog Try.f3 Rows.timerOnceRow.domain false) (Rows.timerOnceSpec.post enc Try.prog Try.f3 false true false false) := by
  refine lift_law (C := Try.checked) (tb := 4) own started (by kernel_rfl) Try.func3
    (ChangeSpec.witness6 (enc := enc) (C := Try.checked) false ⟨#[], #[.slice none 0 0, .slice none 0 0], []⟩ 8 (by kernel_rfl) (by kernel_rfl) (by kernel_rfl) (by kernel_rfl))
    laidOut (by kernel_rfl) rfl (by kernel_rfl) (by kernel_rfl) ?_ ?_
  · intro ds hl
    match ds, hl with
    | [d1, d2], _ => exact ⟨rfl, rfl, rfl⟩
  · intro W base args ds ps hv hT hsz hH
    refine law_call (fn := Try.f3) mixed [.slice (.int .i64), .slice (.int .i64)] (by kernel_rfl) hH hv hT (sumsAwake _) ?_
    · intro h us r
      match us, r with
      | [u1, u2], ⟨r1, r2, _⟩ =>
        obtain ⟨o, c, l, rfl, hr, _⟩ := r1.ints
        obtain ⟨o2, c2, l2, rfl, hr2, _⟩ := r2.ints
        exact ⟨1000, w_lonce hr hr2 1000 (by omega)⟩
theorem timerOnce_over : Rows.timerOnceRow.holds Try.pinned (OpenSpec.ofChange Rows.timerOnceSpec) :=
  OpenClaim.holds_of_wide 3 Try.f3 rfl rfl rfl rfl rfl rfl rfl ⟨rfl, rfl, rfl, rfl, rfl⟩ rfl rfl rfl rfl rfl (by kernel_rfl) Try.func3 (by kernel_rfl)
    (of_decide_eq_true (by kernel_rfl)) (by unfold Func.isWrapper; first | (rw [if_pos (by decide +kernel)]; kernel_rfl) | (rw [if_neg (by decide +kernel)]; exact ⟨rfl, rfl⟩))
    (fun os started H enc _ => timerOnce_lifted os started H enc)
theorem timerOnce_holds : Rows.TimerOnceSaid := timerOnce_over
end Go.Proofs.Ytkbanhfdfmodkaa
#print axioms Go.Proofs.Ytkbanhfdfmodkaa.timerOnce_holds

