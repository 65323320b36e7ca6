/-
  The law TimerPlays holds for every input: whatever is started, stopped and due, in any order, is told as the document says; so is what is due first, and when, and how many there are.
  No condition.
-/
import Derived.Test.YtkbanhfdfmodkaaRows
import Derived.Test.YtkbanhfdfmodkaaTmQ
set_option linter.unusedVariables false
namespace Go.Proofs.Ytkbanhfdfmodkaa
open Go Vm Go.ChangeShapes Go.WideShapes Go.ChangeAt Go.RowKit
set_option maxRecDepth 100000 in
theorem timerPlays_lifted (os : Os) (started : os.Started) (H : Type) (enc : TypeId × Value → H) :
    ReturnsInHanded {} Try.checked os 5 .any (Rows.timerPlaysSpec.pre6 enc Try.prog Try.f5 Rows.timerPlaysRow.domain false) (Rows.timerPlaysSpec.post enc Try.prog Try.f5 false true false false) := by
  refine lift_law (C := Try.checked) (tb := 4) own started (by kernel_rfl) Try.func5
    (ChangeSpec.witness6 (enc := enc) (C := Try.checked) false ⟨#[], #[.slice none 0 0], []⟩ 8 (by kernel_rfl) (by kernel_rfl) (by kernel_rfl) (by kernel_rfl))
    laidOut (by kernel_rfl) rfl (by kernel_rfl) (by kernel_rfl) ?_ ?_
  · intro ds hl
    match ds, hl with
    | [d1], _ => exact ⟨rfl, rfl, rfl⟩
  · intro W base args ds ps hv hT hsz hH
    refine law_call (fn := Try.f5) mixed [.slice (.pair (.int .i64) (.pair (.int .i64) (.pair (.int .i64) .unit)))] (by kernel_rfl) hH hv hT (sumsAwake _) ?_
    · intro h us r
      match us, r with
      | [u1], ⟨r1, _⟩ =>
        obtain ⟨o, c, l, rfl, hr, _⟩ := RepV.ops r1
        exact ⟨1500, w_lplays hr 1500 (by omega)⟩
theorem timerPlays_over : Rows.timerPlaysRow.holds Try.pinned (OpenSpec.ofChange Rows.timerPlaysSpec) :=
  OpenClaim.holds_of_wide 5 Try.f5 rfl rfl rfl rfl rfl rfl rfl ⟨rfl, rfl, rfl, rfl, rfl⟩ rfl rfl rfl rfl rfl (by kernel_rfl) Try.func5 (by kernel_rfl)
    (of_decide_eq_true (by kernel_rfl)) (by unfold Func.isWrapper; first | (rw [if_pos (by decide +kernel)]; kernel_rfl) | (rw [if_neg (by decide +kernel)]; exact ⟨rfl, rfl⟩))
    (fun os started H enc _ => timerPlays_lifted os started H enc)
theorem timerPlays_holds : Rows.TimerPlaysSaid := timerPlays_over
end Go.Proofs.Ytkbanhfdfmodkaa
#print axioms Go.Proofs.Ytkbanhfdfmodkaa.timerPlays_holds

