/-
  The law TimerOrder holds for every input: what is due is told in the order of time, of one time in the order of ids; asked in two steps it is the same as asked once.
  No condition.
-/
import Derived.Test.YtkbanhfdfmodkaaRows
import Derived.Test.YtkbanhfdfmodkaaTmO
set_option linter.unusedVariables false
namespace Go.Proofs.Ytkbanhfdfmodkaa
open Go Vm Go.ChangeShapes Go.WideShapes Go.ChangeAt Go.RowKit
set_option maxRecDepth 100000 in
theorem timerOrder_lifted (os : Os) (started : os.Started) (H : Type) (enc : TypeId × Value → H) :
    ReturnsInHanded {} Try.checked os 4 .any (Rows.timerOrderSpec.pre6 enc Try.prog Try.f4 Rows.timerOrderRow.domain false) (Rows.timerOrderSpec.post enc Try.prog Try.f4 false true false false) := by
  refine lift_law (C := Try.checked) (tb := 4) own started (by kernel_rfl) Try.func4
    (ChangeSpec.witness6 (enc := enc) (C := Try.checked) false ⟨#[], #[.slice none 0 0, .int .i64 0, .int .i64 0], []⟩ 8 (by kernel_rfl) (by kernel_rfl) (by kernel_rfl) (by kernel_rfl))
    laidOut (by kernel_rfl) rfl (by kernel_rfl) (by kernel_rfl) ?_ ?_
  · intro ds hl
    match ds, hl with
    | [d1, d2, d3], _ => exact ⟨rfl, rfl, rfl⟩
  · intro W base args ds ps hv hT hsz hH
    refine law_call (fn := Try.f4) mixed [.slice (.int .i64), .int .i64, .int .i64] (by kernel_rfl) hH hv hT (sumsAwake _) ?_
    · intro h us r
      match us, r with
      | [u1, u2, u3], ⟨r1, r2, r3, _⟩ =>
        obtain ⟨o, c, l, rfl, hr, _⟩ := r1.ints
        obtain ⟨k2, rfl, _⟩ := r2.int
        obtain ⟨k3, rfl, _⟩ := r3.int
        exact ⟨1000, w_lorder hr 1000 (by omega)⟩
theorem timerOrder_over : Rows.timerOrderRow.holds Try.pinned (OpenSpec.ofChange Rows.timerOrderSpec) :=
  OpenClaim.holds_of_wide 4 Try.f4 rfl rfl rfl rfl rfl rfl rfl ⟨rfl, rfl, rfl, rfl, rfl⟩ rfl rfl rfl rfl rfl (by kernel_rfl) Try.func4 (by kernel_rfl)
    (of_decide_eq_true (by kernel_rfl)) (by unfold Func.isWrapper; first | (rw [if_pos (by decide +kernel)]; kernel_rfl) | (rw [if_neg (by decide +kernel)]; exact ⟨rfl, rfl⟩))
    (fun os started H enc _ => timerOrder_lifted os started H enc)
theorem timerOrder_holds : Rows.TimerOrderSaid := timerOrder_over
end Go.Proofs.Ytkbanhfdfmodkaa
#print axioms Go.Proofs.Ytkbanhfdfmodkaa.timerOrder_holds

