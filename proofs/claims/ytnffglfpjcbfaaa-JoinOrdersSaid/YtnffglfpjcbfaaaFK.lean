/-
  The law JoinOrders holds for every input: the chunks of messages of one stream, in any order, each one twice, are the messages in the order of their numbers, once each.
  No condition.
-/
import Derived.Test.YtnffglfpjcbfaaaRows
import Derived.Test.YtnffglfpjcbfaaaFJ
set_option linter.unusedVariables false
namespace Go.Proofs.Ytnffglfpjcbfaaa
open Go Vm Go.ChangeShapes Go.WideShapes Go.ChangeAt Go.RowKit
set_option maxRecDepth 100000 in
theorem joinOrders_lifted (os : Os) (started : os.Started) (H : Type) (enc : TypeId × Value → H) :
    ReturnsInHanded {} Try.checked os 3 .any (Rows.joinOrdersSpec.pre6 enc Try.prog Try.f3 Rows.joinOrdersRow.domain false) (Rows.joinOrdersSpec.post enc Try.prog Try.f3 false true false false) := by
  refine lift_law (C := Try.checked) (tb := 4) own started (by kernel_rfl) Try.func3
    (ChangeSpec.witness6 (enc := enc) (C := Try.checked) false ⟨#[], #[.int .u32 0, .slice none 0 0, .int .i64 0, .slice none 0 0], []⟩ 8 (by kernel_rfl) (by kernel_rfl) (by kernel_rfl) (by kernel_rfl))
    laidOut (by kernel_rfl) rfl (by kernel_rfl) (by kernel_rfl) ?_ ?_
  · intro ds hl
    match ds, hl with
    | [d1, d2, d3, d4], _ => exact ⟨rfl, rfl, rfl⟩
  · intro W base args ds ps hv hT hsz hH
    refine law_call (fn := Try.f3) mixed [.int .u32, .slice (.int .i64), .int .i64, .slice (.int .i64)] (by kernel_rfl) hH hv hT (sumsAwake _) ?_
    · intro h us r
      match us, r with
      | [u1, u2, u3, u4], ⟨r1, r2, r3, r4, _⟩ =>
        obtain ⟨t, rfl, ht⟩ := r1.u32
        obtain ⟨os, cs, sz, rfl, hs⟩ := repV_ints r2
        obtain ⟨k, rfl, _⟩ := r3.i64
        obtain ⟨op, cp, pk, rfl, hp⟩ := repV_ints r4
        exact ⟨3000, w_lorders hs hp ht (by omega)⟩
theorem joinOrders_over : Rows.joinOrdersRow.holds Try.pinned (OpenSpec.ofChange Rows.joinOrdersSpec) :=
  OpenClaim.holds_of_wide 3 Try.f3 rfl rfl rfl rfl rfl rfl rfl ⟨rfl, rfl, rfl, rfl, rfl⟩ rfl rfl rfl rfl rfl (by kernel_rfl) Try.func3 (by kernel_rfl)
    (of_decide_eq_true (by kernel_rfl)) (by unfold Func.isWrapper; first | (rw [if_pos (by decide +kernel)]; kernel_rfl) | (rw [if_neg (by decide +kernel)]; exact ⟨rfl, rfl⟩))
    (fun os started H enc _ => joinOrders_lifted os started H enc)
theorem joinOrders_holds : Rows.JoinOrdersSaid := joinOrders_over
end Go.Proofs.Ytnffglfpjcbfaaa
#print axioms Go.Proofs.Ytnffglfpjcbfaaa.joinOrders_holds

