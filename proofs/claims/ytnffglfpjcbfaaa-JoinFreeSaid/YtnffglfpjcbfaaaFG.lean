/-
  The law JoinFree holds for every input: messages without order are ready as soon as they are whole, each once, whatever else waits.
  No condition.
-/
import Derived.Test.YtnffglfpjcbfaaaRows
import Derived.Test.YtnffglfpjcbfaaaFF
set_option linter.unusedVariables false
namespace Go.Proofs.Ytnffglfpjcbfaaa
open Go Vm Go.ChangeShapes Go.WideShapes Go.ChangeAt Go.RowKit
set_option maxRecDepth 100000 in
theorem joinFree_lifted (os : Os) (started : os.Started) (H : Type) (enc : TypeId × Value → H) :
    ReturnsInHanded {} Try.checked os 4 .any (Rows.joinFreeSpec.pre6 enc Try.prog Try.f4 Rows.joinFreeRow.domain false) (Rows.joinFreeSpec.post enc Try.prog Try.f4 false true false false) := by
  refine lift_law (C := Try.checked) (tb := 4) own started (by kernel_rfl) Try.func4
    (ChangeSpec.witness6 (enc := enc) (C := Try.checked) false ⟨#[], #[.int .u32 0, .slice none 0 0, .int .i64 0, .bool false], []⟩ 8 (by kernel_rfl) (by kernel_rfl) (by kernel_rfl) (by kernel_rfl))
    laidOut (by kernel_rfl) rfl (by kernel_rfl) (by kernel_rfl) ?_ ?_
  · intro ds hl
    match ds, hl with
    | [d1, d2, d3, d4], _ => exact ⟨rfl, rfl, rfl⟩
  · intro W base args ds ps hv hT hsz hH
    refine law_call (fn := Try.f4) mixed [.int .u32, .slice (.int .u8), .int .i64, .bool] (by kernel_rfl) hH hv hT (sumsAwake _) ?_
    · intro h us r
      match us, r with
      | [u1, u2, u3, u4], ⟨r1, r2, r3, r4, _⟩ =>
        obtain ⟨t, rfl, ht⟩ := r1.u32
        obtain ⟨o, m, c, l, rfl, hr, hc, _⟩ := r2.bytes
        obtain ⟨k, rfl, _⟩ := r3.i64
        obtain ⟨w, rfl⟩ := r4.bool
        have hm : m = l.length := by have := hr.1; rw [u8s_length] at this; omega
        subst hm
        exact ⟨5000, w_lfree hr hc ht (by omega)⟩
theorem joinFree_over : Rows.joinFreeRow.holds Try.pinned (OpenSpec.ofChange Rows.joinFreeSpec) :=
  OpenClaim.holds_of_wide 4 Try.f4 rfl rfl rfl rfl rfl rfl rfl ⟨rfl, rfl, rfl, rfl, rfl⟩ rfl rfl rfl rfl rfl (by kernel_rfl) Try.func4 (by kernel_rfl)
    (of_decide_eq_true (by kernel_rfl)) (by unfold Func.isWrapper; first | (rw [if_pos (by decide +kernel)]; kernel_rfl) | (rw [if_neg (by decide +kernel)]; exact ⟨rfl, rfl⟩))
    (fun os started H enc _ => joinFree_lifted os started H enc)
theorem joinFree_holds : Rows.JoinFreeSaid := joinFree_over
end Go.Proofs.Ytnffglfpjcbfaaa
#print axioms Go.Proofs.Ytnffglfpjcbfaaa.joinFree_holds

