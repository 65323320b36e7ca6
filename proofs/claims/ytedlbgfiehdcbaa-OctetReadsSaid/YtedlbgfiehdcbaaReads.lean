/-
  The law OctetReads holds for every input: what any script of reading tells, and what is left behind each step, is what the document's answer says.
  No condition.
-/
import Derived.Test.YtedlbgfiehdcbaaRows
import Derived.Test.YtedlbgfiehdcbaaVmD
import Derived.Test.YtedlbgfiehdcbaaOct
import Derived.Test.YtedlbgfiehdcbaaReadsA
set_option linter.unusedVariables false
namespace Go.Proofs.Ytedlbgfiehdcbaa
open Go Vm Go.ChangeShapes Go.WideShapes Go.ChangeAt Go.RowKit
set_option maxRecDepth 100000 in
theorem octetReads_lifted (os : Os) (started : os.Started) (H : Type) (enc : TypeId × Value → H) :
    ReturnsInHanded {} Try.checked os 6 .any (Rows.octetReadsSpec.pre6 enc Try.prog Try.f6 Rows.octetReadsRow.domain false) (Rows.octetReadsSpec.post enc Try.prog Try.f6 false true false false) := by
  refine lift_law (C := Try.checked) (tb := 4) own started (by kernel_rfl) Try.func6
    (ChangeSpec.witness6 (enc := enc) (C := Try.checked) false ⟨#[], #[.slice none 0 0, .slice none 0 0], []⟩ 8 (by kernel_rfl) (by kernel_rfl) (by kernel_rfl) (by kernel_rfl))
    laidOut (by kernel_rfl) rfl (by kernel_rfl) (by kernel_rfl) ?_ ?_
  · intro ds hl
    match ds, hl with
    | [d1, d2], _ => exact ⟨rfl, rfl, rfl⟩
  · intro W base args ds ps hv hT
    refine law_call (fn := Try.f6) mixed [.slice (.int .u8), .slice (.pair (.int .i64) (.pair (.int .i64) .unit))] (by kernel_rfl) (fun pt hp => ?_) hv hT (sumsAwake _) ?_
    · simp only [List.mem_cons, List.not_mem_nil, or_false] at hp
      rcases hp with rfl | rfl <;> (intro h; cases h)
    · intro h us r
      match us, r with
      | [u1, u2], ⟨r1, r2, _⟩ =>
        obtain ⟨o, m, c, l, rfl, hr, hc, _⟩ := r1.bytes
        obtain ⟨o', m', c', ops, rfl, hr', hl', hc', hops⟩ := r2.pairs
        exact ⟨300, w_reads hr hc hr' hl' hops 300 (Nat.le_refl _)⟩
theorem octetReads_over : Rows.octetReadsRow.holds Try.pinned (OpenSpec.ofChange Rows.octetReadsSpec) :=
  OpenClaim.holds_of_wide 6 Try.f6 rfl rfl rfl rfl rfl rfl rfl ⟨rfl, rfl, rfl, rfl, rfl⟩ rfl rfl rfl rfl rfl (by kernel_rfl) Try.func6 (by kernel_rfl)
    (of_decide_eq_true (by kernel_rfl)) (by unfold Func.isWrapper; first | (rw [if_pos (by decide +kernel)]; kernel_rfl) | (rw [if_neg (by decide +kernel)]; exact ⟨rfl, rfl⟩))
    (fun os started H enc _ => octetReads_lifted os started H enc)
theorem octetReads_holds : Rows.OctetReadsSaid := octetReads_over
end Go.Proofs.Ytedlbgfiehdcbaa
#print axioms Go.Proofs.Ytedlbgfiehdcbaa.octetReads_holds

