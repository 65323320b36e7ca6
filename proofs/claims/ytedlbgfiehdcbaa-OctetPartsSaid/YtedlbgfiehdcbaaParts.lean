/-
  The law OctetParts holds for every input: a number of 32 bits is its two halves, one of 16 its two octets; octets filled up twice are filled up once.
  No condition.
-/
import Derived.Test.YtedlbgfiehdcbaaRows
import Derived.Test.YtedlbgfiehdcbaaVmD
import Derived.Test.YtedlbgfiehdcbaaOct
import Derived.Test.YtedlbgfiehdcbaaPartsA
set_option linter.unusedVariables false
namespace Go.Proofs.Ytedlbgfiehdcbaa
open Go Vm Go.ChangeShapes Go.WideShapes Go.ChangeAt Go.RowKit
set_option maxRecDepth 100000 in
theorem octetParts_lifted (os : Os) (started : os.Started) (H : Type) (enc : TypeId × Value → H) :
    ReturnsInHanded {} Try.checked os 4 .any (Rows.octetPartsSpec.pre6 enc Try.prog Try.f4 Rows.octetPartsRow.domain false) (Rows.octetPartsSpec.post enc Try.prog Try.f4 false true false false) := by
  refine lift_law (C := Try.checked) (tb := 4) own started (by kernel_rfl) Try.func4
    (ChangeSpec.witness6 (enc := enc) (C := Try.checked) false ⟨#[], #[.slice none 0 0, .int .u32 0], []⟩ 8 (by kernel_rfl) (by kernel_rfl) (by kernel_rfl) (by kernel_rfl))
    laidOut (by kernel_rfl) rfl (by kernel_rfl) (by kernel_rfl) ?_ ?_
  · intro ds hl
    match ds, hl with
    | [d1, d2], _ => exact ⟨rfl, rfl, rfl⟩
  · intro W base args ds ps hv hT
    refine law_call (fn := Try.f4) mixed [.slice (.int .u8), .int .u32] (by kernel_rfl) (fun pt hp => ?_) hv hT (sumsAwake _) ?_
    · simp only [List.mem_cons, List.not_mem_nil, or_false] at hp
      rcases hp with rfl | rfl <;> (intro h; cases h)
    · intro h us r
      match us, r with
      | [u1, u2], ⟨r1, r2, _⟩ =>
        obtain ⟨o, m, c, l, rfl, hr, _⟩ := r1.bytes
        obtain ⟨v, rfl, hv⟩ := r2.u32
        exact ⟨20, w_parts hr v hv 20 (Nat.le_refl _)⟩
theorem octetParts_over : Rows.octetPartsRow.holds Try.pinned (OpenSpec.ofChange Rows.octetPartsSpec) :=
  OpenClaim.holds_of_wide 4 Try.f4 rfl rfl rfl rfl rfl rfl rfl ⟨rfl, rfl, rfl, rfl, rfl⟩ rfl rfl rfl rfl rfl (by kernel_rfl) Try.func4 (by kernel_rfl)
    (of_decide_eq_true (by kernel_rfl)) (by unfold Func.isWrapper; first | (rw [if_pos (by decide +kernel)]; kernel_rfl) | (rw [if_neg (by decide +kernel)]; exact ⟨rfl, rfl⟩))
    (fun os started H enc _ => octetParts_lifted os started H enc)
theorem octetParts_holds : Rows.OctetPartsSaid := octetParts_over
end Go.Proofs.Ytedlbgfiehdcbaa

