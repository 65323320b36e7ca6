/-
  The law ChunkEncodes holds for every input: whether any chunk is shaped, and its octets, is what the document says.
  No condition.
-/
import Derived.Test.YtmnhffpbbihflaaRows
import Derived.Test.YtmnhffpbbihflaaOct
import Derived.Test.YtmnhffpbbihflaaChkA
import Derived.Test.YtmnhffpbbihflaaEnL
set_option linter.unusedVariables false
namespace Go.Proofs.Ytmnhffpbbihflaa
open Go Vm Go.ChangeShapes Go.WideShapes Go.ChangeAt Go.RowKit
set_option maxRecDepth 100000 in
theorem chunkEncodes_lifted (os : Os) (started : os.Started) (H : Type) (enc : TypeId × Value → H) :
    ReturnsInHanded {} Try.checked os 3 .any (Rows.chunkEncodesSpec.pre6 enc Try.prog Try.f3 Rows.chunkEncodesRow.domain false) (Rows.chunkEncodesSpec.post enc Try.prog Try.f3 false true false false) := by
  refine lift_law (C := Try.checked) (tb := 4) own started (by kernel_rfl) Try.func3
    (ChangeSpec.witness6 (enc := enc) (C := Try.checked) false ⟨#[], #[.agg #[.int .u8 0, .int .u8 0, .int .u32 0, .int .u32 0, .int .u16 0, .int .u16 0, .int .u32 0, .slice none 0 0, .slice none 0 0, .slice none 0 0, .slice none 0 0, .slice none 0 0]], []⟩ 8 (by kernel_rfl) (by kernel_rfl) (by kernel_rfl) (by kernel_rfl))
    laidOut (by kernel_rfl) rfl (by kernel_rfl) (by kernel_rfl) ?_ ?_
  · intro ds hl
    match ds, hl with
    | [d1], _ => exact ⟨rfl, rfl, rfl⟩
  · intro W base args ds ps hv hT hsz hH
    refine law_call (fn := Try.f3) mixed [PTc] (by kernel_rfl) hH hv hT (sumsAwake _) ?_
    · intro h us r
      match us, r with
      | [u1], ⟨r1, _⟩ =>
        obtain ⟨c, cs, rfl, hc, ho⟩ := repV_chunk r1
        exact ⟨101000, w_lenc hc ho 101000 (by omega)⟩
theorem chunkEncodes_over : Rows.chunkEncodesRow.holds Try.pinned (OpenSpec.ofChange Rows.chunkEncodesSpec) :=
  OpenClaim.holds_of_wide 3 Try.f3 rfl rfl rfl rfl rfl rfl rfl ⟨rfl, rfl, rfl, rfl, rfl⟩ rfl rfl rfl rfl rfl (by kernel_rfl) Try.func3 (by kernel_rfl)
    (of_decide_eq_true (by kernel_rfl)) (by unfold Func.isWrapper; first | (rw [if_pos (by decide +kernel)]; kernel_rfl) | (rw [if_neg (by decide +kernel)]; exact ⟨rfl, rfl⟩))
    (fun os started H enc _ => chunkEncodes_lifted os started H enc)
theorem chunkEncodes_holds : Rows.ChunkEncodesSaid := chunkEncodes_over
end Go.Proofs.Ytmnhffpbbihflaa
#print axioms Go.Proofs.Ytmnhffpbbihflaa.chunkEncodes_holds

