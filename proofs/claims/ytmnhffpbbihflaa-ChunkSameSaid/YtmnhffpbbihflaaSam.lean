/-
  The law ChunkSame holds for every input: whether any two chunks are the same is what the document says, either way round.
  No condition.
-/
import Derived.Test.YtmnhffpbbihflaaRows
import Derived.Test.YtmnhffpbbihflaaOct
import Derived.Test.YtmnhffpbbihflaaChkA
import Derived.Test.YtmnhffpbbihflaaSamB
set_option linter.unusedVariables false
namespace Go.Proofs.Ytmnhffpbbihflaa
open Go Vm Go.ChangeShapes Go.WideShapes Go.ChangeAt Go.RowKit
set_option maxRecDepth 100000 in
theorem chunkSame_lifted (os : Os) (started : os.Started) (H : Type) (enc : TypeId × Value → H) :
    ReturnsInHanded {} Try.checked os 4 .any (Rows.chunkSameSpec.pre6 enc Try.prog Try.f4 Rows.chunkSameRow.domain false) (Rows.chunkSameSpec.post enc Try.prog Try.f4 false true false false) := by
  refine lift_law (C := Try.checked) (tb := 4) own started (by kernel_rfl) Try.func4
    (ChangeSpec.witness6 (enc := enc) (C := Try.checked) false ⟨#[], #[.agg #[.int .u8 0, .int .u8 0, .int .u32 0, .int .u32 0, .int .u16 0, .int .u16 0, .int .u32 0, .slice none 0 0, .slice none 0 0, .slice none 0 0, .slice none 0 0, .slice none 0 0], .agg #[.int .u8 0, .int .u8 0, .int .u32 0, .int .u32 0, .int .u16 0, .int .u16 0, .int .u32 0, .slice none 0 0, .slice none 0 0, .slice none 0 0, .slice none 0 0, .slice none 0 0]], []⟩ 8 (by kernel_rfl) (by kernel_rfl) (by kernel_rfl) (by kernel_rfl))
    laidOut (by kernel_rfl) rfl (by kernel_rfl) (by kernel_rfl) ?_ ?_
  · intro ds hl
    match ds, hl with
    | [d1, d2], _ => exact ⟨rfl, rfl, rfl⟩
  · intro W base args ds ps hv hT hsz hH
    refine law_call (fn := Try.f4) mixed [PTc, PTc] (by kernel_rfl) hH hv hT (sumsAwake _) ?_
    · intro h us r
      match us, r with
      | [u1, u2], ⟨r1, r2, _⟩ =>
        obtain ⟨c, cs, rfl, hc, _⟩ := repV_chunk r1
        obtain ⟨d, ds, rfl, hd, _⟩ := repV_chunk r2
        exact ⟨100500, w_lsame hc hd 100500 (by omega)⟩
theorem chunkSame_over : Rows.chunkSameRow.holds Try.pinned (OpenSpec.ofChange Rows.chunkSameSpec) :=
  OpenClaim.holds_of_wide 4 Try.f4 rfl rfl rfl rfl rfl rfl rfl ⟨rfl, rfl, rfl, rfl, rfl⟩ rfl rfl rfl rfl rfl (by kernel_rfl) Try.func4 (by kernel_rfl)
    (of_decide_eq_true (by kernel_rfl)) (by unfold Func.isWrapper; first | (rw [if_pos (by decide +kernel)]; kernel_rfl) | (rw [if_neg (by decide +kernel)]; exact ⟨rfl, rfl⟩))
    (fun os started H enc _ => chunkSame_lifted os started H enc)
theorem chunkSame_holds : Rows.ChunkSameSaid := chunkSame_over
end Go.Proofs.Ytmnhffpbbihflaa
#print axioms Go.Proofs.Ytmnhffpbbihflaa.chunkSame_holds

