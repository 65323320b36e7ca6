/-
  The law ChunkCut holds for every input: cut off anywhere a chunk is none, for want of octets.
  No condition.
-/
import Derived.Test.YtmnhffpbbihflaaRows
import Derived.Test.YtmnhffpbbihflaaOct
import Derived.Test.YtmnhffpbbihflaaChkA
import Derived.Test.YtmnhffpbbihflaaCtL
set_option linter.unusedVariables false
namespace Go.Proofs.Ytmnhffpbbihflaa
open Go Vm Go.ChangeShapes Go.WideShapes Go.ChangeAt Go.RowKit
set_option maxRecDepth 100000 in
theorem chunkCut_lifted (os : Os) (started : os.Started) (H : Type) (enc : TypeId × Value → H) :
    ReturnsInHanded {} Try.checked os 7 .any (Rows.chunkCutSpec.pre6 enc Try.prog Try.f7 Rows.chunkCutRow.domain false) (Rows.chunkCutSpec.post enc Try.prog Try.f7 false true false false) := by
  refine lift_law (C := Try.checked) (tb := 4) own started (by kernel_rfl) Try.func7
    (ChangeSpec.witness6 (enc := enc) (C := Try.checked) false ⟨#[], #[.agg #[.int .u8 0, .int .u8 0, .int .u32 0, .int .u32 0, .int .u16 0, .int .u16 0, .int .u32 0, .slice none 0 0, .slice none 0 0, .slice none 0 0, .slice none 0 0, .slice none 0 0], .int .i64 0], []⟩ 8 (by kernel_rfl) (by kernel_rfl) (by kernel_rfl) (by kernel_rfl))
    laidOut (by kernel_rfl) rfl (by kernel_rfl) (by kernel_rfl) ?_ ?_
  · intro ds hl
    match ds, hl with
    | [d1, d2], _ => exact ⟨rfl, rfl, rfl⟩
  · intro W base args ds ps hv hT hsz hH
    refine law_call (fn := Try.f7) mixed [PTc, .int .i64] (by kernel_rfl) hH hv hT (sumsAwake _) ?_
    · intro h us r
      match us, r with
      | [u1, u2], ⟨r1, r2, _⟩ =>
        obtain ⟨c, cs, rfl, hc, ho⟩ := repV_chunk r1
        obtain ⟨k, rfl, _⟩ := r2.i64
        exact ⟨101000, w_lcut hc ho k 101000 (by omega)⟩
theorem chunkCut_over : Rows.chunkCutRow.holds Try.pinned (OpenSpec.ofChange Rows.chunkCutSpec) :=
  OpenClaim.holds_of_wide 7 Try.f7 rfl rfl rfl rfl rfl rfl rfl ⟨rfl, rfl, rfl, rfl, rfl⟩ rfl rfl rfl rfl rfl (by kernel_rfl) Try.func7 (by kernel_rfl)
    (of_decide_eq_true (by kernel_rfl)) (by unfold Func.isWrapper; first | (rw [if_pos (by decide +kernel)]; kernel_rfl) | (rw [if_neg (by decide +kernel)]; exact ⟨rfl, rfl⟩))
    (fun os started H enc _ => chunkCut_lifted os started H enc)
theorem chunkCut_holds : Rows.ChunkCutSaid := chunkCut_over
end Go.Proofs.Ytmnhffpbbihflaa

