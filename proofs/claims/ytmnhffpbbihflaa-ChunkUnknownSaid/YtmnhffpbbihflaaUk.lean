/-
  The law ChunkUnknown holds for every input: a chunk of a kind that nobody knows is its octets, whatever they are, up to the greatest size.
  No condition.
-/
import Derived.Test.YtmnhffpbbihflaaRows
import Derived.Test.YtmnhffpbbihflaaOct
import Derived.Test.YtmnhffpbbihflaaChkA
import Derived.Test.YtmnhffpbbihflaaUkL
set_option linter.unusedVariables false
namespace Go.Proofs.Ytmnhffpbbihflaa
open Go Vm Go.ChangeShapes Go.WideShapes Go.ChangeAt Go.RowKit
set_option maxRecDepth 100000 in
theorem chunkUnknown_lifted (os : Os) (started : os.Started) (H : Type) (enc : TypeId × Value → H) :
    ReturnsInHanded {} Try.checked os 8 .any (Rows.chunkUnknownSpec.pre6 enc Try.prog Try.f8 Rows.chunkUnknownRow.domain false) (Rows.chunkUnknownSpec.post enc Try.prog Try.f8 false true false false) := by
  refine lift_law (C := Try.checked) (tb := 4) own started (by kernel_rfl) Try.func8
    (ChangeSpec.witness6 (enc := enc) (C := Try.checked) false ⟨#[], #[.int .u8 0, .int .u8 0, .slice none 0 0], []⟩ 8 (by kernel_rfl) (by kernel_rfl) (by kernel_rfl) (by kernel_rfl))
    laidOut (by kernel_rfl) rfl (by kernel_rfl) (by kernel_rfl) ?_ ?_
  · intro ds hl
    match ds, hl with
    | [d1, d2, d3], _ => exact ⟨rfl, rfl, rfl⟩
  · intro W base args ds ps hv hT hsz hH
    refine law_call (fn := Try.f8) mixed [.int .u8, .int .u8, .slice (.int .u8)] (by kernel_rfl) hH hv hT (sumsAwake _) ?_
    · intro h us r
      match us, r with
      | [u1, u2, u3], ⟨r1, r2, r3, _⟩ =>
        obtain ⟨k, rfl, hk⟩ := r1.u8
        obtain ⟨fl, rfl, hfl⟩ := r2.u8
        obtain ⟨o, m, c, l, rfl, hr, hc, _⟩ := r3.bytes
        exact ⟨101000, w_lunk hk hfl hr hc 101000 (by omega)⟩
theorem chunkUnknown_over : Rows.chunkUnknownRow.holds Try.pinned (OpenSpec.ofChange Rows.chunkUnknownSpec) :=
  OpenClaim.holds_of_wide 8 Try.f8 rfl rfl rfl rfl rfl rfl rfl ⟨rfl, rfl, rfl, rfl, rfl⟩ rfl rfl rfl rfl rfl (by kernel_rfl) Try.func8 (by kernel_rfl)
    (of_decide_eq_true (by kernel_rfl)) (by unfold Func.isWrapper; first | (rw [if_pos (by decide +kernel)]; kernel_rfl) | (rw [if_neg (by decide +kernel)]; exact ⟨rfl, rfl⟩))
    (fun os started H enc _ => chunkUnknown_lifted os started H enc)
theorem chunkUnknown_holds : Rows.ChunkUnknownSaid := chunkUnknown_over
end Go.Proofs.Ytmnhffpbbihflaa
#print axioms Go.Proofs.Ytmnhffpbbihflaa.chunkUnknown_holds

