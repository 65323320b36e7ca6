/-
  The law ChunkOnly holds for every input: a chunk that octets begin with is shaped, and its octets are these.
  No condition.
-/
import Derived.Test.YtmnhffpbbihflaaRows
import Derived.Test.YtmnhffpbbihflaaOct
import Derived.Test.YtmnhffpbbihflaaChkA
import Derived.Test.YtmnhffpbbihflaaOnL
set_option linter.unusedVariables false
namespace Go.Proofs.Ytmnhffpbbihflaa
open Go Vm Go.ChangeShapes Go.WideShapes Go.ChangeAt Go.RowKit
set_option maxRecDepth 100000 in
theorem chunkOnly_lifted (os : Os) (started : os.Started) (H : Type) (enc : TypeId × Value → H) :
    ReturnsInHanded {} Try.checked os 6 .any (Rows.chunkOnlySpec.pre6 enc Try.prog Try.f6 Rows.chunkOnlyRow.domain false) (Rows.chunkOnlySpec.post enc Try.prog Try.f6 false true false false) := by
  refine lift_law (C := Try.checked) (tb := 4) own started (by kernel_rfl) Try.func6
    (ChangeSpec.witness6 (enc := enc) (C := Try.checked) false ⟨#[], #[.slice none 0 0], []⟩ 8 (by kernel_rfl) (by kernel_rfl) (by kernel_rfl) (by kernel_rfl))
    laidOut (by kernel_rfl) rfl (by kernel_rfl) (by kernel_rfl) ?_ ?_
  · intro ds hl
    match ds, hl with
    | [d1], _ => exact ⟨rfl, rfl, rfl⟩
  · intro W base args ds ps hv hT hsz hH
    refine law_call (fn := Try.f6) mixed [.slice (.int .u8)] (by kernel_rfl) hH hv hT (sumsAwake _) ?_
    · intro h us r
      match us, r with
      | [u1], ⟨r1, _⟩ =>
        obtain ⟨o, m, k, l, rfl, hr, hc, _⟩ := r1.bytes
        exact ⟨101000, w_lonly hr hc 101000 (by omega)⟩
theorem chunkOnly_over : Rows.chunkOnlyRow.holds Try.pinned (OpenSpec.ofChange Rows.chunkOnlySpec) :=
  OpenClaim.holds_of_wide 6 Try.f6 rfl rfl rfl rfl rfl rfl rfl ⟨rfl, rfl, rfl, rfl, rfl⟩ rfl rfl rfl rfl rfl (by kernel_rfl) Try.func6 (by kernel_rfl)
    (of_decide_eq_true (by kernel_rfl)) (by unfold Func.isWrapper; first | (rw [if_pos (by decide +kernel)]; kernel_rfl) | (rw [if_neg (by decide +kernel)]; exact ⟨rfl, rfl⟩))
    (fun os started H enc _ => chunkOnly_lifted os started H enc)
theorem chunkOnly_holds : Rows.ChunkOnlySaid := chunkOnly_over
end Go.Proofs.Ytmnhffpbbihflaa

