/-
  The law ChunkRows holds for every input: chunks one behind the other are read one by one, each where the one ahead ends.
  No condition.
-/
import Derived.Test.YtmnhffpbbihflaaRows
import Derived.Test.YtmnhffpbbihflaaOct
import Derived.Test.YtmnhffpbbihflaaRwL
set_option linter.unusedVariables false
namespace Go.Proofs.Ytmnhffpbbihflaa
open Go Vm Go.ChangeShapes Go.WideShapes Go.ChangeAt Go.RowKit
set_option maxRecDepth 100000 in
theorem chunkRows_lifted (os : Os) (started : os.Started) (H : Type) (enc : TypeId × Value → H) :
    ReturnsInHanded {} Try.checked os 9 .any (Rows.chunkRowsSpec.pre6 enc Try.prog Try.f9 Rows.chunkRowsRow.domain false) (Rows.chunkRowsSpec.post enc Try.prog Try.f9 false true false false) := by
  refine lift_law (C := Try.checked) (tb := 4) own started (by kernel_rfl) Try.func9
    (ChangeSpec.witness6 (enc := enc) (C := Try.checked) false ⟨#[], #[.slice none 0 0], []⟩ 8 (by kernel_rfl) (by kernel_rfl) (by kernel_rfl) (by kernel_rfl))
    laidOut (by kernel_rfl) rfl (by kernel_rfl) (by kernel_rfl) ?_ ?_
  · intro ds hl
    match ds, hl with
    | [d1], _ => exact ⟨rfl, rfl, rfl⟩
  · intro W base args ds ps hv hT hsz hH
    refine law_call (fn := Try.f9) mixed [.slice PTc] (by kernel_rfl) hH hv hT (sumsAwake _) ?_
    · intro h us r
      match us, r with
      | [u1], ⟨r1, _⟩ =>
        obtain ⟨o, m, c, l, els, rfl, hr, hl, he, ho, hc⟩ := RepV.chunks r1
        exact ⟨101000, w_lrows hr hl he ho 101000 (by omega)⟩
theorem chunkRows_over : Rows.chunkRowsRow.holds Try.pinned (OpenSpec.ofChange Rows.chunkRowsSpec) :=
  OpenClaim.holds_of_wide 9 Try.f9 rfl rfl rfl rfl rfl rfl rfl ⟨rfl, rfl, rfl, rfl, rfl⟩ rfl rfl rfl rfl rfl (by kernel_rfl) Try.func9 (by kernel_rfl)
    (of_decide_eq_true (by kernel_rfl)) (by unfold Func.isWrapper; first | (rw [if_pos (by decide +kernel)]; kernel_rfl) | (rw [if_neg (by decide +kernel)]; exact ⟨rfl, rfl⟩))
    (fun os started H enc _ => chunkRows_lifted os started H enc)
theorem chunkRows_holds : Rows.ChunkRowsSaid := chunkRows_over
end Go.Proofs.Ytmnhffpbbihflaa

