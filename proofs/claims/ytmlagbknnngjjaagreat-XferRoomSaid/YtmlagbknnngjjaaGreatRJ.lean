/-
  The law XferRoom holds for every input: a peer without room gets one probe at a time, whatever waits.
  No condition.
-/
import Derived.Test.YtmlagbknnngjjaaGreatRows
import Derived.Test.YtmlagbknnngjjaaGreatRI
set_option linter.unusedVariables false
namespace Go.Proofs.YtmlagbknnngjjaaGreat
open Go Vm Go.ChangeShapes Go.WideShapes Go.ChangeAt Go.RowKit
set_option maxRecDepth 100000 in
theorem xferRoom_lifted (os : Os) (started : os.Started) (H : Type) (enc : TypeId × Value → H) :
    ReturnsInHanded {} Tryz.checked os 3 .any (Rows.xferRoomSpec.pre6 enc Tryz.prog Tryz.f3 Rows.xferRoomRow.domain false) (Rows.xferRoomSpec.post enc Tryz.prog Tryz.f3 false true false false) := by
  refine lift_law (C := Tryz.checked) (tb := 4) own started (by kernel_rfl) Tryz.func3
    (ChangeSpec.witness6 (enc := enc) (C := Tryz.checked) false ⟨#[], #[.int .u32 0, .slice none 0 0, .int .i64 0], []⟩ 8 (by kernel_rfl) (by kernel_rfl) (by kernel_rfl) (by kernel_rfl))
    laidOut (by kernel_rfl) rfl (by kernel_rfl) (by kernel_rfl) ?_ ?_
  · intro ds hl
    match ds, hl with
    | [d1, d2, d3], _ => exact ⟨rfl, rfl, rfl⟩
  · intro W base args ds ps hv hT hsz hH
    refine law_call (fn := Tryz.f3) mixed [.int .u32, .slice (.int .i64), .int .i64] (by kernel_rfl) hH hv hT (sumsAwake _) ?_
    · intro h us r
      match us, r with
      | [u1, u2, u3], ⟨r1, r2, r3, _⟩ =>
        obtain ⟨a, rfl, ha⟩ := r1.u32
        obtain ⟨o, c, l, rfl, hr, _⟩ := r2.ints
        obtain ⟨k, rfl, _⟩ := r3.int
        exact ⟨2000, w_lroom ha hr 2000 (by omega)⟩
theorem xferRoom_over : Rows.xferRoomRow.holds Tryz.pinned (OpenSpec.ofChange Rows.xferRoomSpec) :=
  OpenClaim.holds_of_wide 3 Tryz.f3 rfl rfl rfl rfl rfl rfl rfl ⟨rfl, rfl, rfl, rfl, rfl⟩ rfl rfl rfl rfl rfl (by kernel_rfl) Tryz.func3 (by kernel_rfl)
    (of_decide_eq_true (by kernel_rfl)) (by unfold Func.isWrapper; first | (rw [if_pos (by decide +kernel)]; kernel_rfl) | (rw [if_neg (by decide +kernel)]; exact ⟨rfl, rfl⟩))
    (fun os started H enc _ => xferRoom_lifted os started H enc)
theorem xferRoom_holds : Rows.XferRoomSaid := xferRoom_over
end Go.Proofs.YtmlagbknnngjjaaGreat
#print axioms Go.Proofs.YtmlagbknnngjjaaGreat.xferRoom_holds

