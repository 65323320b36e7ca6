/-
  The law XferFirst holds for every input: at first no more than three packets of octets are told, in order from the first number on; as long as nothing is answered, and nothing due, no more.
  No condition.
-/
import Derived.Test.YtmlagbknnngjjaaGreatRows
import Derived.Test.YtmlagbknnngjjaaGreatRT
set_option linter.unusedVariables false
namespace Go.Proofs.YtmlagbknnngjjaaGreat
open Go Vm Go.ChangeShapes Go.WideShapes Go.ChangeAt Go.RowKit
set_option maxRecDepth 100000 in
theorem xferFirst_lifted (os : Os) (started : os.Started) (H : Type) (enc : TypeId × Value → H) :
    ReturnsInHanded {} Tryz.checked os 5 .any (Rows.xferFirstSpec.pre6 enc Tryz.prog Tryz.f5 Rows.xferFirstRow.domain false) (Rows.xferFirstSpec.post enc Tryz.prog Tryz.f5 false true false false) := by
  refine lift_law (C := Tryz.checked) (tb := 4) own started (by kernel_rfl) Tryz.func5
    (ChangeSpec.witness6 (enc := enc) (C := Tryz.checked) false ⟨#[], #[.int .u32 0, .slice none 0 0, .int .i64 0, .int .i64 0], []⟩ 8 (by kernel_rfl) (by kernel_rfl) (by kernel_rfl) (by kernel_rfl))
    laidOut (by kernel_rfl) rfl (by kernel_rfl) (by kernel_rfl) ?_ ?_
  · intro ds hl
    match ds, hl with
    | [d1, d2, d3, d4], _ => exact ⟨rfl, rfl, rfl⟩
  · intro W base args ds ps hv hT hsz hH
    refine law_call (fn := Tryz.f5) mixed [.int .u32, .slice (.int .i64), .int .i64, .int .i64] (by kernel_rfl) hH hv hT (sumsAwake _) ?_
    · intro h us r
      match us, r with
      | [u1, u2, u3, u4], ⟨r1, r2, r3, r4, _⟩ =>
        obtain ⟨a, rfl, ha⟩ := r1.u32
        obtain ⟨o, c, l, rfl, hr, _⟩ := r2.ints
        obtain ⟨mt, rfl, _⟩ := r3.int
        obtain ⟨k, rfl, _⟩ := r4.int
        exact ⟨5000, w_lfirst ha hr 5000 (by omega)⟩
theorem xferFirst_over : Rows.xferFirstRow.holds Tryz.pinned (OpenSpec.ofChange Rows.xferFirstSpec) :=
  OpenClaim.holds_of_wide 5 Tryz.f5 rfl rfl rfl rfl rfl rfl rfl ⟨rfl, rfl, rfl, rfl, rfl⟩ rfl rfl rfl rfl rfl (by kernel_rfl) Tryz.func5 (by kernel_rfl)
    (of_decide_eq_true (by kernel_rfl)) (by unfold Func.isWrapper; first | (rw [if_pos (by decide +kernel)]; kernel_rfl) | (rw [if_neg (by decide +kernel)]; exact ⟨rfl, rfl⟩))
    (fun os started H enc _ => xferFirst_lifted os started H enc)
theorem xferFirst_holds : Rows.XferFirstSaid := xferFirst_over
end Go.Proofs.YtmlagbknnngjjaaGreat
#print axioms Go.Proofs.YtmlagbknnngjjaaGreat.xferFirst_holds

