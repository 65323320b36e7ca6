/-
  The law XferTwice holds for every input: a chunk that comes twice is told once, and answered each time.
  No condition.
-/
import Derived.Test.YtmlagbknnngjjaaGreatRows
import Derived.Test.YtmlagbknnngjjaaGreatTI
set_option linter.unusedVariables false
namespace Go.Proofs.YtmlagbknnngjjaaGreat
open Go Vm Go.ChangeShapes Go.WideShapes Go.ChangeAt Go.RowKit
set_option maxRecDepth 100000 in
theorem xferTwice_lifted (os : Os) (started : os.Started) (H : Type) (enc : TypeId × Value → H) :
    ReturnsInHanded {} Tryz.checked os 4 .any (Rows.xferTwiceSpec.pre6 enc Tryz.prog Tryz.f4 Rows.xferTwiceRow.domain false) (Rows.xferTwiceSpec.post enc Tryz.prog Tryz.f4 false true false false) := by
  refine lift_law (C := Tryz.checked) (tb := 4) own started (by kernel_rfl) Tryz.func4
    (ChangeSpec.witness6 (enc := enc) (C := Tryz.checked) false ⟨#[], #[.int .u32 0, .int .u32 0, .slice none 0 0, .int .i64 0], []⟩ 8 (by kernel_rfl) (by kernel_rfl) (by kernel_rfl) (by kernel_rfl))
    laidOut (by kernel_rfl) rfl (by kernel_rfl) (by kernel_rfl) ?_ ?_
  · intro ds hl
    match ds, hl with
    | [d1, d2, d3, d4], _ => exact ⟨rfl, rfl, rfl⟩
  · intro W base args ds ps hv hT hsz hH
    refine law_call (fn := Tryz.f4) mixed [.int .u32, .int .u32, .slice (.int .u8), .int .i64] (by kernel_rfl) hH hv hT (sumsAwake _) ?_
    · intro h us r
      match us, r with
      | [u1, u2, u3, u4], ⟨r1, r2, r3, r4, _⟩ =>
        obtain ⟨a, rfl, ha⟩ := r1.u32
        obtain ⟨b, rfl, hb⟩ := r2.u32
        obtain ⟨o, m, c, l, rfl, hr, hc, _⟩ := r3.bytes
        obtain ⟨k, rfl, _⟩ := r4.int
        exact ⟨5000, w_ltwice ha hb hr hc 5000 (by omega)⟩
theorem xferTwice_over : Rows.xferTwiceRow.holds Tryz.pinned (OpenSpec.ofChange Rows.xferTwiceSpec) :=
  OpenClaim.holds_of_wide 4 Tryz.f4 rfl rfl rfl rfl rfl rfl rfl ⟨rfl, rfl, rfl, rfl, rfl⟩ rfl rfl rfl rfl rfl (by kernel_rfl) Tryz.func4 (by kernel_rfl)
    (of_decide_eq_true (by kernel_rfl)) (by unfold Func.isWrapper; first | (rw [if_pos (by decide +kernel)]; kernel_rfl) | (rw [if_neg (by decide +kernel)]; exact ⟨rfl, rfl⟩))
    (fun os started H enc _ => xferTwice_lifted os started H enc)
theorem xferTwice_holds : Rows.XferTwiceSaid := xferTwice_over
end Go.Proofs.YtmlagbknnngjjaaGreat
#print axioms Go.Proofs.YtmlagbknnngjjaaGreat.xferTwice_holds

