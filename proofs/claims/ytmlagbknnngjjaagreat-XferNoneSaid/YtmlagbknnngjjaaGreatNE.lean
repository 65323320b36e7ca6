/-
  The law XferNone holds for every input: of an End that is none nothing is told, and nothing is left to be done.
  No condition.
-/
import Derived.Test.YtmlagbknnngjjaaGreatRows
import Derived.Test.YtmlagbknnngjjaaGreatNB
set_option linter.unusedVariables false
namespace Go.Proofs.YtmlagbknnngjjaaGreat
open Go Vm Go.ChangeShapes Go.WideShapes Go.ChangeAt Go.RowKit
set_option maxRecDepth 100000 in
theorem xferNone_lifted (os : Os) (started : os.Started) (H : Type) (enc : TypeId × Value → H) :
    ReturnsInHanded {} Tryz.checked os 6 .any (Rows.xferNoneSpec.pre6 enc Tryz.prog Tryz.f6 Rows.xferNoneRow.domain false) (Rows.xferNoneSpec.post enc Tryz.prog Tryz.f6 false true false false) := by
  refine lift_law (C := Tryz.checked) (tb := 4) own started (by kernel_rfl) Tryz.func6
    (ChangeSpec.witness6 (enc := enc) (C := Tryz.checked) false ⟨#[], #[.agg #[.int .u16 0, .bool false, .int .u32 0, .slice none 0 0], .agg #[.int .u8 0, .int .u8 0, .int .u32 0, .int .u32 0, .int .u16 0, .int .u16 0, .int .u32 0, .slice none 0 0, .slice none 0 0, .slice none 0 0, .slice none 0 0, .slice none 0 0], .int .i64 0], []⟩ 8 (by kernel_rfl) (by kernel_rfl) (by kernel_rfl) (by kernel_rfl))
    laidOut (by kernel_rfl) rfl (by kernel_rfl) (by kernel_rfl) ?_ ?_
  · intro ds hl
    match ds, hl with
    | [d1, d2, d3], _ => exact ⟨rfl, rfl, rfl⟩
  · intro W base args ds ps hv hT hsz hH
    refine law_call (fn := Tryz.f6) mixed [PTm, PTc, .int .i64] (by kernel_rfl) hH hv hT (sumsAwake _) ?_
    · intro h us r
      match us, r with
      | [u1, u2, u3], ⟨r1, r2, r3, _⟩ =>
        obtain ⟨s, pp, b, d, rfl, _, _, rd⟩ := repV_msg r1
        obtain ⟨om, m, cm, rfl⟩ := rd.sl
        obtain ⟨x0, x1, x2, x3, x4, x5, x6, x7, x8, x9, x10, x11, rfl, _, _, _, _, _, rc⟩ := repV_chk r2
        obtain ⟨oc, c, cc, rfl⟩ := rc.sl
        obtain ⟨k, rfl, _⟩ := r3.int
        exact ⟨3, w_lnone k 3 (by omega)⟩
theorem xferNone_over : Rows.xferNoneRow.holds Tryz.pinned (OpenSpec.ofChange Rows.xferNoneSpec) :=
  OpenClaim.holds_of_wide 6 Tryz.f6 rfl rfl rfl rfl rfl rfl rfl ⟨rfl, rfl, rfl, rfl, rfl⟩ rfl rfl rfl rfl rfl (by kernel_rfl) Tryz.func6 (by kernel_rfl)
    (of_decide_eq_true (by kernel_rfl)) (by unfold Func.isWrapper; first | (rw [if_pos (by decide +kernel)]; kernel_rfl) | (rw [if_neg (by decide +kernel)]; exact ⟨rfl, rfl⟩))
    (fun os started H enc _ => xferNone_lifted os started H enc)
theorem xferNone_holds : Rows.XferNoneSaid := xferNone_over
end Go.Proofs.YtmlagbknnngjjaaGreat
#print axioms Go.Proofs.YtmlagbknnngjjaaGreat.xferNone_holds

