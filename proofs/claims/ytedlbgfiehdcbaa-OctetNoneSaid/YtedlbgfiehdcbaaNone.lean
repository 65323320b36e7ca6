/-
  The law OctetNone holds for every input: of a reader that is none nothing is told; what is put behind octets leaves these as they are.
  No condition.
-/
import Derived.Test.YtedlbgfiehdcbaaRows
import Derived.Test.YtedlbgfiehdcbaaVmD
import Derived.Test.YtedlbgfiehdcbaaOct
import Derived.Test.YtedlbgfiehdcbaaNoneA
set_option linter.unusedVariables false
namespace Go.Proofs.Ytedlbgfiehdcbaa
open Go Vm Go.ChangeShapes Go.WideShapes Go.ChangeAt Go.RowKit
set_option maxRecDepth 100000 in
theorem octetNone_lifted (os : Os) (started : os.Started) (H : Type) (enc : TypeId × Value → H) :
    ReturnsInHanded {} Try.checked os 8 .any (Rows.octetNoneSpec.pre6 enc Try.prog Try.f8 Rows.octetNoneRow.domain false) (Rows.octetNoneSpec.post enc Try.prog Try.f8 false true false false) := by
  refine lift_law_sized (C := Try.checked) (tb := 4) own started (by kernel_rfl) Try.func8
    (ChangeSpec.witness6 (enc := enc) (C := Try.checked) false ⟨#[], #[.int .i64 0, .slice none 0 0], []⟩ 8 (by kernel_rfl) (by kernel_rfl) (by kernel_rfl) (by kernel_rfl))
    laidOut (by kernel_rfl) rfl (by kernel_rfl) (by kernel_rfl) ?_ ?_
  · intro ds hl
    match ds, hl with
    | [d1, d2], _ => exact ⟨rfl, rfl, rfl⟩
  · intro W base args ds ps hv hT hsz
    refine law_call_tied (fn := Try.f8) mixed [.int .i64, .slice (.int .u8)] (by kernel_rfl) (fun pt hp => ?_) hv hT (sumsAwake _) ?_
    · simp only [List.mem_cons, List.not_mem_nil, or_false] at hp
      rcases hp with rfl | rfl <;> (intro h; cases h)
    · intro h us r tied
      match us, r, tied with
      | [u1, u2], ⟨r1, r2, _⟩, tied =>
        obtain ⟨v, rfl, _⟩ := r1.i64
        obtain ⟨o, m, c, l, rfl, hr, _⟩ := r2.bytes
        have hm : l.length = m := by simpa [u8s_length] using hr.1
        obtain ⟨ρ, hρ⟩ := tied
        obtain ⟨x1, x2, hx, _, hx2⟩ := hρ.two
        obtain ⟨o', c', rfl⟩ := hx2.slice_len
        have hb := size_slice (j := 1) (t := 22) (e := 5) hT hsz (by kernel_rfl) Try.underlying22 (by rw [hx]; rfl)
        have hby : Try.checked.prog.bytesOf 5 = 1 := by kernel_rfl
        rw [hby] at hb
        have hre : reachBytes = 140737488351232 := by decide
        exact ⟨20, w_none hr (by omega) v 20 (Nat.le_refl _)⟩
theorem octetNone_over : Rows.octetNoneRow.holds Try.pinned (OpenSpec.ofChange Rows.octetNoneSpec) :=
  OpenClaim.holds_of_wide 8 Try.f8 rfl rfl rfl rfl rfl rfl rfl ⟨rfl, rfl, rfl, rfl, rfl⟩ rfl rfl rfl rfl rfl (by kernel_rfl) Try.func8 (by kernel_rfl)
    (of_decide_eq_true (by kernel_rfl)) (by unfold Func.isWrapper; first | (rw [if_pos (by decide +kernel)]; kernel_rfl) | (rw [if_neg (by decide +kernel)]; exact ⟨rfl, rfl⟩))
    (fun os started H enc _ => octetNone_lifted os started H enc)
theorem octetNone_holds : Rows.OctetNoneSaid := octetNone_over
end Go.Proofs.Ytedlbgfiehdcbaa
#print axioms Go.Proofs.Ytedlbgfiehdcbaa.octetNone_holds

