/-
  The law OctetBack holds for every input: numbers and octets that were put are got, in the same order, and then nothing is left.
  No condition.
-/
import Derived.Test.YtedlbgfiehdcbaaRows
import Derived.Test.YtedlbgfiehdcbaaVmD
import Derived.Test.YtedlbgfiehdcbaaOct
import Derived.Test.YtedlbgfiehdcbaaBackA
set_option linter.unusedVariables false
namespace Go.Proofs.Ytedlbgfiehdcbaa
open Go Vm Go.ChangeShapes Go.WideShapes Go.ChangeAt Go.RowKit
set_option maxRecDepth 100000 in
theorem octetBack_lifted (os : Os) (started : os.Started) (H : Type) (enc : TypeId × Value → H) :
    ReturnsInHanded {} Try.checked os 7 .any (Rows.octetBackSpec.pre6 enc Try.prog Try.f7 Rows.octetBackRow.domain false) (Rows.octetBackSpec.post enc Try.prog Try.f7 false true false false) := by
  refine lift_law (C := Try.checked) (tb := 4) own started (by kernel_rfl) Try.func7
    (ChangeSpec.witness6 (enc := enc) (C := Try.checked) false ⟨#[], #[.int .u8 0, .int .u16 0, .int .u32 0, .slice none 0 0], []⟩ 8 (by kernel_rfl) (by kernel_rfl) (by kernel_rfl) (by kernel_rfl))
    laidOut (by kernel_rfl) rfl (by kernel_rfl) (by kernel_rfl) ?_ ?_
  · intro ds hl
    match ds, hl with
    | [d1, d2, d3, d4], _ => exact ⟨rfl, rfl, rfl⟩
  · intro W base args ds ps hv hT
    refine law_call (fn := Try.f7) mixed [.int .u8, .int .u16, .int .u32, .slice (.int .u8)] (by kernel_rfl) (fun pt hp => ?_) hv hT (sumsAwake _) ?_
    · simp only [List.mem_cons, List.not_mem_nil, or_false] at hp
      rcases hp with rfl | rfl | rfl | rfl <;> (intro h; cases h)
    · intro h us r
      match us, r with
      | [u1, u2, u3, u4], ⟨r1, r2, r3, r4, _⟩ =>
        obtain ⟨x, rfl, hx⟩ := r1.u8
        obtain ⟨y, rfl, hy⟩ := r2.u16
        obtain ⟨z, rfl, hz⟩ := r3.u32
        obtain ⟨o, m, c, l, rfl, hr, _⟩ := r4.bytes
        have hx' : (UInt8.ofNat x).toNat = x := by rw [UInt8.toNat_ofNat']; omega
        refine ⟨20, ?_⟩
        have := w_back (c := c) hr (UInt8.ofNat x) y z hy hz 20 (Nat.le_refl _)
        rw [hx'] at this
        exact this
theorem octetBack_over : Rows.octetBackRow.holds Try.pinned (OpenSpec.ofChange Rows.octetBackSpec) :=
  OpenClaim.holds_of_wide 7 Try.f7 rfl rfl rfl rfl rfl rfl rfl ⟨rfl, rfl, rfl, rfl, rfl⟩ rfl rfl rfl rfl rfl (by kernel_rfl) Try.func7 (by kernel_rfl)
    (of_decide_eq_true (by kernel_rfl)) (by unfold Func.isWrapper; first | (rw [if_pos (by decide +kernel)]; kernel_rfl) | (rw [if_neg (by decide +kernel)]; exact ⟨rfl, rfl⟩))
    (fun os started H enc _ => octetBack_lifted os started H enc)
theorem octetBack_holds : Rows.OctetBackSaid := octetBack_over
end Go.Proofs.Ytedlbgfiehdcbaa

