/- Part of a proof by an abstract run of the program's code: LwA. No condition. -/
import Derived.Test.YtmnhffpbbihflaaFewA
import Derived.Test.YtmnhffpbbihflaaEncB
import Derived.Test.YtmnhffpbbihflaaDcA
/-! The laws of layer 7 that need no answer of the document's, walked. -/
set_option linter.unusedVariables false
namespace Go.Proofs.Ytmnhffpbbihflaa
open Go Vm
theorem few_Few {c : Chk} (h : c.few) : c.Few := ⟨h.1.1, h.1.2.1, h.1.2.2.1, by have := h.1.2.2.2.1; omega, by have := h.1.2.2.2.2; omega, fun p hp => by have := h.2 p hp; omega⟩
theorem decC_bad {l : List UInt8} (h : (decC l).2.2 ≠ 0) : (decC l).1 = Chk.zero ∧ (decC l).2.1 = 0 := by
  unfold decC at h ⊢
  by_cases h1 : (headC l).2.2.2 ≠ 0
  · rw [if_pos h1]; exact ⟨rfl, rfl⟩
  rw [if_neg h1] at h ⊢
  by_cases h2 : (ownC l).2.2 ≠ 0
  · rw [if_pos h2]; exact ⟨rfl, rfl⟩
  rw [if_neg h2] at h ⊢
  by_cases h3 : (restC l).2 ≠ 0
  · rw [if_pos h3]; exact ⟨rfl, rfl⟩
  rw [if_neg h3] at h
  exact absurd rfl h
theorem encC_bad {c : Chk} (h : ¬c.shaped) : (encC c).2 = 1 ∧ (encC c).1.length = 0 := by
  rw [encC, if_neg h]; exact ⟨rfl, rfl⟩
end Go.Proofs.Ytmnhffpbbihflaa

