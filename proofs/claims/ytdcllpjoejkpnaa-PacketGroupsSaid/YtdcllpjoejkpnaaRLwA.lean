/- Part of a proof by an abstract run of the program's code: RLwA. No condition. -/
import Derived.Test.YtdcllpjoejkpnaaREsA
import Derived.Test.YtdcllpjoejkpnaaRDcA
/-! The laws of layer 7 that need no answer of the document's, walked. -/
set_option linter.unusedVariables false
namespace Go.Proofs.Ytdcllpjoejkpnaa
open Go Vm
theorem decC_bad {l : List UInt8} (h : (decC l).2.2 ≠ 0) : (decC l).1 = Chk.zero ∧ (decC l).2.1 = 0 := by
  unfold decC at h ⊢
  by_cases h1 : (headC l).2.2.2 ≠ 0
  · rw [if_pos h1]; exact ⟨rfl, rfl⟩
  rw [if_neg h1] at h ⊢
  by_cases h2 : (ownC l).2.2 ≠ 0
  · rw [if_pos h2]; exact ⟨rfl, rfl⟩
  rw [if_neg h2] at h ⊢
  by_cases h3 : (restC l).2 ≠ 0
  · rw [if_pos h3]; exact ⟨rfl, rfl⟩
  rw [if_neg h3] at h
  exact absurd rfl h
end Go.Proofs.Ytdcllpjoejkpnaa

