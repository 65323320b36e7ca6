/- Part of a proof by an abstract run of the program's code: UActA. No condition. -/
import Derived.Test.YtdcllpjoejkpnaaUOct
/-! TlvActions in the abstract run. -/
set_option linter.unusedVariables false
namespace Go.Proofs.Ytdcllpjoejkpnaa
open Go Vm
theorem w_awake (h : Heap) (n : Nat) (hn : 1 ≤ n) : ResQ (callN Try.prog G0 n (.call 10 []) h) (fun v h' => v = .bool true ∧ h = h') := by
  obtain ⟨n, rfl⟩ : ∃ m, n = m + 1 := ⟨n - 1, by omega⟩
  exact ⟨_, _, rfl, rfl, rfl⟩
end Go.Proofs.Ytdcllpjoejkpnaa

