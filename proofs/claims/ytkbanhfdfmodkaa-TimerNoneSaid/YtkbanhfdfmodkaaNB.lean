/- Part of a proof by an abstract run of the program's code: NB. No condition. -/
import Derived.Test.YtkbanhfdfmodkaaNA
import Derived.Test.YtkbanhfdfmodkaaGx
/-! The law TimerNone: by one computation of the kernel. -/
set_option linter.unusedVariables false
namespace Go.Proofs.Ytkbanhfdfmodkaa
open Go Vm
theorem w_lnone {id at_ : Int} : ResQ (callN Try.prog G0 301 (.call 6 [.int .i64 id, .int .i64 at_]) ⟨0, .nil⟩) (fun u h' => u = .bool true ∧ h'.next ≤ 1000) := res_say (by kernel_rfl)
end Go.Proofs.Ytkbanhfdfmodkaa

