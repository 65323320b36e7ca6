/- Part of a proof by an abstract run of the program's code: MA. No condition. -/
import Derived.Test.YtkbanhfdfmodkaaVmD
import Derived.Test.YtkbanhfdfmodkaaMC
/-! The law awake, by one computation of the kernel. -/
namespace Go.Proofs.Ytkbanhfdfmodkaa
open Go Vm
abbrev G0 : Sums := oneSum 8
theorem mixed : Try.prog.follows .mixedOrders = true := by kernel_rfl
theorem awakeSays : Vm.says Try.prog (fun _ => none) 400 8 [] = true := by kernel_rfl
theorem sumsAwake (B : Nat) : SumsOK Try.prog B G0 := sums_one (enters_of (by kernel_rfl)) (fun w => Vm.says_true mixed awakeSays w) B
theorem own : ownKnob Try.prog.godebug = none := by kernel_rfl
theorem laidOut : laidOutB Try.prog = true := by kernel_rfl
end Go.Proofs.Ytkbanhfdfmodkaa

