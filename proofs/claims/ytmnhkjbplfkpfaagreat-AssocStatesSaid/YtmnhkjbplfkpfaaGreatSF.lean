/- Part of a proof by an abstract run of the program's code: SF. No condition. -/
import Derived.Test.YtmnhkjbplfkpfaaGreatSA
/-! Facts on the program that every law of this seat needs. -/
namespace Go.Proofs.YtmnhkjbplfkpfaaGreat
open Go Vm
theorem sumsAwake (B : Nat) : SumsOK Tryz.prog B G0 := sums_one (enters_of (by kernel_rfl)) (fun w => Vm.says_trueG mixed crcOK awakeSays w) B
theorem own : ownKnob Tryz.prog.godebug = none := by kernel_rfl
theorem laidOut : laidOutB Tryz.prog = true := by kernel_rfl
end Go.Proofs.YtmnhkjbplfkpfaaGreat

