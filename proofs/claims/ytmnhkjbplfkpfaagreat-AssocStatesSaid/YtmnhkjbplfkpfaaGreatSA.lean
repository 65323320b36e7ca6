/- Part of a proof by an abstract run of the program's code: SA. No condition. -/
import Derived.Test.YtmnhkjbplfkpfaaGreatSD
/-! The law awake, by one computation of the kernel, over the checksum's summaries. -/
namespace Go.Proofs.YtmnhkjbplfkpfaaGreat
open Go Vm
abbrev G0 : Sums := oneSum 9
theorem awakeSays : Vm.says Tryz.prog (crcSums 63 177 177) 400 9 [] = true := by kernel_rfl
end Go.Proofs.YtmnhkjbplfkpfaaGreat

