/- Part of a proof by an abstract run of the program's code: TN. No condition. -/
import Derived.Test.YtoeienklpfbfmaaGreatDoorTF
import Derived.Test.YtoeienklpfbfmaaGreatDoorTG
import Derived.Test.YtoeienklpfbfmaaGreatDoorTH
import Derived.Test.YtoeienklpfbfmaaGreatDoorTI
import Derived.Test.YtoeienklpfbfmaaGreatDoorTJ
import Derived.Test.YtoeienklpfbfmaaGreatDoorTK
import Derived.Test.YtoeienklpfbfmaaGreatDoorTM
/-! The law awake: its run, put together of its pieces. -/
namespace Go.Proofs.YtoeienklpfbfmaaGreatDoor
open Go Vm
theorem awOK : ∀ e ∈ awT, e.ok Tryz.prog GC 390 59 := by
  intro e he
  simp only [awT, List.mem_cons, List.not_mem_nil, or_false] at he
  rcases he with rfl | rfl | rfl | rfl | rfl | rfl | rfl | rfl | rfl | rfl | rfl
  · exact awe0
  · exact awe1
  · exact awe2
  · exact awe3
  · exact awe4
  · exact awe5
  · exact awe6
  · exact awe7
  · exact awe8
  · exact awe9
  · exact awe10
theorem awakeTab : Vm.says Tryz.prog (tabSums 130 255 296 59 awT) 400 4 [] = true := by kernel_rfl
theorem awakeSays : Vm.says Tryz.prog GC 790 4 [] = true := tab_says (m := 390) (n := 400) rfl awOK awakeTab
abbrev G0 : Sums := oneSum 4
noncomputable abbrev GS : Sums := sumsOr G0 GC
theorem sumsAwake0 (B : Nat) : SumsOK Tryz.prog B G0 := sums_one (enters_of (by kernel_rfl)) (fun w => Vm.says_trueG mixed crcOK awakeSays w) B
theorem sumsAwake (B : Nat) : SumsOK Tryz.prog B GS := sums_or (sumsAwake0 B) (crcOK B)
theorem own : ownKnob Tryz.prog.godebug = none := by kernel_rfl
theorem laidOut : laidOutB Tryz.prog = true := by kernel_rfl
end Go.Proofs.YtoeienklpfbfmaaGreatDoor

