/-
  The law SfuNone holds for every input: of a server, and of a party, that are none nothing is told.
  No condition: what the row lists of package-level variables is tied to the program's text.
-/
import Derived.SevenTiedAt
import Derived.Test.YtoeienklpfbfmaaGreatDoorTie
import Derived.Test.YtoeienklpfbfmaaGreatDoorCards
import Derived.Test.YtoeienklpfbfmaaGreatDoorTU
import Derived.Test.YtoeienklpfbfmaaGreatDoorTV
import Derived.Test.YtoeienklpfbfmaaGreatDoorTW
import Derived.Test.YtoeienklpfbfmaaGreatDoorTX
set_option linter.unusedVariables false
namespace Go.Proofs.YtoeienklpfbfmaaGreatDoor
open Go Vm Go.ChangeShapes Go.WideShapes Go.ChangeAt Go.RowKit
theorem sfuNone_card : Rows.SfuNoneCardSaid :=
  Claim7.holds_tied_plain_at .later [] [.data, .pinned] true (true, "84da1f447d043cba515b356a4fe4f08c81da5fb6fd6fc8c6b0b6c886d3775824") false sfuNone_row (fun _ h => by cases h) sfuNone_c1 (fun _ h => by cases h) sfuNone_row_tie rfl ⟨rfl, rfl⟩ sfuNone_c2 rfl
    (fun f fn hf hfn => by
      obtain rfl : f = 3 := Option.some.inj (sfuNone_c3.symm.trans hf) |>.symm
      obtain rfl : fn = Tryz.f3 := (Option.some.inj (Tryz.func3.symm.trans hfn)).symm
      refine ⟨sfuNone_c4, fun j t ht => ?_⟩
      have := List.all_eq_true.1 sfuNone_c5 t (List.mem_of_getElem? (by simpa using ht))
      show Tryz.prog.wantsStandIn t = false
      simpa using this)
    (goes_none noneGoes _ rfl)
end Go.Proofs.YtoeienklpfbfmaaGreatDoor
#print axioms Go.Proofs.YtoeienklpfbfmaaGreatDoor.sfuNone_card

