/-
  DERIVED. GIVEN WITH THE SEED: THE CARDS: each row of YtoeienklpfbfmaaGreatDoorRows.lean that lists a variable, with what it lists TIED to the program's text (the seventh form; the later family's looks); each row that meets fmt, with fmt's text TOLD by the authors' own Lean function (tested against real Go, not proved from fmt's source: count such statements apart). THE CARD IS WHAT COUNTS. Prove the row's statement (the work); the ties are given (YtoeienklpfbfmaaGreatDoorTie.lean); close each card by the builder's one call (the guide's Derived/Test/ToyasCard.lean, 'card_holds'). Laid BY PROGRAM, IN A SANDBOX (cutbox-door.mjs). By AI agents, Wed Nov 11 2026. No macro, syntax, notation, axiom, sorry.
-/
import Derived.Test.YtoeienklpfbfmaaGreatDoorRows
import GoSem.ClaimSeven
namespace Go.Proofs.YtoeienklpfbfmaaGreatDoor
namespace Rows

/-- THE TIED CARD OF 'bollardlaw21.SfuNone'. -/
def sfuNoneCard : Claim7 := { stood := { row := sfuNoneRow, standIns := [], harness := (true, "84da1f447d043cba515b356a4fe4f08c81da5fb6fd6fc8c6b0b6c886d3775824"), looks := false }, kinds := [], alts := [], laidByText := true, laidKinds := [.data, .pinned], laidTests := true, laidLooks := .later }
def SfuNoneCardSaid : Prop := Claim7.holds Tryz.pinned (.plain (OpenSpec.ofChange sfuNoneSpec)) sfuNoneCard

/-- THE SECOND FORM's CARD OF 'bollardlaw21.SfuNone'. -/
def sfuNoneUptoCard : Claim7 := { stood := { row := sfuNoneUptoRow, standIns := [], harness := (true, "84da1f447d043cba515b356a4fe4f08c81da5fb6fd6fc8c6b0b6c886d3775824"), looks := false }, kinds := [], alts := [], laidByText := true, laidKinds := [.data, .pinned], laidTests := true, laidLooks := .later }
def SfuNoneUptoCardSaid : Prop := Claim7.holds Tryz.pinned (.plain (OpenSpec.upto sfuNoneSpec)) sfuNoneUptoCard
end Rows
end Go.Proofs.YtoeienklpfbfmaaGreatDoor
