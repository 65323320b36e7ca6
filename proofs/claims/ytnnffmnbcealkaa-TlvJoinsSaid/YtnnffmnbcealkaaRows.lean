/-
  No cell of these rows narrows 'for every input' (looked for: loops, veiled, ifaces, maps, wideKeys, modest, calm, conditions, laid).
  DERIVED. THE GIVEN ROWS OF THIS SEAT. 7 by the template 'for every input the law returns true; each argument reads behind the call as it read before'; 0 by the template 'total and deterministic' (their statements: YtnnffmnbcealkaaTotals.lean).
  GIVEN WITH THE SEED: the statements are not yours to turn. If you find one false, say at which input.
  Laid BY PROGRAM, IN A SANDBOX (cutbox-rows.mjs): the forced cells as the released guide's own fill.sh prints them over the translation 7427ad1a2868de33… (all of the seat's roots in one cut). By AI agents, Wed Nov 11 2026. No macro, syntax, notation, axiom, sorry.
-/
import Derived.Test.YtnnffmnbcealkaaChecked
import GoSem.Claim
import GoSem.ClaimJoined
import GoSem.ClaimMapViews
import Derived.JoinedTies
import Derived.KernelRfl
namespace Go.Proofs.Ytnnffmnbcealkaa
/- THE CELL 'sum', in the pinned program and in every row, IS THE sha256 OF THE DUMP (.gsa) THAT YtnnffmnbcealkaaProg.lean LOADS. Nothing in Lean hashes anything: it is a label: what it is worth is what the hold of that sum in a sandbox is worth. -/
noncomputable def Try.pinned : Pinned := { name := "ytnnffmnbcealkaa", sum := "7427ad1a2868de33f1d0059cd6c61c37e8fd8bd17f7133a6ad4cb18dc2e11c0d", checked := Try.checked }
namespace Rows
def none {H : Type} : Left H := { results := [], args := [] }

/-- 'bollardlaw06.TlvEncodes': WHATEVER THE INPUT: true; the input reads as it did. -/
def tlvEncodesSpec : ChangeSpec := { name := "tlvEncodes", fn := fun _ => fun
  | [d1, d2] => { results := [.lit (.bool true)], args := [d1, d2] }
  | _ => none }
def tlvEncodesRow : OpenClaim := { program := "ytnnffmnbcealkaa", sum := "7427ad1a2868de33f1d0059cd6c61c37e8fd8bd17f7133a6ad4cb18dc2e11c0d", func := "bollard/bollardlaw06.TlvEncodes", spec := "tlvEncodes", unfollowed := true, recurses := true, apart := false }
def TlvEncodesSaid : Prop := tlvEncodesRow.holds Try.pinned (OpenSpec.ofChange tlvEncodesSpec)

/-- ITS FALSE NEIGHBOUR: 'it returns false'. Refute it at one input. -/
def tlvEncodesWrong : ChangeSpec := { name := "tlvEncodes", fn := fun _ => fun
  | [d1, d2] => { results := [.lit (.bool false)], args := [d1, d2] }
  | _ => none }
def TlvEncodesWrongFalsely : Prop := tlvEncodesRow.holds Try.pinned (OpenSpec.ofChange tlvEncodesWrong)

/-- 'bollardlaw06.TlvDecodes': WHATEVER THE INPUT: true; the input reads as it did. -/
def tlvDecodesSpec : ChangeSpec := { name := "tlvDecodes", fn := fun _ => fun
  | [d] => { results := [.lit (.bool true)], args := [d] }
  | _ => none }
def tlvDecodesRow : OpenClaim := { program := "ytnnffmnbcealkaa", sum := "7427ad1a2868de33f1d0059cd6c61c37e8fd8bd17f7133a6ad4cb18dc2e11c0d", func := "bollard/bollardlaw06.TlvDecodes", spec := "tlvDecodes", unfollowed := true, recurses := true, apart := false }
def TlvDecodesSaid : Prop := tlvDecodesRow.holds Try.pinned (OpenSpec.ofChange tlvDecodesSpec)

/-- ITS FALSE NEIGHBOUR: 'it returns false'. Refute it at one input. -/
def tlvDecodesWrong : ChangeSpec := { name := "tlvDecodes", fn := fun _ => fun
  | [d] => { results := [.lit (.bool false)], args := [d] }
  | _ => none }
def TlvDecodesWrongFalsely : Prop := tlvDecodesRow.holds Try.pinned (OpenSpec.ofChange tlvDecodesWrong)

/-- 'bollardlaw06.TlvActions': WHATEVER THE INPUT: true; the input reads as it did. -/
def tlvActionsSpec : ChangeSpec := { name := "tlvActions", fn := fun _ => fun
  | [d] => { results := [.lit (.bool true)], args := [d] }
  | _ => none }
def tlvActionsRow : OpenClaim := { program := "ytnnffmnbcealkaa", sum := "7427ad1a2868de33f1d0059cd6c61c37e8fd8bd17f7133a6ad4cb18dc2e11c0d", func := "bollard/bollardlaw06.TlvActions", spec := "tlvActions", unfollowed := true, recurses := true, apart := false }
def TlvActionsSaid : Prop := tlvActionsRow.holds Try.pinned (OpenSpec.ofChange tlvActionsSpec)

/-- ITS FALSE NEIGHBOUR: 'it returns false'. Refute it at one input. -/
def tlvActionsWrong : ChangeSpec := { name := "tlvActions", fn := fun _ => fun
  | [d] => { results := [.lit (.bool false)], args := [d] }
  | _ => none }
def TlvActionsWrongFalsely : Prop := tlvActionsRow.holds Try.pinned (OpenSpec.ofChange tlvActionsWrong)

/-- 'bollardlaw06.TlvBack': WHATEVER THE INPUT: true; the input reads as it did. -/
def tlvBackSpec : ChangeSpec := { name := "tlvBack", fn := fun _ => fun
  | [d] => { results := [.lit (.bool true)], args := [d] }
  | _ => none }
def tlvBackRow : OpenClaim := { program := "ytnnffmnbcealkaa", sum := "7427ad1a2868de33f1d0059cd6c61c37e8fd8bd17f7133a6ad4cb18dc2e11c0d", func := "bollard/bollardlaw06.TlvBack", spec := "tlvBack", unfollowed := true, recurses := true, apart := false }
def TlvBackSaid : Prop := tlvBackRow.holds Try.pinned (OpenSpec.ofChange tlvBackSpec)

/-- ITS FALSE NEIGHBOUR: 'it returns false'. Refute it at one input. -/
def tlvBackWrong : ChangeSpec := { name := "tlvBack", fn := fun _ => fun
  | [d] => { results := [.lit (.bool false)], args := [d] }
  | _ => none }
def TlvBackWrongFalsely : Prop := tlvBackRow.holds Try.pinned (OpenSpec.ofChange tlvBackWrong)

/-- 'bollardlaw06.TlvOnly': WHATEVER THE INPUT: true; the input reads as it did. -/
def tlvOnlySpec : ChangeSpec := { name := "tlvOnly", fn := fun _ => fun
  | [d] => { results := [.lit (.bool true)], args := [d] }
  | _ => none }
def tlvOnlyRow : OpenClaim := { program := "ytnnffmnbcealkaa", sum := "7427ad1a2868de33f1d0059cd6c61c37e8fd8bd17f7133a6ad4cb18dc2e11c0d", func := "bollard/bollardlaw06.TlvOnly", spec := "tlvOnly", unfollowed := true, recurses := true, apart := false }
def TlvOnlySaid : Prop := tlvOnlyRow.holds Try.pinned (OpenSpec.ofChange tlvOnlySpec)

/-- ITS FALSE NEIGHBOUR: 'it returns false'. Refute it at one input. -/
def tlvOnlyWrong : ChangeSpec := { name := "tlvOnly", fn := fun _ => fun
  | [d] => { results := [.lit (.bool false)], args := [d] }
  | _ => none }
def TlvOnlyWrongFalsely : Prop := tlvOnlyRow.holds Try.pinned (OpenSpec.ofChange tlvOnlyWrong)

/-- 'bollardlaw06.TlvJoins': WHATEVER THE INPUT: true; the input reads as it did. -/
def tlvJoinsSpec : ChangeSpec := { name := "tlvJoins", fn := fun _ => fun
  | [d1, d2, d3] => { results := [.lit (.bool true)], args := [d1, d2, d3] }
  | _ => none }
def tlvJoinsRow : OpenClaim := { program := "ytnnffmnbcealkaa", sum := "7427ad1a2868de33f1d0059cd6c61c37e8fd8bd17f7133a6ad4cb18dc2e11c0d", func := "bollard/bollardlaw06.TlvJoins", spec := "tlvJoins", unfollowed := true, recurses := true, apart := false }
def TlvJoinsSaid : Prop := tlvJoinsRow.holds Try.pinned (OpenSpec.ofChange tlvJoinsSpec)

/-- ITS FALSE NEIGHBOUR: 'it returns false'. Refute it at one input. -/
def tlvJoinsWrong : ChangeSpec := { name := "tlvJoins", fn := fun _ => fun
  | [d1, d2, d3] => { results := [.lit (.bool false)], args := [d1, d2, d3] }
  | _ => none }
def TlvJoinsWrongFalsely : Prop := tlvJoinsRow.holds Try.pinned (OpenSpec.ofChange tlvJoinsWrong)

/-- 'bollardlaw06.TlvFinds': WHATEVER THE INPUT: true; the input reads as it did. -/
def tlvFindsSpec : ChangeSpec := { name := "tlvFinds", fn := fun _ => fun
  | [d1, d2] => { results := [.lit (.bool true)], args := [d1, d2] }
  | _ => none }
def tlvFindsRow : OpenClaim := { program := "ytnnffmnbcealkaa", sum := "7427ad1a2868de33f1d0059cd6c61c37e8fd8bd17f7133a6ad4cb18dc2e11c0d", func := "bollard/bollardlaw06.TlvFinds", spec := "tlvFinds", unfollowed := true, recurses := true, apart := false }
def TlvFindsSaid : Prop := tlvFindsRow.holds Try.pinned (OpenSpec.ofChange tlvFindsSpec)

/-- ITS FALSE NEIGHBOUR: 'it returns false'. Refute it at one input. -/
def tlvFindsWrong : ChangeSpec := { name := "tlvFinds", fn := fun _ => fun
  | [d1, d2] => { results := [.lit (.bool false)], args := [d1, d2] }
  | _ => none }
def TlvFindsWrongFalsely : Prop := tlvFindsRow.holds Try.pinned (OpenSpec.ofChange tlvFindsWrong)

/- THE SECOND FORM. 'bulk': how many values and letters a reading holds, each counted each time it is reached (what is shared counts as often as it is met; a slice's spare places count too). A statement '..UptoSaid' is the law's where the arguments, and the package variables that the reading takes, are together of bulk at most 1048576: NARROWER than '..Said'. Prove '..Said' where nothing that the law and all that it calls make is longer than what came in: it says more and counts as full. Else prove '..UptoSaid'. A law counts once. -/
mutual
def uptoBulk {H : Type} : DataW H → Nat
  | .lit (.string bytes) => bytes.length + 1
  | .lit _ => 1
  | .nil => 1
  | .ptr d => uptoBulk d + 1
  | .slice elems spare => uptoBulkAll elems + uptoBulkAll spare + 1
  | .agg parts => uptoBulkAll parts + 1
  | .iface _ d => uptoBulk d + 1
  | .map entries => uptoBulkEntries entries + 1
  | .held _ => 1
def uptoBulkAll {H : Type} : List (DataW H) → Nat
  | [] => 0
  | d :: r => uptoBulk d + uptoBulkAll r
def uptoBulkEntries {H : Type} : List (Lit × DataW H) → Nat
  | [] => 0
  | x :: r => uptoBulkEntry x + uptoBulkEntries r
def uptoBulkEntry {H : Type} : Lit × DataW H → Nat
  | (.string bytes, d) => bytes.length + uptoBulk d + 1
  | (_, d) => uptoBulk d + 1
 end
def uptoSmall : (H : Type) → List (DataW H) → Bool := fun _ ds => decide (uptoBulkAll ds ≤ 1048576)
def OpenSpec.upto (s : _root_.Go.ChangeSpec) : _root_.Go.OpenSpec := { _root_.Go.OpenSpec.ofChange s with cond := some uptoSmall }

/-- 'bollardlaw06.TlvEncodes', WHERE WHAT IT READS IS OF BULK AT MOST 1048576: true; the input reads as it did. -/
def tlvEncodesUptoRow : OpenClaim := { program := "ytnnffmnbcealkaa", sum := "7427ad1a2868de33f1d0059cd6c61c37e8fd8bd17f7133a6ad4cb18dc2e11c0d", func := "bollard/bollardlaw06.TlvEncodes", spec := "tlvEncodes", unfollowed := true, recurses := true, apart := false, narrowed := true }
def TlvEncodesUptoSaid : Prop := tlvEncodesUptoRow.holds Try.pinned (OpenSpec.upto tlvEncodesSpec)

/-- 'bollardlaw06.TlvDecodes', WHERE WHAT IT READS IS OF BULK AT MOST 1048576: true; the input reads as it did. -/
def tlvDecodesUptoRow : OpenClaim := { program := "ytnnffmnbcealkaa", sum := "7427ad1a2868de33f1d0059cd6c61c37e8fd8bd17f7133a6ad4cb18dc2e11c0d", func := "bollard/bollardlaw06.TlvDecodes", spec := "tlvDecodes", unfollowed := true, recurses := true, apart := false, narrowed := true }
def TlvDecodesUptoSaid : Prop := tlvDecodesUptoRow.holds Try.pinned (OpenSpec.upto tlvDecodesSpec)

/-- 'bollardlaw06.TlvActions', WHERE WHAT IT READS IS OF BULK AT MOST 1048576: true; the input reads as it did. -/
def tlvActionsUptoRow : OpenClaim := { program := "ytnnffmnbcealkaa", sum := "7427ad1a2868de33f1d0059cd6c61c37e8fd8bd17f7133a6ad4cb18dc2e11c0d", func := "bollard/bollardlaw06.TlvActions", spec := "tlvActions", unfollowed := true, recurses := true, apart := false, narrowed := true }
def TlvActionsUptoSaid : Prop := tlvActionsUptoRow.holds Try.pinned (OpenSpec.upto tlvActionsSpec)

/-- 'bollardlaw06.TlvBack', WHERE WHAT IT READS IS OF BULK AT MOST 1048576: true; the input reads as it did. -/
def tlvBackUptoRow : OpenClaim := { program := "ytnnffmnbcealkaa", sum := "7427ad1a2868de33f1d0059cd6c61c37e8fd8bd17f7133a6ad4cb18dc2e11c0d", func := "bollard/bollardlaw06.TlvBack", spec := "tlvBack", unfollowed := true, recurses := true, apart := false, narrowed := true }
def TlvBackUptoSaid : Prop := tlvBackUptoRow.holds Try.pinned (OpenSpec.upto tlvBackSpec)

/-- 'bollardlaw06.TlvOnly', WHERE WHAT IT READS IS OF BULK AT MOST 1048576: true; the input reads as it did. -/
def tlvOnlyUptoRow : OpenClaim := { program := "ytnnffmnbcealkaa", sum := "7427ad1a2868de33f1d0059cd6c61c37e8fd8bd17f7133a6ad4cb18dc2e11c0d", func := "bollard/bollardlaw06.TlvOnly", spec := "tlvOnly", unfollowed := true, recurses := true, apart := false, narrowed := true }
def TlvOnlyUptoSaid : Prop := tlvOnlyUptoRow.holds Try.pinned (OpenSpec.upto tlvOnlySpec)

/-- 'bollardlaw06.TlvJoins', WHERE WHAT IT READS IS OF BULK AT MOST 1048576: true; the input reads as it did. -/
def tlvJoinsUptoRow : OpenClaim := { program := "ytnnffmnbcealkaa", sum := "7427ad1a2868de33f1d0059cd6c61c37e8fd8bd17f7133a6ad4cb18dc2e11c0d", func := "bollard/bollardlaw06.TlvJoins", spec := "tlvJoins", unfollowed := true, recurses := true, apart := false, narrowed := true }
def TlvJoinsUptoSaid : Prop := tlvJoinsUptoRow.holds Try.pinned (OpenSpec.upto tlvJoinsSpec)

/-- 'bollardlaw06.TlvFinds', WHERE WHAT IT READS IS OF BULK AT MOST 1048576: true; the input reads as it did. -/
def tlvFindsUptoRow : OpenClaim := { program := "ytnnffmnbcealkaa", sum := "7427ad1a2868de33f1d0059cd6c61c37e8fd8bd17f7133a6ad4cb18dc2e11c0d", func := "bollard/bollardlaw06.TlvFinds", spec := "tlvFinds", unfollowed := true, recurses := true, apart := false, narrowed := true }
def TlvFindsUptoSaid : Prop := tlvFindsUptoRow.holds Try.pinned (OpenSpec.upto tlvFindsSpec)

end Rows
end Go.Proofs.Ytnnffmnbcealkaa
