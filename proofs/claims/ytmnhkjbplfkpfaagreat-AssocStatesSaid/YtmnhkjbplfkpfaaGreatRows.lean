/-
  No cell of these rows narrows 'for every input' (looked for: loops, veiled, ifaces, maps, wideKeys, modest, calm, conditions, laid).
  DERIVED. THE GIVEN ROWS OF THIS SEAT. 6 by the template 'for every input the law returns true; each argument reads behind the call as it read before'; 0 by the template 'total and deterministic' (their statements: YtmnhkjbplfkpfaaGreatTotals.lean).
  GIVEN WITH THE SEED: the statements are not yours to turn. If you find one false, say at which input.
  Laid BY PROGRAM, IN A SANDBOX (cutbox-rows.mjs): the forced cells as the released guide's own fill.sh prints them over the translation d9ff2133d9389c43… (all of the seat's roots in one cut). By AI agents, Wed Nov 11 2026. No macro, syntax, notation, axiom, sorry.
-/
import Derived.Test.YtmnhkjbplfkpfaaGreatChecked
import GoSem.Claim
import GoSem.ClaimJoined
import GoSem.ClaimMapViews
import Derived.JoinedTies
import Derived.KernelRfl
namespace Go.Proofs.YtmnhkjbplfkpfaaGreat
/- THE CELL 'sum', in the pinned program and in every row, IS THE sha256 OF THE DUMP (.gsa) THAT YtmnhkjbplfkpfaaGreatProg.lean LOADS. Nothing in Lean hashes anything: it is a label: what it is worth is what the hold of that sum in a sandbox is worth. -/
noncomputable def Tryz.pinned : Pinned := { name := "ytmnhkjbplfkpfaagreat", sum := "d9ff2133d9389c43422e526e8ee68a2c90e1458de33f31ac801f81a52549ff46", checked := Tryz.checked }
namespace Rows
def none {H : Type} : Left H := { results := [], args := [] }

/-- 'bollardlaw17.AssocFails': WHATEVER THE INPUT: true; the input reads as it did. -/
def assocFailsSpec : ChangeSpec := { name := "assocFails", fn := fun _ => fun
  | [d1, d2] => { results := [.lit (.bool true)], args := [d1, d2] }
  | _ => none }
def assocFailsRow : OpenClaim := { program := "ytmnhkjbplfkpfaagreat", sum := "d9ff2133d9389c43422e526e8ee68a2c90e1458de33f31ac801f81a52549ff46", func := "bollard/bollardlaw17.AssocFails", spec := "assocFails", unfollowed := true, recurses := true, plainKeys := false, apart := false }
def AssocFailsSaid : Prop := assocFailsRow.holds Tryz.pinned (OpenSpec.ofChange assocFailsSpec)

/-- ITS FALSE NEIGHBOUR: 'it returns false'. Refute it at one input. -/
def assocFailsWrong : ChangeSpec := { name := "assocFails", fn := fun _ => fun
  | [d1, d2] => { results := [.lit (.bool false)], args := [d1, d2] }
  | _ => none }
def AssocFailsWrongFalsely : Prop := assocFailsRow.holds Tryz.pinned (OpenSpec.ofChange assocFailsWrong)

/-- 'bollardlaw17.AssocKeeps': WHATEVER THE INPUT: true; the input reads as it did. -/
def assocKeepsSpec : ChangeSpec := { name := "assocKeeps", fn := fun _ => fun
  | [d1, d2, d3] => { results := [.lit (.bool true)], args := [d1, d2, d3] }
  | _ => none }
def assocKeepsRow : OpenClaim := { program := "ytmnhkjbplfkpfaagreat", sum := "d9ff2133d9389c43422e526e8ee68a2c90e1458de33f31ac801f81a52549ff46", func := "bollard/bollardlaw17.AssocKeeps", spec := "assocKeeps", unfollowed := true, recurses := true, plainKeys := false, apart := false }
def AssocKeepsSaid : Prop := assocKeepsRow.holds Tryz.pinned (OpenSpec.ofChange assocKeepsSpec)

/-- ITS FALSE NEIGHBOUR: 'it returns false'. Refute it at one input. -/
def assocKeepsWrong : ChangeSpec := { name := "assocKeeps", fn := fun _ => fun
  | [d1, d2, d3] => { results := [.lit (.bool false)], args := [d1, d2, d3] }
  | _ => none }
def AssocKeepsWrongFalsely : Prop := assocKeepsRow.holds Tryz.pinned (OpenSpec.ofChange assocKeepsWrong)

/-- 'bollardlaw17.AssocForged': WHATEVER THE INPUT: true; the input reads as it did. -/
def assocForgedSpec : ChangeSpec := { name := "assocForged", fn := fun _ => fun
  | [d1, d2, d3] => { results := [.lit (.bool true)], args := [d1, d2, d3] }
  | _ => none }
def assocForgedRow : OpenClaim := { program := "ytmnhkjbplfkpfaagreat", sum := "d9ff2133d9389c43422e526e8ee68a2c90e1458de33f31ac801f81a52549ff46", func := "bollard/bollardlaw17.AssocForged", spec := "assocForged", unfollowed := true, recurses := true, plainKeys := false, apart := false }
def AssocForgedSaid : Prop := assocForgedRow.holds Tryz.pinned (OpenSpec.ofChange assocForgedSpec)

/-- ITS FALSE NEIGHBOUR: 'it returns false'. Refute it at one input. -/
def assocForgedWrong : ChangeSpec := { name := "assocForged", fn := fun _ => fun
  | [d1, d2, d3] => { results := [.lit (.bool false)], args := [d1, d2, d3] }
  | _ => none }
def AssocForgedWrongFalsely : Prop := assocForgedRow.holds Tryz.pinned (OpenSpec.ofChange assocForgedWrong)

/-- 'bollardlaw17.AssocAborts': WHATEVER THE INPUT: true; the input reads as it did. -/
def assocAbortsSpec : ChangeSpec := { name := "assocAborts", fn := fun _ => fun
  | [d1, d2] => { results := [.lit (.bool true)], args := [d1, d2] }
  | _ => none }
def assocAbortsRow : OpenClaim := { program := "ytmnhkjbplfkpfaagreat", sum := "d9ff2133d9389c43422e526e8ee68a2c90e1458de33f31ac801f81a52549ff46", func := "bollard/bollardlaw17.AssocAborts", spec := "assocAborts", unfollowed := true, recurses := true, plainKeys := false, apart := false }
def AssocAbortsSaid : Prop := assocAbortsRow.holds Tryz.pinned (OpenSpec.ofChange assocAbortsSpec)

/-- ITS FALSE NEIGHBOUR: 'it returns false'. Refute it at one input. -/
def assocAbortsWrong : ChangeSpec := { name := "assocAborts", fn := fun _ => fun
  | [d1, d2] => { results := [.lit (.bool false)], args := [d1, d2] }
  | _ => none }
def AssocAbortsWrongFalsely : Prop := assocAbortsRow.holds Tryz.pinned (OpenSpec.ofChange assocAbortsWrong)

/-- 'bollardlaw17.AssocStates': WHATEVER THE INPUT: true; the input reads as it did. -/
def assocStatesSpec : ChangeSpec := { name := "assocStates", fn := fun _ => fun
  | [d1, d2] => { results := [.lit (.bool true)], args := [d1, d2] }
  | _ => none }
def assocStatesRow : OpenClaim := { program := "ytmnhkjbplfkpfaagreat", sum := "d9ff2133d9389c43422e526e8ee68a2c90e1458de33f31ac801f81a52549ff46", func := "bollard/bollardlaw17.AssocStates", spec := "assocStates", unfollowed := true, recurses := true, plainKeys := false, apart := false }
def AssocStatesSaid : Prop := assocStatesRow.holds Tryz.pinned (OpenSpec.ofChange assocStatesSpec)

/-- ITS FALSE NEIGHBOUR: 'it returns false'. Refute it at one input. -/
def assocStatesWrong : ChangeSpec := { name := "assocStates", fn := fun _ => fun
  | [d1, d2] => { results := [.lit (.bool false)], args := [d1, d2] }
  | _ => none }
def AssocStatesWrongFalsely : Prop := assocStatesRow.holds Tryz.pinned (OpenSpec.ofChange assocStatesWrong)

/-- 'bollardlaw17.AssocNone': WHATEVER THE INPUT: true; the input reads as it did. -/
def assocNoneSpec : ChangeSpec := { name := "assocNone", fn := fun _ => fun
  | [d1, d2, d3, d4] => { results := [.lit (.bool true)], args := [d1, d2, d3, d4] }
  | _ => none }
def assocNoneRow : OpenClaim := { program := "ytmnhkjbplfkpfaagreat", sum := "d9ff2133d9389c43422e526e8ee68a2c90e1458de33f31ac801f81a52549ff46", func := "bollard/bollardlaw17.AssocNone", spec := "assocNone", unfollowed := true, recurses := true, plainKeys := false, apart := false }
def AssocNoneSaid : Prop := assocNoneRow.holds Tryz.pinned (OpenSpec.ofChange assocNoneSpec)

/-- ITS FALSE NEIGHBOUR: 'it returns false'. Refute it at one input. -/
def assocNoneWrong : ChangeSpec := { name := "assocNone", fn := fun _ => fun
  | [d1, d2, d3, d4] => { results := [.lit (.bool false)], args := [d1, d2, d3, d4] }
  | _ => none }
def AssocNoneWrongFalsely : Prop := assocNoneRow.holds Tryz.pinned (OpenSpec.ofChange assocNoneWrong)

/- THE SECOND FORM. 'bulk': how many values and letters a reading holds, each counted each time it is reached (what is shared counts as often as it is met; a slice's spare places count too). A statement '..UptoSaid' is the law's where the arguments, and the package variables that the reading takes, are together of bulk at most 1048576: NARROWER than '..Said'. Prove '..Said' where nothing that the law and all that it calls make is longer than what came in: it says more and counts as full. Else prove '..UptoSaid'. A law counts once. -/
mutual
def uptoBulk {H : Type} : DataW H → Nat
  | .lit (.string bytes) => bytes.length + 1
  | .lit _ => 1
  | .nil => 1
  | .ptr d => uptoBulk d + 1
  | .slice elems spare => uptoBulkAll elems + uptoBulkAll spare + 1
  | .agg parts => uptoBulkAll parts + 1
  | .iface _ d => uptoBulk d + 1
  | .map entries => uptoBulkEntries entries + 1
  | .held _ => 1
def uptoBulkAll {H : Type} : List (DataW H) → Nat
  | [] => 0
  | d :: r => uptoBulk d + uptoBulkAll r
def uptoBulkEntries {H : Type} : List (Lit × DataW H) → Nat
  | [] => 0
  | x :: r => uptoBulkEntry x + uptoBulkEntries r
def uptoBulkEntry {H : Type} : Lit × DataW H → Nat
  | (.string bytes, d) => bytes.length + uptoBulk d + 1
  | (_, d) => uptoBulk d + 1
 end
def uptoSmall : (H : Type) → List (DataW H) → Bool := fun _ ds => decide (uptoBulkAll ds ≤ 1048576)
def OpenSpec.upto (s : _root_.Go.ChangeSpec) : _root_.Go.OpenSpec := { _root_.Go.OpenSpec.ofChange s with cond := some uptoSmall }

/-- 'bollardlaw17.AssocFails', WHERE WHAT IT READS IS OF BULK AT MOST 1048576: true; the input reads as it did. -/
def assocFailsUptoRow : OpenClaim := { program := "ytmnhkjbplfkpfaagreat", sum := "d9ff2133d9389c43422e526e8ee68a2c90e1458de33f31ac801f81a52549ff46", func := "bollard/bollardlaw17.AssocFails", spec := "assocFails", unfollowed := true, recurses := true, plainKeys := false, apart := false, narrowed := true }
def AssocFailsUptoSaid : Prop := assocFailsUptoRow.holds Tryz.pinned (OpenSpec.upto assocFailsSpec)

/-- 'bollardlaw17.AssocKeeps', WHERE WHAT IT READS IS OF BULK AT MOST 1048576: true; the input reads as it did. -/
def assocKeepsUptoRow : OpenClaim := { program := "ytmnhkjbplfkpfaagreat", sum := "d9ff2133d9389c43422e526e8ee68a2c90e1458de33f31ac801f81a52549ff46", func := "bollard/bollardlaw17.AssocKeeps", spec := "assocKeeps", unfollowed := true, recurses := true, plainKeys := false, apart := false, narrowed := true }
def AssocKeepsUptoSaid : Prop := assocKeepsUptoRow.holds Tryz.pinned (OpenSpec.upto assocKeepsSpec)

/-- 'bollardlaw17.AssocForged', WHERE WHAT IT READS IS OF BULK AT MOST 1048576: true; the input reads as it did. -/
def assocForgedUptoRow : OpenClaim := { program := "ytmnhkjbplfkpfaagreat", sum := "d9ff2133d9389c43422e526e8ee68a2c90e1458de33f31ac801f81a52549ff46", func := "bollard/bollardlaw17.AssocForged", spec := "assocForged", unfollowed := true, recurses := true, plainKeys := false, apart := false, narrowed := true }
def AssocForgedUptoSaid : Prop := assocForgedUptoRow.holds Tryz.pinned (OpenSpec.upto assocForgedSpec)

/-- 'bollardlaw17.AssocAborts', WHERE WHAT IT READS IS OF BULK AT MOST 1048576: true; the input reads as it did. -/
def assocAbortsUptoRow : OpenClaim := { program := "ytmnhkjbplfkpfaagreat", sum := "d9ff2133d9389c43422e526e8ee68a2c90e1458de33f31ac801f81a52549ff46", func := "bollard/bollardlaw17.AssocAborts", spec := "assocAborts", unfollowed := true, recurses := true, plainKeys := false, apart := false, narrowed := true }
def AssocAbortsUptoSaid : Prop := assocAbortsUptoRow.holds Tryz.pinned (OpenSpec.upto assocAbortsSpec)

/-- 'bollardlaw17.AssocStates', WHERE WHAT IT READS IS OF BULK AT MOST 1048576: true; the input reads as it did. -/
def assocStatesUptoRow : OpenClaim := { program := "ytmnhkjbplfkpfaagreat", sum := "d9ff2133d9389c43422e526e8ee68a2c90e1458de33f31ac801f81a52549ff46", func := "bollard/bollardlaw17.AssocStates", spec := "assocStates", unfollowed := true, recurses := true, plainKeys := false, apart := false, narrowed := true }
def AssocStatesUptoSaid : Prop := assocStatesUptoRow.holds Tryz.pinned (OpenSpec.upto assocStatesSpec)

/-- 'bollardlaw17.AssocNone', WHERE WHAT IT READS IS OF BULK AT MOST 1048576: true; the input reads as it did. -/
def assocNoneUptoRow : OpenClaim := { program := "ytmnhkjbplfkpfaagreat", sum := "d9ff2133d9389c43422e526e8ee68a2c90e1458de33f31ac801f81a52549ff46", func := "bollard/bollardlaw17.AssocNone", spec := "assocNone", unfollowed := true, recurses := true, plainKeys := false, apart := false, narrowed := true }
def AssocNoneUptoSaid : Prop := assocNoneUptoRow.holds Tryz.pinned (OpenSpec.upto assocNoneSpec)

end Rows
end Go.Proofs.YtmnhkjbplfkpfaaGreat
