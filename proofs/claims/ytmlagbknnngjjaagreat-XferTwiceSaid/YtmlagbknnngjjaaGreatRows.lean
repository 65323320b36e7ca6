/-
  No cell of these rows narrows 'for every input' (looked for: loops, veiled, ifaces, maps, wideKeys, modest, calm, conditions, laid).
  DERIVED. THE GIVEN ROWS OF THIS SEAT. 4 by the template 'for every input the law returns true; each argument reads behind the call as it read before'; 0 by the template 'total and deterministic' (their statements: YtmlagbknnngjjaaGreatTotals.lean).
  GIVEN WITH THE SEED: the statements are not yours to turn. If you find one false, say at which input.
  Laid BY PROGRAM, IN A SANDBOX (cutbox-rows.mjs): the forced cells as the released guide's own fill.sh prints them over the translation 64546db9586c1cb9… (all of the seat's roots in one cut). By AI agents, Wed Nov 11 2026. No macro, syntax, notation, axiom, sorry.
-/
import Derived.Test.YtmlagbknnngjjaaGreatChecked
import GoSem.Claim
import GoSem.ClaimJoined
import GoSem.ClaimMapViews
import Derived.JoinedTies
import Derived.KernelRfl
namespace Go.Proofs.YtmlagbknnngjjaaGreat
/- THE CELL 'sum', in the pinned program and in every row, IS THE sha256 OF THE DUMP (.gsa) THAT YtmlagbknnngjjaaGreatProg.lean LOADS. Nothing in Lean hashes anything: it is a label: what it is worth is what the hold of that sum in a sandbox is worth. -/
noncomputable def Tryz.pinned : Pinned := { name := "ytmlagbknnngjjaagreat", sum := "64546db9586c1cb93170a026fefeb38e3a94c91538e1a34a93bd3cdf4b3abce9", checked := Tryz.checked }
namespace Rows
def none {H : Type} : Left H := { results := [], args := [] }

/-- 'bollardlaw16.XferRoom': WHATEVER THE INPUT: true; the input reads as it did. -/
def xferRoomSpec : ChangeSpec := { name := "xferRoom", fn := fun _ => fun
  | [d1, d2, d3] => { results := [.lit (.bool true)], args := [d1, d2, d3] }
  | _ => none }
def xferRoomRow : OpenClaim := { program := "ytmlagbknnngjjaagreat", sum := "64546db9586c1cb93170a026fefeb38e3a94c91538e1a34a93bd3cdf4b3abce9", func := "bollard/bollardlaw16.XferRoom", spec := "xferRoom", unfollowed := true, recurses := true, plainKeys := false, apart := false }
def XferRoomSaid : Prop := xferRoomRow.holds Tryz.pinned (OpenSpec.ofChange xferRoomSpec)

/-- ITS FALSE NEIGHBOUR: 'it returns false'. Refute it at one input. -/
def xferRoomWrong : ChangeSpec := { name := "xferRoom", fn := fun _ => fun
  | [d1, d2, d3] => { results := [.lit (.bool false)], args := [d1, d2, d3] }
  | _ => none }
def XferRoomWrongFalsely : Prop := xferRoomRow.holds Tryz.pinned (OpenSpec.ofChange xferRoomWrong)

/-- 'bollardlaw16.XferTwice': WHATEVER THE INPUT: true; the input reads as it did. -/
def xferTwiceSpec : ChangeSpec := { name := "xferTwice", fn := fun _ => fun
  | [d1, d2, d3, d4] => { results := [.lit (.bool true)], args := [d1, d2, d3, d4] }
  | _ => none }
def xferTwiceRow : OpenClaim := { program := "ytmlagbknnngjjaagreat", sum := "64546db9586c1cb93170a026fefeb38e3a94c91538e1a34a93bd3cdf4b3abce9", func := "bollard/bollardlaw16.XferTwice", spec := "xferTwice", unfollowed := true, recurses := true, plainKeys := false, apart := false }
def XferTwiceSaid : Prop := xferTwiceRow.holds Tryz.pinned (OpenSpec.ofChange xferTwiceSpec)

/-- ITS FALSE NEIGHBOUR: 'it returns false'. Refute it at one input. -/
def xferTwiceWrong : ChangeSpec := { name := "xferTwice", fn := fun _ => fun
  | [d1, d2, d3, d4] => { results := [.lit (.bool false)], args := [d1, d2, d3, d4] }
  | _ => none }
def XferTwiceWrongFalsely : Prop := xferTwiceRow.holds Tryz.pinned (OpenSpec.ofChange xferTwiceWrong)

/-- 'bollardlaw16.XferFirst': WHATEVER THE INPUT: true; the input reads as it did. -/
def xferFirstSpec : ChangeSpec := { name := "xferFirst", fn := fun _ => fun
  | [d1, d2, d3, d4] => { results := [.lit (.bool true)], args := [d1, d2, d3, d4] }
  | _ => none }
def xferFirstRow : OpenClaim := { program := "ytmlagbknnngjjaagreat", sum := "64546db9586c1cb93170a026fefeb38e3a94c91538e1a34a93bd3cdf4b3abce9", func := "bollard/bollardlaw16.XferFirst", spec := "xferFirst", unfollowed := true, recurses := true, plainKeys := false, apart := false }
def XferFirstSaid : Prop := xferFirstRow.holds Tryz.pinned (OpenSpec.ofChange xferFirstSpec)

/-- ITS FALSE NEIGHBOUR: 'it returns false'. Refute it at one input. -/
def xferFirstWrong : ChangeSpec := { name := "xferFirst", fn := fun _ => fun
  | [d1, d2, d3, d4] => { results := [.lit (.bool false)], args := [d1, d2, d3, d4] }
  | _ => none }
def XferFirstWrongFalsely : Prop := xferFirstRow.holds Tryz.pinned (OpenSpec.ofChange xferFirstWrong)

/-- 'bollardlaw16.XferNone': WHATEVER THE INPUT: true; the input reads as it did. -/
def xferNoneSpec : ChangeSpec := { name := "xferNone", fn := fun _ => fun
  | [d1, d2, d3] => { results := [.lit (.bool true)], args := [d1, d2, d3] }
  | _ => none }
def xferNoneRow : OpenClaim := { program := "ytmlagbknnngjjaagreat", sum := "64546db9586c1cb93170a026fefeb38e3a94c91538e1a34a93bd3cdf4b3abce9", func := "bollard/bollardlaw16.XferNone", spec := "xferNone", unfollowed := true, recurses := true, plainKeys := false, apart := false }
def XferNoneSaid : Prop := xferNoneRow.holds Tryz.pinned (OpenSpec.ofChange xferNoneSpec)

/-- ITS FALSE NEIGHBOUR: 'it returns false'. Refute it at one input. -/
def xferNoneWrong : ChangeSpec := { name := "xferNone", fn := fun _ => fun
  | [d1, d2, d3] => { results := [.lit (.bool false)], args := [d1, d2, d3] }
  | _ => none }
def XferNoneWrongFalsely : Prop := xferNoneRow.holds Tryz.pinned (OpenSpec.ofChange xferNoneWrong)

/- THE SECOND FORM. 'bulk': how many values and letters a reading holds, each counted each time it is reached (what is shared counts as often as it is met; a slice's spare places count too). A statement '..UptoSaid' is the law's where the arguments, and the package variables that the reading takes, are together of bulk at most 1048576: NARROWER than '..Said'. Prove '..Said' where nothing that the law and all that it calls make is longer than what came in: it says more and counts as full. Else prove '..UptoSaid'. A law counts once. -/
mutual
def uptoBulk {H : Type} : DataW H → Nat
  | .lit (.string bytes) => bytes.length + 1
  | .lit _ => 1
  | .nil => 1
  | .ptr d => uptoBulk d + 1
  | .slice elems spare => uptoBulkAll elems + uptoBulkAll spare + 1
  | .agg parts => uptoBulkAll parts + 1
  | .iface _ d => uptoBulk d + 1
  | .map entries => uptoBulkEntries entries + 1
  | .held _ => 1
def uptoBulkAll {H : Type} : List (DataW H) → Nat
  | [] => 0
  | d :: r => uptoBulk d + uptoBulkAll r
def uptoBulkEntries {H : Type} : List (Lit × DataW H) → Nat
  | [] => 0
  | x :: r => uptoBulkEntry x + uptoBulkEntries r
def uptoBulkEntry {H : Type} : Lit × DataW H → Nat
  | (.string bytes, d) => bytes.length + uptoBulk d + 1
  | (_, d) => uptoBulk d + 1
 end
def uptoSmall : (H : Type) → List (DataW H) → Bool := fun _ ds => decide (uptoBulkAll ds ≤ 1048576)
def OpenSpec.upto (s : _root_.Go.ChangeSpec) : _root_.Go.OpenSpec := { _root_.Go.OpenSpec.ofChange s with cond := some uptoSmall }

/-- 'bollardlaw16.XferRoom', WHERE WHAT IT READS IS OF BULK AT MOST 1048576: true; the input reads as it did. -/
def xferRoomUptoRow : OpenClaim := { program := "ytmlagbknnngjjaagreat", sum := "64546db9586c1cb93170a026fefeb38e3a94c91538e1a34a93bd3cdf4b3abce9", func := "bollard/bollardlaw16.XferRoom", spec := "xferRoom", unfollowed := true, recurses := true, plainKeys := false, apart := false, narrowed := true }
def XferRoomUptoSaid : Prop := xferRoomUptoRow.holds Tryz.pinned (OpenSpec.upto xferRoomSpec)

/-- 'bollardlaw16.XferTwice', WHERE WHAT IT READS IS OF BULK AT MOST 1048576: true; the input reads as it did. -/
def xferTwiceUptoRow : OpenClaim := { program := "ytmlagbknnngjjaagreat", sum := "64546db9586c1cb93170a026fefeb38e3a94c91538e1a34a93bd3cdf4b3abce9", func := "bollard/bollardlaw16.XferTwice", spec := "xferTwice", unfollowed := true, recurses := true, plainKeys := false, apart := false, narrowed := true }
def XferTwiceUptoSaid : Prop := xferTwiceUptoRow.holds Tryz.pinned (OpenSpec.upto xferTwiceSpec)

/-- 'bollardlaw16.XferFirst', WHERE WHAT IT READS IS OF BULK AT MOST 1048576: true; the input reads as it did. -/
def xferFirstUptoRow : OpenClaim := { program := "ytmlagbknnngjjaagreat", sum := "64546db9586c1cb93170a026fefeb38e3a94c91538e1a34a93bd3cdf4b3abce9", func := "bollard/bollardlaw16.XferFirst", spec := "xferFirst", unfollowed := true, recurses := true, plainKeys := false, apart := false, narrowed := true }
def XferFirstUptoSaid : Prop := xferFirstUptoRow.holds Tryz.pinned (OpenSpec.upto xferFirstSpec)

/-- 'bollardlaw16.XferNone', WHERE WHAT IT READS IS OF BULK AT MOST 1048576: true; the input reads as it did. -/
def xferNoneUptoRow : OpenClaim := { program := "ytmlagbknnngjjaagreat", sum := "64546db9586c1cb93170a026fefeb38e3a94c91538e1a34a93bd3cdf4b3abce9", func := "bollard/bollardlaw16.XferNone", spec := "xferNone", unfollowed := true, recurses := true, plainKeys := false, apart := false, narrowed := true }
def XferNoneUptoSaid : Prop := xferNoneUptoRow.holds Tryz.pinned (OpenSpec.upto xferNoneSpec)

end Rows
end Go.Proofs.YtmlagbknnngjjaaGreat
