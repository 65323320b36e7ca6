/-
  No cell of these rows narrows 'for every input' (looked for: loops, veiled, ifaces, maps, wideKeys, modest, calm, conditions, laid).
  DERIVED. THE GIVEN ROWS OF THIS SEAT. 7 by the template 'for every input the law returns true; each argument reads behind the call as it read before'; 0 by the template 'total and deterministic' (their statements: YtdcllpjoejkpnaaTotals.lean).
  GIVEN WITH THE SEED: the statements are not yours to turn. If you find one false, say at which input.
  Laid BY PROGRAM, IN A SANDBOX (cutbox-rows.mjs): the forced cells as the released guide's own fill.sh prints them over the translation 0405cec077a1a19a… (all of the seat's roots in one cut). By AI agents, Wed Nov 11 2026. No macro, syntax, notation, axiom, sorry.
-/
import Derived.Test.YtdcllpjoejkpnaaChecked
import GoSem.Claim
import GoSem.ClaimJoined
import GoSem.ClaimMapViews
import Derived.JoinedTies
import Derived.KernelRfl
namespace Go.Proofs.Ytdcllpjoejkpnaa
/- THE CELL 'sum', in the pinned program and in every row, IS THE sha256 OF THE DUMP (.gsa) THAT YtdcllpjoejkpnaaProg.lean LOADS. Nothing in Lean hashes anything: it is a label: what it is worth is what the hold of that sum in a sandbox is worth. -/
noncomputable def Try.pinned : Pinned := { name := "ytdcllpjoejkpnaa", sum := "0405cec077a1a19a20483228097fb067d10898cf61d45f33a4ce89e51dca35da", checked := Try.checked }
namespace Rows
def none {H : Type} : Left H := { results := [], args := [] }

/-- 'bollardlaw08.PacketEncodes': WHATEVER THE INPUT: true; the input reads as it did. -/
def packetEncodesSpec : ChangeSpec := { name := "packetEncodes", fn := fun _ => fun
  | [d1, d2, d3] => { results := [.lit (.bool true)], args := [d1, d2, d3] }
  | _ => none }
def packetEncodesRow : OpenClaim := { program := "ytdcllpjoejkpnaa", sum := "0405cec077a1a19a20483228097fb067d10898cf61d45f33a4ce89e51dca35da", func := "bollard/bollardlaw08.PacketEncodes", spec := "packetEncodes", unfollowed := true, recurses := true, apart := false }
def PacketEncodesSaid : Prop := packetEncodesRow.holds Try.pinned (OpenSpec.ofChange packetEncodesSpec)

/-- ITS FALSE NEIGHBOUR: 'it returns false'. Refute it at one input. -/
def packetEncodesWrong : ChangeSpec := { name := "packetEncodes", fn := fun _ => fun
  | [d1, d2, d3] => { results := [.lit (.bool false)], args := [d1, d2, d3] }
  | _ => none }
def PacketEncodesWrongFalsely : Prop := packetEncodesRow.holds Try.pinned (OpenSpec.ofChange packetEncodesWrong)

/-- 'bollardlaw08.PacketBundles': WHATEVER THE INPUT: true; the input reads as it did. -/
def packetBundlesSpec : ChangeSpec := { name := "packetBundles", fn := fun _ => fun
  | [d] => { results := [.lit (.bool true)], args := [d] }
  | _ => none }
def packetBundlesRow : OpenClaim := { program := "ytdcllpjoejkpnaa", sum := "0405cec077a1a19a20483228097fb067d10898cf61d45f33a4ce89e51dca35da", func := "bollard/bollardlaw08.PacketBundles", spec := "packetBundles", unfollowed := true, recurses := true, apart := false }
def PacketBundlesSaid : Prop := packetBundlesRow.holds Try.pinned (OpenSpec.ofChange packetBundlesSpec)

/-- ITS FALSE NEIGHBOUR: 'it returns false'. Refute it at one input. -/
def packetBundlesWrong : ChangeSpec := { name := "packetBundles", fn := fun _ => fun
  | [d] => { results := [.lit (.bool false)], args := [d] }
  | _ => none }
def PacketBundlesWrongFalsely : Prop := packetBundlesRow.holds Try.pinned (OpenSpec.ofChange packetBundlesWrong)

/-- 'bollardlaw08.PacketBack': WHATEVER THE INPUT: true; the input reads as it did. -/
def packetBackSpec : ChangeSpec := { name := "packetBack", fn := fun _ => fun
  | [d] => { results := [.lit (.bool true)], args := [d] }
  | _ => none }
def packetBackRow : OpenClaim := { program := "ytdcllpjoejkpnaa", sum := "0405cec077a1a19a20483228097fb067d10898cf61d45f33a4ce89e51dca35da", func := "bollard/bollardlaw08.PacketBack", spec := "packetBack", unfollowed := true, recurses := true, apart := false }
def PacketBackSaid : Prop := packetBackRow.holds Try.pinned (OpenSpec.ofChange packetBackSpec)

/-- ITS FALSE NEIGHBOUR: 'it returns false'. Refute it at one input. -/
def packetBackWrong : ChangeSpec := { name := "packetBack", fn := fun _ => fun
  | [d] => { results := [.lit (.bool false)], args := [d] }
  | _ => none }
def PacketBackWrongFalsely : Prop := packetBackRow.holds Try.pinned (OpenSpec.ofChange packetBackWrong)

/-- 'bollardlaw08.PacketBursts': WHATEVER THE INPUT: true; the input reads as it did. -/
def packetBurstsSpec : ChangeSpec := { name := "packetBursts", fn := fun _ => fun
  | [d1, d2, d3] => { results := [.lit (.bool true)], args := [d1, d2, d3] }
  | _ => none }
def packetBurstsRow : OpenClaim := { program := "ytdcllpjoejkpnaa", sum := "0405cec077a1a19a20483228097fb067d10898cf61d45f33a4ce89e51dca35da", func := "bollard/bollardlaw08.PacketBursts", spec := "packetBursts", unfollowed := true, recurses := true, apart := false }
def PacketBurstsSaid : Prop := packetBurstsRow.holds Try.pinned (OpenSpec.ofChange packetBurstsSpec)

/-- ITS FALSE NEIGHBOUR: 'it returns false'. Refute it at one input. -/
def packetBurstsWrong : ChangeSpec := { name := "packetBursts", fn := fun _ => fun
  | [d1, d2, d3] => { results := [.lit (.bool false)], args := [d1, d2, d3] }
  | _ => none }
def PacketBurstsWrongFalsely : Prop := packetBurstsRow.holds Try.pinned (OpenSpec.ofChange packetBurstsWrong)

/-- 'bollardlaw08.PacketGroups': WHATEVER THE INPUT: true; the input reads as it did. -/
def packetGroupsSpec : ChangeSpec := { name := "packetGroups", fn := fun _ => fun
  | [d] => { results := [.lit (.bool true)], args := [d] }
  | _ => none }
def packetGroupsRow : OpenClaim := { program := "ytdcllpjoejkpnaa", sum := "0405cec077a1a19a20483228097fb067d10898cf61d45f33a4ce89e51dca35da", func := "bollard/bollardlaw08.PacketGroups", spec := "packetGroups", unfollowed := true, recurses := true, apart := false }
def PacketGroupsSaid : Prop := packetGroupsRow.holds Try.pinned (OpenSpec.ofChange packetGroupsSpec)

/-- ITS FALSE NEIGHBOUR: 'it returns false'. Refute it at one input. -/
def packetGroupsWrong : ChangeSpec := { name := "packetGroups", fn := fun _ => fun
  | [d] => { results := [.lit (.bool false)], args := [d] }
  | _ => none }
def PacketGroupsWrongFalsely : Prop := packetGroupsRow.holds Try.pinned (OpenSpec.ofChange packetGroupsWrong)

/-- 'bollardlaw08.PacketSums': WHATEVER THE INPUT: true; the input reads as it did. -/
def packetSumsSpec : ChangeSpec := { name := "packetSums", fn := fun _ => fun
  | [d1, d2] => { results := [.lit (.bool true)], args := [d1, d2] }
  | _ => none }
def packetSumsRow : OpenClaim := { program := "ytdcllpjoejkpnaa", sum := "0405cec077a1a19a20483228097fb067d10898cf61d45f33a4ce89e51dca35da", func := "bollard/bollardlaw08.PacketSums", spec := "packetSums", unfollowed := true, recurses := true, apart := false }
def PacketSumsSaid : Prop := packetSumsRow.holds Try.pinned (OpenSpec.ofChange packetSumsSpec)

/-- ITS FALSE NEIGHBOUR: 'it returns false'. Refute it at one input. -/
def packetSumsWrong : ChangeSpec := { name := "packetSums", fn := fun _ => fun
  | [d1, d2] => { results := [.lit (.bool false)], args := [d1, d2] }
  | _ => none }
def PacketSumsWrongFalsely : Prop := packetSumsRow.holds Try.pinned (OpenSpec.ofChange packetSumsWrong)

/-- 'bollardlaw08.PacketPorts': WHATEVER THE INPUT: true; the input reads as it did. -/
def packetPortsSpec : ChangeSpec := { name := "packetPorts", fn := fun _ => fun
  | [d1, d2, d3, d4] => { results := [.lit (.bool true)], args := [d1, d2, d3, d4] }
  | _ => none }
def packetPortsRow : OpenClaim := { program := "ytdcllpjoejkpnaa", sum := "0405cec077a1a19a20483228097fb067d10898cf61d45f33a4ce89e51dca35da", func := "bollard/bollardlaw08.PacketPorts", spec := "packetPorts", unfollowed := true, recurses := true, apart := false }
def PacketPortsSaid : Prop := packetPortsRow.holds Try.pinned (OpenSpec.ofChange packetPortsSpec)

/-- ITS FALSE NEIGHBOUR: 'it returns false'. Refute it at one input. -/
def packetPortsWrong : ChangeSpec := { name := "packetPorts", fn := fun _ => fun
  | [d1, d2, d3, d4] => { results := [.lit (.bool false)], args := [d1, d2, d3, d4] }
  | _ => none }
def PacketPortsWrongFalsely : Prop := packetPortsRow.holds Try.pinned (OpenSpec.ofChange packetPortsWrong)

/- THE SECOND FORM. 'bulk': how many values and letters a reading holds, each counted each time it is reached (what is shared counts as often as it is met; a slice's spare places count too). A statement '..UptoSaid' is the law's where the arguments, and the package variables that the reading takes, are together of bulk at most 1048576: NARROWER than '..Said'. Prove '..Said' where nothing that the law and all that it calls make is longer than what came in: it says more and counts as full. Else prove '..UptoSaid'. A law counts once. -/
mutual
def uptoBulk {H : Type} : DataW H → Nat
  | .lit (.string bytes) => bytes.length + 1
  | .lit _ => 1
  | .nil => 1
  | .ptr d => uptoBulk d + 1
  | .slice elems spare => uptoBulkAll elems + uptoBulkAll spare + 1
  | .agg parts => uptoBulkAll parts + 1
  | .iface _ d => uptoBulk d + 1
  | .map entries => uptoBulkEntries entries + 1
  | .held _ => 1
def uptoBulkAll {H : Type} : List (DataW H) → Nat
  | [] => 0
  | d :: r => uptoBulk d + uptoBulkAll r
def uptoBulkEntries {H : Type} : List (Lit × DataW H) → Nat
  | [] => 0
  | x :: r => uptoBulkEntry x + uptoBulkEntries r
def uptoBulkEntry {H : Type} : Lit × DataW H → Nat
  | (.string bytes, d) => bytes.length + uptoBulk d + 1
  | (_, d) => uptoBulk d + 1
 end
def uptoSmall : (H : Type) → List (DataW H) → Bool := fun _ ds => decide (uptoBulkAll ds ≤ 1048576)
def OpenSpec.upto (s : _root_.Go.ChangeSpec) : _root_.Go.OpenSpec := { _root_.Go.OpenSpec.ofChange s with cond := some uptoSmall }

/-- 'bollardlaw08.PacketEncodes', WHERE WHAT IT READS IS OF BULK AT MOST 1048576: true; the input reads as it did. -/
def packetEncodesUptoRow : OpenClaim := { program := "ytdcllpjoejkpnaa", sum := "0405cec077a1a19a20483228097fb067d10898cf61d45f33a4ce89e51dca35da", func := "bollard/bollardlaw08.PacketEncodes", spec := "packetEncodes", unfollowed := true, recurses := true, apart := false, narrowed := true }
def PacketEncodesUptoSaid : Prop := packetEncodesUptoRow.holds Try.pinned (OpenSpec.upto packetEncodesSpec)

/-- 'bollardlaw08.PacketBundles', WHERE WHAT IT READS IS OF BULK AT MOST 1048576: true; the input reads as it did. -/
def packetBundlesUptoRow : OpenClaim := { program := "ytdcllpjoejkpnaa", sum := "0405cec077a1a19a20483228097fb067d10898cf61d45f33a4ce89e51dca35da", func := "bollard/bollardlaw08.PacketBundles", spec := "packetBundles", unfollowed := true, recurses := true, apart := false, narrowed := true }
def PacketBundlesUptoSaid : Prop := packetBundlesUptoRow.holds Try.pinned (OpenSpec.upto packetBundlesSpec)

/-- 'bollardlaw08.PacketBack', WHERE WHAT IT READS IS OF BULK AT MOST 1048576: true; the input reads as it did. -/
def packetBackUptoRow : OpenClaim := { program := "ytdcllpjoejkpnaa", sum := "0405cec077a1a19a20483228097fb067d10898cf61d45f33a4ce89e51dca35da", func := "bollard/bollardlaw08.PacketBack", spec := "packetBack", unfollowed := true, recurses := true, apart := false, narrowed := true }
def PacketBackUptoSaid : Prop := packetBackUptoRow.holds Try.pinned (OpenSpec.upto packetBackSpec)

/-- 'bollardlaw08.PacketBursts', WHERE WHAT IT READS IS OF BULK AT MOST 1048576: true; the input reads as it did. -/
def packetBurstsUptoRow : OpenClaim := { program := "ytdcllpjoejkpnaa", sum := "0405cec077a1a19a20483228097fb067d10898cf61d45f33a4ce89e51dca35da", func := "bollard/bollardlaw08.PacketBursts", spec := "packetBursts", unfollowed := true, recurses := true, apart := false, narrowed := true }
def PacketBurstsUptoSaid : Prop := packetBurstsUptoRow.holds Try.pinned (OpenSpec.upto packetBurstsSpec)

/-- 'bollardlaw08.PacketGroups', WHERE WHAT IT READS IS OF BULK AT MOST 1048576: true; the input reads as it did. -/
def packetGroupsUptoRow : OpenClaim := { program := "ytdcllpjoejkpnaa", sum := "0405cec077a1a19a20483228097fb067d10898cf61d45f33a4ce89e51dca35da", func := "bollard/bollardlaw08.PacketGroups", spec := "packetGroups", unfollowed := true, recurses := true, apart := false, narrowed := true }
def PacketGroupsUptoSaid : Prop := packetGroupsUptoRow.holds Try.pinned (OpenSpec.upto packetGroupsSpec)

/-- 'bollardlaw08.PacketSums', WHERE WHAT IT READS IS OF BULK AT MOST 1048576: true; the input reads as it did. -/
def packetSumsUptoRow : OpenClaim := { program := "ytdcllpjoejkpnaa", sum := "0405cec077a1a19a20483228097fb067d10898cf61d45f33a4ce89e51dca35da", func := "bollard/bollardlaw08.PacketSums", spec := "packetSums", unfollowed := true, recurses := true, apart := false, narrowed := true }
def PacketSumsUptoSaid : Prop := packetSumsUptoRow.holds Try.pinned (OpenSpec.upto packetSumsSpec)

/-- 'bollardlaw08.PacketPorts', WHERE WHAT IT READS IS OF BULK AT MOST 1048576: true; the input reads as it did. -/
def packetPortsUptoRow : OpenClaim := { program := "ytdcllpjoejkpnaa", sum := "0405cec077a1a19a20483228097fb067d10898cf61d45f33a4ce89e51dca35da", func := "bollard/bollardlaw08.PacketPorts", spec := "packetPorts", unfollowed := true, recurses := true, apart := false, narrowed := true }
def PacketPortsUptoSaid : Prop := packetPortsUptoRow.holds Try.pinned (OpenSpec.upto packetPortsSpec)

end Rows
end Go.Proofs.Ytdcllpjoejkpnaa
