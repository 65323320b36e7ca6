/-
  No cell of these rows narrows 'for every input' (looked for: loops, veiled, ifaces, maps, wideKeys, modest, calm, conditions, laid).
  DERIVED. THE GIVEN ROWS OF THIS SEAT. 7 by the template 'for every input the law returns true; each argument reads behind the call as it read before'; 0 by the template 'total and deterministic' (their statements: YtmnhffpbbihflaaTotals.lean).
  GIVEN WITH THE SEED: the statements are not yours to turn. If you find one false, say at which input.
  Laid BY PROGRAM, IN A SANDBOX (cutbox-rows.mjs): the forced cells as the released guide's own fill.sh prints them over the translation 3676bfc7cf2b3574… (all of the seat's roots in one cut). By AI agents, Wed Nov 11 2026. No macro, syntax, notation, axiom, sorry.
-/
import Derived.Test.YtmnhffpbbihflaaChecked
import GoSem.Claim
import GoSem.ClaimJoined
import GoSem.ClaimMapViews
import Derived.JoinedTies
import Derived.KernelRfl
namespace Go.Proofs.Ytmnhffpbbihflaa
/- THE CELL 'sum', in the pinned program and in every row, IS THE sha256 OF THE DUMP (.gsa) THAT YtmnhffpbbihflaaProg.lean LOADS. Nothing in Lean hashes anything: it is a label: what it is worth is what the hold of that sum in a sandbox is worth. -/
noncomputable def Try.pinned : Pinned := { name := "ytmnhffpbbihflaa", sum := "3676bfc7cf2b3574190f695aa2a6b1ff9e3dd3ba76086ca1cbb8d1f521a635e0", checked := Try.checked }
namespace Rows
def none {H : Type} : Left H := { results := [], args := [] }

/-- 'bollardlaw07.ChunkEncodes': WHATEVER THE INPUT: true; the input reads as it did. -/
def chunkEncodesSpec : ChangeSpec := { name := "chunkEncodes", fn := fun _ => fun
  | [d] => { results := [.lit (.bool true)], args := [d] }
  | _ => none }
def chunkEncodesRow : OpenClaim := { program := "ytmnhffpbbihflaa", sum := "3676bfc7cf2b3574190f695aa2a6b1ff9e3dd3ba76086ca1cbb8d1f521a635e0", func := "bollard/bollardlaw07.ChunkEncodes", spec := "chunkEncodes", unfollowed := true, recurses := true, apart := false }
def ChunkEncodesSaid : Prop := chunkEncodesRow.holds Try.pinned (OpenSpec.ofChange chunkEncodesSpec)

/-- ITS FALSE NEIGHBOUR: 'it returns false'. Refute it at one input. -/
def chunkEncodesWrong : ChangeSpec := { name := "chunkEncodes", fn := fun _ => fun
  | [d] => { results := [.lit (.bool false)], args := [d] }
  | _ => none }
def ChunkEncodesWrongFalsely : Prop := chunkEncodesRow.holds Try.pinned (OpenSpec.ofChange chunkEncodesWrong)

/-- 'bollardlaw07.ChunkSame': WHATEVER THE INPUT: true; the input reads as it did. -/
def chunkSameSpec : ChangeSpec := { name := "chunkSame", fn := fun _ => fun
  | [d1, d2] => { results := [.lit (.bool true)], args := [d1, d2] }
  | _ => none }
def chunkSameRow : OpenClaim := { program := "ytmnhffpbbihflaa", sum := "3676bfc7cf2b3574190f695aa2a6b1ff9e3dd3ba76086ca1cbb8d1f521a635e0", func := "bollard/bollardlaw07.ChunkSame", spec := "chunkSame", unfollowed := true, recurses := true, apart := false }
def ChunkSameSaid : Prop := chunkSameRow.holds Try.pinned (OpenSpec.ofChange chunkSameSpec)

/-- ITS FALSE NEIGHBOUR: 'it returns false'. Refute it at one input. -/
def chunkSameWrong : ChangeSpec := { name := "chunkSame", fn := fun _ => fun
  | [d1, d2] => { results := [.lit (.bool false)], args := [d1, d2] }
  | _ => none }
def ChunkSameWrongFalsely : Prop := chunkSameRow.holds Try.pinned (OpenSpec.ofChange chunkSameWrong)

/-- 'bollardlaw07.ChunkBack': WHATEVER THE INPUT: true; the input reads as it did. -/
def chunkBackSpec : ChangeSpec := { name := "chunkBack", fn := fun _ => fun
  | [d1, d2] => { results := [.lit (.bool true)], args := [d1, d2] }
  | _ => none }
def chunkBackRow : OpenClaim := { program := "ytmnhffpbbihflaa", sum := "3676bfc7cf2b3574190f695aa2a6b1ff9e3dd3ba76086ca1cbb8d1f521a635e0", func := "bollard/bollardlaw07.ChunkBack", spec := "chunkBack", unfollowed := true, recurses := true, apart := false }
def ChunkBackSaid : Prop := chunkBackRow.holds Try.pinned (OpenSpec.ofChange chunkBackSpec)

/-- ITS FALSE NEIGHBOUR: 'it returns false'. Refute it at one input. -/
def chunkBackWrong : ChangeSpec := { name := "chunkBack", fn := fun _ => fun
  | [d1, d2] => { results := [.lit (.bool false)], args := [d1, d2] }
  | _ => none }
def ChunkBackWrongFalsely : Prop := chunkBackRow.holds Try.pinned (OpenSpec.ofChange chunkBackWrong)

/-- 'bollardlaw07.ChunkOnly': WHATEVER THE INPUT: true; the input reads as it did. -/
def chunkOnlySpec : ChangeSpec := { name := "chunkOnly", fn := fun _ => fun
  | [d] => { results := [.lit (.bool true)], args := [d] }
  | _ => none }
def chunkOnlyRow : OpenClaim := { program := "ytmnhffpbbihflaa", sum := "3676bfc7cf2b3574190f695aa2a6b1ff9e3dd3ba76086ca1cbb8d1f521a635e0", func := "bollard/bollardlaw07.ChunkOnly", spec := "chunkOnly", unfollowed := true, recurses := true, apart := false }
def ChunkOnlySaid : Prop := chunkOnlyRow.holds Try.pinned (OpenSpec.ofChange chunkOnlySpec)

/-- ITS FALSE NEIGHBOUR: 'it returns false'. Refute it at one input. -/
def chunkOnlyWrong : ChangeSpec := { name := "chunkOnly", fn := fun _ => fun
  | [d] => { results := [.lit (.bool false)], args := [d] }
  | _ => none }
def ChunkOnlyWrongFalsely : Prop := chunkOnlyRow.holds Try.pinned (OpenSpec.ofChange chunkOnlyWrong)

/-- 'bollardlaw07.ChunkCut': WHATEVER THE INPUT: true; the input reads as it did. -/
def chunkCutSpec : ChangeSpec := { name := "chunkCut", fn := fun _ => fun
  | [d1, d2] => { results := [.lit (.bool true)], args := [d1, d2] }
  | _ => none }
def chunkCutRow : OpenClaim := { program := "ytmnhffpbbihflaa", sum := "3676bfc7cf2b3574190f695aa2a6b1ff9e3dd3ba76086ca1cbb8d1f521a635e0", func := "bollard/bollardlaw07.ChunkCut", spec := "chunkCut", unfollowed := true, recurses := true, apart := false }
def ChunkCutSaid : Prop := chunkCutRow.holds Try.pinned (OpenSpec.ofChange chunkCutSpec)

/-- ITS FALSE NEIGHBOUR: 'it returns false'. Refute it at one input. -/
def chunkCutWrong : ChangeSpec := { name := "chunkCut", fn := fun _ => fun
  | [d1, d2] => { results := [.lit (.bool false)], args := [d1, d2] }
  | _ => none }
def ChunkCutWrongFalsely : Prop := chunkCutRow.holds Try.pinned (OpenSpec.ofChange chunkCutWrong)

/-- 'bollardlaw07.ChunkUnknown': WHATEVER THE INPUT: true; the input reads as it did. -/
def chunkUnknownSpec : ChangeSpec := { name := "chunkUnknown", fn := fun _ => fun
  | [d1, d2, d3] => { results := [.lit (.bool true)], args := [d1, d2, d3] }
  | _ => none }
def chunkUnknownRow : OpenClaim := { program := "ytmnhffpbbihflaa", sum := "3676bfc7cf2b3574190f695aa2a6b1ff9e3dd3ba76086ca1cbb8d1f521a635e0", func := "bollard/bollardlaw07.ChunkUnknown", spec := "chunkUnknown", unfollowed := true, recurses := true, apart := false }
def ChunkUnknownSaid : Prop := chunkUnknownRow.holds Try.pinned (OpenSpec.ofChange chunkUnknownSpec)

/-- ITS FALSE NEIGHBOUR: 'it returns false'. Refute it at one input. -/
def chunkUnknownWrong : ChangeSpec := { name := "chunkUnknown", fn := fun _ => fun
  | [d1, d2, d3] => { results := [.lit (.bool false)], args := [d1, d2, d3] }
  | _ => none }
def ChunkUnknownWrongFalsely : Prop := chunkUnknownRow.holds Try.pinned (OpenSpec.ofChange chunkUnknownWrong)

/-- 'bollardlaw07.ChunkRows': WHATEVER THE INPUT: true; the input reads as it did. -/
def chunkRowsSpec : ChangeSpec := { name := "chunkRows", fn := fun _ => fun
  | [d] => { results := [.lit (.bool true)], args := [d] }
  | _ => none }
def chunkRowsRow : OpenClaim := { program := "ytmnhffpbbihflaa", sum := "3676bfc7cf2b3574190f695aa2a6b1ff9e3dd3ba76086ca1cbb8d1f521a635e0", func := "bollard/bollardlaw07.ChunkRows", spec := "chunkRows", unfollowed := true, recurses := true, apart := false }
def ChunkRowsSaid : Prop := chunkRowsRow.holds Try.pinned (OpenSpec.ofChange chunkRowsSpec)

/-- ITS FALSE NEIGHBOUR: 'it returns false'. Refute it at one input. -/
def chunkRowsWrong : ChangeSpec := { name := "chunkRows", fn := fun _ => fun
  | [d] => { results := [.lit (.bool false)], args := [d] }
  | _ => none }
def ChunkRowsWrongFalsely : Prop := chunkRowsRow.holds Try.pinned (OpenSpec.ofChange chunkRowsWrong)

/- THE SECOND FORM. 'bulk': how many values and letters a reading holds, each counted each time it is reached (what is shared counts as often as it is met; a slice's spare places count too). A statement '..UptoSaid' is the law's where the arguments, and the package variables that the reading takes, are together of bulk at most 1048576: NARROWER than '..Said'. Prove '..Said' where nothing that the law and all that it calls make is longer than what came in: it says more and counts as full. Else prove '..UptoSaid'. A law counts once. -/
mutual
def uptoBulk {H : Type} : DataW H → Nat
  | .lit (.string bytes) => bytes.length + 1
  | .lit _ => 1
  | .nil => 1
  | .ptr d => uptoBulk d + 1
  | .slice elems spare => uptoBulkAll elems + uptoBulkAll spare + 1
  | .agg parts => uptoBulkAll parts + 1
  | .iface _ d => uptoBulk d + 1
  | .map entries => uptoBulkEntries entries + 1
  | .held _ => 1
def uptoBulkAll {H : Type} : List (DataW H) → Nat
  | [] => 0
  | d :: r => uptoBulk d + uptoBulkAll r
def uptoBulkEntries {H : Type} : List (Lit × DataW H) → Nat
  | [] => 0
  | x :: r => uptoBulkEntry x + uptoBulkEntries r
def uptoBulkEntry {H : Type} : Lit × DataW H → Nat
  | (.string bytes, d) => bytes.length + uptoBulk d + 1
  | (_, d) => uptoBulk d + 1
 end
def uptoSmall : (H : Type) → List (DataW H) → Bool := fun _ ds => decide (uptoBulkAll ds ≤ 1048576)
def OpenSpec.upto (s : _root_.Go.ChangeSpec) : _root_.Go.OpenSpec := { _root_.Go.OpenSpec.ofChange s with cond := some uptoSmall }

/-- 'bollardlaw07.ChunkEncodes', WHERE WHAT IT READS IS OF BULK AT MOST 1048576: true; the input reads as it did. -/
def chunkEncodesUptoRow : OpenClaim := { program := "ytmnhffpbbihflaa", sum := "3676bfc7cf2b3574190f695aa2a6b1ff9e3dd3ba76086ca1cbb8d1f521a635e0", func := "bollard/bollardlaw07.ChunkEncodes", spec := "chunkEncodes", unfollowed := true, recurses := true, apart := false, narrowed := true }
def ChunkEncodesUptoSaid : Prop := chunkEncodesUptoRow.holds Try.pinned (OpenSpec.upto chunkEncodesSpec)

/-- 'bollardlaw07.ChunkSame', WHERE WHAT IT READS IS OF BULK AT MOST 1048576: true; the input reads as it did. -/
def chunkSameUptoRow : OpenClaim := { program := "ytmnhffpbbihflaa", sum := "3676bfc7cf2b3574190f695aa2a6b1ff9e3dd3ba76086ca1cbb8d1f521a635e0", func := "bollard/bollardlaw07.ChunkSame", spec := "chunkSame", unfollowed := true, recurses := true, apart := false, narrowed := true }
def ChunkSameUptoSaid : Prop := chunkSameUptoRow.holds Try.pinned (OpenSpec.upto chunkSameSpec)

/-- 'bollardlaw07.ChunkBack', WHERE WHAT IT READS IS OF BULK AT MOST 1048576: true; the input reads as it did. -/
def chunkBackUptoRow : OpenClaim := { program := "ytmnhffpbbihflaa", sum := "3676bfc7cf2b3574190f695aa2a6b1ff9e3dd3ba76086ca1cbb8d1f521a635e0", func := "bollard/bollardlaw07.ChunkBack", spec := "chunkBack", unfollowed := true, recurses := true, apart := false, narrowed := true }
def ChunkBackUptoSaid : Prop := chunkBackUptoRow.holds Try.pinned (OpenSpec.upto chunkBackSpec)

/-- 'bollardlaw07.ChunkOnly', WHERE WHAT IT READS IS OF BULK AT MOST 1048576: true; the input reads as it did. -/
def chunkOnlyUptoRow : OpenClaim := { program := "ytmnhffpbbihflaa", sum := "3676bfc7cf2b3574190f695aa2a6b1ff9e3dd3ba76086ca1cbb8d1f521a635e0", func := "bollard/bollardlaw07.ChunkOnly", spec := "chunkOnly", unfollowed := true, recurses := true, apart := false, narrowed := true }
def ChunkOnlyUptoSaid : Prop := chunkOnlyUptoRow.holds Try.pinned (OpenSpec.upto chunkOnlySpec)

/-- 'bollardlaw07.ChunkCut', WHERE WHAT IT READS IS OF BULK AT MOST 1048576: true; the input reads as it did. -/
def chunkCutUptoRow : OpenClaim := { program := "ytmnhffpbbihflaa", sum := "3676bfc7cf2b3574190f695aa2a6b1ff9e3dd3ba76086ca1cbb8d1f521a635e0", func := "bollard/bollardlaw07.ChunkCut", spec := "chunkCut", unfollowed := true, recurses := true, apart := false, narrowed := true }
def ChunkCutUptoSaid : Prop := chunkCutUptoRow.holds Try.pinned (OpenSpec.upto chunkCutSpec)

/-- 'bollardlaw07.ChunkUnknown', WHERE WHAT IT READS IS OF BULK AT MOST 1048576: true; the input reads as it did. -/
def chunkUnknownUptoRow : OpenClaim := { program := "ytmnhffpbbihflaa", sum := "3676bfc7cf2b3574190f695aa2a6b1ff9e3dd3ba76086ca1cbb8d1f521a635e0", func := "bollard/bollardlaw07.ChunkUnknown", spec := "chunkUnknown", unfollowed := true, recurses := true, apart := false, narrowed := true }
def ChunkUnknownUptoSaid : Prop := chunkUnknownUptoRow.holds Try.pinned (OpenSpec.upto chunkUnknownSpec)

/-- 'bollardlaw07.ChunkRows', WHERE WHAT IT READS IS OF BULK AT MOST 1048576: true; the input reads as it did. -/
def chunkRowsUptoRow : OpenClaim := { program := "ytmnhffpbbihflaa", sum := "3676bfc7cf2b3574190f695aa2a6b1ff9e3dd3ba76086ca1cbb8d1f521a635e0", func := "bollard/bollardlaw07.ChunkRows", spec := "chunkRows", unfollowed := true, recurses := true, apart := false, narrowed := true }
def ChunkRowsUptoSaid : Prop := chunkRowsUptoRow.holds Try.pinned (OpenSpec.upto chunkRowsSpec)

end Rows
end Go.Proofs.Ytmnhffpbbihflaa
