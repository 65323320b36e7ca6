/-
  No cell of these rows narrows 'for every input' (looked for: loops, veiled, ifaces, maps, wideKeys, modest, calm, conditions, laid).
  DERIVED. THE GIVEN ROWS OF THIS SEAT. 5 by the template 'for every input the law returns true; each argument reads behind the call as it read before'; 0 by the template 'total and deterministic' (their statements: YtkbanhfdfmodkaaTotals.lean).
  GIVEN WITH THE SEED: the statements are not yours to turn. If you find one false, say at which input.
  Laid BY PROGRAM, IN A SANDBOX (cutbox-rows.mjs): the forced cells as the released guide's own fill.sh prints them over the translation 43714f025e244cfd… (all of the seat's roots in one cut). By AI agents, Wed Nov 11 2026. No macro, syntax, notation, axiom, sorry.
-/
import Derived.Test.YtkbanhfdfmodkaaChecked
import GoSem.Claim
import GoSem.ClaimJoined
import GoSem.ClaimMapViews
import Derived.JoinedTies
import Derived.KernelRfl
namespace Go.Proofs.Ytkbanhfdfmodkaa
/- THE CELL 'sum', in the pinned program and in every row, IS THE sha256 OF THE DUMP (.gsa) THAT YtkbanhfdfmodkaaProg.lean LOADS. Nothing in Lean hashes anything: it is a label: what it is worth is what the hold of that sum in a sandbox is worth. -/
noncomputable def Try.pinned : Pinned := { name := "ytkbanhfdfmodkaa", sum := "43714f025e244cfd9c381b02b5051fe0f521b943c9f9491d7d30037f4d174793", checked := Try.checked }
namespace Rows
def none {H : Type} : Left H := { results := [], args := [] }

/-- 'bollardlaw05.TimerOnce': WHATEVER THE INPUT: true; the input reads as it did. -/
def timerOnceSpec : ChangeSpec := { name := "timerOnce", fn := fun _ => fun
  | [d1, d2] => { results := [.lit (.bool true)], args := [d1, d2] }
  | _ => none }
def timerOnceRow : OpenClaim := { program := "ytkbanhfdfmodkaa", sum := "43714f025e244cfd9c381b02b5051fe0f521b943c9f9491d7d30037f4d174793", func := "bollard/bollardlaw05.TimerOnce", spec := "timerOnce", unfollowed := true, recurses := true, apart := false }
def TimerOnceSaid : Prop := timerOnceRow.holds Try.pinned (OpenSpec.ofChange timerOnceSpec)

/-- ITS FALSE NEIGHBOUR: 'it returns false'. Refute it at one input. -/
def timerOnceWrong : ChangeSpec := { name := "timerOnce", fn := fun _ => fun
  | [d1, d2] => { results := [.lit (.bool false)], args := [d1, d2] }
  | _ => none }
def TimerOnceWrongFalsely : Prop := timerOnceRow.holds Try.pinned (OpenSpec.ofChange timerOnceWrong)

/-- 'bollardlaw05.TimerOrder': WHATEVER THE INPUT: true; the input reads as it did. -/
def timerOrderSpec : ChangeSpec := { name := "timerOrder", fn := fun _ => fun
  | [d1, d2, d3] => { results := [.lit (.bool true)], args := [d1, d2, d3] }
  | _ => none }
def timerOrderRow : OpenClaim := { program := "ytkbanhfdfmodkaa", sum := "43714f025e244cfd9c381b02b5051fe0f521b943c9f9491d7d30037f4d174793", func := "bollard/bollardlaw05.TimerOrder", spec := "timerOrder", unfollowed := true, recurses := true, apart := false }
def TimerOrderSaid : Prop := timerOrderRow.holds Try.pinned (OpenSpec.ofChange timerOrderSpec)

/-- ITS FALSE NEIGHBOUR: 'it returns false'. Refute it at one input. -/
def timerOrderWrong : ChangeSpec := { name := "timerOrder", fn := fun _ => fun
  | [d1, d2, d3] => { results := [.lit (.bool false)], args := [d1, d2, d3] }
  | _ => none }
def TimerOrderWrongFalsely : Prop := timerOrderRow.holds Try.pinned (OpenSpec.ofChange timerOrderWrong)

/-- 'bollardlaw05.TimerPlays': WHATEVER THE INPUT: true; the input reads as it did. -/
def timerPlaysSpec : ChangeSpec := { name := "timerPlays", fn := fun _ => fun
  | [d] => { results := [.lit (.bool true)], args := [d] }
  | _ => none }
def timerPlaysRow : OpenClaim := { program := "ytkbanhfdfmodkaa", sum := "43714f025e244cfd9c381b02b5051fe0f521b943c9f9491d7d30037f4d174793", func := "bollard/bollardlaw05.TimerPlays", spec := "timerPlays", unfollowed := true, recurses := true, apart := false }
def TimerPlaysSaid : Prop := timerPlaysRow.holds Try.pinned (OpenSpec.ofChange timerPlaysSpec)

/-- ITS FALSE NEIGHBOUR: 'it returns false'. Refute it at one input. -/
def timerPlaysWrong : ChangeSpec := { name := "timerPlays", fn := fun _ => fun
  | [d] => { results := [.lit (.bool false)], args := [d] }
  | _ => none }
def TimerPlaysWrongFalsely : Prop := timerPlaysRow.holds Try.pinned (OpenSpec.ofChange timerPlaysWrong)

/-- 'bollardlaw05.TimerNone': WHATEVER THE INPUT: true; the input reads as it did. -/
def timerNoneSpec : ChangeSpec := { name := "timerNone", fn := fun _ => fun
  | [d1, d2] => { results := [.lit (.bool true)], args := [d1, d2] }
  | _ => none }
def timerNoneRow : OpenClaim := { program := "ytkbanhfdfmodkaa", sum := "43714f025e244cfd9c381b02b5051fe0f521b943c9f9491d7d30037f4d174793", func := "bollard/bollardlaw05.TimerNone", spec := "timerNone", unfollowed := true, recurses := true, apart := false }
def TimerNoneSaid : Prop := timerNoneRow.holds Try.pinned (OpenSpec.ofChange timerNoneSpec)

/-- ITS FALSE NEIGHBOUR: 'it returns false'. Refute it at one input. -/
def timerNoneWrong : ChangeSpec := { name := "timerNone", fn := fun _ => fun
  | [d1, d2] => { results := [.lit (.bool false)], args := [d1, d2] }
  | _ => none }
def TimerNoneWrongFalsely : Prop := timerNoneRow.holds Try.pinned (OpenSpec.ofChange timerNoneWrong)

/-- 'bollardlaw05.TimerMoves': WHATEVER THE INPUT: true; the input reads as it did. -/
def timerMovesSpec : ChangeSpec := { name := "timerMoves", fn := fun _ => fun
  | [d1, d2, d3, d4] => { results := [.lit (.bool true)], args := [d1, d2, d3, d4] }
  | _ => none }
def timerMovesRow : OpenClaim := { program := "ytkbanhfdfmodkaa", sum := "43714f025e244cfd9c381b02b5051fe0f521b943c9f9491d7d30037f4d174793", func := "bollard/bollardlaw05.TimerMoves", spec := "timerMoves", unfollowed := true, recurses := true, apart := false }
def TimerMovesSaid : Prop := timerMovesRow.holds Try.pinned (OpenSpec.ofChange timerMovesSpec)

/-- ITS FALSE NEIGHBOUR: 'it returns false'. Refute it at one input. -/
def timerMovesWrong : ChangeSpec := { name := "timerMoves", fn := fun _ => fun
  | [d1, d2, d3, d4] => { results := [.lit (.bool false)], args := [d1, d2, d3, d4] }
  | _ => none }
def TimerMovesWrongFalsely : Prop := timerMovesRow.holds Try.pinned (OpenSpec.ofChange timerMovesWrong)

/- THE SECOND FORM. 'bulk': how many values and letters a reading holds, each counted each time it is reached (what is shared counts as often as it is met; a slice's spare places count too). A statement '..UptoSaid' is the law's where the arguments, and the package variables that the reading takes, are together of bulk at most 1048576: NARROWER than '..Said'. Prove '..Said' where nothing that the law and all that it calls make is longer than what came in: it says more and counts as full. Else prove '..UptoSaid'. A law counts once. -/
mutual
def uptoBulk {H : Type} : DataW H → Nat
  | .lit (.string bytes) => bytes.length + 1
  | .lit _ => 1
  | .nil => 1
  | .ptr d => uptoBulk d + 1
  | .slice elems spare => uptoBulkAll elems + uptoBulkAll spare + 1
  | .agg parts => uptoBulkAll parts + 1
  | .iface _ d => uptoBulk d + 1
  | .map entries => uptoBulkEntries entries + 1
  | .held _ => 1
def uptoBulkAll {H : Type} : List (DataW H) → Nat
  | [] => 0
  | d :: r => uptoBulk d + uptoBulkAll r
def uptoBulkEntries {H : Type} : List (Lit × DataW H) → Nat
  | [] => 0
  | x :: r => uptoBulkEntry x + uptoBulkEntries r
def uptoBulkEntry {H : Type} : Lit × DataW H → Nat
  | (.string bytes, d) => bytes.length + uptoBulk d + 1
  | (_, d) => uptoBulk d + 1
 end
def uptoSmall : (H : Type) → List (DataW H) → Bool := fun _ ds => decide (uptoBulkAll ds ≤ 1048576)
def OpenSpec.upto (s : _root_.Go.ChangeSpec) : _root_.Go.OpenSpec := { _root_.Go.OpenSpec.ofChange s with cond := some uptoSmall }

/-- 'bollardlaw05.TimerOnce', WHERE WHAT IT READS IS OF BULK AT MOST 1048576: true; the input reads as it did. -/
def timerOnceUptoRow : OpenClaim := { program := "ytkbanhfdfmodkaa", sum := "43714f025e244cfd9c381b02b5051fe0f521b943c9f9491d7d30037f4d174793", func := "bollard/bollardlaw05.TimerOnce", spec := "timerOnce", unfollowed := true, recurses := true, apart := false, narrowed := true }
def TimerOnceUptoSaid : Prop := timerOnceUptoRow.holds Try.pinned (OpenSpec.upto timerOnceSpec)

/-- 'bollardlaw05.TimerOrder', WHERE WHAT IT READS IS OF BULK AT MOST 1048576: true; the input reads as it did. -/
def timerOrderUptoRow : OpenClaim := { program := "ytkbanhfdfmodkaa", sum := "43714f025e244cfd9c381b02b5051fe0f521b943c9f9491d7d30037f4d174793", func := "bollard/bollardlaw05.TimerOrder", spec := "timerOrder", unfollowed := true, recurses := true, apart := false, narrowed := true }
def TimerOrderUptoSaid : Prop := timerOrderUptoRow.holds Try.pinned (OpenSpec.upto timerOrderSpec)

/-- 'bollardlaw05.TimerPlays', WHERE WHAT IT READS IS OF BULK AT MOST 1048576: true; the input reads as it did. -/
def timerPlaysUptoRow : OpenClaim := { program := "ytkbanhfdfmodkaa", sum := "43714f025e244cfd9c381b02b5051fe0f521b943c9f9491d7d30037f4d174793", func := "bollard/bollardlaw05.TimerPlays", spec := "timerPlays", unfollowed := true, recurses := true, apart := false, narrowed := true }
def TimerPlaysUptoSaid : Prop := timerPlaysUptoRow.holds Try.pinned (OpenSpec.upto timerPlaysSpec)

/-- 'bollardlaw05.TimerNone', WHERE WHAT IT READS IS OF BULK AT MOST 1048576: true; the input reads as it did. -/
def timerNoneUptoRow : OpenClaim := { program := "ytkbanhfdfmodkaa", sum := "43714f025e244cfd9c381b02b5051fe0f521b943c9f9491d7d30037f4d174793", func := "bollard/bollardlaw05.TimerNone", spec := "timerNone", unfollowed := true, recurses := true, apart := false, narrowed := true }
def TimerNoneUptoSaid : Prop := timerNoneUptoRow.holds Try.pinned (OpenSpec.upto timerNoneSpec)

/-- 'bollardlaw05.TimerMoves', WHERE WHAT IT READS IS OF BULK AT MOST 1048576: true; the input reads as it did. -/
def timerMovesUptoRow : OpenClaim := { program := "ytkbanhfdfmodkaa", sum := "43714f025e244cfd9c381b02b5051fe0f521b943c9f9491d7d30037f4d174793", func := "bollard/bollardlaw05.TimerMoves", spec := "timerMoves", unfollowed := true, recurses := true, apart := false, narrowed := true }
def TimerMovesUptoSaid : Prop := timerMovesUptoRow.holds Try.pinned (OpenSpec.upto timerMovesSpec)

end Rows
end Go.Proofs.Ytkbanhfdfmodkaa
