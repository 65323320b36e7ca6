/-
  No cell of these rows narrows 'for every input' (looked for: loops, veiled, ifaces, maps, wideKeys, modest, calm, conditions, laid).
  DERIVED. THE GIVEN ROWS OF THIS SEAT. 5 by the template 'for every input the law returns true; each argument reads behind the call as it read before'; 0 by the template 'total and deterministic' (their statements: YtnffglfpjcbfaaaTotals.lean).
  GIVEN WITH THE SEED: the statements are not yours to turn. If you find one false, say at which input.
  Laid BY PROGRAM, IN A SANDBOX (cutbox-rows.mjs): the forced cells as the released guide's own fill.sh prints them over the translation fc33b05c87bdac87… (all of the seat's roots in one cut). By AI agents, Wed Nov 11 2026. No macro, syntax, notation, axiom, sorry.
-/
import Derived.Test.YtnffglfpjcbfaaaChecked
import GoSem.Claim
import GoSem.ClaimJoined
import GoSem.ClaimMapViews
import Derived.JoinedTies
import Derived.KernelRfl
namespace Go.Proofs.Ytnffglfpjcbfaaa
/- THE CELL 'sum', in the pinned program and in every row, IS THE sha256 OF THE DUMP (.gsa) THAT YtnffglfpjcbfaaaProg.lean LOADS. Nothing in Lean hashes anything: it is a label: what it is worth is what the hold of that sum in a sandbox is worth. -/
noncomputable def Try.pinned : Pinned := { name := "ytnffglfpjcbfaaa", sum := "fc33b05c87bdac87f2f7e943b3351b079a6119fa5ee9171f3a194952bfcd0215", checked := Try.checked }
namespace Rows
def none {H : Type} : Left H := { results := [], args := [] }

/-- 'bollardlaw14.JoinOrders': WHATEVER THE INPUT: true; the input reads as it did. -/
def joinOrdersSpec : ChangeSpec := { name := "joinOrders", fn := fun _ => fun
  | [d1, d2, d3, d4] => { results := [.lit (.bool true)], args := [d1, d2, d3, d4] }
  | _ => none }
def joinOrdersRow : OpenClaim := { program := "ytnffglfpjcbfaaa", sum := "fc33b05c87bdac87f2f7e943b3351b079a6119fa5ee9171f3a194952bfcd0215", func := "bollard/bollardlaw14.JoinOrders", spec := "joinOrders", plainKeys := false, apart := false }
def JoinOrdersSaid : Prop := joinOrdersRow.holds Try.pinned (OpenSpec.ofChange joinOrdersSpec)

/-- ITS FALSE NEIGHBOUR: 'it returns false'. Refute it at one input. -/
def joinOrdersWrong : ChangeSpec := { name := "joinOrders", fn := fun _ => fun
  | [d1, d2, d3, d4] => { results := [.lit (.bool false)], args := [d1, d2, d3, d4] }
  | _ => none }
def JoinOrdersWrongFalsely : Prop := joinOrdersRow.holds Try.pinned (OpenSpec.ofChange joinOrdersWrong)

/-- 'bollardlaw14.JoinFree': WHATEVER THE INPUT: true; the input reads as it did. -/
def joinFreeSpec : ChangeSpec := { name := "joinFree", fn := fun _ => fun
  | [d1, d2, d3, d4] => { results := [.lit (.bool true)], args := [d1, d2, d3, d4] }
  | _ => none }
def joinFreeRow : OpenClaim := { program := "ytnffglfpjcbfaaa", sum := "fc33b05c87bdac87f2f7e943b3351b079a6119fa5ee9171f3a194952bfcd0215", func := "bollard/bollardlaw14.JoinFree", spec := "joinFree", plainKeys := false, apart := false }
def JoinFreeSaid : Prop := joinFreeRow.holds Try.pinned (OpenSpec.ofChange joinFreeSpec)

/-- ITS FALSE NEIGHBOUR: 'it returns false'. Refute it at one input. -/
def joinFreeWrong : ChangeSpec := { name := "joinFree", fn := fun _ => fun
  | [d1, d2, d3, d4] => { results := [.lit (.bool false)], args := [d1, d2, d3, d4] }
  | _ => none }
def JoinFreeWrongFalsely : Prop := joinFreeRow.holds Try.pinned (OpenSpec.ofChange joinFreeWrong)

/-- 'bollardlaw14.JoinSkips': WHATEVER THE INPUT: true; the input reads as it did. -/
def joinSkipsSpec : ChangeSpec := { name := "joinSkips", fn := fun _ => fun
  | [d1, d2, d3] => { results := [.lit (.bool true)], args := [d1, d2, d3] }
  | _ => none }
def joinSkipsRow : OpenClaim := { program := "ytnffglfpjcbfaaa", sum := "fc33b05c87bdac87f2f7e943b3351b079a6119fa5ee9171f3a194952bfcd0215", func := "bollard/bollardlaw14.JoinSkips", spec := "joinSkips", unfollowed := true, recurses := true, plainKeys := false, apart := false }
def JoinSkipsSaid : Prop := joinSkipsRow.holds Try.pinned (OpenSpec.ofChange joinSkipsSpec)

/-- ITS FALSE NEIGHBOUR: 'it returns false'. Refute it at one input. -/
def joinSkipsWrong : ChangeSpec := { name := "joinSkips", fn := fun _ => fun
  | [d1, d2, d3] => { results := [.lit (.bool false)], args := [d1, d2, d3] }
  | _ => none }
def JoinSkipsWrongFalsely : Prop := joinSkipsRow.holds Try.pinned (OpenSpec.ofChange joinSkipsWrong)

/-- 'bollardlaw14.JoinBounds': WHATEVER THE INPUT: true; the input reads as it did. -/
def joinBoundsSpec : ChangeSpec := { name := "joinBounds", fn := fun _ => fun
  | [d1, d2] => { results := [.lit (.bool true)], args := [d1, d2] }
  | _ => none }
def joinBoundsRow : OpenClaim := { program := "ytnffglfpjcbfaaa", sum := "fc33b05c87bdac87f2f7e943b3351b079a6119fa5ee9171f3a194952bfcd0215", func := "bollard/bollardlaw14.JoinBounds", spec := "joinBounds", unfollowed := true, recurses := true, plainKeys := false, apart := false }
def JoinBoundsSaid : Prop := joinBoundsRow.holds Try.pinned (OpenSpec.ofChange joinBoundsSpec)

/-- ITS FALSE NEIGHBOUR: 'it returns false'. Refute it at one input. -/
def joinBoundsWrong : ChangeSpec := { name := "joinBounds", fn := fun _ => fun
  | [d1, d2] => { results := [.lit (.bool false)], args := [d1, d2] }
  | _ => none }
def JoinBoundsWrongFalsely : Prop := joinBoundsRow.holds Try.pinned (OpenSpec.ofChange joinBoundsWrong)

/-- 'bollardlaw14.JoinNone': WHATEVER THE INPUT: true; the input reads as it did. -/
def joinNoneSpec : ChangeSpec := { name := "joinNone", fn := fun _ => fun
  | [d1, d2, d3] => { results := [.lit (.bool true)], args := [d1, d2, d3] }
  | _ => none }
def joinNoneRow : OpenClaim := { program := "ytnffglfpjcbfaaa", sum := "fc33b05c87bdac87f2f7e943b3351b079a6119fa5ee9171f3a194952bfcd0215", func := "bollard/bollardlaw14.JoinNone", spec := "joinNone", unfollowed := true, recurses := true, plainKeys := false, apart := false }
def JoinNoneSaid : Prop := joinNoneRow.holds Try.pinned (OpenSpec.ofChange joinNoneSpec)

/-- ITS FALSE NEIGHBOUR: 'it returns false'. Refute it at one input. -/
def joinNoneWrong : ChangeSpec := { name := "joinNone", fn := fun _ => fun
  | [d1, d2, d3] => { results := [.lit (.bool false)], args := [d1, d2, d3] }
  | _ => none }
def JoinNoneWrongFalsely : Prop := joinNoneRow.holds Try.pinned (OpenSpec.ofChange joinNoneWrong)

/- THE SECOND FORM. 'bulk': how many values and letters a reading holds, each counted each time it is reached (what is shared counts as often as it is met; a slice's spare places count too). A statement '..UptoSaid' is the law's where the arguments, and the package variables that the reading takes, are together of bulk at most 1048576: NARROWER than '..Said'. Prove '..Said' where nothing that the law and all that it calls make is longer than what came in: it says more and counts as full. Else prove '..UptoSaid'. A law counts once. -/
mutual
def uptoBulk {H : Type} : DataW H → Nat
  | .lit (.string bytes) => bytes.length + 1
  | .lit _ => 1
  | .nil => 1
  | .ptr d => uptoBulk d + 1
  | .slice elems spare => uptoBulkAll elems + uptoBulkAll spare + 1
  | .agg parts => uptoBulkAll parts + 1
  | .iface _ d => uptoBulk d + 1
  | .map entries => uptoBulkEntries entries + 1
  | .held _ => 1
def uptoBulkAll {H : Type} : List (DataW H) → Nat
  | [] => 0
  | d :: r => uptoBulk d + uptoBulkAll r
def uptoBulkEntries {H : Type} : List (Lit × DataW H) → Nat
  | [] => 0
  | x :: r => uptoBulkEntry x + uptoBulkEntries r
def uptoBulkEntry {H : Type} : Lit × DataW H → Nat
  | (.string bytes, d) => bytes.length + uptoBulk d + 1
  | (_, d) => uptoBulk d + 1
 end
def uptoSmall : (H : Type) → List (DataW H) → Bool := fun _ ds => decide (uptoBulkAll ds ≤ 1048576)
def OpenSpec.upto (s : _root_.Go.ChangeSpec) : _root_.Go.OpenSpec := { _root_.Go.OpenSpec.ofChange s with cond := some uptoSmall }

/-- 'bollardlaw14.JoinOrders', WHERE WHAT IT READS IS OF BULK AT MOST 1048576: true; the input reads as it did. -/
def joinOrdersUptoRow : OpenClaim := { program := "ytnffglfpjcbfaaa", sum := "fc33b05c87bdac87f2f7e943b3351b079a6119fa5ee9171f3a194952bfcd0215", func := "bollard/bollardlaw14.JoinOrders", spec := "joinOrders", plainKeys := false, apart := false, narrowed := true }
def JoinOrdersUptoSaid : Prop := joinOrdersUptoRow.holds Try.pinned (OpenSpec.upto joinOrdersSpec)

/-- 'bollardlaw14.JoinFree', WHERE WHAT IT READS IS OF BULK AT MOST 1048576: true; the input reads as it did. -/
def joinFreeUptoRow : OpenClaim := { program := "ytnffglfpjcbfaaa", sum := "fc33b05c87bdac87f2f7e943b3351b079a6119fa5ee9171f3a194952bfcd0215", func := "bollard/bollardlaw14.JoinFree", spec := "joinFree", plainKeys := false, apart := false, narrowed := true }
def JoinFreeUptoSaid : Prop := joinFreeUptoRow.holds Try.pinned (OpenSpec.upto joinFreeSpec)

/-- 'bollardlaw14.JoinSkips', WHERE WHAT IT READS IS OF BULK AT MOST 1048576: true; the input reads as it did. -/
def joinSkipsUptoRow : OpenClaim := { program := "ytnffglfpjcbfaaa", sum := "fc33b05c87bdac87f2f7e943b3351b079a6119fa5ee9171f3a194952bfcd0215", func := "bollard/bollardlaw14.JoinSkips", spec := "joinSkips", unfollowed := true, recurses := true, plainKeys := false, apart := false, narrowed := true }
def JoinSkipsUptoSaid : Prop := joinSkipsUptoRow.holds Try.pinned (OpenSpec.upto joinSkipsSpec)

/-- 'bollardlaw14.JoinBounds', WHERE WHAT IT READS IS OF BULK AT MOST 1048576: true; the input reads as it did. -/
def joinBoundsUptoRow : OpenClaim := { program := "ytnffglfpjcbfaaa", sum := "fc33b05c87bdac87f2f7e943b3351b079a6119fa5ee9171f3a194952bfcd0215", func := "bollard/bollardlaw14.JoinBounds", spec := "joinBounds", unfollowed := true, recurses := true, plainKeys := false, apart := false, narrowed := true }
def JoinBoundsUptoSaid : Prop := joinBoundsUptoRow.holds Try.pinned (OpenSpec.upto joinBoundsSpec)

/-- 'bollardlaw14.JoinNone', WHERE WHAT IT READS IS OF BULK AT MOST 1048576: true; the input reads as it did. -/
def joinNoneUptoRow : OpenClaim := { program := "ytnffglfpjcbfaaa", sum := "fc33b05c87bdac87f2f7e943b3351b079a6119fa5ee9171f3a194952bfcd0215", func := "bollard/bollardlaw14.JoinNone", spec := "joinNone", unfollowed := true, recurses := true, plainKeys := false, apart := false, narrowed := true }
def JoinNoneUptoSaid : Prop := joinNoneUptoRow.holds Try.pinned (OpenSpec.upto joinNoneSpec)

end Rows
end Go.Proofs.Ytnffglfpjcbfaaa
