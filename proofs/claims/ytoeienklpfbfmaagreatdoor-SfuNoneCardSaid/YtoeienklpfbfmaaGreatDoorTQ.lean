/-
  The law SfuNone holds for every input: of a server, and of a party, that are none nothing is told.
  No condition: what the row lists of package-level variables is tied to the program's text.
-/
import Derived.Lay
import Derived.LaidHandle
import Derived.MakeChecks
import Derived.Test.YtoeienklpfbfmaaGreatDoorRows
import Derived.Test.YtoeienklpfbfmaaGreatDoorTL
import Derived.Test.YtoeienklpfbfmaaGreatDoorTO
set_option linter.unusedVariables false
namespace Go.Proofs.YtoeienklpfbfmaaGreatDoor
open Go Vm Go.ChangeShapes Go.WideShapes Go.ChangeAt Go.RowKit
/-- a world in which the variables that the row lists are laid -/
theorem sfuNone_laid (os : Os) (args : Array Value) : laidMetH Tryz.prog Rows.sfuNoneRow.laid ((World.laidAll Tryz.prog os Rows.sfuNoneRow.laid).forCall (fun _ _ => 0) ⟨#[], args, []⟩).memory := by
  have h := laidMet_laidAll (P := Tryz.prog) (os := os) (laid := Rows.sfuNoneRow.laid) args (by kernel_rfl) (by kernel_rfl)
  exact by rw [Go.MakeChecks.laidMetH_plain _ _ _ (by kernel_rfl)]; exact h
set_option maxRecDepth 100000 in
theorem sfuNone_lifted (os : Os) (started : os.Started) (H : Type) (enc : TypeId × Value → H) :
    ReturnsInHanded {} Tryz.checked os 3 .any (fun w args => (Rows.sfuNoneSpec.pre enc Tryz.prog Tryz.f3 Rows.sfuNoneRow.domain false w args ∧ laidMetH Tryz.prog Rows.sfuNoneRow.laid w) ∧ sizedMet enc Tryz.prog Tryz.f3 (OpenSpec.ofChange Rows.sfuNoneSpec) false w args) (Rows.sfuNoneSpec.post enc Tryz.prog Tryz.f3 false true false false) := by
  refine lift_law_laid (C := Tryz.checked) (tb := 4) (X := fun w _ => laidMetH Tryz.prog Rows.sfuNoneRow.laid w) own started (by kernel_rfl) Tryz.func3
    (ChangeSpec.witness_at (enc := enc) (C := Tryz.checked) (os := os) (X := fun w _ => laidMetH Tryz.prog Rows.sfuNoneRow.laid w) false (World.laidAll Tryz.prog os Rows.sfuNoneRow.laid) #[.slice none 0 0, .string ⟨#[]⟩, .int .i64 0] 8 (World.laidAll_os _ _ _) (by kernel_rfl) (by kernel_rfl) (by kernel_rfl) (by kernel_rfl) (by kernel_rfl) (sfuNone_laid os _))
    laidOut (by kernel_rfl) rfl (by kernel_rfl) (by kernel_rfl) ?_ ?_
  · intro ds hl
    match ds, hl with
    | [d1, d2, d3], _ => exact ⟨rfl, rfl, rfl⟩
  · intro W base args ds ps hv hT hsz hH
    refine law_call_far (fn := Tryz.f3) mixed [.slice (.int .u8), .str, .int .i64] (by kernel_rfl) hH hv hT (sumsAwake _) 1000 ?_
    · intro h us r
      match us, r with
      | [u1, u2, u3], ⟨r1, r2, r3, _⟩ =>
        obtain ⟨ob, c, cc, rfl⟩ := r1.sl
        obtain ⟨s, rfl⟩ := r2.str
        obtain ⟨n, rfl, _⟩ := r3.int
        exact ⟨301, w_lnone⟩
end Go.Proofs.YtoeienklpfbfmaaGreatDoor

