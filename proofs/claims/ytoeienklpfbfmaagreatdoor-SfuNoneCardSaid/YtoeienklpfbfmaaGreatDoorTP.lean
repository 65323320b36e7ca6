/-
  The law SfuNone holds for every input: of a server, and of a party, that are none nothing is told.
  No condition: what the row lists of package-level variables is tied to the program's text.
-/
import Derived.Lay
import Derived.LaidHandle
import Derived.MakeChecks
import Derived.SevenTiedAt
import Derived.Test.YtoeienklpfbfmaaGreatDoorRows
import Derived.Test.YtoeienklpfbfmaaGreatDoorTie
import Derived.Test.YtoeienklpfbfmaaGreatDoorCards
import Derived.Test.YtoeienklpfbfmaaGreatDoorTL
import Derived.Test.YtoeienklpfbfmaaGreatDoorTO
set_option linter.unusedVariables false
namespace Go.Proofs.YtoeienklpfbfmaaGreatDoor
open Go Vm Go.ChangeShapes Go.WideShapes Go.ChangeAt Go.RowKit
/-- a world in which the variables that the row lists are laid -/
theorem sfuNone_laid (os : Os) (args : Array Value) : laidMetH Tryz.prog Rows.sfuNoneRow.laid ((World.laidAll Tryz.prog os Rows.sfuNoneRow.laid).forCall (fun _ _ => 0) ⟨#[], args, []⟩).memory := by
  have h := laidMet_laidAll (P := Tryz.prog) (os := os) (laid := Rows.sfuNoneRow.laid) args (by kernel_rfl) (by kernel_rfl)
  exact by rw [Go.MakeChecks.laidMetH_plain _ _ _ (by kernel_rfl)]; exact h
set_option maxRecDepth 100000 in
theorem sfuNone_lifted (os : Os) (started : os.Started) (H : Type) (enc : TypeId × Value → H) :
    ReturnsInHanded {} Tryz.checked os 3 .any (fun w args => (Rows.sfuNoneSpec.pre enc Tryz.prog Tryz.f3 Rows.sfuNoneRow.domain false w args ∧ laidMetH Tryz.prog Rows.sfuNoneRow.laid w) ∧ sizedMet enc Tryz.prog Tryz.f3 (OpenSpec.ofChange Rows.sfuNoneSpec) false w args) (Rows.sfuNoneSpec.post enc Tryz.prog Tryz.f3 false true false false) := by
  refine lift_law_laid (C := Tryz.checked) (tb := 4) (X := fun w _ => laidMetH Tryz.prog Rows.sfuNoneRow.laid w) own started (by kernel_rfl) Tryz.func3
    (ChangeSpec.witness_at (enc := enc) (C := Tryz.checked) (os := os) (X := fun w _ => laidMetH Tryz.prog Rows.sfuNoneRow.laid w) false (World.laidAll Tryz.prog os Rows.sfuNoneRow.laid) #[.slice none 0 0, .string ⟨#[]⟩, .int .i64 0] 8 (World.laidAll_os _ _ _) (by kernel_rfl) (by kernel_rfl) (by kernel_rfl) (by kernel_rfl) (by kernel_rfl) (sfuNone_laid os _))
    laidOut (by kernel_rfl) rfl (by kernel_rfl) (by kernel_rfl) ?_ ?_
  · intro ds hl
    match ds, hl with
    | [d1, d2, d3], _ => exact ⟨rfl, rfl, rfl⟩
  · intro W base args ds ps hv hT hsz hH
    refine law_call_far (fn := Tryz.f3) mixed [.slice (.int .u8), .str, .int .i64] (by kernel_rfl) hH hv hT (sumsAwake _) 1000 ?_
    · intro h us r
      match us, r with
      | [u1, u2, u3], ⟨r1, r2, r3, _⟩ =>
        obtain ⟨ob, c, cc, rfl⟩ := r1.sl
        obtain ⟨s, rfl⟩ := r2.str
        obtain ⟨n, rfl, _⟩ := r3.int
        exact ⟨301, w_lnone⟩
theorem sfuNone_k0 : (Rows.sfuNoneRow.wf (OpenSpec.ofChange Rows.sfuNoneSpec)) = true := by kernel_rfl
theorem sfuNone_k2 : (mapsRowed Tryz.prog) = true := by kernel_rfl
theorem sfuNone_k3 : (Tryz.f3.params.all (Tryz.prog.readableRec ·)) = true := by kernel_rfl
theorem sfuNone_k4 : (namedTie Tryz.prog Rows.sfuNoneRow.named Rows.sfuNoneSpec.vars) = true := by kernel_rfl
theorem sfuNone_k5 : ((Rows.sfuNoneRow.stops == [])) = true := by kernel_rfl
theorem sfuNone_k6 : ((Tryz.prog.stops == [])) = true := by kernel_rfl
theorem sfuNone_k7 : ((Rows.sfuNoneRow.knobs == [])) = true := by kernel_rfl
theorem sfuNone_k8 : ((Tryz.prog.stopKnobs == [])) = true := by kernel_rfl
theorem sfuNone_k9 : ((Rows.sfuNoneRow.inPlace == Tryz.prog.inPlace 3)) = true := by kernel_rfl
theorem sfuNone_k10 : ((Rows.sfuNoneRow.unfollowed == Tryz.prog.unfollowed 3)) = true := by kernel_rfl
theorem sfuNone_k11 : ((Rows.sfuNoneRow.recurses == Tryz.prog.recurses 3)) = true := by kernel_rfl
theorem sfuNone_k12 : ((Rows.sfuNoneRow.named == Tryz.prog.varsNamed 3)) = true := by kernel_rfl
theorem sfuNone_k13 : ((Rows.sfuNoneRow.maps == (Tryz.f3.params.toList ++ Rows.sfuNoneSpec.plain.varTypes Tryz.prog).any (Tryz.prog.mapsRec ·))) = true := by kernel_rfl
theorem sfuNone_k14 : ((Rows.sfuNoneRow.ifaces == (Tryz.f3.params.toList ++ Rows.sfuNoneSpec.plain.varTypes Tryz.prog).any (Tryz.prog.ifacesRec ·))) = true := by kernel_rfl
theorem sfuNone_k15 : ((Rows.sfuNoneRow.mapsOut == Tryz.prog.mapsAmong Tryz.f3.resultTypes.toList)) = true := by kernel_rfl
theorem sfuNone_k16 : ((Rows.sfuNoneRow.loops == (Tryz.f3.params.toList ++ Rows.sfuNoneSpec.plain.varTypes Tryz.prog).any (Tryz.prog.loopsFrom ·))) = true := by kernel_rfl
theorem sfuNone_k17 : ((Rows.sfuNoneRow.wideKeys == (Tryz.f3.params.toList ++ Rows.sfuNoneSpec.plain.varTypes Tryz.prog ++ Tryz.f3.resultTypes.toList).any (Tryz.prog.wideKeysFrom ·))) = true := by kernel_rfl
theorem sfuNone_k18 : (Rows.sfuNoneSpec.vars.all (Tryz.prog.varReadable ·)) = true := by kernel_rfl
theorem sfuNone_k19 : (Tryz.f3.resultTypes.all (fun t => Tryz.prog.readableRec t && decide (t < Tryz.prog.types.size))) = true := by kernel_rfl
theorem sfuNone_k20 : ((Rows.sfuNoneRow.ifacesOut == Tryz.f3.resultTypes.toList.any (Tryz.prog.ifacesRec ·))) = true := by kernel_rfl
theorem sfuNone_k21 : ((Rows.sfuNoneRow.loopsOut == Tryz.f3.resultTypes.toList.any (Tryz.prog.loopsFrom ·))) = true := by kernel_rfl
theorem sfuNone_k22 : ((Rows.sfuNoneRow.plainKeys == Tryz.prog.plainKeys)) = true := by kernel_rfl
theorem sfuNone_k23 : (Rows.sfuNoneRow.shortTexts.isNone) = true := by kernel_rfl
theorem sfuNone_k24 : (Tryz.prog.stopsHeard) = true := by kernel_rfl
theorem sfuNone_k25 : (Tryz.prog.mayEnter) = true := by kernel_rfl
theorem sfuNone_k26 : ((Rows.sfuNoneRow.lifted == Tryz.prog.liftsFinal)) = true := by kernel_rfl
theorem sfuNone_k27 : ((Tryz.prog.make == some Rows.sfuNoneRow.make)) = true := by kernel_rfl
theorem sfuNone_k28 : ((Rows.sfuNoneRow.kinds == (if Rows.sfuNoneRow.domain.isEmpty then [] else Tryz.f3.params.toList.map fun t => match Tryz.prog.underlying t with | some (.int k) => some k | _ => none))) = true := by kernel_rfl
theorem sfuNone_k29 : ((Rows.sfuNoneRow.pinned == Rows.sfuNoneRow.pinnedBy)) = true := by kernel_rfl
theorem sfuNone_k30 : ((Rows.sfuNoneRow.veiled == (Tryz.f3.params.toList ++ Rows.sfuNoneSpec.plain.varTypes Tryz.prog ++ Tryz.f3.resultTypes.toList).any (Tryz.prog.veiledRec ·))) = true := by kernel_rfl
theorem sfuNone_k31 : (Rows.sfuNoneRow.veiledFits Tryz.prog Tryz.f3.params.toList (Tryz.f3.params.toList ++ Rows.sfuNoneSpec.plain.varTypes Tryz.prog ++ Tryz.f3.resultTypes.toList)) = true := by kernel_rfl
set_option maxRecDepth 100000 in
theorem sfuNone_closed : joinedFacts Tryz.prog 3 Tryz.f3 Rows.sfuNoneSpec Rows.sfuNoneRow = true := by
  unfold joinedFacts
  exact (and2 (and2 (and2 (and2 (and2 (and2 (and2 (and2 (and2 (and2 (and2 (and2 (and2 (and2 (and2 (and2 (and2 (and2 (and2 (and2 (and2 (and2 (and2 (and2 (and2 (and2 (and2 (and2 (and2 (and2 (and2 sfuNone_k0 laidOut) sfuNone_k2) sfuNone_k3) sfuNone_k4) sfuNone_k5) sfuNone_k6) sfuNone_k7) sfuNone_k8) sfuNone_k9) sfuNone_k10) sfuNone_k11) sfuNone_k12) sfuNone_k13) sfuNone_k14) sfuNone_k15) sfuNone_k16) sfuNone_k17) sfuNone_k18) sfuNone_k19) sfuNone_k20) sfuNone_k21) sfuNone_k22) sfuNone_k23) sfuNone_k24) sfuNone_k25) sfuNone_k26) sfuNone_k27) sfuNone_k28) sfuNone_k29) sfuNone_k30) sfuNone_k31)
theorem sfuNone_over : Rows.sfuNoneRow.holds Tryz.pinned (OpenSpec.ofChange Rows.sfuNoneSpec) :=
  OpenClaim.holds_of_wide 3 Tryz.f3 rfl rfl rfl rfl rfl rfl rfl ⟨rfl, rfl, rfl, rfl, rfl⟩ rfl rfl rfl rfl rfl (by kernel_rfl) Tryz.func3 sfuNone_closed
    (of_decide_eq_true (by kernel_rfl)) (by unfold Func.isWrapper; first | (rw [if_pos (by decide +kernel)]; kernel_rfl) | (rw [if_neg (by decide +kernel)]; exact ⟨rfl, rfl⟩))
    (fun os started H enc _ => sfuNone_lifted os started H enc)
theorem sfuNone_row : Rows.SfuNoneSaid := sfuNone_over
theorem sfuNone_card : Rows.SfuNoneCardSaid :=
  Claim7.holds_tied_plain_at .later [] [.data, .pinned] true (true, "84da1f447d043cba515b356a4fe4f08c81da5fb6fd6fc8c6b0b6c886d3775824") false sfuNone_row (fun _ h => by cases h) (by kernel_rfl) (fun _ h => by cases h) sfuNone_row_tie rfl ⟨rfl, rfl⟩ (by kernel_rfl) rfl
    (fun f fn hf hfn => by
      obtain rfl : f = 3 := Option.some.inj ((show Tryz.prog.funcNamed Rows.sfuNoneRow.func = some 3 by kernel_rfl).symm.trans hf) |>.symm
      obtain rfl : fn = Tryz.f3 := (Option.some.inj (Tryz.func3.symm.trans hfn)).symm
      refine ⟨by kernel_rfl, fun j t ht => ?_⟩
      have h : (Tryz.f3.params.toList.all fun t => !Tryz.prog.wantsStandIn t) = true := by kernel_rfl
      have := List.all_eq_true.1 h t (List.mem_of_getElem? (by simpa using ht))
      show Tryz.prog.wantsStandIn t = false
      simpa using this)
    (by kernel_rfl)
end Go.Proofs.YtoeienklpfbfmaaGreatDoor
#print axioms Go.Proofs.YtoeienklpfbfmaaGreatDoor.sfuNone_card

