/-
  The law AssocStates holds for every input: an association that is closed refuses what is asked of it, and what is begun waits until it is put away.
  No condition.
-/
import Derived.Test.YtmnhkjbplfkpfaaGreatRows
import Derived.Test.YtmnhkjbplfkpfaaGreatSB
set_option linter.unusedVariables false
namespace Go.Proofs.YtmnhkjbplfkpfaaGreat
open Go Vm Go.ChangeShapes Go.WideShapes Go.ChangeAt Go.RowKit
set_option maxRecDepth 100000 in
theorem assocStates_lifted (os : Os) (started : os.Started) (H : Type) (enc : TypeId × Value → H) :
    ReturnsInHanded {} Tryz.checked os 7 .any (Rows.assocStatesSpec.pre6 enc Tryz.prog Tryz.f7 Rows.assocStatesRow.domain false) (Rows.assocStatesSpec.post enc Tryz.prog Tryz.f7 false true false false) := by
  refine lift_law (C := Tryz.checked) (tb := 4) own started (by kernel_rfl) Tryz.func7
    (ChangeSpec.witness6 (enc := enc) (C := Tryz.checked) false ⟨#[], #[.int .u32 0, .int .i64 0], []⟩ 8 (by kernel_rfl) (by kernel_rfl) (by kernel_rfl) (by kernel_rfl))
    laidOut (by kernel_rfl) rfl (by kernel_rfl) (by kernel_rfl) ?_ ?_
  · intro ds hl
    match ds, hl with
    | [d1, d2], _ => exact ⟨rfl, rfl, rfl⟩
  · intro W base args ds ps hv hT hsz hH
    refine law_call_far (fn := Tryz.f7) mixed [.int .u32, .int .i64] (by kernel_rfl) hH hv hT (sumsS _) 2000 ?_
    · intro h us r
      match us, r with
      | [u1, u2], ⟨r1, r2, _⟩ =>
        obtain ⟨d, rfl, _⟩ := r1.u32
        obtain ⟨k, rfl, _⟩ := r2.int
        exact ⟨400, w_lstates d k⟩
theorem assocStates_k0 : (Rows.assocStatesRow.wf (OpenSpec.ofChange Rows.assocStatesSpec)) = true := by kernel_rfl
theorem assocStates_k2 : (mapsRowed Tryz.prog) = true := by kernel_rfl
theorem assocStates_k3 : (Tryz.f7.params.all (Tryz.prog.readableRec ·)) = true := by kernel_rfl
theorem assocStates_k4 : (namedTie Tryz.prog Rows.assocStatesRow.named Rows.assocStatesSpec.vars) = true := by kernel_rfl
theorem assocStates_k5 : ((Rows.assocStatesRow.stops == [])) = true := by kernel_rfl
theorem assocStates_k6 : ((Tryz.prog.stops == [])) = true := by kernel_rfl
theorem assocStates_k7 : ((Rows.assocStatesRow.knobs == [])) = true := by kernel_rfl
theorem assocStates_k8 : ((Tryz.prog.stopKnobs == [])) = true := by kernel_rfl
theorem assocStates_k9 : ((Rows.assocStatesRow.inPlace == Tryz.prog.inPlace 7)) = true := by kernel_rfl
theorem assocStates_k10 : ((Rows.assocStatesRow.unfollowed == Tryz.prog.unfollowed 7)) = true := by kernel_rfl
theorem assocStates_k11 : ((Rows.assocStatesRow.recurses == Tryz.prog.recurses 7)) = true := by kernel_rfl
theorem assocStates_k12 : ((Rows.assocStatesRow.named == Tryz.prog.varsNamed 7)) = true := by kernel_rfl
theorem assocStates_k13 : ((Rows.assocStatesRow.maps == (Tryz.f7.params.toList ++ Rows.assocStatesSpec.plain.varTypes Tryz.prog).any (Tryz.prog.mapsRec ·))) = true := by kernel_rfl
theorem assocStates_k14 : ((Rows.assocStatesRow.ifaces == (Tryz.f7.params.toList ++ Rows.assocStatesSpec.plain.varTypes Tryz.prog).any (Tryz.prog.ifacesRec ·))) = true := by kernel_rfl
theorem assocStates_k15 : ((Rows.assocStatesRow.mapsOut == Tryz.prog.mapsAmong Tryz.f7.resultTypes.toList)) = true := by kernel_rfl
theorem assocStates_k16 : ((Rows.assocStatesRow.loops == (Tryz.f7.params.toList ++ Rows.assocStatesSpec.plain.varTypes Tryz.prog).any (Tryz.prog.loopsFrom ·))) = true := by kernel_rfl
theorem assocStates_k17 : ((Rows.assocStatesRow.wideKeys == (Tryz.f7.params.toList ++ Rows.assocStatesSpec.plain.varTypes Tryz.prog ++ Tryz.f7.resultTypes.toList).any (Tryz.prog.wideKeysFrom ·))) = true := by kernel_rfl
theorem assocStates_k18 : (Rows.assocStatesSpec.vars.all (Tryz.prog.varReadable ·)) = true := by kernel_rfl
theorem assocStates_k19 : (Tryz.f7.resultTypes.all (fun t => Tryz.prog.readableRec t && decide (t < Tryz.prog.types.size))) = true := by kernel_rfl
theorem assocStates_k20 : ((Rows.assocStatesRow.ifacesOut == Tryz.f7.resultTypes.toList.any (Tryz.prog.ifacesRec ·))) = true := by kernel_rfl
theorem assocStates_k21 : ((Rows.assocStatesRow.loopsOut == Tryz.f7.resultTypes.toList.any (Tryz.prog.loopsFrom ·))) = true := by kernel_rfl
theorem assocStates_k22 : ((Rows.assocStatesRow.plainKeys == Tryz.prog.plainKeys)) = true := by kernel_rfl
theorem assocStates_k23 : (Rows.assocStatesRow.shortTexts.isNone) = true := by kernel_rfl
theorem assocStates_k24 : (Tryz.prog.stopsHeard) = true := by kernel_rfl
theorem assocStates_k25 : (Tryz.prog.mayEnter) = true := by kernel_rfl
theorem assocStates_k26 : ((Rows.assocStatesRow.lifted == Tryz.prog.liftsFinal)) = true := by kernel_rfl
theorem assocStates_k27 : ((Tryz.prog.make == some Rows.assocStatesRow.make)) = true := by kernel_rfl
theorem assocStates_k28 : ((Rows.assocStatesRow.kinds == (if Rows.assocStatesRow.domain.isEmpty then [] else Tryz.f7.params.toList.map fun t => match Tryz.prog.underlying t with | some (.int k) => some k | _ => none))) = true := by kernel_rfl
theorem assocStates_k29 : ((Rows.assocStatesRow.pinned == Rows.assocStatesRow.pinnedBy)) = true := by kernel_rfl
theorem assocStates_k30 : ((Rows.assocStatesRow.veiled == (Tryz.f7.params.toList ++ Rows.assocStatesSpec.plain.varTypes Tryz.prog ++ Tryz.f7.resultTypes.toList).any (Tryz.prog.veiledRec ·))) = true := by kernel_rfl
theorem assocStates_k31 : (Rows.assocStatesRow.veiledFits Tryz.prog Tryz.f7.params.toList (Tryz.f7.params.toList ++ Rows.assocStatesSpec.plain.varTypes Tryz.prog ++ Tryz.f7.resultTypes.toList)) = true := by kernel_rfl
set_option maxRecDepth 100000 in
theorem assocStates_closed : joinedFacts Tryz.prog 7 Tryz.f7 Rows.assocStatesSpec Rows.assocStatesRow = true := by
  unfold joinedFacts
  exact (and2 (and2 (and2 (and2 (and2 (and2 (and2 (and2 (and2 (and2 (and2 (and2 (and2 (and2 (and2 (and2 (and2 (and2 (and2 (and2 (and2 (and2 (and2 (and2 (and2 (and2 (and2 (and2 (and2 (and2 (and2 assocStates_k0 laidOut) assocStates_k2) assocStates_k3) assocStates_k4) assocStates_k5) assocStates_k6) assocStates_k7) assocStates_k8) assocStates_k9) assocStates_k10) assocStates_k11) assocStates_k12) assocStates_k13) assocStates_k14) assocStates_k15) assocStates_k16) assocStates_k17) assocStates_k18) assocStates_k19) assocStates_k20) assocStates_k21) assocStates_k22) assocStates_k23) assocStates_k24) assocStates_k25) assocStates_k26) assocStates_k27) assocStates_k28) assocStates_k29) assocStates_k30) assocStates_k31)
theorem assocStates_over : Rows.assocStatesRow.holds Tryz.pinned (OpenSpec.ofChange Rows.assocStatesSpec) :=
  OpenClaim.holds_of_wide 7 Tryz.f7 rfl rfl rfl rfl rfl rfl rfl ⟨rfl, rfl, rfl, rfl, rfl⟩ rfl rfl rfl rfl rfl (by kernel_rfl) Tryz.func7 assocStates_closed
    (of_decide_eq_true (by kernel_rfl)) (by unfold Func.isWrapper; first | (rw [if_pos (by decide +kernel)]; kernel_rfl) | (rw [if_neg (by decide +kernel)]; exact ⟨rfl, rfl⟩))
    (fun os started H enc _ => assocStates_lifted os started H enc)
theorem assocStates_holds : Rows.AssocStatesSaid := assocStates_over
end Go.Proofs.YtmnhkjbplfkpfaaGreat
#print axioms Go.Proofs.YtmnhkjbplfkpfaaGreat.assocStates_holds

