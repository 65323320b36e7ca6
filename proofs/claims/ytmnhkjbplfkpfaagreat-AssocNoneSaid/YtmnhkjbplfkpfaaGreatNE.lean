/-
  The law AssocNone holds for every input: of an Assoc that is none nothing is told.
  No condition.
-/
import Derived.Test.YtmnhkjbplfkpfaaGreatRows
import Derived.Test.YtmnhkjbplfkpfaaGreatNB
set_option linter.unusedVariables false
namespace Go.Proofs.YtmnhkjbplfkpfaaGreat
open Go Vm Go.ChangeShapes Go.WideShapes Go.ChangeAt Go.RowKit
set_option maxRecDepth 100000 in
theorem assocNone_lifted (os : Os) (started : os.Started) (H : Type) (enc : TypeId × Value → H) :
    ReturnsInHanded {} Tryz.checked os 8 .any (Rows.assocNoneSpec.pre6 enc Tryz.prog Tryz.f8 Rows.assocNoneRow.domain false) (Rows.assocNoneSpec.post enc Tryz.prog Tryz.f8 false true false false) := by
  refine lift_law (C := Tryz.checked) (tb := 4) own started (by kernel_rfl) Tryz.func8
    (ChangeSpec.witness6 (enc := enc) (C := Tryz.checked) false ⟨#[], #[.slice none 0 0, .agg #[.int .u16 0, .bool false, .int .u32 0, .slice none 0 0], .int .i64 0, .int .u32 0], []⟩ 8 (by kernel_rfl) (by kernel_rfl) (by kernel_rfl) (by kernel_rfl))
    laidOut (by kernel_rfl) rfl (by kernel_rfl) (by kernel_rfl) ?_ ?_
  · intro ds hl
    match ds, hl with
    | [d1, d2, d3, d4], _ => exact ⟨rfl, rfl, rfl⟩
  · intro W base args ds ps hv hT hsz hH
    refine law_call (fn := Tryz.f8) mixed [.slice (.int .u8), PTm, .int .i64, .int .u32] (by kernel_rfl) hH hv hT (sumsAwake _) ?_
    · intro h us r
      match us, r with
      | [u1, u2, u3, u4], ⟨r1, r2, r3, r4, _⟩ =>
        obtain ⟨ob, bl, bc, rfl⟩ := r1.sl
        obtain ⟨s, pp, b, d, rfl, _, _, rd⟩ := repV_msg r2
        obtain ⟨om, m, cm, rfl⟩ := rd.sl
        obtain ⟨k, rfl, _⟩ := r3.int
        obtain ⟨dr, rfl, _⟩ := r4.u32
        exact ⟨12, w_lnone 12 (by omega)⟩
theorem assocNone_k0 : (Rows.assocNoneRow.wf (OpenSpec.ofChange Rows.assocNoneSpec)) = true := by kernel_rfl
theorem assocNone_k2 : (mapsRowed Tryz.prog) = true := by kernel_rfl
theorem assocNone_k3 : (Tryz.f8.params.all (Tryz.prog.readableRec ·)) = true := by kernel_rfl
theorem assocNone_k4 : (namedTie Tryz.prog Rows.assocNoneRow.named Rows.assocNoneSpec.vars) = true := by kernel_rfl
theorem assocNone_k5 : ((Rows.assocNoneRow.stops == [])) = true := by kernel_rfl
theorem assocNone_k6 : ((Tryz.prog.stops == [])) = true := by kernel_rfl
theorem assocNone_k7 : ((Rows.assocNoneRow.knobs == [])) = true := by kernel_rfl
theorem assocNone_k8 : ((Tryz.prog.stopKnobs == [])) = true := by kernel_rfl
theorem assocNone_k9 : ((Rows.assocNoneRow.inPlace == Tryz.prog.inPlace 8)) = true := by kernel_rfl
theorem assocNone_k10 : ((Rows.assocNoneRow.unfollowed == Tryz.prog.unfollowed 8)) = true := by kernel_rfl
theorem assocNone_k11 : ((Rows.assocNoneRow.recurses == Tryz.prog.recurses 8)) = true := by kernel_rfl
theorem assocNone_k12 : ((Rows.assocNoneRow.named == Tryz.prog.varsNamed 8)) = true := by kernel_rfl
theorem assocNone_k13 : ((Rows.assocNoneRow.maps == (Tryz.f8.params.toList ++ Rows.assocNoneSpec.plain.varTypes Tryz.prog).any (Tryz.prog.mapsRec ·))) = true := by kernel_rfl
theorem assocNone_k14 : ((Rows.assocNoneRow.ifaces == (Tryz.f8.params.toList ++ Rows.assocNoneSpec.plain.varTypes Tryz.prog).any (Tryz.prog.ifacesRec ·))) = true := by kernel_rfl
theorem assocNone_k15 : ((Rows.assocNoneRow.mapsOut == Tryz.prog.mapsAmong Tryz.f8.resultTypes.toList)) = true := by kernel_rfl
theorem assocNone_k16 : ((Rows.assocNoneRow.loops == (Tryz.f8.params.toList ++ Rows.assocNoneSpec.plain.varTypes Tryz.prog).any (Tryz.prog.loopsFrom ·))) = true := by kernel_rfl
theorem assocNone_k17 : ((Rows.assocNoneRow.wideKeys == (Tryz.f8.params.toList ++ Rows.assocNoneSpec.plain.varTypes Tryz.prog ++ Tryz.f8.resultTypes.toList).any (Tryz.prog.wideKeysFrom ·))) = true := by kernel_rfl
theorem assocNone_k18 : (Rows.assocNoneSpec.vars.all (Tryz.prog.varReadable ·)) = true := by kernel_rfl
theorem assocNone_k19 : (Tryz.f8.resultTypes.all (fun t => Tryz.prog.readableRec t && decide (t < Tryz.prog.types.size))) = true := by kernel_rfl
theorem assocNone_k20 : ((Rows.assocNoneRow.ifacesOut == Tryz.f8.resultTypes.toList.any (Tryz.prog.ifacesRec ·))) = true := by kernel_rfl
theorem assocNone_k21 : ((Rows.assocNoneRow.loopsOut == Tryz.f8.resultTypes.toList.any (Tryz.prog.loopsFrom ·))) = true := by kernel_rfl
theorem assocNone_k22 : ((Rows.assocNoneRow.plainKeys == Tryz.prog.plainKeys)) = true := by kernel_rfl
theorem assocNone_k23 : (Rows.assocNoneRow.shortTexts.isNone) = true := by kernel_rfl
theorem assocNone_k24 : (Tryz.prog.stopsHeard) = true := by kernel_rfl
theorem assocNone_k25 : (Tryz.prog.mayEnter) = true := by kernel_rfl
theorem assocNone_k26 : ((Rows.assocNoneRow.lifted == Tryz.prog.liftsFinal)) = true := by kernel_rfl
theorem assocNone_k27 : ((Tryz.prog.make == some Rows.assocNoneRow.make)) = true := by kernel_rfl
theorem assocNone_k28 : ((Rows.assocNoneRow.kinds == (if Rows.assocNoneRow.domain.isEmpty then [] else Tryz.f8.params.toList.map fun t => match Tryz.prog.underlying t with | some (.int k) => some k | _ => none))) = true := by kernel_rfl
theorem assocNone_k29 : ((Rows.assocNoneRow.pinned == Rows.assocNoneRow.pinnedBy)) = true := by kernel_rfl
theorem assocNone_k30 : ((Rows.assocNoneRow.veiled == (Tryz.f8.params.toList ++ Rows.assocNoneSpec.plain.varTypes Tryz.prog ++ Tryz.f8.resultTypes.toList).any (Tryz.prog.veiledRec ·))) = true := by kernel_rfl
theorem assocNone_k31 : (Rows.assocNoneRow.veiledFits Tryz.prog Tryz.f8.params.toList (Tryz.f8.params.toList ++ Rows.assocNoneSpec.plain.varTypes Tryz.prog ++ Tryz.f8.resultTypes.toList)) = true := by kernel_rfl
set_option maxRecDepth 100000 in
theorem assocNone_closed : joinedFacts Tryz.prog 8 Tryz.f8 Rows.assocNoneSpec Rows.assocNoneRow = true := by
  unfold joinedFacts
  exact (and2 (and2 (and2 (and2 (and2 (and2 (and2 (and2 (and2 (and2 (and2 (and2 (and2 (and2 (and2 (and2 (and2 (and2 (and2 (and2 (and2 (and2 (and2 (and2 (and2 (and2 (and2 (and2 (and2 (and2 (and2 assocNone_k0 laidOut) assocNone_k2) assocNone_k3) assocNone_k4) assocNone_k5) assocNone_k6) assocNone_k7) assocNone_k8) assocNone_k9) assocNone_k10) assocNone_k11) assocNone_k12) assocNone_k13) assocNone_k14) assocNone_k15) assocNone_k16) assocNone_k17) assocNone_k18) assocNone_k19) assocNone_k20) assocNone_k21) assocNone_k22) assocNone_k23) assocNone_k24) assocNone_k25) assocNone_k26) assocNone_k27) assocNone_k28) assocNone_k29) assocNone_k30) assocNone_k31)
theorem assocNone_over : Rows.assocNoneRow.holds Tryz.pinned (OpenSpec.ofChange Rows.assocNoneSpec) :=
  OpenClaim.holds_of_wide 8 Tryz.f8 rfl rfl rfl rfl rfl rfl rfl ⟨rfl, rfl, rfl, rfl, rfl⟩ rfl rfl rfl rfl rfl (by kernel_rfl) Tryz.func8 assocNone_closed
    (of_decide_eq_true (by kernel_rfl)) (by unfold Func.isWrapper; first | (rw [if_pos (by decide +kernel)]; kernel_rfl) | (rw [if_neg (by decide +kernel)]; exact ⟨rfl, rfl⟩))
    (fun os started H enc _ => assocNone_lifted os started H enc)
theorem assocNone_holds : Rows.AssocNoneSaid := assocNone_over
end Go.Proofs.YtmnhkjbplfkpfaaGreat
#print axioms Go.Proofs.YtmnhkjbplfkpfaaGreat.assocNone_holds

