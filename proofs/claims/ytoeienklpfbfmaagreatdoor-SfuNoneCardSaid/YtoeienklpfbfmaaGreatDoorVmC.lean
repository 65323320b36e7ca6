/- Part of a proof by an abstract run of the program's code: VmC. No condition. -/
import Derived.RangeFuncIn
import Derived.RangeFuncLeaves
import Derived.Scope
import Derived.OrdersIn
import Derived.Below
import Derived.Test.YtoeienklpfbfmaaGreatDoorVmB
/-! Code: what the abstract run does with it, the model's does. -/
set_option linter.unusedVariables false
namespace Vm
open Go

def exitOf : Ex → Exit
  | .normal => .normal
  | .exit id => .exit id
  | .ret => .ret
  | .goto l => .goto l
section
variable {P : Program} {w w' : World} {ρ σ : Ren} {B M : Nat} {x : G} {h h' : Heap}

/-- the post of a piece of code -/
def CPost (ρ : Ren) (B M : Nat) (x : G) (nt S : Nat) (h h' : Heap) (w : World) (a' : Fr) (q : Act → World → Prop) : Prop :=
  ∀ σ w' act', After ρ σ B M x h h' w w' → FR nt σ a' act'.tmps → Mk S σ w' act'.defers → q act' w'
theorem sim_items {nt : Nat} {ro : Option Nat} {ops : Array Oper} {rec : Rec} (hrec : RecOK P B rec) {Q : Exit → Act → World → Prop} {a' : Fr} : ∀ (m k : Nat), k + m = ops.size → ∀ {ρ a h w} {act : Act}, runItems rec ((ops.toList.drop k).map (denItem P nt ops.toList)) a h = .mk a' h' →
    Tie ρ B M x h w → FR nt ρ a act.tmps → h'.next ≤ M → Post ρ B M x nt h h' w a' act (Q .normal) → wpOpsIn (FW ro) 0 P ops Q (List.range' k m) act w
  | 0, k, hk, ρ, a, h, w, act, hr, T, hf, hM, hp => by
    rw [List.drop_eq_nil_of_le (by simp; omega)] at hr
    cases hr
    exact hp ρ w act (After.refl T) hf rfl
  | m + 1, k, hk, ρ, a, h, w, act, hr, T, hf, hM, hp => by
    have hlt : k < ops.toList.length := by simp; omega
    rw [List.drop_eq_getElem_cons hlt, List.map_cons, runItems_cons] at hr
    split at hr
    · cases hr
    · rename_i a1 h1 he
      have hM1 : h1.next ≤ M := Nat.le_trans (runItems_mono hrec.mono hr) hM
      have hget : ops[k]? = some ops.toList[k] := by simp at hlt; simp [hlt]
      rw [List.range'_succ]
      simp only [wpOpsIn, hget]
      refine sim_item (ops := ops) hrec he T hf hM1 fun σ w' act' A hf' hd => ?_
      exact sim_items hrec m (k + 1) (by omega) hr (A.tie T hM1) hf' hM fun τ w'' act'' A' hf'' hd' => hp τ w'' act'' (A.trans A') hf'' (hd'.trans hd)
theorem sim_region {nt : Nat} {ro : Option Nat} {id : Nat} {ops : Array Oper} {rec : Rec} (hrec : RecOK P B rec) {Q : Exit → Act → World → Prop} {a a' : Fr} {n : Nat} {e : Ex} {act : Act}
    (hr : (sRegion (ops.toList.map (denItem P nt ops.toList))).f rec n a h = .mk e a' h') (T : Tie ρ B M x h w) (hf : FR nt ρ a act.tmps) (hM : h'.next ≤ M) (hp : Post ρ B M x nt h h' w a' act (Q (exitOf e))) :
    (Code.region id ops false).wpIn (FW ro) 0 P Q act w := by
  simp only [sRegion] at hr
  split at hr
  · cases hr
  · rename_i a1 h1 he
    cases hr
    refine wpIn_region ?_
    rw [List.range_eq_range']
    exact sim_items hrec ops.size 0 (by omega) (by simpa using he) T hf hM hp
/-- what is asked of regions whose order is open -/
def DrawOK (P : Program) (B : Nat) : Prop :=
  ∀ {nt : Nat} {ro : Option Nat} {id : Nat} {ops : Array Oper} {rec : Rec} {Q : Exit → Act → World → Prop} {a a' : Fr} {n : Nat} {e : Ex} {act : Act} {ρ : Ren} {M : Nat} {x : G} {h h' : Heap} {w : World}, RecOK P B rec →
    (denDraw P nt ops).f rec n a h = .mk e a' h' → Tie ρ B M x h w → FR nt ρ a act.tmps → h'.next ≤ M → Post ρ B M x nt h h' w a' act (Q (exitOf e)) →
    (Code.region id ops true).wpIn (FW ro) 0 P Q act w
/-- a loop, by the number of its rounds -/
def LoopN (F : Fence) (n : Nat) (P : Program) (c : Code) (Q : Exit → Act → World → Prop) : Nat → Act → World → Prop
  | 0, _, _ => False
  | m + 1, a, w => c.wpIn F n P (Exit.then (LoopN F n P c Q m) Q) a w
theorem least {p : Nat → Prop} (h : ∃ m, p m) : ∃ m, p m ∧ ∀ k, p k → m ≤ k := by
  obtain ⟨m, hm⟩ := h
  induction m using Nat.strongRecOn with
  | _ m ih =>
    by_cases hk : ∃ k, k < m ∧ p k
    · obtain ⟨k, h1, h2⟩ := hk
      exact ih k h1 h2
    · refine ⟨m, hm, fun k hp => ?_⟩
      rcases Nat.lt_or_ge k m with h | h
      · exact (hk ⟨k, h, hp⟩).elim
      · exact h
theorem wpIn_loopN {F : Fence} {n : Nat} {P : Program} {c : Code} {Q : Exit → Act → World → Prop} {m : Nat} {a : Act} {w : World} (hl : LoopN F n P c Q m a w) : (Code.loop c).wpIn F n P Q a w := by
  classical
  let μ : Act → World → Nat := fun a w => if h : ∃ m, LoopN F n P c Q m a w then Classical.choose (least h) else 0
  have hmu : ∀ {a w} (h : ∃ m, LoopN F n P c Q m a w), μ a w = Classical.choose (least h) := fun h => dif_pos h
  refine wpIn_loop (I := fun a w => ∃ m, LoopN F n P c Q m a w) (μ := μ) ⟨m, hl⟩ fun a w hI => ?_
  obtain ⟨h1, h2⟩ := Classical.choose_spec (least hI)
  have hma := hmu hI
  cases hm : Classical.choose (least hI) with
  | zero => rw [hm] at h1; exact h1.elim
  | succ k =>
    rw [hm] at h1
    refine wpIn_mono h1 fun e a' w' hq => ?_
    cases e with
    | normal =>
      have hI' : ∃ m, LoopN F n P c Q m a' w' := ⟨k, hq⟩
      refine ⟨hI', ?_⟩
      rw [hmu hI', hma, hm]
      exact Nat.lt_succ_of_le ((Classical.choose_spec (least hI')).2 k hq)
    | _ => exact hq
/-- another thing in the world -/
theorem HR.more {g : G} (H : HR ρ B g w) (o : Obj) : HR ρ B g (w.alloc o) :=
  ⟨fun b i hb => let ⟨y, hy, hr⟩ := H.blk b i hb; ⟨y, hy, hr.mono (Ren.le_refl _) (fun _ => heap_alloc_ne w o (H.size b i hb))⟩, H.apart, fun b i hb => by rw [World.size_alloc]; have := H.size b i hb; omega, by rw [World.size_alloc]; have := H.base; omega⟩
theorem HR.free {g : G} (H : HR ρ B g w) {r : Nat} (hf : Free ρ r) (o : Obj) : HR ρ B g (setBlk w r o) :=
  ⟨fun b i hb => let ⟨y, hy, hr⟩ := H.blk b i hb; ⟨y, hy, hr.mono (Ren.le_refl _) (fun _ => setBlk_ne w o (hf b i hb))⟩, H.apart, fun b i hb => by simpa [setBlk] using H.size b i hb, by simpa [setBlk] using H.base⟩
theorem run_setLoop {k : Nat} {l : Loop} (o : Obj) (h : w.heap[k]? = some (.loop l)) : (setObj k o).run P w = .ok () (setBlk w k o) := by
  simp [setObj, Sem.run, h]
  rfl
/-- a loop's block -/
theorem Tie.loop (T : Tie ρ B M x h w) {b : Nat} {i : Inf} (hi : ρ b = some i) {nt : Nat} {ps : List Tmp} {s bd : Code} {a : Fr} {st : LoopState} {p : Option Code} (hg : h.get b = some (.loop nt ps s bd a st p)) :
    B ≤ i.r ∧ i.c = false ∧ ∃ l, w.heap[i.r]? = some (.loop l) ∧ LoopR ρ nt ps s bd a st p l := by
  obtain ⟨y, hy, hr⟩ := T.hr.blk b i hi
  rw [T.get hg] at hy
  cases hy
  exact hr
/-- a loop's state is set -/
theorem Tie.setLoop (T : Tie ρ B M x h w) {b : Nat} {i : Inf} (hi : ρ b = some i) {nt : Nat} {ps : List Tmp} {s bd : Code} {a : Fr} {st st' : LoopState} {p p' : Option Code} (hg : h.get b = some (.loop nt ps s bd a st p))
    {l l' : Loop} (hl : w.heap[i.r]? = some (.loop l)) (hl' : LoopR ρ nt ps s bd a st' p' l') :
    After ρ ρ B M x h (h.put b (.loop nt ps s bd a st' p')) w (setBlk w i.r (.loop l')) := by
  obtain ⟨hB, hc, _⟩ := T.loop hi hg
  have hlt := T.hr.size b i hi
  refine ⟨Grew.refl _ _ _ _ _, Kept.put hi hB rfl rfl rfl (fun k hk => setBlk_ne w _ hk) (by simp [setBlk]), HeapKept.put T.wf hi (Heap.get_lt T.wf hg) _, ?_⟩
  rw [mix_put (T.lt hg)]
  exact T.hr.put hi (T.get hg) rfl (fun k hk => setBlk_ne w _ hk) (by simp [setBlk]) ⟨hB, hc, l', setBlk_self w _ hlt, hl'⟩
/-- 'for .. := range f' -/
theorem sim_range {nt S : Nat} {f : Operand} {ps : Array Tmp} {s bd : Code} {rec : Rec} (hrec : RecOK P B rec) {Q : Exit → Act → World → Prop} {a a' : Fr} {n : Nat} {e : Ex} {act : Act}
    (hr : (sRangeFunc nt (evB f) ps.toList s bd).f rec n a h = .mk e a' h') (hof : okX nt f = true) (hps : ∀ t ∈ ps.toList, t < nt) (T : Tie ρ B M x h w) (hf : FR nt ρ a act.tmps) (hM : h'.next ≤ M) (hmk : Mk S ρ w act.defers) (hS : S ≤ w.heap.size)
    (hp : CPost ρ B M x nt S h h' w a' (Q (exitOf e))) : (Code.rangeFunc f ps s bd).wpIn (FW none) 0 P Q act w := by
  simp only [sRangeFunc] at hr
  split at hr
  · rename_i g first cap hfv
    split at hr
    · rename_i v h2 hc
      have m2 := hrec.mono _ _ _ _ hc
      rw [Heap.next_new] at m2
      have hM2 : h2.next ≤ M := by
        split at hr
        · split at hr
          · cases hr
          · split at hr
            · cases hr; exact hM
            · split at hr
              · cases hr; exact hM
              · cases hr; exact hM
              · cases hr
        · cases hr
      have hfE := hf.eval hof
      rw [hfv] at hfE
      obtain ⟨first', cap', e1, g1, g2⟩ := hfE.func_inv
      refine wpIn_rangeFunc fun fn _ => ?_
      -- the world with the deferred calls' block and the loop's record
      let lo : Loop := { state := .ready, pending := none, fn := fn, tmps := act.tmps, params := ps, assign := s, body := bd, defers := w.heap.size }
      let w1 := w.alloc (.deferred (some []))
      let w2 := w1.alloc (.loop lo)
      have hb : ρ h.next = none := T.gap h.next (Nat.le_refl _) (by omega)
      let i : Inf := ⟨w.heap.size + 1, 0, 0, false⟩
      have hs1 : w1.heap.size = w.heap.size + 1 := World.size_alloc _ _
      have hBlk : BlkR (ρ.with h.next i) B w2 i (.loop nt ps.toList s bd a .ready none) := by
        refine ⟨by have := T.hr.base; show B ≤ w.heap.size + 1; omega, rfl, lo, ?_, rfl, rfl, rfl, rfl, rfl, hf.mono (Ren.le_with ρ i hb), hps⟩
        show (w1.alloc (.loop lo)).heap[w.heap.size + 1]? = _
        rw [heap_alloc, hs1, if_pos rfl]
      have A0 : After ρ (ρ.with h.next i) B M x h (h.new (.loop nt ps.toList s bd a .ready none)) w w2 := by
        have hlt : h.next < (h.new (.loop nt ps.toList s bd a .ready none)).next := Nat.lt_succ_self _
        have hir : i.r = w1.heap.size := hs1.symm
        refine ⟨⟨Ren.le_with ρ i hb, fun b j hbj hrb => ?_⟩, (Kept.new ρ T.hr.base _).trans (Grew.refl ρ 0 0 _ _) (Kept.new (w := w1) ρ (by rw [hs1]; have := T.hr.base; omega) _), HeapKept.new T.wf _, ?_⟩
        · unfold Ren.with at hbj
          by_cases hbn : b = h.next
          · subst hbn
            rw [if_pos rfl] at hbj
            cases hbj
            exact ⟨Nat.le_refl _, hlt, by show w.heap.size + 1 < (w1.alloc _).heap.size; rw [World.size_alloc, hs1]; omega, .inl (by show w.heap.size ≤ w.heap.size + 1; omega)⟩
          · rw [if_neg hbn, hrb] at hbj; cases hbj
        · rw [mix_new (by omega)]
          exact (T.hr.more (.deferred (some []))).new hb (.loop lo) i hir _ hBlk
      have T1 := A0.tie T (by rw [Heap.next_new]; omega)
      have hargs : VRs (ρ.with h.next i) (first.toList ++ [Value.func (.yield h.next) #[] #[]] ++ cap.toList) (first' ++ #[Value.func (.yield (w.heap.size + 1)) #[] #[]] ++ cap').toList := by
        have hy : VRs (ρ.with h.next i) [Value.func (.yield h.next) #[] #[]] [Value.func (.yield i.r) #[] #[]] := .cons (.yield (Ren.with_self _ _ _) .nil .nil) .nil
        simpa using ((g1.mono (Ren.le_with ρ i hb)).append hy).append (g2.mono (Ren.le_with ρ i hb))
      refine ⟨w.heap.size + 1, [mkD w.heap.size], w2, { target := .fn (.func g) cap', args := first' ++ #[Value.func (.yield (w.heap.size + 1)) #[] #[]] }, w2, g, first' ++ #[Value.func (.yield (w.heap.size + 1)) #[] #[]] ++ cap', w2, ?_, ?_, fun _ _ => trivial, ?_, fun h => by simp [FW, Fence.wide] at h, ?_⟩
      · have hn : ∀ (u : World) (o : Obj), (newObj o).run P u = .ok u.heap.size (u.alloc o) := fun _ _ => rfl
        simp only [FW, Instr.enterLoop, Sem.run_bind, hn, Result.andThen_ok, Sem.run_pure]
        show Result.ok (w1.heap.size, _) _ = _
        rw [hs1]
        rfl
      · simp only [resolve, e1, Deferred.ofValue, Sem.run_pure]
        simp [Act.eval]
      · exact callFunc_run (hrec.call hc).1 _
      · refine CallsIn.mono (show CallsIn (FW none) 0 P g _ w2 _ from (hrec.call hc).2 T1 hM2 hargs) fun e2 w3 hR => ?_
        obtain ⟨v', σ, rfl, A1, _⟩ := hR
        have T2 := A1.tie T1 hM2
        have hi : σ h.next = some i := A1.grew.le _ _ (Ren.with_self _ _ _)
        -- the marks
        have hmk1 : Mk S (ρ.with h.next i) w2 (mkD w.heap.size :: act.defers) := by
          obtain ⟨rs, e3, nd, hrs⟩ := hmk.after A0
          refine ⟨w.heap.size :: rs, by rw [e3]; rfl, ?_, ?_⟩
          · rw [List.nodup_cons]
            refine ⟨fun hm => ?_, nd⟩
            obtain ⟨rs0, e4, _, hrs0⟩ := hmk
            have : rs0 = rs := by
              have hinj : ∀ {l k : List Nat}, l.map mkD = k.map mkD → l = k := by
                intro l
                induction l with
                | nil => intro k h; cases k with | nil => rfl | cons _ _ => cases h
                | cons p l ih =>
                  intro k h
                  cases k with
                  | nil => cases h
                  | cons q k =>
                    simp only [List.map_cons, List.cons.injEq] at h
                    have : p = q := by have := h.1; simp [mkD] at this; exact this
                    rw [this, ih h.2]
              exact hinj (e4.symm.trans e3)
            subst this
            exact absurd (hrs0 _ hm).2.1 (Nat.lt_irrefl _)
          · intro r hr
            rcases List.mem_cons.1 hr with rfl | hr
            · refine ⟨hS, by show w.heap.size < (w1.alloc _).heap.size; rw [World.size_alloc, hs1]; omega, ?_, ?_⟩
              · intro b j hbj
                unfold Ren.with at hbj
                by_cases hbn : b = h.next
                · rw [if_pos hbn] at hbj; cases hbj; show w.heap.size + 1 ≠ w.heap.size; omega
                · rw [if_neg hbn] at hbj; have := T.hr.size b j hbj; omega
              · show (w1.alloc (.loop lo)).heap[w.heap.size]? = _
                rw [heap_alloc, hs1, if_neg (by omega)]
                show (w.alloc _).heap[w.heap.size]? = _
                rw [heap_alloc, if_pos rfl]
            · exact hrs r hr
        have hmk2 := hmk1.after A1
        split at hr
        · rename_i nt2 ps2 s2 b2 a2 st p hg
          obtain ⟨_, _, l, hl1, hl2⟩ := T2.loop hi hg
          split at hr
          · cases hr
          · rename_i hst
            have hnb : (l.state == .busy) = false := by
              rw [hl2.1]
              cases st <;> first | rfl | (exact absurd rfl (fun h => hst h))
            have hend : (Instr.endLoop (w.heap.size + 1)).run P w3 = .ok p (setBlk w3 i.r (.loop { l with state := .exhausted })) := by
              have hl1' : w3.heap[w.heap.size + 1]? = some (.loop l) := hl1
              simp only [Instr.endLoop, Instr.getLoop, Sem.run_bind, run_getLoop hl1', Result.andThen_ok, Sem.run_pure, hnb, Bool.false_eq_true, if_false, run_setLoop _ hl1', hl2.2.1]
              rfl
            have A2 := T2.setLoop hi hg hl1 (st' := .exhausted) (p' := p) (l' := { l with state := .exhausted }) ⟨rfl, hl2.2.1, hl2.2.2⟩
            have fin : ∀ ex, Out.mk ex a (h2.put h.next (.loop nt2 ps2 s2 b2 a2 .exhausted p)) = .mk e a' h' → Q (exitOf ex) { act with defers := mkD w.heap.size :: act.defers } (setBlk w3 i.r (.loop { l with state := .exhausted })) := by
              intro ex hex
              cases hex
              have A3 := (A0.trans A1).trans A2
              exact hp σ _ { act with defers := mkD w.heap.size :: act.defers } A3 (hf.mono A3.grew.le) (hmk2.after A2)
            refine ⟨p, _, hend, ?_⟩
            split at hr
            · exact fin _ hr
            · split at hr
              · exact wpIn_exit (fin _ hr)
              · exact wpIn_ret (fin _ hr)
              · cases hr
        · cases hr
    · cases hr
  · cases hr
end
end Vm

/-! Code, functions, rounds. -/
set_option linter.unusedVariables false
namespace Vm
open Go
section
variable {P : Program} {w w' : World} {ρ σ : Ren} {B M : Nat} {x : G} {h h' : Heap}

theorem loop_sound {nt S : Nat} {ro : Option Nat} {c : Code} {xf : Fr → Heap → Out} (hmono : ∀ a h e a' h', xf a h = .mk e a' h' → h.next ≤ h'.next)
    (hc : ∀ {Q : Exit → Act → World → Prop} {a a' e act ρ h h' w}, xf a h = .mk e a' h' → Tie ρ B M x h w → FR nt ρ a act.tmps → Mk S ρ w act.defers → S ≤ w.heap.size → h'.next ≤ M → CPost ρ B M x nt S h h' w a' (Q (exitOf e)) → c.wpIn (FW ro) 0 P Q act w) :
    ∀ (n : Nat) {Q : Exit → Act → World → Prop} {a a' e act ρ h h' w}, loopGo xf n a h = .mk e a' h' → Tie ρ B M x h w → FR nt ρ a act.tmps → Mk S ρ w act.defers → S ≤ w.heap.size → h'.next ≤ M → CPost ρ B M x nt S h h' w a' (Q (exitOf e)) → LoopN (FW ro) 0 P c Q n act w
  | 0, Q, a, a', e, act, ρ, h, h', w, hr, _, _, _, _, _, _ => by cases hr
  | n + 1, Q, a, a', e, act, ρ, h, h', w, hr, T, hf, hm, hS, hM, hp => by
    rw [loopGo_succ] at hr
    split at hr
    · cases hr
    · rename_i e1 a1 h1 he
      split at hr
      · have hM1 : h1.next ≤ M := Nat.le_trans (loop_mono hmono _ _ _ _ _ _ hr) hM
        refine hc he T hf hm hS hM1 fun σ w' act' A hf' hm' => ?_
        show LoopN (FW ro) 0 P c Q n act' w'
        exact loop_sound hmono hc n hr (A.tie T hM1) hf' hm' (Nat.le_trans hS A.kept.size) hM fun τ w'' act'' A' hf'' hm'' => hp τ w'' act'' (A.trans A') hf'' hm''
      · rename_i hne
        cases hr
        refine hc he T hf hm hS hM fun σ w' act' A hf' hm' => ?_
        cases e with
        | normal => exact (hne rfl).elim
        | _ => exact hp σ w' act' A hf' hm'
theorem sim_code (hdraw : DrawOK P B) {nt S : Nat} {ro : Option Nat} {rec : Rec} (hrec : RecOK P B rec) {n : Nat} {ir : Bool} (hir : ir = true ∨ ro = none) (c : Code) : ∀ {Q : Exit → Act → World → Prop} {a a' e act ρ h h' w},
    (den0 P nt ir c).f rec n a h = .mk e a' h' → Tie ρ B M x h w → FR nt ρ a act.tmps → Mk S ρ w act.defers → S ≤ w.heap.size → h'.next ≤ M → CPost ρ B M x nt S h h' w a' (Q (exitOf e)) → c.wpIn (FW ro) 0 P Q act w := by
  have done : ∀ {Q : Exit → Act → World → Prop} {a a' e e' act ρ h h' w}, Out.mk e' a h = .mk e a' h' → Tie ρ B M x h w → FR nt ρ a act.tmps → Mk S ρ w act.defers → CPost ρ B M x nt S h h' w a' (Q (exitOf e)) → Q (exitOf e') act w := by
    intro Q a a' e e' act ρ h h' w hr T hf hm hp
    cases hr
    exact hp ρ w act (After.refl T) hf hm
  have reg : ∀ {Q : Exit → Act → World → Prop} {a' e act ρ h h' w}, Mk S ρ w act.defers → CPost ρ B M x nt S h h' w a' (Q (exitOf e)) → Post ρ B M x nt h h' w a' act (Q (exitOf e)) := by
    intro Q a' e act ρ h h' w hm hp σ w' act' A hf hd
    exact hp σ w' act' A hf (by rw [hd]; exact hm.after A)
  induction c with
  | skip => intro Q a a' e act ρ h h' w hr T hf hm hS hM hp; exact wpIn_skip (done (e' := .normal) hr T hf hm hp)
  | label l => intro Q a a' e act ρ h h' w hr T hf hm hS hM hp; exact wpIn_label (done (e' := .normal) hr T hf hm hp)
  | exit id => intro Q a a' e act ρ h h' w hr T hf hm hS hM hp; exact wpIn_exit (done (e' := .exit id) hr T hf hm hp)
  | goto l => intro Q a a' e act ρ h h' w hr T hf hm hS hM hp; exact wpIn_goto (done (e' := .goto l) hr T hf hm hp)
  | ret => intro Q a a' e act ρ h h' w hr T hf hm hS hM hp; exact wpIn_ret (done (e' := .ret) hr T hf hm hp)
  | region id ops draw =>
    intro Q a a' e act ρ h h' w hr T hf hm hS hM hp
    cases draw with
    | false => exact sim_region hrec hr T hf hM (reg hm hp)
    | true => exact hdraw hrec hr T hf hM (reg hm hp)
  | seq p q ihp ihq =>
    intro Q a a' e act ρ h h' w hr T hf hm hS hM hp
    simp only [den0, sSeq] at hr
    split at hr
    · cases hr
    · rename_i e1 a1 h1 he
      refine wpIn_seq ?_
      split at hr
      · have hM1 : h1.next ≤ M := Nat.le_trans (code_mono P nt ir q rec hrec.mono _ _ _ _ _ _ hr) hM
        refine ihp he T hf hm hS hM1 fun σ w' act' A hf' hm' => ?_
        exact ihq hr (A.tie T hM1) hf' hm' (Nat.le_trans hS A.kept.size) hM fun τ w'' act'' A' hf'' hm'' => hp τ w'' act'' (A.trans A') hf'' hm''
      · rename_i hne
        cases hr
        refine ihp he T hf hm hS hM fun σ w' act' A hf' hm' => ?_
        cases e with
        | normal => exact (hne rfl).elim
        | _ => exact hp σ w' act' A hf' hm'
  | cond c p q ihp ihq =>
    intro Q a a' e act ρ h h' w hr T hf hm hS hM hp
    simp only [den0] at hr
    cases hb : okX nt c <;> simp only [hb, cond_true, cond_false] at hr
    · cases hr
    · simp only [sCond] at hr
      split at hr
      · rename_i b hcb
        have hv := hf.eval hb
        rw [hcb] at hv
        refine wpIn_cond hv.bool ?_
        cases b
        · exact ihq hr T hf hm hS hM hp
        · exact ihp hr T hf hm hS hM hp
      · cases hr
  | block id b ih =>
    intro Q a a' e act ρ h h' w hr T hf hm hS hM hp
    simp only [den0, sBlock] at hr
    split at hr
    · cases hr
    · rename_i e1 a1 h1 he
      refine wpIn_block ?_
      split at hr
      · rename_i i
        cases hb : Nat.beq i id <;> simp only [hb, cond_true, cond_false] at hr
        · cases hr
          refine ih he T hf hm hS hM fun σ w' act' A hf' hm' => ?_
          have hne : i ≠ id := fun e => by subst e; simp at hb
          show (if i = id then _ else _)
          rw [if_neg hne]
          exact hp σ w' act' A hf' hm'
        · cases hr
          refine ih he T hf hm hS hM fun σ w' act' A hf' hm' => ?_
          show (if i = id then _ else _)
          rw [if_pos (Nat.eq_of_beq_eq_true hb)]
          exact hp σ w' act' A hf' hm'
      · rename_i hne
        cases hr
        refine ih he T hf hm hS hM fun σ w' act' A hf' hm' => ?_
        cases e with
        | exit i => exact (hne i rfl).elim
        | _ => exact hp σ w' act' A hf' hm'
  | loop b ih =>
    intro Q a a' e act ρ h h' w hr T hf hm hS hM hp
    simp only [den0, sLoop] at hr
    exact wpIn_loopN (loop_sound (fun a h e a' h' hh => code_mono P nt ir b rec hrec.mono _ _ _ _ _ _ hh) ih n hr T hf hm hS hM hp)
  | rangeFunc f ps s b ihs ihb =>
    intro Q a a' e act ρ h h' w hr T hf hm hS hM hp
    simp only [den0] at hr
    cases hb : (!ir && okX nt f && ps.toList.all (fun t => Nat.blt t nt)) <;> simp only [hb, cond_true, cond_false] at hr
    · cases hr
    · simp only [Bool.and_eq_true, Bool.not_eq_true', List.all_eq_true] at hb
      rcases hir with h1 | h1
      · rw [h1] at hb; cases hb.1.1
      · subst h1
        exact sim_range hrec hr hb.1.2 (fun t ht => by simpa using hb.2 t ht) T hf hM hm hS hp
  | scope b ih => intro Q a a' e act ρ h h' w hr; cases hr
  | refuse why => intro Q a a' e act ρ h h' w hr; cases hr
/-- a scope, by the number of jumps -/
def ScopeN (P : Program) (b : Code) (Q : Exit → Act → World → Prop) : Nat → Code → Act → World → Prop
  | 0, _, _, _ => False
  | m + 1, c, a, w => c.wp P (fun e a w => match e with
    | .goto l => ∃ r, findLabel b l = some r ∧ ScopeN P b Q m r a w
    | e => Q e a w) a w
theorem wp_scopeN {b : Code} {Q : Exit → Act → World → Prop} {m : Nat} {a : Act} {w : World} (hs : ScopeN P b Q m b a w) : (Code.scope b).wp P Q a w := by
  have key : ∀ (m : Nat) (c : Code) (a : Act) (w : World), ScopeN P b Q m c a w → ∀ (f : Frame) (k : List Item) (cs : List Frame), ∃ e a' w', Q e a' w' ∧ Arrives P (lone (f.at a (.code c :: .inScope b :: k)) cs w) f k cs e a' w' := by
    intro m
    induction m with
    | zero => intro c a w h; exact h.elim
    | succ m ih =>
      intro c a w h f k cs
      obtain ⟨e, a₁, w₁, hq, harr⟩ := h f (.inScope b :: k) cs
      cases e with
      | normal => exact ⟨.normal, a₁, w₁, hq, Steps.trans harr (.one step_inScope)⟩
      | exit id => exact ⟨.exit id, a₁, w₁, hq, fun k' hk => harr k' (by simp [exitTo, hk])⟩
      | goto l =>
        obtain ⟨r, hr, hS⟩ := hq
        have hg : gotoIn l (.inScope b :: k) = some (.code r :: .inScope b :: k) := by simp [gotoIn, hr]
        obtain ⟨e₂, a₂, w₂, hq₂, harr₂⟩ := ih r a₁ w₁ hS f k cs
        exact ⟨e₂, a₂, w₂, hq₂, .of_steps (harr _ hg) harr₂⟩
      | ret => exact ⟨_, a₁, w₁, hq, harr⟩
      | panic ch => exact ⟨_, a₁, w₁, hq, harr⟩
      | outgrown => exact ⟨_, a₁, w₁, hq, harr⟩
  intro f k cs
  obtain ⟨e, a', w', hq, harr⟩ := key m b a w hs f k cs
  exact ⟨e, a', w', hq, .of_steps (.one step_scope) harr⟩
theorem scope_sound (hdraw : DrawOK P B) {nt S : Nat} {rec : Rec} (hrec : RecOK P B rec) {n : Nat} {b : Code} : ∀ (m : Nat) (c : Code) {Q : Exit → Act → World → Prop} {a a' e act ρ h h' w},
    scopeGo P nt b rec n m c a h = .mk e a' h' → Tie ρ B M x h w → FR nt ρ a act.tmps → Mk S ρ w act.defers → S ≤ w.heap.size → h'.next ≤ M → CPost ρ B M x nt S h h' w a' (Q (exitOf e)) → ScopeN P b Q m c act w
  | 0, c, Q, a, a', e, act, ρ, h, h', w, hr, _, _, _, _, _, _ => by cases hr
  | m + 1, c, Q, a, a', e, act, ρ, h, h', w, hr, T, hf, hm, hS, hM, hp => by
    rw [scopeGo_succ] at hr
    split at hr
    · cases hr
    · rename_i e1 a1 h1 he
      refine wpIn_wide.1 (show c.wpIn (FW none) 0 P _ act w from ?_)
      split at hr
      · rename_i l
        split at hr
        · rename_i r hl
          have hM1 : h1.next ≤ M := by
            have : ∀ m c a h e a' h', scopeGo P nt b rec n m c a h = .mk e a' h' → h.next ≤ h'.next := by
              intro m
              induction m with
              | zero => intro c a h e a' h' hr; cases hr
              | succ m ih =>
                intro c a h e a' h' hr
                rw [scopeGo_succ] at hr
                split at hr
                · cases hr
                · rename_i e1 a1 h1 he
                  have h2 := code_mono P nt false c rec hrec.mono _ _ _ _ _ _ he
                  split at hr
                  · split at hr
                    · exact Nat.le_trans h2 (ih _ _ _ _ _ _ hr)
                    · cases hr
                  · cases hr; exact h2
            exact Nat.le_trans (this _ _ _ _ _ _ _ hr) hM
          refine sim_code hdraw hrec (.inr rfl) c he T hf hm hS hM1 fun σ w' act' A hf' hm' => ?_
          exact ⟨r, hl, scope_sound hdraw hrec m r hr (A.tie T hM1) hf' hm' (Nat.le_trans hS A.kept.size) hM fun τ w'' act'' A' hf'' hm'' => hp τ w'' act'' (A.trans A') hf'' hm''⟩
        · cases hr
      · rename_i hne
        cases hr
        refine sim_code hdraw hrec (.inr rfl) c he T hf hm hS hM fun σ w' act' A hf' hm' => ?_
        cases e with
        | goto l => exact (hne l rfl).elim
        | _ => exact hp σ w' act' A hf' hm'
theorem sim_den (hdraw : DrawOK P B) {nt S : Nat} {rec : Rec} (hrec : RecOK P B rec) {n : Nat} (c : Code) {Q : Exit → Act → World → Prop} {a a' : Fr} {e : Ex} {act : Act}
    (hr : (den P nt c).f rec n a h = .mk e a' h') (T : Tie ρ B M x h w) (hf : FR nt ρ a act.tmps) (hm : Mk S ρ w act.defers) (hS : S ≤ w.heap.size) (hM : h'.next ≤ M) (hp : CPost ρ B M x nt S h h' w a' (Q (exitOf e))) : c.wpIn (FW none) 0 P Q act w := by
  cases c with
  | scope b => exact wpIn_wide.2 (wp_scopeN (scope_sound hdraw hrec n b hr T hf hm hS hM hp))
  | _ => exact sim_code (ir := false) hdraw hrec (.inr rfl) _ hr T hf hm hS hM hp
end
end Vm

/-! Functions and rounds: the abstract run is sound. -/
set_option linter.unusedVariables false
namespace Vm
open Go
section
variable {P : Program} {w w' : World} {ρ σ : Ren} {B M : Nat} {x : G} {h h' : Heap}

noncomputable def frameGo (vs : List Value) : Nat → Fr → Fr := List.rec (motive := fun _ => Nat → Fr → Fr) (fun _ a => a) (fun v _ ih i a => ih (i + 1) ((put i).f v a)) vs
theorem frameGo_get : ∀ (vs : List Value) (i : Nat) (a : Fr), i + vs.length ≤ 512 → ∀ t, t < 512 → (sel t).f (frameGo vs i a) = if i ≤ t ∧ t < i + vs.length then vs.getD (t - i) Vm.undef else (sel t).f a
  | [], i, a, h, t, ht => by rw [if_neg (by simp)]; rfl
  | v :: vs, i, a, h, t, ht => by
    simp only [List.length_cons] at h ⊢
    show (sel t).f (frameGo vs (i + 1) ((put i).f v a)) = _
    rw [frameGo_get vs (i + 1) _ (by omega) t ht]
    by_cases h1 : i + 1 ≤ t ∧ t < i + 1 + vs.length
    · rw [if_pos h1, if_pos (by omega), show t - i = (t - (i + 1)) + 1 by omega]
      rfl
    · rw [if_neg h1, sel_put t i ht (by omega)]
      by_cases h2 : t = i
      · subst h2
        rw [if_pos rfl, if_pos (by omega), Nat.sub_self]
        rfl
      · rw [if_neg h2, if_neg (by omega)]
theorem frameOf_FR {args : List Value} {args' : Array Value} {nt : Nat} (hv : VRs ρ args args'.toList) (hn : args.length ≤ nt) (h5 : nt ≤ 512) :
    FR nt ρ (frameOf args) (args' ++ Array.replicate (nt - args'.size) Go.undef) := by
  have hl : args.length = args'.size := by simpa using hv.length
  refine ⟨by simp; omega, h5, fun t ht => ?_⟩
  show VR ρ ((sel t).f (frameGo args 0 fr0)) _
  rw [frameGo_get args 0 fr0 (by omega) t (by omega)]
  by_cases hc : t < args.length
  · rw [if_pos ⟨Nat.zero_le _, by omega⟩, Nat.sub_zero]
    obtain ⟨v', h1, h2⟩ := hv.get t args[t] (by simp [hc])
    have hv' : args'[t]? = some v' := by simpa using h1
    rw [Array.getD_eq_getD_getElem?, Array.getElem?_append_left (by omega), hv']
    simpa [List.getD, hc] using h2
  · rw [if_neg (by omega), sel_fr0 t (by omega), Array.getD_eq_getD_getElem?, Array.getElem?_append_right (by omega)]
    rw [Array.getElem?_replicate, if_pos (by omega)]
    exact .undef'
theorem setAll_FR {nt : Nat} : ∀ {ps : List Tmp} {args args' : List Value} {a : Fr} {ra : Array Value}, FR nt ρ a ra → VRs ρ args args' → args.length = ps.length → (∀ t ∈ ps, t < nt) →
    FR nt ρ (setAll ps args a) ((ps.zip args').foldl (fun tmps (p : Tmp × Value) => tmps.setIfInBounds p.1 p.2) ra)
  | [], args, args', a, ra, hf, hv, hl, hp => hf
  | t :: ps, [], args', a, ra, hf, hv, hl, hp => by simp at hl
  | t :: ps, v :: args, args', a, ra, hf, hv, hl, hp => by
    cases hv with
    | cons h1 h2 =>
      simp only [List.zip_cons_cons, List.foldl_cons]
      exact setAll_FR (hf.put (hp t (by simp)) h1) h2 (by simpa using hl) (fun t ht => hp t (by simp [ht]))
theorem rvs_cons (h : Heap) (a : Fr) (r : RV) (rs : List RV) : rvs h a (r :: rs) = match rv h a r with
  | none => none
  | some v => match rvs h a rs with | none => none | some vs => some (v :: vs) := rfl
def resOf (tmps : Array Value) : ResultVar → Go.Sem Value
  | .tmp t => pure (tmps.getD t Go.undef)
  | .cell c t => do loadVar t (← asAddr (tmps.getD c Go.undef))
theorem results_eq (fn : Func) (tmps : Array Value) : results fn tmps = (do let vs ← fn.results.mapM (resOf tmps); pure (if h : vs.size = 1 then vs[0] else .tuple vs)) := by
  unfold results
  congr 1
/-- what a result is -/
theorem sim_rv {g : G} (H : HR ρ B g w) (hle : G.le h.get g) {nt : Nat} {a : Fr} {tmps : Array Value} (hf : FR nt ρ a tmps) {r : ResultVar} (ho : okRV P nt r = true) {v : Value} (hv : rv h a (denRV P r) = some v) :
    ∃ v', (resOf tmps r).run P w = .ok v' w ∧ VR ρ v v' := by
  cases r with
  | tmp t =>
    simp only [denRV, rv, Option.some.injEq] at hv
    subst hv
    exact ⟨_, rfl, hf.2.2 t (by simpa [okRV] using ho)⟩
  | cell c t =>
    simp only [okRV, Bool.and_eq_true] at ho
    have hc : c < nt := by simpa using ho.1
    have hcv := hf.2.2 c hc
    obtain ⟨⟨b, n⟩, hag⟩ := Option.isSome_iff_exists.1 ho.2
    cases b with
    | true =>
      simp only [denRV, hag, rv] at hv
      split at hv
      · rename_i p hp
        rw [hp] at hcv
        obtain ⟨p', e, hp', _⟩ := hcv.ptr_inv
        split at hv
        · rename_i l hl
          cases hv
          obtain ⟨l', h1, h2, h3, h4, _⟩ := readN (P := P) H hp' (G.le_load hle hl)
          refine ⟨.agg l'.toArray, ?_, .agg (by simpa using h1) (by simpa using h2)⟩
          simp only [resOf, e]
          simp [asAddr, run_loadN hag h4]
        · cases hv
      · cases hv
    | false =>
      simp only [denRV, hag, rv] at hv
      split at hv
      · rename_i p hp
        rw [hp] at hcv
        obtain ⟨p', e, hp', _⟩ := hcv.ptr_inv
        have hv' : Vm.load1 g p = some v := by
          obtain ⟨e, cs, st, hg, hs, hc⟩ := load1_some hv
          unfold Vm.load1 at hv ⊢
          rw [hg] at hv
          rw [hle _ _ hg]
          exact hv
        obtain ⟨v', h1, h2, h3⟩ := read1 H hp' hv'
        refine ⟨v', ?_, h2⟩
        simp only [resOf, e]
        simp [asAddr, run_load1 hag h1]
      · cases hv
theorem sim_rvs {g : G} (H : HR ρ B g w) (hle : G.le h.get g) {nt : Nat} {a : Fr} {tmps : Array Value} (hf : FR nt ρ a tmps) : ∀ {rs : List ResultVar} {l : List Value}, rs.all (okRV P nt) = true → rvs h a (rs.map (denRV P)) = some l →
    ∃ l', (rs.mapM (resOf tmps)).run P w = .ok l' w ∧ VRs ρ l l'
  | [], l, ho, hv => by cases hv; exact ⟨[], rfl, .nil⟩
  | r :: rs, l, ho, hv => by
    rw [List.map_cons, rvs_cons] at hv
    simp only [List.all_cons, Bool.and_eq_true] at ho
    split at hv
    · cases hv
    · rename_i v h1
      split at hv
      · cases hv
      · rename_i vs h2
        cases hv
        obtain ⟨v', h3, h4⟩ := sim_rv H hle hf ho.1 h1
        obtain ⟨l', h5, h6⟩ := sim_rvs H hle hf ho.2 h2
        refine ⟨v' :: l', ?_, .cons h4 h6⟩
        rw [List.mapM_cons]
        simp only [Sem.run_bind, h3, h5, Result.andThen_ok, Sem.run_pure]
theorem sim_results {g : G} (H : HR ρ B g w) (hle : G.le h.get g) {nt : Nat} {a : Fr} {tmps : Array Value} (hf : FR nt ρ a tmps) {fn : Func} (ho : fn.results.toList.all (okRV P nt) = true) {l : List Value} (hv : rvs h a (fn.results.toList.map (denRV P)) = some l)
    {v : Value} (hl : (∃ u, l = [u] ∧ v = u) ∨ (l.length ≠ 1 ∧ v = .tuple l.toArray)) : ∃ v', (results fn tmps).run P w = .ok v' w ∧ VR ρ v v' := by
  obtain ⟨l', h1, h2⟩ := sim_rvs H hle hf ho hv
  have hlen := h2.length
  have hrun : (results fn tmps).run P w = .ok (if h : l'.toArray.size = 1 then l'.toArray[0] else .tuple l'.toArray) w := by
    rw [results_eq, Array.mapM_eq_mapM_toList]
    simp [h1]
  rcases hl with ⟨u, rfl, rfl⟩ | ⟨hne, rfl⟩
  · cases h2 with
    | cons h3 h4 =>
      cases h4
      exact ⟨_, hrun, by simpa using h3⟩
  · refine ⟨_, hrun, ?_⟩
    rw [dif_neg (by simp; omega)]
    exact .tuple (by simpa using h2)
/-- the marks are taken -/
theorem leaves_marks {fn : Func} {tmps : Array Value} {R : Ending → World → Prop} {g : G} {S : Nat} : ∀ (rs : List Nat) (w : World), HR ρ B g w → rs.Nodup → (∀ r ∈ rs, S ≤ r ∧ r < w.heap.size ∧ Free ρ r ∧ w.heap[r]? = some (.deferred (some []))) →
    (∀ w', HR ρ B g w' → w'.os = w.os → w'.tape = w.tape → w'.output = w.output → w'.heap.size = w.heap.size → (∀ k, k < S → w'.heap[k]? = w.heap[k]?) → ∃ v, (results fn tmps).run P w' = .ok v w' ∧ R (.returned v) w') →
    LeavesInM Fence.wide 0 P fn tmps R (rs.map mkD) .returning w
  | [], w, H, _, _, hR => hR w H rfl rfl rfl rfl fun _ _ => rfl
  | r :: rs, w, H, nd, hrs, hR => by
    obtain ⟨h1, h2, h3, h4⟩ := hrs r (by simp)
    rw [List.nodup_cons] at nd
    refine ⟨by simp, .inl ⟨r, setBlk w r (.deferred none), rfl, ?_, ?_⟩⟩
    · have : (getObj r).run P w = .ok (.deferred (some [])) w := by simp only [getObj, Sem.run, h4]
      simp only [Instr.takeDeferred, Sem.run_bind, this, Result.andThen_ok]
      simp [setObj, Sem.run, h4, Result.andThen]
      rfl
    · refine leaves_marks (S := S) rs _ (H.free h3 _) nd.2 (fun r' hr' => ?_) fun w' H' e1 e2 e3 e4 e5 => ?_
      · obtain ⟨g1, g2, g3, g4⟩ := hrs r' (by simp [hr'])
        refine ⟨g1, by simpa [setBlk] using g2, g3, ?_⟩
        rw [setBlk_ne w _ (fun e => by subst e; exact nd.1 hr')]
        exact g4
      · refine hR w' H' e1 e2 e3 (by simpa [setBlk] using e4) fun k hk => ?_
        rw [e5 k hk, setBlk_ne w _ (by omega)]
/-- a function -/
theorem sim_fun (hdraw : DrawOK P B) {rec : Rec} (hrec : RecOK P B rec) {n : Nat} {f : FuncId} {c : CF} (hc : denF P f = some c) {args : List Value} (hn : args.length ≤ c.nt) {v : Value} (hr : finish c.rs (c.body.f rec n (frameOf args) h) = .ok v h')
    {args' : Array Value} (T : Tie ρ B M x h w) (hM : h'.next ≤ M) (hv : VRs ρ args args'.toList) :
    CallsIn Fence.wide 0 P f args' w fun e w' => ∃ v' σ, e = .returned v' ∧ After ρ σ B M x h h' w w' ∧ VR σ v v' := by
  obtain ⟨fn, body, h1, h2, h3, h4, h5, rfl⟩ := denF_some hc
  obtain ⟨e, a', l, ho, he, hrv, hl⟩ := finish_some hr
  refine callsIn_of_wp_marks h1 h2 trivial ?_
  have hleave : ∀ σ w' (act' : Act), After ρ σ B M x h h' w w' → FR fn.ntmps σ a' act'.tmps → Mk w.heap.size σ w' act'.defers →
      LeavesInM Fence.wide 0 P fn act'.tmps (fun e w' => ∃ v' σ, e = .returned v' ∧ After ρ σ B M x h h' w w' ∧ VR σ v v') act'.defers .returning w' := by
    intro σ w' act' A hf' hm'
    obtain ⟨rs, e1, nd, hrs⟩ := hm'
    rw [e1]
    have T' := A.tie T hM
    refine leaves_marks rs w' A.hr nd hrs fun w'' H'' g1 g2 g3 g4 g5 => ?_
    obtain ⟨v', q1, q2⟩ := sim_results H'' (fun b y hb => T'.get hb) hf' h5 hrv hl
    refine ⟨v', q1, v', σ, rfl, ⟨⟨A.grew.le, fun b i hb hr => ?_⟩, ⟨g1.trans A.kept.os, g2.trans A.kept.tape, g3.trans A.kept.output, by rw [g4]; exact A.kept.size, fun k hk => ?_, fun k hk hfr => ?_⟩, A.hk, H''⟩, q2⟩
    · obtain ⟨p1, p2, p3, p4⟩ := A.grew.fresh b i hb hr
      exact ⟨p1, p2, by rw [g4]; exact p3, p4⟩
    · rw [g5 k (by have := T.hr.base; omega)]
      exact A.kept.old k hk
    · rw [g5 k hk]
      exact A.kept.free k hk hfr
  refine sim_den (S := w.heap.size) hdraw hrec body ho T (frameOf_FR hv hn h4) ⟨[], rfl, List.nodup_nil, by simp⟩ (Nat.le_refl _) hM fun σ w' act' A hf' hm' => ?_
  rcases he with rfl | rfl
  · exact hleave σ w' act' A hf' hm'
  · exact hleave σ w' act' A hf' hm'
theorem run_getLoop' {k : Nat} {l : Loop} (h : w.heap[k]? = some (.loop l)) : (Instr.getLoop k).run P w = .ok l w := by
  simp [Instr.getLoop, run_getLoop h]
/-- a round -/
theorem sim_round (hdraw : DrawOK P B) {rec : Rec} (hrec : RecOK P B rec) {n : Nat} {l : Nat} {nt : Nat} {ps : List Tmp} {s b : Code} {a : Fr} {st : LoopState} {p : Option Code} (hg : h.get l = some (.loop nt ps s b a st p))
    {args : List Value} (hn : args.length = ps.length) {v : Value} (hr : roundGo P rec n nt s b l (setAll ps args a) h = .ok v h')
    {args' : Array Value} {i : Inf} (T : Tie ρ B M x h w) (hM : h'.next ≤ M) (hv : VRs ρ args args'.toList) (hi : ρ l = some i) :
    ∃ fn tmps assign body, (Instr.yield i.r args').run P w = .ok (.round i.r fn tmps assign body) w ∧ RoundIn Fence.wide 0 P i.r fn tmps assign body w fun e w' => ∃ v' σ, e = .returned v' ∧ After ρ σ B M x h h' w w' ∧ VR σ v v' := by
  obtain ⟨_, _, lo, hl1, hl2, hl3, hl4, hl5, hl6, hl7, hl8⟩ := T.loop hi hg
  refine ⟨lo.fn, (lo.params.zip args').foldl (fun tmps (p : Tmp × Value) => tmps.setIfInBounds p.1 p.2) lo.tmps, s, b, ?_, ?_⟩
  · have hsz : args'.size = lo.params.size := by
      have h1 := hv.length
      have h2 : lo.params.toList.length = ps.length := by rw [hl4]
      simp at h1 h2
      omega
    simp [Instr.yield, run_getLoop' hl1, hsz, hl5, hl6]
  · have hf : FR nt ρ (setAll ps args a) ((lo.params.zip args').foldl (fun tmps (p : Tmp × Value) => tmps.setIfInBounds p.1 p.2) lo.tmps) := by
      have := setAll_FR hl7 hv hn hl8
      rw [← Array.foldl_toList, Array.toList_zip, hl4]
      exact this
    refine roundIn_of_wpIn trivial ?_
    unfold roundGo at hr
    split at hr
    · cases hr
    · rename_i e1 a1 h1 he
      split at hr
      · split at hr
        · rename_i nt2 ps2 s2 b2 a2 st2 p2 hg1
          split at hr
          · split at hr
            · cases hr
            · rename_i e3 a3 h3 he3
              have m3 := code_mono P nt true b rec hrec.mono _ _ _ _ _ _ he3
              rw [Heap.next_put] at m3
              have hend : ∀ {go st p}, roundEnd l h3 go st p = .ok v h' → h3.next = h'.next := by
                intro go st p hr
                unfold roundEnd at hr
                split at hr
                · cases hr; rfl
                · cases hr
              have hM3 : h3.next ≤ M := by
                split at hr
                · rw [hend hr]; exact hM
                · rw [hend hr]; exact hM
                · rw [hend hr]; exact hM
                · cases hr
              have hM1 : h1.next ≤ M := Nat.le_trans m3 hM3
              refine sim_code (S := 0) (ro := some i.r) (ir := true) hdraw hrec (.inl rfl) s he T hf ⟨[], rfl, List.nodup_nil, by simp⟩ (Nat.zero_le _) hM1 fun σ w1 act1 A1 hf1 hm1 => ?_
              -- the round begins
              have T1 := A1.tie T hM1
              have hi1 := A1.grew.le _ _ hi
              obtain ⟨_, _, lo1, q1, q2, q3, q4⟩ := T1.loop hi1 hg1
              have Ab := T1.setLoop hi1 hg1 q1 (st' := .busy) (p' := p2) (l' := { lo1 with state := .busy }) ⟨rfl, q3, q4⟩
              refine ⟨setBlk w1 i.r (.loop { lo1 with state := .busy }), ?_, ?_⟩
              · simp only [Instr.beginRound, Sem.run_bind, run_getLoop' q1, Result.andThen_ok, run_setLoop _ q1, q2]
                rfl
              · have Tb := Ab.tie T1 (by rw [Heap.next_put]; exact hM1)
                refine sim_code (S := 0) (ro := some i.r) (ir := true) hdraw hrec (.inl rfl) b he3 Tb hf1 (hm1.after Ab) (Nat.zero_le _) hM3 fun τ w3 act3 A3 hf3 hm3 => ?_
                have T3 := A3.tie Tb hM3
                have hi3 := A3.grew.le _ _ hi1
                -- the round ends
                have fin : ∀ (jump : Option Code) (st' : LoopState), (if jump.isNone then LoopState.ready else .done) = st' → roundEnd l h3 jump.isNone st' jump = .ok v h' →
                    ∃ v' w', (Instr.endRound i.r jump).run P w3 = .ok v' w' ∧ ∃ v'' σ, Ending.returned v' = .returned v'' ∧ After ρ σ B M x h h' w w' ∧ VR σ v v'' := by
                  intro jump st' hst hre
                  unfold roundEnd at hre
                  split at hre
                  · rename_i nt4 ps4 s4 b4 a4 st4 p4 hg4
                    cases hre
                    obtain ⟨_, _, lo3, r1, r2, r3, r4⟩ := T3.loop hi3 hg4
                    have A4 := T3.setLoop hi3 hg4 r1 (st' := st') (p' := jump) (l' := { lo3 with state := st', pending := jump }) ⟨rfl, rfl, r4⟩
                    refine ⟨.bool jump.isNone, setBlk w3 i.r (.loop { lo3 with state := st', pending := jump }), ?_, _, τ, rfl, ((A1.trans Ab).trans A3).trans A4, .same rfl⟩
                    subst hst
                    simp only [Instr.endRound, Sem.run_bind, run_getLoop' r1, Result.andThen_ok, run_setLoop _ r1]
                    rfl
                  · cases hre
                split at hr
                · exact fin none .ready rfl hr
                · exact fin (some (.exit _)) .done rfl hr
                · exact fin (some .ret) .done rfl hr
                · cases hr
          · cases hr
        · cases hr
      · cases hr
/-- what is asked of summaries -/
def SumsOK (P : Program) (B : Nat) (Γ : Sums) : Prop :=
  Γ.mono ∧ ∀ {f s args h v h'}, Γ f = some s → s args h = .ok v h' → Enters P f ∧ ∀ {ρ M x w} {args' : Array Value}, Tie ρ B M x h w → h'.next ≤ M → VRs ρ args args'.toList →
    CallsIn Fence.wide 0 P f args' w fun e w' => ∃ v' σ, e = .returned v' ∧ After ρ σ B M x h h' w w' ∧ VR σ v v'
/-- THE ABSTRACT RUN IS SOUND -/
theorem callN_sound (hdraw : DrawOK P B) {Γ : Sums} (hΓ : SumsOK P B Γ) : ∀ n, RecOK P B (callN P Γ n)
  | 0 => ⟨callN_mono P Γ hΓ.1 0, (fun h => by cases h), (fun h => by cases h)⟩
  | n + 1 => by
    have ih := callN_sound hdraw hΓ n
    refine ⟨callN_mono P Γ hΓ.1 (n + 1), fun {f args h v h'} hr => ?_, fun {l args h v h'} hr => ?_⟩
    · rw [callN_call] at hr
      split at hr
      · rename_i s hs; exact hΓ.2 hs hr
      · split at hr
        · cases hr
        · rename_i c hc
          cases hb : Nat.ble args.length c.nt <;> simp only [hb, cond_true, cond_false] at hr
          · cases hr
          · obtain ⟨fn, body, h1, h2, h3, _⟩ := denF_some hc
            exact ⟨⟨fn, h1, h3, by rw [h2]; rfl⟩, fun T hM hv => sim_fun hdraw ih hc (Nat.le_of_ble_eq_true hb) hr T hM hv⟩
    · intro ρ M x w args' i T hM hv hi
      rw [callN_yield] at hr
      split at hr
      · rename_i nt ps s b a st p hg
        cases hb : Nat.beq args.length ps.length <;> simp only [hb, cond_true, cond_false] at hr
        · cases hr
        · exact sim_round hdraw ih hg (Nat.eq_of_beq_eq_true hb) hr T hM hv hi
      · cases hr
/-- no summaries -/
theorem sums_none : SumsOK P B (fun _ => none) := ⟨(fun f s h => by cases h), (fun h => by cases h)⟩
end
end Vm

/-! An operation looks at its operands alone. -/
set_option linter.unusedVariables false
namespace Vm
open Go
def Agree (L : List Operand) (a a' : Fr) : Prop := ∀ x ∈ L, (evB x).f a = (evB x).f a'
def OLoc (L : List Operand) : OSem → Prop
  | .v _ s => ∀ a a', Agree L a a' → ∀ g, s.f a g = s.f a' g
  | .a s => ∀ a a', Agree L a a' → s.f a = s.f a'
  | .e s => ∀ a a', Agree L a a' → ∀ rec h, s.f rec a h = s.f rec a' h
theorem OLoc.no {L : List Operand} : OLoc L oNo := fun _ _ _ _ => rfl
theorem evs_loc {L l : List Operand} (hl : ∀ x ∈ l, x ∈ L) {a a' : Fr} (h : Agree L a a') : evs a (l.map evB) = evs a' (l.map evB) := by
  induction l with
  | nil => rfl
  | cons x l ih =>
    rw [List.map_cons, evs_cons, evs_cons, h x (hl x (by simp)), ih fun y hy => hl y (by simp [hy])]
theorem fill_loc {L : List Operand} {place : Nat → Option (Nat × Nat)} {a a' : Fr} (h : Agree L a a') : ∀ {ps : List (Nat × Operand)} {q : List (Nat × Nat × Sel)}, partsL ps place = some q → (∀ p ∈ ps, p.2 ∈ L) → ∀ z, fillL a q z = fillL a' q z := by
  intro ps
  induction ps with
  | nil => intro q hq _ z; cases hq; rfl
  | cons p ps ih =>
    intro q hq hp z
    unfold partsL at hq
    split at hq
    · rename_i off n hpl
      split at hq
      · rename_i q' hq'
        cases hq
        rw [fillL_cons, fillL_cons]
        simp only
        rw [h p.2 (hp p (by simp))]
        split
        · rename_i c _
          rw [ih hq' (fun p' hp' => hp p' (by simp [hp']))]
        · rfl
      · cases hq
    · cases hq
theorem bnd_loc {L : List Operand} {a a' : Fr} (h : Agree L a a') {lo : Option Operand} (hl : ∀ x, lo = some x → x ∈ L) (d y : Nat) : bnd a (optB lo) d y = bnd a' (optB lo) d y := by
  cases lo with
  | none => rfl
  | some x => simp only [optB, Option.map_some, bnd, h x (hl x rfl)]
theorem loc_bin (P : Program) (op : BinOp) (t : TypeId) (x y : Operand) : OLoc [x, y] (denBin P op t (evB x) (evB y)) := by
  have hi : ∀ g : F2, OLoc [x, y] (.v false (oInt2 g (evB x) (evB y))) := fun g a a' h gg => by simp only [oInt2, h x (by simp), h y (by simp)]
  have hs : ∀ g : F2, OLoc [x, y] (.v false (oSh g (evB x) (evB y))) := fun g a a' h gg => by simp only [oSh, h x (by simp), h y (by simp)]
  cases op <;> simp only [denBin] <;> first
    | exact hi _
    | exact hs _
    | (split
       · intro a a' h g; simp only [oEq, oNe, h x (by simp), h y (by simp)]
       · exact OLoc.no)
theorem loc_conv (P : Program) (s d : TypeId) (x : Operand) : OLoc [x] (denConvert P s d (evB x)) := by
  unfold denConvert
  split
  · split
    · intro a a' h g; simp only [oConvInt, h x (by simp)]
    · exact OLoc.no
  · split
    · intro a a' h g; simp only [oToString, h x (by simp)]
    · cases hb : Nat.beq s d <;> simp only [cond_true, cond_false]
      · exact OLoc.no
      · intro a a' h rec hh; simp only [eFix, h x (by simp)]
    · exact OLoc.no
  · split
    · split
      · intro a a' h; simp only [aStrBytes, h x (by simp)]
      · exact OLoc.no
    · intro a a' h g; simp only [oStr, h x (by simp)]
    · exact OLoc.no
  · exact OLoc.no
theorem loc_builtin (P : Program) (b : Builtin) (args : List Operand) (ts : List TypeId) : OLoc args (denBuiltin P b args ts) := by
  unfold denBuiltin
  split
  · split
    · rename_i x t
      unfold denLen
      split
      · intro a a' h g; rfl
      · split
        · intro a a' h g; rfl
        · exact OLoc.no
      · intro a a' h g; simp only [oLenS, h x (by simp)]
      · intro a a' h g; simp only [oLenStr, h x (by simp)]
      · intro a a' h g; simp only [oLenM, h x (by simp)]
      · exact OLoc.no
    · exact OLoc.no
  · split
    · rename_i s x t u
      unfold denAppend
      split
      · split
        · rename_i sz by_ z _ _ _
          cases hb : (Nat.blt 0 sz && Nat.blt 0 by_) <;> simp only [cond_true, cond_false]
          · exact OLoc.no
          · intro a a' h rec hh; simp only [eAppend, h s (by simp), h x (by simp)]
        · exact OLoc.no
      · split
        · rename_i sz by_ z _ _ _
          cases hb : (Nat.blt 0 sz && Nat.blt 0 by_) <;> simp only [cond_true, cond_false]
          · exact OLoc.no
          · intro a a' h rec hh; simp only [eAppend, h s (by simp), h x (by simp)]
        · exact OLoc.no
      · exact OLoc.no
    · exact OLoc.no
  · split
    · rename_i x y t u
      split
      · split
        · intro a a' h rec hh; simp only [eCopy, h x (by simp), h y (by simp)]
        · exact OLoc.no
      · exact OLoc.no
    · exact OLoc.no
  · split
    · rename_i x t
      split
      · split
        · rename_i z _
          cases hb : (Nat.blt 0 z.length) <;> simp only [cond_true, cond_false]
          · exact OLoc.no
          · intro a a' h rec hh; simp only [eClearS, h x (by simp)]
        · exact OLoc.no
      · intro a a' h rec hh; simp only [eClearM, h x (by simp)]
      · exact OLoc.no
    · exact OLoc.no
  · split
    · rename_i m k t ts
      split
      · split
        · intro a a' h rec hh; simp only [eDelete, h m (by simp), h k (by simp)]
        · exact OLoc.no
      · exact OLoc.no
    · exact OLoc.no
  · split
    · rename_i x l
      intro a a' h g
      simp only [oBest, h x (by simp), evs_loc (L := x :: l) (l := l) (fun y hy => by simp [hy]) h]
    · exact OLoc.no
  · split
    · rename_i x l
      intro a a' h g
      simp only [oBest, h x (by simp), evs_loc (L := x :: l) (l := l) (fun y hy => by simp [hy]) h]
    · exact OLoc.no
  · exact OLoc.no
theorem den_loc (P : Program) (op : Op) : OLoc op.operands.toList (denOp P op) := by
  cases op <;> simp only [denOp, Op.operands]
  case move x => intro a a' h g; simp only [oEv, h x (by simp)]
  case assign x => intro a a' h g; simp only [oEv, h x (by simp)]
  case pick c x y => intro a a' h g; simp only [oPick, h c (by simp), h x (by simp), h y (by simp)]
  case alloc => split
                · intro a a' h; rfl
                · exact OLoc.no
  case box e x => intro a a' h; simp only [aBox, h x (by simp)]
  case build t ps =>
    unfold denBuild
    have hm : ∀ p ∈ ps.toList, p.2 ∈ ((ps.toList.map (·.2)).toArray).toList := fun p hp => by simp; exact ⟨p.1, by simpa using hp⟩
    split
    · rename_i z fs _ _
      cases hb' : allSz P fs.toList <;> simp only [cond_true, cond_false]
      · exact OLoc.no
      · split
        · rename_i q hq
          intro a a' h g; simp only [oBuild, fill_loc h hq hm]
        · exact OLoc.no
    · split
      · split
        · rename_i q hq
          intro a a' h g; simp only [oBuild, fill_loc h hq hm]
        · exact OLoc.no
      · exact OLoc.no
    · exact OLoc.no
  case buildSlice t len ps =>
    unfold denBuildSlice
    have hm : ∀ p ∈ ps.toList, p.2 ∈ ((ps.toList.map (·.2)).toArray).toList := fun p hp => by simp; exact ⟨p.1, by simpa using hp⟩
    split
    · split
      · rename_i z _
        cases hb : (Nat.ble (len * z.length) 16777216 && Nat.blt 0 z.length) <;> simp only [cond_true, cond_false]
        · exact OLoc.no
        · split
          · rename_i q hq
            intro a a' h; simp only [aBuildSlice, fill_loc h hq hm]
          · exact OLoc.no
      · exact OLoc.no
    · exact OLoc.no
  case load t x =>
    split
    · intro a a' h g; simp only [oLoadN, h x (by simp)]
    · intro a a' h g; simp only [oLoad1, h x (by simp)]
    · exact OLoc.no
  case store t x y =>
    split
    · intro a a' h rec hh; simp only [eStore, h x (by simp), h y (by simp)]
    · exact OLoc.no
  case nilCheck x => intro a a' h g; simp only [oNilCheck, h x (by simp)]
  case binOp op t x y z => exact loc_bin P op t x y
  case unOp op t x =>
    cases op <;> simp only [] <;> first
      | exact OLoc.no
      | (intro a a' h g; simp only [oNeg, oNot, oCom, h x (by simp)])
  case convert s d x => exact loc_conv P s d x
  case makeInterface t x =>
    split
    · exact OLoc.no
    · exact OLoc.no
    · intro a a' h g; simp only [oIface, h x (by simp)]
  case makeFunc fn first cap =>
    split
    · intro a a' h g
      simp only [oFunc, selsB, evs_loc (l := first.toList) (fun y hy => by simp at hy ⊢; exact .inl hy) h, evs_loc (l := cap.toList) (fun y hy => by simp at hy ⊢; exact .inr hy) h]
    · exact OLoc.no
  case makeMap t r =>
    cases r <;> simp only []
    · intro a a' h; rfl
    · exact OLoc.no
  case makeSlice t l c =>
    split
    · split
      · rename_i z _ _
        cases hb : (Nat.blt 0 z.length) <;> simp only [cond_true, cond_false]
        · exact OLoc.no
        · intro a a' h; simp only [aMakeSlice, h l (by simp), h c (by simp)]
      · exact OLoc.no
    · exact OLoc.no
  case slice t x lo hi mx =>
    have hlo : ∀ y, lo = some y → y ∈ (#[x] ++ lo.toArray ++ hi.toArray ++ mx.toArray).toList := fun y hy => by subst hy; simp
    have hhi : ∀ y, hi = some y → y ∈ (#[x] ++ lo.toArray ++ hi.toArray ++ mx.toArray).toList := fun y hy => by subst hy; simp
    have hmx : ∀ y, mx = some y → y ∈ (#[x] ++ lo.toArray ++ hi.toArray ++ mx.toArray).toList := fun y hy => by subst hy; simp
    unfold denSlice
    cases hb' : ((optB hi).isNone && (optB mx).isSome) <;> simp only [cond_true, cond_false]
    · split
      · split
        · intro a a' h g; simp only [oSlice, h x (by simp), bnd_loc h hlo, bnd_loc h hhi, bnd_loc h hmx]
        · exact OLoc.no
      · split
        · intro a a' h g; simp only [oSliceA, h x (by simp), bnd_loc h hlo, bnd_loc h hhi, bnd_loc h hmx]
        · exact OLoc.no
      · split
        · intro a a' h g; simp only [oSliceStr, h x (by simp), bnd_loc h hlo, bnd_loc h hhi]
        · exact OLoc.no
      · exact OLoc.no
    · exact OLoc.no
  case fieldAddr t x f =>
    unfold denFieldAddr
    split
    · split
      · rename_i off n _
        cases hb' : Nat.beq n 0 <;> simp only [cond_true, cond_false]
        · intro a a' h g; simp only [oFieldAddr, h x (by simp)]
        · exact OLoc.no
      · exact OLoc.no
    · exact OLoc.no
  case field t x f =>
    unfold denField
    split
    · split
      · split
        · intro a a' h g; simp only [oFieldN, h x (by simp)]
        · intro a a' h g; simp only [oField1, h x (by simp)]
        · exact OLoc.no
      · exact OLoc.no
    · exact OLoc.no
  case indexAddr t x y =>
    unfold denIndexAddr
    split
    · split
      · intro a a' h g; simp only [oIndexAddrS, h x (by simp), h y (by simp)]
      · exact OLoc.no
    · split
      · intro a a' h g; simp only [oIndexAddrA, h x (by simp), h y (by simp)]
      · exact OLoc.no
    · exact OLoc.no
  case index t x y =>
    unfold denIndex
    split
    · split
      · intro a a' h g; simp only [oIndexA1, h x (by simp), h y (by simp)]
      · exact OLoc.no
    · intro a a' h g; simp only [oIndexS, h x (by simp), h y (by simp)]
    · exact OLoc.no
  case lookup t x y ok =>
    unfold denMap
    split
    · split
      · intro a a' h g; simp only [oLookup, h x (by simp), h y (by simp)]
      · exact OLoc.no
    · exact OLoc.no
  case mapUpdate t m k x =>
    unfold denMap
    split
    · split
      · intro a a' h rec hh; simp only [eMapUpdate, h m (by simp), h k (by simp), h x (by simp)]
      · exact OLoc.no
    · exact OLoc.no
  case insert t m k x =>
    unfold denMap
    split
    · split
      · intro a a' h rec hh; simp only [eMapUpdate, h m (by simp), h k (by simp), h x (by simp)]
      · exact OLoc.no
    · exact OLoc.no
  case mapEntry t m k =>
    unfold denMap
    split
    · split
      · intro a a' h rec hh; simp only [eMapEntry, h m (by simp), h k (by simp)]
      · exact OLoc.no
    · exact OLoc.no
  case range t x =>
    unfold denRange
    split
    · intro a a' h rec hh; simp only [eRange, h x (by simp)]
    · exact OLoc.no
  case next it s =>
    cases s
    · intro a a' h rec hh; simp only [eNext, h it (by simp)]
    · exact OLoc.no
  case entry it => intro a a' h g; simp only [oEntry, h it (by simp)]
  case entryStore t m k x => intro a a' h rec hh; simp only [eEntryStore, h m (by simp), h k (by simp), h x (by simp)]
  case extract x i => intro a a' h g; simp only [oExtract, h x (by simp)]
  case call c =>
    cases hc : c.callee <;> simp only [Call.operands, hc]
    case value f =>
      have harg : ∀ y ∈ c.args.toList, y ∈ (#[f] ++ c.args).toList := fun y hy => by simp; exact .inr (by simpa using hy)
      cases f with
      | func g => intro a a' h rec hh; simp only [eCallF, selsB, evs_loc harg h]
      | tmp t => intro a a' h rec hh; simp only [eCall, selsB, evs_loc harg h, h (.tmp t) (by simp)]
      | const t => intro a a' h rec hh; simp only [eCall, selsB, evs_loc harg h, h (.const t) (by simp)]
      | global t => intro a a' h rec hh; simp only [eCall, selsB, evs_loc harg h, h (.global t) (by simp)]
    case builtin b => simpa using loc_builtin P b c.args.toList c.argTypes.toList
    case invoke => exact OLoc.no
  all_goals exact OLoc.no
end Vm

/-! The order of a region's operations. -/
set_option linter.unusedVariables false
namespace Vm
open Go
theorem grow_get {α β : Type} (F : List β → α → β) : ∀ (l : List α) (acc : List β), ∃ tail, l.foldl (fun acc o => acc ++ [F acc o]) acc = acc ++ tail ∧ tail.length = l.length ∧
    ∀ j, (acc ++ tail)[acc.length + j]? = (l[j]?).map (F ((acc ++ tail).take (acc.length + j)))
  | [], acc => ⟨[], by simp, rfl, fun j => by simp⟩
  | o :: l, acc => by
    obtain ⟨tail, h1, h2, h3⟩ := grow_get F l (acc ++ [F acc o])
    refine ⟨F acc o :: tail, by rw [List.foldl_cons, h1]; simp, by simp [h2], fun j => ?_⟩
    have e : acc ++ F acc o :: tail = acc ++ [F acc o] ++ tail := by simp
    rw [e]
    cases j with
    | zero =>
      simp
    | succ j =>
      have := h3 j
      rw [List.length_append, List.length_singleton] at this
      rw [show acc.length + (j + 1) = acc.length + 1 + j by omega, this]
      simp
def befF (acc : List Nat) (o : Oper) : Nat := o.after.toList.foldl (fun s e => bif Region.binds .any e then Nat.lor s (Nat.lor (2 ^ e.on) (acc[e.on]?.getD 0)) else s) 0
theorem befs_len (ops : List Oper) : (befs ops).length = ops.length := by
  obtain ⟨tail, h1, h2, _⟩ := grow_get befF ops []
  have : befs ops = [] ++ tail := h1
  rw [this]
  simpa using h2
theorem befs_get (ops : List Oper) (j : Nat) : (befs ops)[j]? = (ops[j]?).map (befF ((befs ops).take j)) := by
  obtain ⟨tail, h1, h2, h3⟩ := grow_get befF ops []
  have e : befs ops = [] ++ tail := h1
  rw [e]
  simpa using h3 j
theorem bit_eq (m j : Nat) : bit m j = m.testBit j := by
  unfold bit Nat.testBit
  rw [Bool.eq_iff_iff]
  rw [Nat.beq_eq, Nat.shiftRight_eq_div_pow]
  have h : Nat.land (m / 2 ^ j) 1 = (m / 2 ^ j) &&& 1 := rfl
  rw [h, Nat.and_one_is_mod, Nat.one_and_eq_mod_two]
  have := Nat.mod_two_eq_zero_or_one (m / 2 ^ j)
  rcases this with h | h <;> simp [h]
theorem bit_or (a b j : Nat) : bit (Nat.lor a b) j = (bit a j || bit b j) := by
  rw [bit_eq, bit_eq, bit_eq]
  exact Nat.testBit_or a b j
theorem bit_pow (k j : Nat) : bit (2 ^ k) j = decide (k = j) := by rw [bit_eq, Nat.testBit_two_pow]
theorem bit_zero (j : Nat) : bit 0 j = false := by rw [bit_eq, Nat.zero_testBit]
theorem bit_fold (acc : List Nat) (i : Nat) : ∀ (l : List Edge) (s : Nat), bit (l.foldl (fun s e => bif Region.binds .any e then Nat.lor s (Nat.lor (2 ^ e.on) (acc[e.on]?.getD 0)) else s) s) i = true →
    bit s i = true ∨ ∃ e ∈ l, Region.binds .any e = true ∧ (i = e.on ∨ bit (acc[e.on]?.getD 0) i = true)
  | [], s, h => .inl h
  | e :: l, s, h => by
    rw [List.foldl_cons] at h
    rcases bit_fold acc i l _ h with h | ⟨e', h1, h2, h3⟩
    · cases hb : Region.binds .any e with
      | false => rw [hb, cond_false] at h; exact .inl h
      | true =>
        rw [hb, cond_true, bit_or, bit_or, bit_pow] at h
        simp only [Bool.or_eq_true, decide_eq_true_eq] at h
        rcases h with h | h | h
        · exact .inl h
        · exact .inr ⟨e, by simp, hb, .inl h.symm⟩
        · exact .inr ⟨e, by simp, hb, .inr h⟩
    · exact .inr ⟨e', by simp [h1], h2, h3⟩
/-- is i carried out ahead of j whatever the order? -/
def Bef (ops : List Oper) (i j : Nat) : Prop := bit ((befs ops)[j]?.getD 0) i = true
theorem Bef.step {ops : List Oper} {i j : Nat} (h : Bef ops i j) : ∃ o, ops[j]? = some o ∧ ∃ e ∈ o.after.toList, Region.binds .any e = true ∧ (i = e.on ∨ (e.on < j ∧ Bef ops i e.on)) := by
  unfold Bef at h
  rw [befs_get] at h
  cases ho : ops[j]? with
  | none => rw [ho] at h; simp [bit_zero] at h
  | some o =>
    rw [ho] at h
    simp only [Option.map_some, Option.getD_some] at h
    refine ⟨o, rfl, ?_⟩
    rcases bit_fold _ i _ _ h with h | ⟨e, h1, h2, h3⟩
    · simp [bit_zero] at h
    · refine ⟨e, h1, h2, ?_⟩
      rcases h3 with h3 | h3
      · exact .inl h3
      · by_cases hlt : e.on < j
        · right
          refine ⟨hlt, ?_⟩
          rw [List.getElem?_take, if_pos hlt] at h3
          exact h3
        · rw [List.getElem?_take, if_neg hlt] at h3
          simp [bit_zero] at h3
/-- what is carried out, with whatever stands ahead of it -/
def Down (ops : List Oper) (S : Nat → Prop) : Prop := ∀ i j, S j → Bef ops i j → S i
/-- may j be next? -/
def Ready (ops : List Oper) (S : Nat → Prop) (j : Nat) : Prop := ¬ S j ∧ ∃ o, ops[j]? = some o ∧ ∀ e ∈ o.after.toList, Region.binds .any e = true → S e.on
theorem Ready.bef {ops : List Oper} {S : Nat → Prop} (hd : Down ops S) {j : Nat} (hr : Ready ops S j) {i : Nat} (hb : Bef ops i j) : S i := by
  obtain ⟨_, o, ho, hall⟩ := hr
  obtain ⟨o', ho', e, he, hbd, h⟩ := hb.step
  rw [ho] at ho'
  cases ho'
  rcases h with rfl | ⟨_, h⟩
  · exact hall e he hbd
  · exact hd i e.on (hall e he hbd) h
theorem Down.add {ops : List Oper} {S : Nat → Prop} (hd : Down ops S) {j : Nat} (hr : Ready ops S j) : Down ops (fun k => S k ∨ k = j) := by
  rintro i k (h | rfl) hb
  · exact .inl (hd i k h hb)
  · exact .inl (hr.bef hd hb)
/-- what the check of a region says -/
structure Fit (P : Program) (nt : Nat) (ops : List Oper) : Prop where
  back : ∀ j o, ops[j]? = some o → ∀ e ∈ o.after.toList, Region.binds .any e = true → e.on < j
  apart : ∀ i j x y, i < j → ops[i]? = some x → ops[j]? = some y → Bef ops i j ∨ (noClash ops nt x y = true ∧ ¬ (isE (denOp P x.op) = true ∧ isE (denOp P y.op) = true))
theorem okDraw_fit {P : Program} {nt : Nat} {ops : List Oper} (h : okDraw P nt ops = true) : Fit P nt ops := by
  have key : ∀ j o, ops[j]? = some o → ∃ m, (befs ops)[j]? = some m ∧ o.after.toList.all (fun e => !Region.binds .any e || Nat.blt e.on j) = true ∧ ∀ i, i < j → bit m i = true ∨ ∃ x, ops[i]? = some x ∧ noClash ops nt x o = true ∧ (isE (denOp P x.op) && isE (denOp P o.op)) = false := by
    intro j o ho
    have hlt : j < ops.length := (List.getElem?_eq_some_iff.1 ho).1
    unfold okDraw at h
    simp only [List.all_eq_true] at h
    have h1 := h j (by simpa using hlt)
    rw [ho] at h1
    cases hm : (befs ops)[j]? with
    | none => rw [hm] at h1; cases h1
    | some m =>
      rw [hm] at h1
      simp only [Bool.and_eq_true] at h1
      refine ⟨m, rfl, h1.1, fun i hi => ?_⟩
      have h2 := List.all_eq_true.1 h1.2 i (by simpa using hi)
      simp only [Bool.or_eq_true] at h2
      rcases h2 with h2 | h2
      · exact .inl h2
      · right
        cases hx : ops[i]? with
        | none => rw [hx] at h2; cases h2
        | some x =>
          rw [hx] at h2
          simp only [Bool.and_eq_true, Bool.not_eq_true'] at h2
          exact ⟨x, rfl, h2.1, h2.2⟩
  refine ⟨fun j o ho e he hb => ?_, fun i j x y hij hx hy => ?_⟩
  · obtain ⟨m, _, h2, _⟩ := key j o ho
    have := List.all_eq_true.1 h2 e he
    simpa [hb] using this
  · obtain ⟨m, h1, _, h3⟩ := key j y hy
    rcases h3 i hij with h4 | ⟨x', h4, h5, h6⟩
    · left
      unfold Bef
      rw [h1]
      exact h4
    · rw [hx] at h4
      cases h4
      refine .inr ⟨h5, fun h => ?_⟩
      rw [h.1, h.2] at h6
      cases h6
theorem noClash_dst {ops : List Oper} {nt : Nat} {x y : Oper} (h : noClash ops nt x y = true) {d : Tmp} (hd : x.dst = some d) : d ∉ looks ops nt y ∧ y.dst ≠ some d := by
  unfold noClash at h
  simp only [hd, Bool.and_eq_true, Bool.not_eq_true'] at h
  refine ⟨fun hm => ?_, fun e => ?_⟩
  · have := h.1.1
    rw [List.contains_iff_mem.2 hm] at this
    cases this
  · have := h.1.2
    rw [e] at this
    simp at this
theorem noClash_dst' {ops : List Oper} {nt : Nat} {x y : Oper} (h : noClash ops nt x y = true) {d : Tmp} (hd : y.dst = some d) : d ∉ looks ops nt x := by
  unfold noClash at h
  simp only [hd, Bool.and_eq_true, Bool.not_eq_true'] at h
  intro hm
  have := h.2
  rw [List.contains_iff_mem.2 hm] at this
  cases this
end Vm

/-! Regions whose order is open. -/
set_option linter.unusedVariables false
namespace Vm
open Go
section
variable {P : Program} {nt : Nat} {ops : List Oper} {rec : Rec}

/-- is an operation carried out in this frame? -/
def Lives (ops : List Oper) (nt : Nat) (o : Oper) (a : Fr) : Prop := o.guard = none ∨ ∃ j want s, o.guard = some (j, want) ∧ guardSlot ops nt j = some s ∧ (sel s).f a = .bool want
def Skips (ops : List Oper) (nt : Nat) (o : Oper) (a : Fr) : Prop := ∃ j want s, o.guard = some (j, want) ∧ guardSlot ops nt j = some s ∧ (sel s).f a ≠ .bool want
/-- what an item has done: the value yielded, the heap behind it -/
inductive Did1 (P : Program) (rec : Rec) (o : Oper) (a : Fr) (h : Heap) : Value → Heap → Prop
  | v {rd : Bool} {s : VSem} {u : Value} (hd : denOp P o.op = .v rd s) (hu : s.f a h.get = some u) : Did1 P rec o a h u h
  | a {s : ASem} {blk : Blk} {val : Nat → Value} (hd : denOp P o.op = .a s) (hu : s.f a = some (blk, val)) : Did1 P rec o a h (val h.next) (h.new blk)
  | e {s : ESem} {u : Value} {h' : Heap} (hd : denOp P o.op = .e s) (hu : s.f rec a h = .ok u h') : Did1 P rec o a h u h'
theorem op_cases {o : Oper} {a a' : Fr} {h h' : Heap} (hr : (iOp (dstB o.dst) (denOp P o.op)).f rec a h = .mk a' h') : ∃ u, a' = (dstB o.dst).f u a ∧ Did1 P rec o a h u h' := by
  cases hd : denOp P o.op with
  | v rd s =>
    rw [hd] at hr
    simp only [iOp] at hr
    split at hr
    · cases hr
    · rename_i u hu; cases hr; exact ⟨u, rfl, .v hd hu⟩
  | a s =>
    rw [hd] at hr
    simp only [iOp] at hr
    split at hr
    · cases hr
    · rename_i blk val hu; cases hr; exact ⟨_, rfl, .a hd hu⟩
  | e s =>
    rw [hd] at hr
    simp only [iOp] at hr
    split at hr
    · cases hr
    · rename_i u h2 hu; cases hr; exact ⟨u, rfl, .e hd hu⟩
theorem item_cases {o : Oper} {a a' : Fr} {h h' : Heap} (hr : (denItem P nt ops o).f rec a h = .mk a' h') :
    okOper nt o = true ∧ ∃ u, a' = (dstB o.dst).f u a ∧ ((Skips ops nt o a ∧ u = Vm.undef ∧ h' = h) ∨ (Lives ops nt o a ∧ Did1 P rec o a h u h')) := by
  unfold denItem at hr
  cases hb : okOper nt o with
  | false => simp only [hb, cond_false, iBad] at hr; cases hr
  | true =>
    simp only [hb, cond_true] at hr
    refine ⟨rfl, ?_⟩
    split at hr
    · rename_i hg
      obtain ⟨u, h1, h2⟩ := op_cases hr
      exact ⟨u, h1, .inr ⟨.inl hg, h2⟩⟩
    · rename_i j want hg
      split at hr
      · rename_i s hs
        simp only [iGuard] at hr
        have live : (sel s).f a = .bool want → (iOp (dstB o.dst) (denOp P o.op)).f rec a h = .mk a' h' → ∃ u, a' = (dstB o.dst).f u a ∧ ((Skips ops nt o a ∧ u = Vm.undef ∧ h' = h) ∨ (Lives ops nt o a ∧ Did1 P rec o a h u h')) := by
          intro e hr
          obtain ⟨u, h1, h2⟩ := op_cases hr
          exact ⟨u, h1, .inr ⟨.inr ⟨j, want, s, hg, hs, e⟩, h2⟩⟩
        have skip : (sel s).f a ≠ .bool want → It.mk ((dstB o.dst).f Vm.undef a) h = .mk a' h' → ∃ u, a' = (dstB o.dst).f u a ∧ ((Skips ops nt o a ∧ u = Vm.undef ∧ h' = h) ∨ (Lives ops nt o a ∧ Did1 P rec o a h u h')) := by
          intro e hr
          cases hr
          exact ⟨_, rfl, .inl ⟨⟨j, want, s, hg, hs, e⟩, rfl, rfl⟩⟩
        split at hr
        · rename_i b hb'
          cases b <;> cases want
          · exact live hb' hr
          · exact skip (by rw [hb']; intro e; cases e) hr
          · exact skip (by rw [hb']; intro e; cases e) hr
          · exact live hb' hr
        · rename_i hne
          exact skip (fun e => hne _ e) hr
      · simp only [iBad] at hr; cases hr
/-- the states of the run in the order of the text -/
structure Text (P : Program) (nt : Nat) (ops : List Oper) (rec : Rec) (A : Nat → Fr) (H : Nat → Heap) : Prop where
  step : ∀ j o, ops[j]? = some o → (denItem P nt ops o).f rec (A j) (H j) = .mk (A (j + 1)) (H (j + 1))
theorem states_get : ∀ {l : List ISem} {a : Fr} {h : Heap} {st : List (Fr × Heap)}, runStates rec l a h = some st → st.length = l.length + 1 ∧ st[0]? = some (a, h) ∧
    ∀ j i, l[j]? = some i → ∃ p q, st[j]? = some p ∧ st[j + 1]? = some q ∧ i.f rec p.1 p.2 = .mk q.1 q.2
  | [], a, h, st, hr => by cases hr; exact ⟨rfl, rfl, fun j i hj => by simp at hj⟩
  | i :: l, a, h, st, hr => by
    rw [runStates_cons] at hr
    split at hr
    · cases hr
    · rename_i a1 h1 he
      split at hr
      · rename_i st' hs
        cases hr
        obtain ⟨h2, h3, h4⟩ := states_get hs
        refine ⟨by simp [h2], rfl, fun j i' hj => ?_⟩
        cases j with
        | zero =>
          simp at hj
          subst hj
          exact ⟨(a, h), (a1, h1), rfl, by simpa using h3, he⟩
        | succ j => simpa using h4 j i' (by simpa using hj)
      · cases hr
theorem states_text {a : Fr} {h : Heap} {st : List (Fr × Heap)} (hr : runStates rec (ops.map (denItem P nt ops)) a h = some st) :
    Text P nt ops rec (fun j => (st[j]?.getD (a, h)).1) (fun j => (st[j]?.getD (a, h)).2) := by
  obtain ⟨_, _, h3⟩ := states_get hr
  refine ⟨fun j o ho => ?_⟩
  obtain ⟨p, q, h4, h5, h6⟩ := h3 j (denItem P nt ops o) (by simp [ho])
  simp only [h4, h5, Option.getD_some]
  exact h6
/-- frames that agree where an operation looks -/
theorem agree_looks {o : Oper} {a a' : Fr} (hx : okOper nt o = true) (h : ∀ t, t < nt → t ∈ looks ops nt o → (sel t).f a = (sel t).f a') : Agree o.op.operands.toList a a' ∧ (Lives ops nt o a ↔ Lives ops nt o a') := by
  simp only [okOper, Bool.and_eq_true, List.all_eq_true] at hx
  have hg : ∀ j want s, o.guard = some (j, want) → guardSlot ops nt j = some s → (sel s).f a = (sel s).f a' := by
    intro j want s h1 h2
    obtain ⟨_, _, _, hlt⟩ := guardSlot_some h2
    refine h s hlt ?_
    unfold looks
    rw [h1]
    simp [h2]
  refine ⟨fun x hxm => ?_, ?_, ?_⟩
  · cases x with
    | tmp t =>
      have := hx.2 _ hxm
      refine h t (by simpa [okX] using this) ?_
      unfold looks
      exact List.mem_append_left _ (List.mem_filterMap.2 ⟨.tmp t, hxm, rfl⟩)
    | const v => rfl
    | global g => rfl
    | func f => rfl
  · rintro (h1 | ⟨j, want, s, h1, h2, h3⟩)
    · exact .inl h1
    · exact .inr ⟨j, want, s, h1, h2, by rw [← hg j want s h1 h2]; exact h3⟩
  · rintro (h1 | ⟨j, want, s, h1, h2, h3⟩)
    · exact .inl h1
    · exact .inr ⟨j, want, s, h1, h2, by rw [hg j want s h1 h2]; exact h3⟩
theorem skips_not {o : Oper} {a : Fr} (h : Skips ops nt o a) : ¬ Lives ops nt o a := by
  obtain ⟨j, want, s, h1, h2, h3⟩ := h
  rintro (h4 | ⟨j', want', s', h4, h5, h6⟩)
  · rw [h1] at h4; cases h4
  · rw [h1] at h4; cases h4; rw [h2] at h5; cases h5; exact h3 h6
theorem okDst_lt {d : Tmp} (h : okDst nt (some d) = true) : d < nt := by simpa [okDst] using h
/-- the text's slots -/
theorem Text.slot {A : Nat → Fr} {H : Nat → Heap} (X : Text P nt ops rec A H) (h5 : nt ≤ 512) {t : Tmp} (ht : t < nt) {i : Nat} : ∀ (d : Nat), i + d ≤ ops.length → (∀ k o, i ≤ k → k < i + d → ops[k]? = some o → o.dst ≠ some t) → (sel t).f (A (i + d)) = (sel t).f (A i)
  | 0, _, _ => rfl
  | d + 1, hle, hno => by
    have ih := Text.slot X h5 ht d (by omega) (fun k o h1 h2 => hno k o h1 (by omega))
    have hlt : i + d < ops.length := by omega
    obtain ⟨hok, u, h1, _⟩ := item_cases (X.step (i + d) ops[i + d] (by simp [hlt]))
    rw [show i + (d + 1) = i + d + 1 by omega, h1, ← ih]
    have hn := hno (i + d) ops[i + d] (by omega) (by omega) (by simp [hlt])
    cases hd : ops[i + d].dst with
    | none => rfl
    | some d' =>
      have hd' : d' < nt := by
        simp only [okOper, Bool.and_eq_true] at hok
        exact okDst_lt (by rw [← hd]; exact hok.1)
      show (sel t).f ((put d').f u (A (i + d))) = _
      have ht' : t < 512 := Nat.lt_of_lt_of_le ht h5
      have hd5 : d' < 512 := Nat.lt_of_lt_of_le hd' h5
      rw [sel_put t d' ht' hd5, if_neg (fun e => hn (by rw [hd, e]))]
end
end Vm

/-! Regions whose order is open: what holds on the way. -/
set_option linter.unusedVariables false
namespace Vm
open Go
section
variable {P : Program} {nt : Nat} {ops : List Oper} {rec : Rec} {A : Nat → Fr} {H : Nat → Heap}

def Born (P : Program) (nt : Nat) (ops : List Oper) (A : Nat → Fr) (j : Nat) (blk : Blk) : Prop :=
  ∃ o s val, ops[j]? = some o ∧ Lives ops nt o (A j) ∧ denOp P o.op = .a s ∧ s.f (A j) = some (blk, val)
/-- does an operation turn the heap? -/
def Eff (P : Program) (ops : List Oper) (j : Nat) : Prop := ∃ o, ops[j]? = some o ∧ isE (denOp P o.op) = true
theorem Born.lt {j : Nat} {blk : Blk} (h : Born P nt ops A j blk) : j < ops.length := by
  obtain ⟨o, _, _, h1, _⟩ := h
  exact (List.getElem?_eq_some_iff.1 h1).1
theorem Born.noE {j : Nat} {blk : Blk} (h : Born P nt ops A j blk) : ¬ Eff P ops j := by
  obtain ⟨o, s, _, h1, _, h2, _⟩ := h
  rintro ⟨o', h3, h4⟩
  rw [h1] at h3
  cases h3
  rw [h2] at h4
  cases h4
theorem Text.born (X : Text P nt ops rec A H) {j : Nat} {blk : Blk} (h : Born P nt ops A j blk) : H (j + 1) = (H j).new blk := by
  obtain ⟨o, s, val, h1, h2, h3, h4⟩ := h
  obtain ⟨_, u, _, h5⟩ := item_cases (X.step j o h1)
  rcases h5 with ⟨hs, _⟩ | ⟨_, hd⟩
  · exact (skips_not hs h2).elim
  · generalize H (j + 1) = h' at hd ⊢
    cases hd with
    | v hd _ => rw [h3] at hd; cases hd
    | a hd hu => rw [h3] at hd; cases hd; rw [h4] at hu; cases hu; rfl
    | e hd _ => rw [h3] at hd; cases hd
theorem Text.next1 (X : Text P nt ops rec A H) (hm : rec.mono) {j : Nat} (hj : j < ops.length) : (H j).next ≤ (H (j + 1)).next := item_mono hm (X.step j ops[j] (by simp [hj]))
theorem Text.next (X : Text P nt ops rec A H) (hm : rec.mono) {i : Nat} : ∀ d, i + d ≤ ops.length → (H i).next ≤ (H (i + d)).next
  | 0, _ => Nat.le_refl _
  | d + 1, h => Nat.le_trans (Text.next X hm d (by omega)) (X.next1 hm (by omega))
theorem Text.le (X : Text P nt ops rec A H) (hm : rec.mono) {i j : Nat} (hij : i ≤ j) (hj : j ≤ ops.length) : (H i).next ≤ (H j).next := by
  have := X.next hm (i := i) (j - i) (by omega)
  rwa [show i + (j - i) = j by omega] at this
/-- one that does not turn the heap makes a block at the most -/
theorem Text.quiet (X : Text P nt ops rec A H) {j : Nat} (hj : j < ops.length) (hE : ¬ Eff P ops j) : H (j + 1) = H j ∨ ∃ blk, Born P nt ops A j blk ∧ H (j + 1) = (H j).new blk := by
  have ho : ops[j]? = some ops[j] := by simp [hj]
  obtain ⟨_, u, _, h5⟩ := item_cases (X.step j _ ho)
  rcases h5 with ⟨_, _, h⟩ | ⟨hl, hd⟩
  · exact .inl h
  · generalize hh : H (j + 1) = h' at hd
    cases hd with
    | v => exact .inl rfl
    | a hd hu => exact .inr ⟨_, ⟨_, _, _, ho, hl, hd, hu⟩, rfl⟩
    | e hd _ => exact (hE ⟨_, ho, by rw [hd]; rfl⟩).elim
theorem Text.seg (X : Text P nt ops rec A H) (hm : rec.mono) {i : Nat} : ∀ d, i + d ≤ ops.length → (∀ k, i ≤ k → k < i + d → ¬ Eff P ops k) → (∀ b, b < (H i).next → (H (i + d)).get b = (H i).get b) ∧ ((H i).wf → (H (i + d)).wf)
  | 0, _, _ => ⟨fun _ _ => rfl, fun h => h⟩
  | d + 1, h, hq => by
    obtain ⟨h1, h2⟩ := Text.seg X hm d (by omega) (fun k a b => hq k a (by omega))
    have hn := X.next hm (i := i) d (by omega)
    rcases X.quiet (j := i + d) (by omega) (hq (i + d) (by omega) (by omega)) with e | ⟨blk, _, e⟩
    · rw [show i + (d + 1) = i + d + 1 by omega, e]; exact ⟨h1, h2⟩
    · rw [show i + (d + 1) = i + d + 1 by omega, e]
      refine ⟨fun b hb => ?_, fun hw => Heap.wf_new (h2 hw) _⟩
      rw [Heap.get_new, if_neg (by omega)]
      exact h1 b hb
theorem Text.seg' (X : Text P nt ops rec A H) (hm : rec.mono) {i j : Nat} (hij : i ≤ j) (hj : j ≤ ops.length) (hq : ∀ k, i ≤ k → k < j → ¬ Eff P ops k) : (∀ b, b < (H i).next → (H j).get b = (H i).get b) ∧ ((H i).wf → (H j).wf) := by
  have := X.seg hm (i := i) (j - i) (by omega) (fun k a b => hq k a (by omega))
  rwa [show i + (j - i) = j by omega] at this
theorem Text.bornAt (X : Text P nt ops rec A H) (hm : rec.mono) {i j : Nat} {blk : Blk} (hb : Born P nt ops A i blk) (hij : i < j) (hj : j ≤ ops.length) (hq : ∀ k, i < k → k < j → ¬ Eff P ops k) : (H j).get (H i).next = some blk := by
  have e := X.born hb
  have hs := X.seg' hm (i := i + 1) hij hj (fun k a b => hq k (by omega) b)
  rw [hs.1 _ (by rw [e]; exact Nat.lt_succ_self _), e, Heap.get_new, if_pos rfl]
theorem Text.bornNext (X : Text P nt ops rec A H) {j : Nat} {blk : Blk} (h : Born P nt ops A j blk) : (H (j + 1)).next = (H j).next + 1 := by rw [X.born h]; rfl
/-- what holds when the operations of S have been carried out; m: behind the last turning of the heap -/
structure Inv (P : Program) (nt B M : Nat) (ops : List Oper) (A : Nat → Fr) (H : Nat → Heap) (x : G) (ρ0 : Ren) (w0 : World) (ds : List Deferred) (S : Nat → Prop) (m : Nat) (g : G) (ρ : Ren) (act : Act) (w : World) : Prop where
  fr : ∃ aS, FR nt ρ aS act.tmps ∧ (∀ t, t < nt → ∀ j o, S j → ops[j]? = some o → o.dst = some t → (∀ i o', S i → ops[i]? = some o' → o'.dst = some t → i ≤ j) → (sel t).f aS = (sel t).f (A (j + 1))) ∧
    (∀ t, t < nt → (∀ j o, S j → ops[j]? = some o → o.dst ≠ some t) → (sel t).f aS = (sel t).f (A 0))
  defers : act.defers = ds
  sN : ∀ j, S j → j < ops.length
  down : Down ops S
  e1 : ∀ k, Eff P ops k → (S k ↔ k < m)
  mle : m ≤ ops.length
  em : m = 0 ∨ ∃ k, m = k + 1 ∧ Eff P ops k
  hr : HR ρ B g w
  g1 : ∀ b, b < (H m).next → ρ b ≠ none → g b = (H m).get b
  g2 : ∀ b, M ≤ b → g b = x b
  g3 : ∀ j blk, S j → m ≤ j → Born P nt ops A j blk → g (H j).next = some blk
  wf : (H m).wf
  dom : ∀ b, (H 0).next ≤ b → b < M → ρ b ≠ none → ∃ j, S j ∧ (H j).next ≤ b ∧ b < (H (j + 1)).next
  un : ∀ j blk, ¬ S j → j < m → Born P nt ops A j blk → (H m).get (H j).next = some blk
  grew : Grew ρ0 ρ (H 0).next (H ops.length).next w0 w
  kept : Kept ρ0 B w0 w
  same : ∀ b, b < (H 0).next → ρ0 b = none → (H m).get b = (H 0).get b
section inv
variable {B M : Nat} {x g : G} {ρ0 ρ : Ren} {w0 w : World} {ds : List Deferred} {S : Nat → Prop} {m : Nat} {act : Act}
theorem bef_lt {i j : Nat} (hf : Fit P nt ops) (h : Bef ops i j) : i < j := by
  induction j using Nat.strongRecOn generalizing i with
  | _ j ih =>
    obtain ⟨o, ho, e, he, hb, h⟩ := h.step
    have h1 := hf.back j o ho e he hb
    rcases h with rfl | ⟨h2, h3⟩
    · exact h1
    · have := ih e.on h2 h3; omega
/-- of the writers of a slot that clash -/
theorem Inv.order (I : Inv P nt B M ops A H x ρ0 w0 ds S m g ρ act w) (hf : Fit P nt ops) {j : Nat} (hr : Ready ops S j) {i : Nat} {oi oj : Oper} (hi : ops[i]? = some oi) (hj : ops[j]? = some oj) (hne : i ≠ j)
    (hcl : ∀ x y, (x = oi ∧ y = oj ∨ x = oj ∧ y = oi) → noClash ops nt x y = false) : S i ↔ i < j := by
  constructor
  · intro hs
    rcases Nat.lt_or_ge i j with h | h
    · exact h
    · have hji : j < i := by omega
      rcases hf.apart j i oj oi hji hj hi with h1 | ⟨h1, _⟩
      · exact (hr.1 (I.down j i hs h1)).elim
      · rw [hcl oj oi (.inr ⟨rfl, rfl⟩)] at h1; cases h1
  · intro hlt
    rcases hf.apart i j oi oj hlt hi hj with h1 | ⟨h1, _⟩
    · exact hr.bef I.down h1
    · rw [hcl oi oj (.inl ⟨rfl, rfl⟩)] at h1; cases h1
/-- what an operation that is ready sees is what it saw in the text -/
theorem Inv.sees (I : Inv P nt B M ops A H x ρ0 w0 ds S m g ρ act w) (X : Text P nt ops rec A H) (h5 : nt ≤ 512) (hf : Fit P nt ops) {j : Nat} (hr : Ready ops S j) {o : Oper} (ho : ops[j]? = some o) {aS : Fr}
    (F1 : ∀ t, t < nt → ∀ j o, S j → ops[j]? = some o → o.dst = some t → (∀ i o', S i → ops[i]? = some o' → o'.dst = some t → i ≤ j) → (sel t).f aS = (sel t).f (A (j + 1)))
    (F0 : ∀ t, t < nt → (∀ j o, S j → ops[j]? = some o → o.dst ≠ some t) → (sel t).f aS = (sel t).f (A 0)) {t : Tmp} (ht : t < nt) (hl : t ∈ looks ops nt o) : (sel t).f aS = (sel t).f (A j) := by
  have hjl : j < ops.length := (List.getElem?_eq_some_iff.1 ho).1
  have hord : ∀ i oi, ops[i]? = some oi → oi.dst = some t → i ≠ j → (S i ↔ i < j) := by
    intro i oi hi hd hne
    refine I.order hf hr hi ho hne ?_
    rintro p q (⟨rfl, rfl⟩ | ⟨rfl, rfl⟩)
    · cases hc : noClash ops nt p q with
      | false => rfl
      | true => exact absurd hl (noClash_dst hc hd).1
    · cases hc : noClash ops nt p q with
      | false => rfl
      | true => exact absurd hl (noClash_dst' hc hd)
  by_cases hw : ∃ i oi, i < j ∧ ops[i]? = some oi ∧ oi.dst = some t
  · -- the last one ahead of it
    obtain ⟨i, oi, hij, hi, hd, hlast⟩ : ∃ i oi, i < j ∧ ops[i]? = some oi ∧ oi.dst = some t ∧ ∀ k ok, i < k → k < j → ops[k]? = some ok → ok.dst ≠ some t := by
      obtain ⟨i, oi, hij, hi, hd⟩ := hw
      have key : ∀ d i oi, j - i = d → i < j → ops[i]? = some oi → oi.dst = some t → ∃ i oi, i < j ∧ ops[i]? = some oi ∧ oi.dst = some t ∧ ∀ k ok, i < k → k < j → ops[k]? = some ok → ok.dst ≠ some t := by
        intro d
        induction d using Nat.strongRecOn with
        | _ d ih =>
          intro i oi hd' hij hi hd
          by_cases hk : ∃ k ok, i < k ∧ k < j ∧ ops[k]? = some ok ∧ ok.dst = some t
          · obtain ⟨k, ok, h1, h2, h3, h4⟩ := hk
            exact ih (j - k) (by omega) k ok rfl h2 h3 h4
          · exact ⟨i, oi, hij, hi, hd, fun k ok h1 h2 h3 h4 => hk ⟨k, ok, h1, h2, h3, h4⟩⟩
      exact key _ i oi rfl hij hi hd
    rw [F1 t ht i oi ((hord i oi hi hd (by omega)).2 hij) hi hd (fun k ok hs hk hdk => by
      rcases Nat.lt_or_ge i k with h | h
      · have hkj : k ≠ j := fun e => by subst e; exact hr.1 hs
        have hkl := (hord k ok hk hdk hkj).1 hs
        exact absurd hdk (hlast k ok h hkl hk)
      · exact h)]
    have := X.slot h5 ht (i := i + 1) (j - (i + 1)) (by omega) (fun k ok h1 h2 hk => hlast k ok (by omega) (by omega) hk)
    rw [show i + 1 + (j - (i + 1)) = j by omega] at this
    exact this.symm
  · rw [F0 t ht (fun k ok hs hk hdk => by
      have hkj : k ≠ j := fun e => by subst e; exact hr.1 hs
      exact hw ⟨k, ok, (hord k ok hk hdk hkj).1 hs, hk, hdk⟩)]
    have := X.slot h5 ht (i := 0) j (by omega) (fun k ok h1 h2 hk hdk => hw ⟨k, ok, by omega, hk, hdk⟩)
    rw [Nat.zero_add] at this
    exact this.symm
/-- the frame behind an operation -/
theorem Inv.frame (I : Inv P nt B M ops A H x ρ0 w0 ds S m g ρ act w) (X : Text P nt ops rec A H) (h5 : nt ≤ 512) (hf : Fit P nt ops) {j : Nat} (hr : Ready ops S j) {o : Oper} (ho : ops[j]? = some o) (hok : okOper nt o = true) {aS : Fr} {u : Value} (hA : A (j + 1) = (dstB o.dst).f u (A j))
    (F1 : ∀ t, t < nt → ∀ j o, S j → ops[j]? = some o → o.dst = some t → (∀ i o', S i → ops[i]? = some o' → o'.dst = some t → i ≤ j) → (sel t).f aS = (sel t).f (A (j + 1)))
    (F0 : ∀ t, t < nt → (∀ j o, S j → ops[j]? = some o → o.dst ≠ some t) → (sel t).f aS = (sel t).f (A 0)) :
    (∀ t, t < nt → ∀ k ok, (S k ∨ k = j) → ops[k]? = some ok → ok.dst = some t → (∀ i o', (S i ∨ i = j) → ops[i]? = some o' → o'.dst = some t → i ≤ k) → (sel t).f ((dstB o.dst).f u aS) = (sel t).f (A (k + 1))) ∧
    (∀ t, t < nt → (∀ k ok, (S k ∨ k = j) → ops[k]? = some ok → ok.dst ≠ some t) → (sel t).f ((dstB o.dst).f u aS) = (sel t).f (A 0)) := by
  have hput : ∀ t, t < nt → ∀ a : Fr, (sel t).f ((dstB o.dst).f u a) = if o.dst = some t then u else (sel t).f a := by
    intro t ht a
    cases hd : o.dst with
    | none => rw [if_neg (by simp)]; rfl
    | some d =>
      have hdl : d < nt := by
        simp only [okOper, Bool.and_eq_true] at hok
        exact okDst_lt (by rw [← hd]; exact hok.1)
      show (sel t).f ((put d).f u a) = _
      rw [sel_put t d (Nat.lt_of_lt_of_le ht h5) (Nat.lt_of_lt_of_le hdl h5)]
      by_cases e : t = d
      · rw [if_pos e, if_pos (by rw [e])]
      · rw [if_neg e, if_neg (fun h => e (by cases h; rfl))]
  have hord : ∀ t, o.dst = some t → ∀ i oi, ops[i]? = some oi → oi.dst = some t → S i → i < j := by
    intro t hd i oi hi hdi hs
    have hne : i ≠ j := fun e => by subst e; exact hr.1 hs
    refine (I.order hf hr hi ho hne ?_).1 hs
    rintro p q (⟨rfl, rfl⟩ | ⟨rfl, rfl⟩)
    · cases hc : noClash ops nt p q with
      | false => rfl
      | true => exact absurd hd (noClash_dst hc hdi).2
    · cases hc : noClash ops nt p q with
      | false => rfl
      | true => exact absurd hdi (noClash_dst hc hd).2
  refine ⟨fun t ht k ok hs hk hdk hmax => ?_, fun t ht hno => ?_⟩
  · rw [hput t ht]
    by_cases hd : o.dst = some t
    · have hkj : k = j := by
        rcases hs with hs | hs
        · have h1 := hord t hd k ok hk hdk hs
          have h2 := hmax j o (.inr rfl) ho hd
          omega
        · exact hs
      subst hkj
      rw [if_pos hd, hA, hput t ht, if_pos hd]
    · rw [if_neg hd]
      rcases hs with hs | rfl
      · exact F1 t ht k ok hs hk hdk (fun i o' hi h1 h2 => hmax i o' (.inl hi) h1 h2)
      · rw [ho] at hk; cases hk; exact (hd hdk).elim
  · rw [hput t ht, if_neg (hno j o (.inr rfl) ho)]
    exact F0 t ht (fun k ok hs hk => hno k ok (.inl hs) hk)
end inv
end
end Vm

/-! Regions whose order is open: one operation. -/
set_option linter.unusedVariables false
namespace Vm
open Go
theorem Grew.step {ρ0 ρ σ : Ren} {n n' k k' : Nat} {w0 w w' : World} (h : Grew ρ0 ρ n n' w0 w) (g : Grew ρ σ k k' w w') (h1 : n ≤ k) (h2 : k' ≤ n') (hw : w0.heap.size ≤ w.heap.size) (hw' : w.heap.size ≤ w'.heap.size) : Grew ρ0 σ n n' w0 w' := by
  refine ⟨Ren.le_trans h.le g.le, fun b i hb hr => ?_⟩
  cases hs : ρ b with
  | some j =>
    have := g.le b j hs
    rw [hb] at this
    cases this
    obtain ⟨h1, h2, h3, h4⟩ := h.fresh b i hs hr
    exact ⟨h1, h2, by omega, h4⟩
  | none =>
    obtain ⟨h1, h2, h3, h4⟩ := g.fresh b i hb hs
    refine ⟨by omega, by omega, h3, ?_⟩
    rcases h4 with h4 | ⟨c, j, hc, hj⟩
    · exact .inl (by omega)
    · cases hr' : ρ0 c with
      | some j' =>
        have := h.le c j' hr'
        rw [hc] at this
        cases this
        exact .inr ⟨c, j, hr', hj⟩
      | none =>
        rcases (h.fresh c j hc hr').2.2.2 with h5 | ⟨c', j', hc', hj'⟩
        · exact .inl (by omega)
        · exact .inr ⟨c', j', hc', hj'.trans hj⟩
section
variable {P : Program} {nt : Nat} {ops : List Oper} {rec : Rec} {A : Nat → Fr} {H : Nat → Heap} {B M : Nat} {x g : G} {ρ0 ρ : Ren} {w0 w : World} {ds : List Deferred} {S : Nat → Prop} {m : Nat} {act : Act}

/-- what the readings of the text's run say of other places -/
def CK (P : Program) (nt : Nat) (ops : List Oper) (A : Nat → Fr) (H : Nat → Heap) : Prop :=
  ∀ j o rd s u m, ops[j]? = some o → denOp P o.op = .v rd s → Lives ops nt o (A j) → s.f (A j) (H j).get = some u → m ≤ ops.length → (m = 0 ∨ ∃ k, m = k + 1 ∧ Eff P ops k) →
    (∀ e, Eff P ops e → (Bef ops e j → e < m) ∧ (Bef ops j e → m ≤ e)) → s.f (A j) (H m).get = some u ∨ (m ≤ j ∧ ∀ k, m ≤ k → k < j → ¬ Eff P ops k)
theorem Born.inj (X : Text P nt ops rec A H) (hm : rec.mono) {i j : Nat} {bi bj : Blk} (hi : Born P nt ops A i bi) (hj : Born P nt ops A j bj) (h : (H i).next = (H j).next) : i = j := by
  have h1 := X.bornNext hi
  have h2 := X.bornNext hj
  rcases Nat.lt_trichotomy i j with h3 | h3 | h3
  · have := X.le hm (i := i + 1) (j := j) h3 (by have := hj.lt; omega); omega
  · exact h3
  · have := X.le hm (i := j + 1) (j := i) h3 (by have := hi.lt; omega); omega
theorem Inv.unborn (I : Inv P nt B M ops A H x ρ0 w0 ds S m g ρ act w) (X : Text P nt ops rec A H) (hm : rec.mono) (hM : (H ops.length).next ≤ M) {j : Nat} (hj : j < ops.length) (hS : ¬ S j) {b : Nat} (h1 : (H j).next ≤ b) (h2 : b < (H (j + 1)).next) : ρ b = none := by
  cases hb : ρ b with
  | none => rfl
  | some i =>
    have a0 := X.le hm (i := 0) (j := j) (Nat.zero_le _) (by omega)
    have a1 := X.le hm (i := j + 1) (j := ops.length) hj (Nat.le_refl _)
    obtain ⟨k, hk, h3, h4⟩ := I.dom b (by omega) (by omega) (by rw [hb]; simp)
    have hkl := I.sN k hk
    rcases Nat.lt_trichotomy k j with h | h | h
    · have := X.le hm (i := k + 1) (j := j) h (by omega); omega
    · subst h; exact (hS hk).elim
    · have := X.le hm (i := j + 1) (j := k) h (by omega); omega
/-- an operation that reckons, or is skipped -/
theorem Inv.quiet (I : Inv P nt B M ops A H x ρ0 w0 ds S m g ρ act w) {j : Nat} (hr : Ready ops S j) (hjl : j < ops.length) (hE : ¬ Eff P ops j) (hB : ∀ blk, ¬ Born P nt ops A j blk) {o : Oper} {u u' : Value} {aS : Fr} (hf : FR nt ρ ((dstB o.dst).f u aS) (act.put o.dst u').tmps)
    (F1 : ∀ t, t < nt → ∀ k ok, (S k ∨ k = j) → ops[k]? = some ok → ok.dst = some t → (∀ i o', (S i ∨ i = j) → ops[i]? = some o' → o'.dst = some t → i ≤ k) → (sel t).f ((dstB o.dst).f u aS) = (sel t).f (A (k + 1)))
    (F0 : ∀ t, t < nt → (∀ k ok, (S k ∨ k = j) → ops[k]? = some ok → ok.dst ≠ some t) → (sel t).f ((dstB o.dst).f u aS) = (sel t).f (A 0)) :
    Inv P nt B M ops A H x ρ0 w0 ds (fun k => S k ∨ k = j) m g ρ (act.put o.dst u') w where
  fr := ⟨_, hf, F1, F0⟩
  defers := (put_tmps _ _ _).trans I.defers
  sN := fun k hk => by rcases hk with hk | rfl <;> first | exact I.sN k hk | exact hjl
  down := I.down.add hr
  e1 := fun k hk => ⟨fun h => by rcases h with h | rfl <;> first | exact (I.e1 k hk).1 h | exact (hE hk).elim, fun h => .inl ((I.e1 k hk).2 h)⟩
  mle := I.mle
  em := I.em
  hr := I.hr
  g1 := I.g1
  g2 := I.g2
  g3 := fun k blk hk hmk hb => by rcases hk with hk | rfl <;> first | exact I.g3 k blk hk hmk hb | exact (hB blk hb).elim
  wf := I.wf
  dom := fun b h1 h2 h3 => let ⟨k, hk, h⟩ := I.dom b h1 h2 h3; ⟨k, .inl hk, h⟩
  un := fun k blk hk hmk hb => I.un k blk (fun h => hk (.inl h)) hmk hb
  grew := I.grew
  kept := I.kept
  same := I.same
/-- one operation -/
theorem Inv.step (I : Inv P nt B M ops A H x ρ0 w0 ds S m g ρ act w) (X : Text P nt ops rec A H) (hrec : RecOK P B rec) (h5 : nt ≤ 512) (hf : Fit P nt ops) (hM : (H ops.length).next ≤ M) (hck : CK P nt ops A H) {j : Nat} (hr : Ready ops S j)
    {ro : Option Nat} {opsA : Array Oper} (hops : opsA.toList = ops) {Q : Exit → Act → World → Prop} {K : Act → World → Prop}
    (hK : ∀ m' g' ρ' act' w', Inv P nt B M ops A H x ρ0 w0 ds (fun k => S k ∨ k = j) m' g' ρ' act' w' → K act' w') : wpOpIn (FW ro) 0 P opsA Q j K act w := by
  obtain ⟨_, o, ho, _⟩ := id hr
  have hjl : j < ops.length := (List.getElem?_eq_some_iff.1 ho).1
  have hoA : opsA[j]? = some o := by rw [← hops] at ho; simpa using ho
  obtain ⟨aS, hfr, F1, F0⟩ := I.fr
  obtain ⟨hok, u, hA, hcase⟩ := item_cases (X.step j o ho)
  obtain ⟨hag, hlv⟩ := agree_looks hok (fun t ht hl => I.sees X h5 hf hr ho F1 F0 ht hl)
  obtain ⟨F1', F0'⟩ := I.frame X h5 hf hr ho hok hA F1 F0
  have hok' := hok
  simp only [okOper, Bool.and_eq_true, List.all_eq_true] at hok'
  have hE : Ops ρ aS act.eval o.op.operands.toList := fun y hy => hfr.eval (hok'.2 y hy)
  unfold wpOpIn
  simp only [hoA]
  -- what the guard says
  have hw : Region.wanted o (yielded opsA act.tmps) = true ↔ Lives ops nt o aS := by
    cases hg : o.guard with
    | none => simp [Region.wanted, hg, Lives]
    | some p =>
      obtain ⟨k, want⟩ := p
      have hs : ∃ s, guardSlot ops nt k = some s := by
        rcases hcase with ⟨⟨k', want', s, h1, h2, _⟩, _⟩ | ⟨h1 | ⟨k', want', s, h1, h2, _⟩, _⟩
        · rw [hg] at h1; cases h1; exact ⟨s, h2⟩
        · rw [hg] at h1; cases h1
        · rw [hg] at h1; cases h1; exact ⟨s, h2⟩
      obtain ⟨s, hs⟩ := hs
      rw [sim_wanted hg (by rw [hops]; exact hs) hfr]
      unfold Lives
      rw [hg]
      constructor
      · intro h
        split at h
        · rename_i b hb
          right
          exact ⟨k, want, s, rfl, hs, by rw [hb, beq_iff_eq.1 h]⟩
        · cases h
      · rintro (h | ⟨k', want', s', h1, h2, h3⟩)
        · cases h
        · cases h1
          rw [hs] at h2
          cases h2
          rw [h3]
          simp
  rcases hcase with ⟨hsk, hu, hH⟩ | ⟨hl, hdid⟩
  · -- skipped
    have hnl : ¬ Lives ops nt o aS := fun h => skips_not hsk (hlv.1 h)
    rw [if_neg (fun h => hnl (hw.1 h))]
    refine ⟨fun _ _ => trivial, ?_⟩
    subst hu
    by_cases hEf : Eff P ops j
    · -- one that would turn the heap: behind it the heap is the same
      have hmj : m ≤ j := by
        rcases Nat.lt_or_ge j m with h | h
        · exact (hr.1 ((I.e1 j hEf).2 h)).elim
        · exact h
      have hno : ∀ k, m ≤ k → k < j → ¬ Eff P ops k := fun k h1 h2 hk => by
        obtain ⟨ok, hok1, hok2⟩ := hk
        obtain ⟨oj, hoj1, hoj2⟩ := hEf
        rcases hf.apart k j ok oj h2 hok1 hoj1 with h | ⟨_, h⟩
        · have := (I.e1 k ⟨ok, hok1, hok2⟩).1 (hr.bef I.down h); omega
        · exact h ⟨hok2, hoj2⟩
      have hseg := X.seg' hrec.mono hmj (by omega) hno
      have hnm := X.le hrec.mono hmj (by omega)
      refine hK (j + 1) g ρ _ w ?_
      refine ⟨⟨_, hfr.dst hok'.1 .undef', F1', F0'⟩, (put_tmps _ _ _).trans I.defers, fun k hk => by rcases hk with hk | rfl <;> first | exact I.sN k hk | exact hjl, I.down.add hr, fun k hk => ?_, hjl, .inr ⟨j, rfl, hEf⟩, I.hr, ?_, I.g2, ?_, ?_, fun b h1 h2 h3 => let ⟨k, hk, h⟩ := I.dom b h1 h2 h3; ⟨k, .inl hk, h⟩, ?_, I.grew, I.kept, ?_⟩
      · constructor
        · rintro (h | rfl)
          · have := (I.e1 k hk).1 h; omega
          · omega
        · intro h
          by_cases hkj : k = j
          · exact .inr hkj
          · by_cases hkm : k < m
            · exact .inl ((I.e1 k hk).2 hkm)
            · exact (hno k (by omega) (by omega) hk).elim
      · intro b hb hrb
        rw [hH] at hb ⊢
        by_cases hbm : b < (H m).next
        · rw [I.g1 b hbm hrb, hseg.1 b hbm]
        · have a1 := X.le hrec.mono (i := j) (j := ops.length) (by omega) (Nat.le_refl _)
          have a0 := X.le hrec.mono (i := 0) (j := m) (Nat.zero_le _) I.mle
          obtain ⟨k, hk, h3, h4⟩ := I.dom b (by omega) (by omega) hrb
          have hkl := I.sN k hk
          have hkm : m ≤ k := by
            rcases Nat.lt_or_ge k m with h | h
            · have := X.le hrec.mono (i := k + 1) (j := m) h I.mle; omega
            · exact h
          have hkj : k < j := by
            rcases Nat.lt_or_ge k j with h | h
            · exact h
            · have := X.le hrec.mono (i := j) (j := k) h (by omega); omega
          rcases X.quiet hkl (hno k hkm hkj) with e | ⟨blk, hbn, e⟩
          · rw [e] at h4; omega
          · have : b = (H k).next := by rw [e, Heap.next_new] at h4; omega
            subst this
            rw [I.g3 k blk hk hkm hbn]
            exact (X.bornAt hrec.mono hbn hkj (by omega) (fun q h1 h2 => hno q (by omega) h2)).symm
      · intro k blk hk hmk hb
        rcases hk with hk | rfl
        · exact I.g3 k blk hk (by omega) hb
        · exact (hb.noE hEf).elim
      · rw [hH]; exact hseg.2 I.wf
      · intro k blk hk hkm hb
        rw [hH]
        have hkj : k ≠ j := fun e => by subst e; exact hb.noE hEf
        by_cases hkm' : k < m
        · have := X.bornNext hb
          have h3 := X.le hrec.mono (i := k + 1) (j := m) hkm' I.mle
          rw [hseg.1 _ (by omega)]
          exact I.un k blk (fun h => hk (.inl h)) hkm' hb
        · exact X.bornAt hrec.mono hb (by omega) (by omega) (fun q h1 h2 => hno q (by omega) h2)
      · intro b hb hrb
        have a0 := X.le hrec.mono (i := 0) (j := m) (Nat.zero_le _) I.mle
        rw [hH, hseg.1 b (by omega)]
        exact I.same b hb hrb
    · refine hK m g ρ _ w (I.quiet hr hjl hEf (fun blk hb => ?_) (hfr.dst hok'.1 .undef') F1' F0')
      obtain ⟨o', s, val, h1, h2, _⟩ := hb
      rw [ho] at h1
      cases h1
      exact skips_not hsk h2
  · have hl' : Lives ops nt o aS := hlv.2 hl
    rw [if_pos (hw.2 hl')]
    generalize hHj : H (j + 1) = h' at hdid
    have hnd : ∀ c, o.op ≠ .defer c := by
      intro c e
      cases hdid with
      | v hd hu => rw [e] at hd; simp only [denOp] at hd; exact oNo_v hd hu
      | a hd _ => rw [e] at hd; cases hd
      | e hd _ => rw [e] at hd; cases hd
    have hloc := den_loc P o.op
    cases hdid with
    | v hd hu =>
      rename_i rd s
      have hEf : ¬ Eff P ops j := by
        rintro ⟨o', h1, h2⟩
        rw [ho] at h1
        cases h1
        rw [hd] at h2
        cases h2
      have hBn : ∀ blk, ¬ Born P nt ops A j blk := by
        rintro blk ⟨o', s', val, h1, _, h2, _⟩
        rw [ho] at h1
        cases h1
        rw [hd] at h2
        cases h2
      have hform := den_form P o.op
      rw [hd] at hform hloc
      -- the value, at a heap that the world is tied to
      have hval : ∃ G', HR ρ B G' w ∧ s.f aS G' = some u := by
        have h1 : m ≤ ops.length := I.mle
        rcases hck j o rd s u m ho hd hl hu I.mle I.em (fun e he => ⟨fun hb => (I.e1 e he).1 (hr.bef I.down hb), fun hb => by
            rcases Nat.lt_or_ge e m with h | h
            · exact (hr.1 (I.down j e ((I.e1 e he).2 h) hb)).elim
            · exact h⟩) with h2 | ⟨hmj, hno⟩
        · refine ⟨mix (H m).next (H m) g, I.hr.congr fun b i hb => ?_, ?_⟩
          · unfold mix
            split
            · rename_i hlt; exact (I.g1 b hlt (by rw [hb]; simp)).symm
            · rfl
          · rw [hloc _ _ hag]
            exact hform.1.mono (fun b y hb => mix_get I.wf (Nat.le_refl _) hb) h2
        · have hseg := X.seg' hrec.mono hmj (by omega) hno
          have hwf := hseg.2 I.wf
          refine ⟨mix (H j).next (H j) g, I.hr.congr fun b i hb => ?_, ?_⟩
          · unfold mix
            split
            · rename_i hlt
              have hrb : ρ b ≠ none := by rw [hb]; simp
              by_cases hbm : b < (H m).next
              · rw [hseg.1 b hbm, I.g1 b hbm hrb]
              · have a1 := X.le hrec.mono (i := j) (j := ops.length) (by omega) (Nat.le_refl _)
                have a0 := X.le hrec.mono (i := 0) (j := m) (Nat.zero_le _) I.mle
                obtain ⟨k, hk, h3, h4⟩ := I.dom b (by omega) (by omega) hrb
                have hkl := I.sN k hk
                have hkm : m ≤ k := by
                  rcases Nat.lt_or_ge k m with h | h
                  · have := X.le hrec.mono (i := k + 1) (j := m) h I.mle; omega
                  · exact h
                have hkj : k < j := by
                  rcases Nat.lt_or_ge k j with h | h
                  · exact h
                  · have := X.le hrec.mono (i := j) (j := k) h (by omega); omega
                rcases X.quiet hkl (hno k hkm hkj) with e | ⟨blk, hbn, e⟩
                · rw [e] at h4; omega
                · have : b = (H k).next := by rw [e, Heap.next_new] at h4; omega
                  subst this
                  rw [I.g3 k blk hk hkm hbn]
                  exact X.bornAt hrec.mono hbn hkj (by omega) (fun q h1 h2 => hno q (by omega) h2)
            · rfl
          · rw [hloc _ _ hag]
            exact hform.1.mono (fun b y hb => mix_get hwf (Nat.le_refl _) hb) hu
      obtain ⟨G', hG, hvs⟩ := hval
      obtain ⟨v', h1, h2⟩ := simV hd hvs hG hE
      refine ⟨fun _ _ => trivial, ?_⟩
      rw [Oper.semAt_eq _ _ _ hnd, h1, Oper.uponIn_value]
      exact hK m g ρ _ w (I.quiet hr hjl hEf hBn (hfr.dst hok'.1 h2) F1' F0')
    | a hd hu =>
      rename_i s blk val
      have hborn : Born P nt ops A j blk := ⟨o, s, val, ho, hl, hd, hu⟩
      have hEf : ¬ Eff P ops j := hborn.noE
      have hnx := X.bornNext hborn
      have a1 := X.le hrec.mono (i := j + 1) (j := ops.length) hjl (Nat.le_refl _)
      have a0 := X.le hrec.mono (i := 0) (j := j) (Nat.zero_le _) (by omega)
      have hb : ρ (H j).next = none := I.unborn X hrec.mono hM hjl hr.1 (Nat.le_refl _) (by omega)
      rw [hd] at hloc
      have hu' : s.f aS = some (blk, val) := by rw [hloc _ _ hag]; exact hu
      obtain ⟨v', n, obj, i, h1, h2, h3, h4⟩ := simA hd hu' I.hr hE hb
      refine ⟨fun _ _ => trivial, ?_⟩
      rw [Oper.semAt_eq _ _ _ hnd, h1, Oper.uponIn_value]
      have Gr := Grew.new (w := { w with drawn := n }) hb obj i h2 (Nat.le_refl _) (Nat.lt_succ_self _)
      have Gr' : Grew ρ (ρ.with (H j).next i) (H j).next ((H j).next + 1) w (World.alloc { w with drawn := n } obj) := ⟨Gr.le, Gr.fresh⟩
      have Kp : Kept ρ B w (World.alloc { w with drawn := n } obj) := (Kept.drew ρ B w n).trans (Grew.refl ρ 0 0 _ _) (Kept.new (w := { w with drawn := n }) ρ I.hr.base _)
      refine hK m (fun b => if b = (H j).next then some blk else g b) (ρ.with (H j).next i) _ _ ?_
      refine ⟨⟨_, (hfr.mono Gr'.le).dst hok'.1 h4, F1', F0'⟩, (put_tmps _ _ _).trans I.defers, fun k hk => by rcases hk with hk | rfl <;> first | exact I.sN k hk | exact hjl, I.down.add hr,
        fun k hk => ⟨fun h => by rcases h with h | rfl <;> first | exact (I.e1 k hk).1 h | exact (hEf hk).elim, fun h => .inl ((I.e1 k hk).2 h)⟩, I.mle, I.em, (I.hr.drew n).new hb obj i h2 blk h3, ?_, ?_, ?_, I.wf, ?_, ?_, ?_, ?_, I.same⟩
      · intro b hbm hrb
        by_cases e : b = (H j).next
        · subst e
          rw [if_pos rfl]
          rcases Nat.lt_or_ge j m with h | h
          · exact (I.un j blk hr.1 h hborn).symm
          · have := X.le hrec.mono (i := m) (j := j) h (by omega); omega
        · rw [if_neg e]
          refine I.g1 b hbm ?_
          unfold Ren.with at hrb
          rw [if_neg e] at hrb
          exact hrb
      · intro b hbM
        rw [if_neg (by omega)]
        exact I.g2 b hbM
      · intro k blk' hk hmk hb'
        by_cases hkj : k = j
        · subst hkj
          obtain ⟨o1, s1, v1, q1, _, q2, q3⟩ := hb'
          rw [ho] at q1
          cases q1
          rw [hd] at q2
          cases q2
          rw [hu] at q3
          cases q3
          rw [if_pos rfl]
        · rw [if_neg (fun e => hkj (hb'.inj X hrec.mono hborn e))]
          rcases hk with hk | hk
          · exact I.g3 k blk' hk hmk hb'
          · exact (hkj hk).elim
      · intro b h6 h7 h8
        by_cases e : b = (H j).next
        · exact ⟨j, .inr rfl, by omega, by omega⟩
        · unfold Ren.with at h8
          rw [if_neg e] at h8
          obtain ⟨k, hk, h⟩ := I.dom b h6 h7 h8
          exact ⟨k, .inl hk, h⟩
      · exact fun k blk' hk hmk hb' => I.un k blk' (fun h => hk (.inl h)) hmk hb'
      · exact I.grew.step Gr' a0 (by omega) I.kept.size Kp.size
      · exact I.kept.trans I.grew Kp
    | e hd hu =>
      rename_i s
      have hEf : Eff P ops j := ⟨o, ho, by rw [hd]; rfl⟩
      have hmj : m ≤ j := by
        rcases Nat.lt_or_ge j m with h | h
        · exact (hr.1 ((I.e1 j hEf).2 h)).elim
        · exact h
      have hno : ∀ k, m ≤ k → k < j → ¬ Eff P ops k := fun k h1 h2 hk => by
        obtain ⟨ok, hok1, hok2⟩ := hk
        obtain ⟨oj, hoj1, hoj2⟩ := hEf
        rcases hf.apart k j ok oj h2 hok1 hoj1 with h | ⟨_, h⟩
        · have := (I.e1 k ⟨ok, hok1, hok2⟩).1 (hr.bef I.down h); omega
        · exact h ⟨hok2, hoj2⟩
      have hseg := X.seg' hrec.mono hmj (by omega) hno
      have hnm := X.le hrec.mono hmj (by omega)
      have a0 := X.le hrec.mono (i := 0) (j := m) (Nat.zero_le _) I.mle
      have a1 := X.le hrec.mono (i := j + 1) (j := ops.length) hjl (Nat.le_refl _)
      have a2 := X.next1 hrec.mono hjl
      subst hHj
      -- the tie
      have T : Tie ρ B (H (j + 1)).next g (H j) w := by
        refine ⟨I.hr.congr fun b i hb => ?_, hseg.2 I.wf, a2, fun b h1 h2 => I.unborn X hrec.mono hM hjl hr.1 h1 h2⟩
        unfold mix
        split
        · rename_i hlt
          have hrb : ρ b ≠ none := by rw [hb]; simp
          by_cases hbm : b < (H m).next
          · rw [hseg.1 b hbm, I.g1 b hbm hrb]
          · obtain ⟨k, hk, h3, h4⟩ := I.dom b (by omega) (by omega) hrb
            have hkl := I.sN k hk
            have hkm : m ≤ k := by
              rcases Nat.lt_or_ge k m with h | h
              · have := X.le hrec.mono (i := k + 1) (j := m) h I.mle; omega
              · exact h
            have hkj : k < j := by
              rcases Nat.lt_trichotomy k j with h | h | h
              · exact h
              · subst h; exact (hr.1 hk).elim
              · have := X.le hrec.mono (i := j + 1) (j := k) h (by omega); omega
            rcases X.quiet hkl (hno k hkm hkj) with e | ⟨blk, hbn, e⟩
            · rw [e] at h4; omega
            · have : b = (H k).next := by rw [e, Heap.next_new] at h4; omega
              subst this
              rw [I.g3 k blk hk hkm hbn]
              exact X.bornAt hrec.mono hbn hkj (by omega) (fun q h1 h2 => hno q (by omega) h2)
        · rfl
      rw [hd] at hloc
      have hiop : (iOp (dstB o.dst) (denOp P o.op)).f rec aS (H j) = .mk ((dstB o.dst).f u aS) (H (j + 1)) := by
        rw [hd]
        simp only [iOp]
        rw [hloc _ _ hag rec (H j), hu]
      refine sim_op hrec hiop T hfr (Nat.le_refl _) hok fun σ w' act' Af hf' hd' => ?_
      refine hK (j + 1) (mix (H (j + 1)).next (H (j + 1)) g) σ act' w' ?_
      have hσ : ∀ b, σ b ≠ none → ρ b ≠ none ∨ ((H j).next ≤ b ∧ b < (H (j + 1)).next) := by
        intro b hb
        cases hs : σ b with
        | none => exact (hb hs).elim
        | some i =>
          cases hrb : ρ b with
          | some k => left; simp
          | none => right; have := Af.grew.fresh b i hs hrb; exact ⟨this.1, this.2.1⟩
      refine ⟨⟨_, hf', F1', F0'⟩, hd'.trans I.defers, fun k hk => by rcases hk with hk | rfl <;> first | exact I.sN k hk | exact hjl, I.down.add hr, fun k hk => ?_, hjl, .inr ⟨j, rfl, hEf⟩, Af.hr, ?_, ?_, ?_, Af.hk.wf, ?_, ?_, ?_, ?_, ?_⟩
      · constructor
        · rintro (h | rfl)
          · have := (I.e1 k hk).1 h; omega
          · omega
        · intro h
          by_cases hkj : k = j
          · exact .inr hkj
          · by_cases hkm : k < m
            · exact .inl ((I.e1 k hk).2 hkm)
            · exact (hno k (by omega) (by omega) hk).elim
      · intro b hb _; unfold mix; rw [if_pos hb]
      · intro b hb; unfold mix; rw [if_neg (by omega)]; exact I.g2 b hb
      · intro k blk hk hmk hb
        rcases hk with hk | rfl
        · have := I.sN k hk
          have h6 := X.le hrec.mono (i := j + 1) (j := k) hmk (by omega)
          unfold mix
          rw [if_neg (by omega)]
          exact I.g3 k blk hk (by omega) hb
        · exact (hb.noE hEf).elim
      · intro b h6 h7 h8
        rcases hσ b h8 with h9 | h9
        · obtain ⟨k, hk, h⟩ := I.dom b h6 h7 h9
          exact ⟨k, .inl hk, h⟩
        · exact ⟨j, .inr rfl, h9⟩
      · intro k blk hk hkm hb
        have hkj : k ≠ j := fun e => by subst e; exact hb.noE hEf
        have hkl := hb.lt
        have hbx := X.bornNext hb
        have h6 := X.le hrec.mono (i := k + 1) (j := j) (by omega) (by omega)
        have hun : ρ (H k).next = none := I.unborn X hrec.mono hM hkl (fun h => hk (.inl h)) (Nat.le_refl _) (by omega)
        rw [Af.hk.same _ (by omega) hun]
        by_cases hkm' : k < m
        · have h7 := X.le hrec.mono (i := k + 1) (j := m) hkm' I.mle
          rw [hseg.1 _ (by omega)]
          exact I.un k blk (fun h => hk (.inl h)) hkm' hb
        · exact X.bornAt hrec.mono hb (by omega) (by omega) (fun q h1 h2 => hno q (by omega) h2)
      · exact I.grew.step Af.grew (by omega) (by omega) I.kept.size Af.kept.size
      · exact I.kept.trans I.grew Af.kept
      · intro b hb hrb
        have hρb : ρ b = none := by
          cases hs : ρ b with
          | none => rfl
          | some i => have := (I.grew.fresh b i hs hrb).1; omega
        rw [Af.hk.same b (by omega) hρb, hseg.1 b (by omega)]
        exact I.same b hb hrb
end
end Vm

/-! Regions whose order is open: sound. -/
set_option linter.unusedVariables false
namespace Vm
open Go
theorem same1_eq {v u : Value} (h : same1 v u = true) : v = u := by
  unfold same1 at h
  split at h
  · rename_i k n j m
    cases hk : (k == j) <;> simp only [hk, cond_true, cond_false] at h
    · cases h
    · rw [eqI_eq] at h
      rw [beq_iff_eq.1 hk, beq_iff_eq.1 h]
  · rename_i a b; cases a <;> cases b <;> first | rfl | cases h
  · rename_i a b
    rw [eqB_eq, beq_iff_eq] at h
    rw [show a = b from ByteArray.ext (Array.toList_inj.mp h)]
  · rfl
  · rename_i a b
    cases ha : eqA a b <;> simp only [ha, cond_true, cond_false] at h
    · cases h
    · rw [eqA_eq, decide_eq_true_eq] at ha
      obtain ⟨b1, o1, s1⟩ := a
      obtain ⟨b2, o2, s2⟩ := b
      have := beq_iff_eq.1 h
      simp_all
  · rename_i n c m d
    cases hn : Nat.beq n m <;> simp only [hn, cond_true, cond_false] at h
    · cases h
    · rw [Nat.eq_of_beq_eq_true hn, Nat.eq_of_beq_eq_true h]
  · rename_i a n c b m d
    cases hn : Nat.beq n m <;> simp only [hn, cond_true, cond_false] at h
    · cases h
    · cases hc : Nat.beq c d <;> simp only [hc, cond_true, cond_false] at h
      · cases h
      · cases ha : eqA a b <;> simp only [ha, cond_true, cond_false] at h
        · cases h
        · rw [eqA_eq, decide_eq_true_eq] at ha
          obtain ⟨b1, o1, s1⟩ := a
          obtain ⟨b2, o2, s2⟩ := b
          have := beq_iff_eq.1 h
          have h1 := Nat.eq_of_beq_eq_true hn
          have h2 := Nat.eq_of_beq_eq_true hc
          simp_all
  · rfl
  · rename_i a b; rw [Nat.eq_of_beq_eq_true h]
  · rfl
  · rfl
  · cases h
theorem sameL_eq : ∀ {l k : List Value}, sameL l k = true → l = k
  | [], [], _ => rfl
  | [], _ :: _, h => by cases h
  | _ :: _, [], h => by cases h
  | x :: l, y :: k, h => by
    have h' : (bif same1 x y then sameL l k else false) = true := h
    cases hx : same1 x y <;> simp only [hx, cond_true, cond_false] at h'
    · cases h'
    · rw [same1_eq hx, sameL_eq h']
theorem sameV_eq {v u : Value} (h : sameV v u = true) : v = u := by
  unfold sameV at h
  split at h
  · rw [Array.toList_inj.mp (sameL_eq h)]
  · rw [Array.toList_inj.mp (sameL_eq h)]
  · exact same1_eq h
section
variable {P : Program} {nt : Nat} {ops : List Oper} {rec : Rec}
theorem items_states : ∀ {l : List ISem} {a a' : Fr} {h h' : Heap}, runItems rec l a h = .mk a' h' → ∃ st, runStates rec l a h = some st ∧ st.getLast? = some (a', h')
  | [], a, a', h, h', hr => by cases hr; exact ⟨_, rfl, rfl⟩
  | i :: l, a, a', h, h', hr => by
    rw [runItems_cons] at hr
    split at hr
    · cases hr
    · rename_i a1 h1 he
      obtain ⟨st, h2, h3⟩ := items_states hr
      refine ⟨(a, h) :: st, by rw [runStates_cons, he]; simp only [h2], ?_⟩
      cases st with
      | nil => simp at h3
      | cons p q => simpa [List.getLast?_cons_cons] using h3
theorem draw_text {ops : Array Oper} {n : Nat} {a a' : Fr} {h h' : Heap} {e : Ex} (hr : (denDraw P nt ops).f rec n a h = .mk e a' h') :
    e = .normal ∧ okDraw P nt ops.toList = true ∧ ∃ st, runStates rec (ops.toList.map (denItem P nt ops.toList)) a h = some st ∧ st.getLast? = some (a', h') ∧ ∀ c ∈ checks P ops.toList, checkOne P nt ops.toList st c = true := by
  unfold denDraw at hr
  cases hb : okDraw P nt ops.toList <;> simp only [hb, cond_true, cond_false] at hr
  · cases hr
  · split at hr
    · rename_i hc
      simp only [sRegion] at hr
      split at hr
      · cases hr
      · rename_i a1 h1 he
        cases hr
        obtain ⟨st, h2, h3⟩ := items_states he
        exact ⟨rfl, rfl, st, h2, h3, fun c hm => by rw [hc] at hm; cases hm⟩
    · simp only [sDraw] at hr
      split at hr
      · cases hr
      · rename_i st hst
        cases hq : (checks P ops.toList).all (checkOne P nt ops.toList st) <;> simp only [hq, cond_true, cond_false] at hr
        · cases hr
        · split at hr
          · rename_i a1 h1 hl
            cases hr
            exact ⟨rfl, rfl, st, hst, hl, List.all_eq_true.1 hq⟩
          · cases hr
/-- the last turning ahead of a place -/
theorem last_turn (P : Program) (ops : List Oper) : ∀ j, ∃ m, m ≤ j ∧ (m = 0 ∨ ∃ k, m = k + 1 ∧ Eff P ops k) ∧ ∀ k, m ≤ k → k < j → ¬ Eff P ops k
  | 0 => ⟨0, Nat.le_refl _, .inl rfl, fun k h1 h2 => by omega⟩
  | j + 1 => by
    by_cases h : Eff P ops j
    · exact ⟨j + 1, Nat.le_refl _, .inr ⟨j, rfl, h⟩, fun k h1 h2 => by omega⟩
    · obtain ⟨m, h1, h2, h3⟩ := last_turn P ops j
      refine ⟨m, by omega, h2, fun k h4 h5 hk => ?_⟩
      by_cases e : k = j
      · subst e; exact h hk
      · exact h3 k h4 (by omega) hk
theorem window_mem {i m : Nat} (h1 : m = 0 ∨ ∃ k, m = k + 1 ∧ Eff P ops k) (h2 : ∀ e, Eff P ops e → (Bef ops e i → e < m) ∧ (Bef ops i e → m ≤ e)) : m ∈ windows P ops (befs ops) i := by
  have hes : ∀ e, e ∈ (List.range ops.length).filter (fun j => match ops[j]? with | some o => isE (denOp P o.op) | none => false) ↔ Eff P ops e := by
    intro e
    rw [List.mem_filter, List.mem_range]
    constructor
    · rintro ⟨hl, h⟩
      split at h
      · rename_i o ho; exact ⟨o, ho, h⟩
      · cases h
    · rintro ⟨o, ho, h⟩
      exact ⟨(List.getElem?_eq_some_iff.1 ho).1, by rw [ho]; exact h⟩
  unfold windows
  rw [List.mem_filter]
  refine ⟨?_, List.all_eq_true.2 fun e he => ?_⟩
  · rcases h1 with rfl | ⟨k, rfl, hk⟩
    · simp
    · exact List.mem_cons_of_mem _ (List.mem_map.2 ⟨k, (hes k).2 hk, rfl⟩)
  · have hE := (hes e).1 he
    obtain ⟨h3, h4⟩ := h2 e hE
    simp only [Bool.and_eq_true, Bool.or_eq_true, Bool.not_eq_true']
    refine ⟨?_, ?_⟩
    · cases hb : bit ((befs ops)[i]?.getD 0) e with
      | false => exact .inl rfl
      | true => exact .inr (by simpa using h3 hb)
    · cases hb : bit ((befs ops)[e]?.getD 0) i with
      | false => exact .inl rfl
      | true => exact .inr (Nat.ble_eq_true_of_le (h4 hb))
theorem ck_of {a : Fr} {h : Heap} {st : List (Fr × Heap)} (hf : Fit P nt ops) (hst : runStates rec (ops.map (denItem P nt ops)) a h = some st) (hc : ∀ c ∈ checks P ops, checkOne P nt ops st c = true) :
    CK P nt ops (fun j => (st[j]?.getD (a, h)).1) (fun j => (st[j]?.getD (a, h)).2) := by
  obtain ⟨hlen, _, _⟩ := states_get hst
  have hlen' : st.length = ops.length + 1 := by simpa using hlen
  intro j o rd s u m ho hd hl hu hm h1 h2
  have hform := den_form P o.op
  rw [hd] at hform
  cases rd with
  | false =>
    obtain ⟨f, rfl⟩ := hform.2 rfl
    exact .inl hu
  | true =>
    have hjl : j < ops.length := (List.getElem?_eq_some_iff.1 ho).1
    have hmem := window_mem (P := P) h1 h2
    obtain ⟨mt, t1, t2, t3⟩ := last_turn P ops j
    have hmt : mt ∈ windows P ops (befs ops) j := window_mem t2 fun e he => ⟨fun hb => by
        have := bef_lt hf hb
        rcases Nat.lt_or_ge e mt with h | h
        · exact h
        · exact (t3 e h this he).elim, fun hb => by have := bef_lt hf hb; omega⟩
    have hjm : j ∈ (List.range ops.length).filter (fun i => match ops[i]? with | some o => isRd (denOp P o.op) | none => false) := by
      rw [List.mem_filter, List.mem_range]
      exact ⟨hjl, by rw [ho]; simp only [hd]; rfl⟩
    generalize hwd : windows P ops (befs ops) j = wd at hmem hmt
    match wd, hmem, hmt, hwd with
    | [], hmem, _, _ => cases hmem
    | [y], hmem, hmt, _ =>
      have e1 : m = y := by simpa using hmem
      have e2 : mt = y := by simpa using hmt
      rw [e1, ← e2]
      exact .inr ⟨t1, t3⟩
    | y :: z :: r, hmem, _, hwd =>
      have hin : (j, y :: z :: r) ∈ checks P ops := by
        unfold checks
        refine List.mem_filterMap.2 ⟨j, hjm, ?_⟩
        rw [hwd]
      have hck := hc _ hin
      left
      unfold checkOne at hck
      simp only [ho] at hck
      have hsj : st[j]? = some st[j] := by rw [List.getElem?_eq_getElem (by omega)]
      rw [hsj] at hck
      simp only [hd, Bool.or_eq_true] at hck
      simp only [hsj, Option.getD_some] at hl hu ⊢
      rcases hck with hg | hv
      · exfalso
        rcases hl with hl | ⟨k, want, sl, g1, g2, g3⟩
        · rw [hl] at hg; cases hg
        · rw [g1] at hg
          simp only [g2, g3, beq_self_eq_true, cond_true] at hg
          cases hg
      · rw [hu] at hv
        simp only at hv
        have hv' := List.all_eq_true.1 hv m hmem
        have hsm : st[m]? = some st[m] := by rw [List.getElem?_eq_getElem (by omega)]
        rw [hsm] at hv' ⊢
        simp only [Option.getD_some] at hv' ⊢
        split at hv'
        · rename_i v' hv2
          rw [hv2, ← sameV_eq hv']
        · cases hv'
theorem count_lt {p q : Nat → Bool} {j : Nat} : ∀ {l : List Nat}, j ∈ l → p j = true → q j = false → (∀ i, q i = true → p i = true) → l.countP q < l.countP p
  | [], h, _, _, _ => by cases h
  | i :: l, h, hp, hq, hle => by
    have hmono : l.countP q ≤ l.countP p := List.countP_mono_left fun i _ h => hle i h
    rcases List.mem_cons.1 h with rfl | h
    · rw [List.countP_cons_of_pos hp, List.countP_cons_of_neg (by rw [hq]; simp)]
      omega
    · have ih := count_lt h hp hq hle
      rw [List.countP_cons, List.countP_cons]
      cases hqi : q i with
      | false => simp; omega
      | true => rw [hle i hqi]; simp; omega
/-- whatever is left -/
theorem any_sound {A : Nat → Fr} {H : Nat → Heap} {B M : Nat} {x : G} {ρ0 : Ren} {w0 : World} {ds : List Deferred} {opsA : Array Oper} (hops : opsA.toList = ops) (X : Text P nt ops rec A H) (hrec : RecOK P B rec) (h5 : nt ≤ 512) (hf : Fit P nt ops) (hM : (H ops.length).next ≤ M)
    (hck : CK P nt ops A H) {ro : Option Nat} {Q : Exit → Act → World → Prop}
    (hQ : ∀ m g ρ act w, Inv P nt B M ops A H x ρ0 w0 ds (fun k => k < ops.length) m g ρ act w → Q .normal act w) :
    ∀ (fuel : Nat) (listed : Array Bool) (m : Nat) (g : G) (ρ : Ren) (act : Act) (w : World), listed.size = ops.length → (List.range ops.length).countP (fun i => !listed.getD i false) ≤ fuel →
      Inv P nt B M ops A H x ρ0 w0 ds (fun k => listed.getD k false = true) m g ρ act w → wpAnyIn (FW ro) 0 P .any opsA Q fuel listed act w := by
  have hsz : opsA.size = ops.length := by rw [← hops]; simp
  have hget : ∀ i, opsA[i]? = ops[i]? := fun i => by rw [← hops, Array.getElem?_toList]
  have ready : ∀ {listed : Array Bool} {j : Nat}, listed.size = ops.length → j ∈ Region.ready .any opsA listed → Ready ops (fun k => listed.getD k false = true) j := by
    intro listed j hs hj
    rw [mem_ready] at hj
    obtain ⟨h1, o, h2, h3⟩ := hj
    rw [hget] at h2
    have hjl : j < ops.length := (List.getElem?_eq_some_iff.1 h2).1
    refine ⟨fun h => ?_, o, h2, fun e he hb => h3 e (by simpa using he) hb⟩
    have e1 : listed.getD j true = listed[j]'(by omega) := by simp [Array.getD, show j < listed.size by omega]
    have e2 : listed.getD j false = listed[j]'(by omega) := by simp [Array.getD, show j < listed.size by omega]
    have h' : listed.getD j false = true := h
    rw [e2] at h'
    rw [e1, h'] at h1
    cases h1
  -- with something left, something is ready
  have some_ready : ∀ {listed : Array Bool}, listed.size = ops.length → ∀ j, j < ops.length → listed.getD j false = false → Region.ready .any opsA listed ≠ [] := by
    intro listed hs j
    induction j using Nat.strongRecOn with
    | _ j ih =>
      intro hj hl hnil
      have ho : ops[j]? = some ops[j] := by simp [hj]
      by_cases hall : ∀ e ∈ ops[j].after.toList, Region.binds .any e = true → listed.getD e.on false = true
      · have : j ∈ Region.ready .any opsA listed := by
          rw [mem_ready]
          refine ⟨?_, ops[j], by rw [hget]; exact ho, fun e he hb => hall e (by simpa using he) hb⟩
          have e1 : listed.getD j true = listed[j]'(by omega) := by simp [Array.getD, show j < listed.size by omega]
          have e2 : listed.getD j false = listed[j]'(by omega) := by simp [Array.getD, show j < listed.size by omega]
          rw [e1, ← e2]
          exact hl
        rw [hnil] at this
        cases this
      · simp only [Classical.not_forall] at hall
        obtain ⟨e, he, hb, hne⟩ := hall
        have hlt := hf.back j ops[j] ho e he hb
        exact ih e.on hlt (by omega) (by simpa using hne) hnil
  have full : ∀ {listed : Array Bool} {m g ρ act w}, listed.size = ops.length → (∀ j, j < ops.length → listed.getD j false = true) → Inv P nt B M ops A H x ρ0 w0 ds (fun k => listed.getD k false = true) m g ρ act w → Q .normal act w := by
    intro listed m g ρ act w hs hall I
    have hS : (fun k => listed.getD k false = true) = (fun k => k < ops.length) := funext fun k => propext ⟨fun h => I.sN k h, fun h => hall k h⟩
    rw [hS] at I
    exact hQ m g ρ act w I
  intro fuel
  induction fuel with
  | zero =>
    intro listed m g ρ act w hs hc I
    have hall : ∀ j, j < ops.length → listed.getD j false = true := by
      intro j hj
      cases hl : listed.getD j false with
      | true => rfl
      | false =>
        have : 0 < (List.range ops.length).countP (fun i => !listed.getD i false) := List.countP_pos_iff.2 ⟨j, by simpa using hj, by rw [hl]; rfl⟩
        omega
    refine ⟨?_, full hs hall I⟩
    cases hrd : Region.ready .any opsA listed with
    | nil => rfl
    | cons j r =>
      have hj := ready hs (j := j) (by rw [hrd]; simp)
      obtain ⟨h1, o, h2, _⟩ := hj
      exact (h1 (hall j (List.getElem?_eq_some_iff.1 h2).1)).elim
  | succ fuel ih =>
    intro listed m g ρ act w hs hc I
    refine ⟨fun hnil => full hs (fun j hj => ?_) I, fun j hj => ?_⟩
    · cases hl : listed.getD j false with
      | true => rfl
      | false => exact (some_ready hs j hj hl hnil).elim
    · have hr := ready hs hj
      obtain ⟨hns, o, h2, _⟩ := id hr
      have hjl : j < ops.length := (List.getElem?_eq_some_iff.1 h2).1
      refine I.step X hrec h5 hf hM hck hr hops fun m' g' ρ' act' w' I' => ?_
      have hset : ∀ k, (listed.setIfInBounds j true).getD k false = true ↔ (listed.getD k false = true ∨ k = j) := by
        intro k
        by_cases e : k = j
        · subst e
          simp [Array.getD, show k < listed.size by omega]
        · rw [getD_set_ne false (Ne.symm e)]
          simp [e]
      refine ih _ m' g' ρ' act' w' (by simpa using hs) ?_ ?_
      · have : (List.range ops.length).countP (fun i => !(listed.setIfInBounds j true).getD i false) < (List.range ops.length).countP (fun i => !listed.getD i false) := by
          refine count_lt (j := j) (by simpa using hjl) ?_ ?_ fun i hi => ?_
          · cases hl : listed.getD j false with
            | true => exact (hns hl).elim
            | false => rfl
          · rw [(hset j).2 (.inr rfl)]; rfl
          · cases hl : listed.getD i false with
            | false => rfl
            | true => rw [(hset i).2 (.inl hl)] at hi; cases hi
        omega
      · have hS : (fun k => (listed.setIfInBounds j true).getD k false = true) = (fun k => listed.getD k false = true ∨ k = j) := funext fun k => propext (hset k)
        rw [hS]
        exact I'
/-- REGIONS WHOSE ORDER IS OPEN -/
theorem draw_ok {B : Nat} (hm : P.follows .mixedOrders = true) : DrawOK P B := by
  intro nt ro id opsA rec Q a a' n e act ρ M x h h' w hrec hr T hf hM hp
  obtain ⟨rfl, hok, st, hst, hlast, hck⟩ := draw_text hr
  have hfit := okDraw_fit hok
  have X := states_text hst
  have hCK := ck_of hfit hst hck
  obtain ⟨hlen, h0, _⟩ := states_get hst
  have hlen' : st.length = opsA.toList.length + 1 := by simpa using hlen
  have hA0 : (st[0]?.getD (a, h)) = (a, h) := by rw [h0]; rfl
  have hAN : (st[opsA.toList.length]?.getD (a, h)) = (a', h') := by
    rw [List.getLast?_eq_getElem?, hlen', Nat.add_sub_cancel] at hlast
    rw [hlast]
    rfl
  generalize hA : (fun j : Nat => (st[j]?.getD (a, h)).1) = A at X hCK
  generalize hH : (fun j : Nat => (st[j]?.getD (a, h)).2) = H at X hCK
  have eA0 : A 0 = a := by rw [← hA]; simp only [hA0]
  have eH0 : H 0 = h := by rw [← hH]; simp only [hA0]
  have eAN : A opsA.toList.length = a' := by rw [← hA]; simp only [hAN]
  have eHN : H opsA.toList.length = h' := by rw [← hH]; simp only [hAN]
  have T1 := T.drew (w.drawn + 1)
  refine wpIn_region_any hm ?_
  have h5 : nt ≤ 512 := hf.2.1
  refine any_sound (ops := opsA.toList) (A := A) (H := H) (B := B) (M := M) (x := x) (ρ0 := ρ) (w0 := { w with drawn := w.drawn + 1 }) (ds := act.defers) rfl X hrec h5 hfit (by rw [eHN]; exact hM) hCK ?_ opsA.size _ 0 (mix M h x) ρ act _ (by simp) ?_ ?_
  · -- at the end
    intro m g σ act' w' I
    obtain ⟨aS, hfr, F1, F0⟩ := I.fr
    have hno : ∀ k, m ≤ k → k < opsA.toList.length → ¬ Eff P opsA.toList k := fun k h1 h2 hk => by have := (I.e1 k hk).1 h2; omega
    have hseg := X.seg' hrec.mono I.mle (Nat.le_refl _) hno
    have hnm := X.le hrec.mono I.mle (Nat.le_refl _)
    have a0 := X.le hrec.mono (i := 0) (j := m) (Nat.zero_le _) I.mle
    have A1 : After ρ σ B M x h h' { w with drawn := w.drawn + 1 } w' := by
      refine ⟨by rw [← eH0, ← eHN]; exact I.grew, I.kept, ⟨by rw [← eH0, ← eHN]; omega, by rw [← eHN]; exact hseg.2 I.wf, fun b hb hrb => ?_⟩, ?_⟩
      · rw [← eH0] at hb
        rw [← eHN, hseg.1 b (by omega), I.same b hb hrb, eH0]
      · refine I.hr.congr fun b i hb => ?_
        have hrb : σ b ≠ none := by rw [hb]; simp
        unfold mix
        split
        · rename_i hbM
          rw [← eHN]
          by_cases hbm : b < (H m).next
          · rw [hseg.1 b hbm, I.g1 b hbm hrb]
          · obtain ⟨k, hk, h3, h4⟩ := I.dom b (by omega) hbM hrb
            have hkm : m ≤ k := by
              rcases Nat.lt_or_ge k m with h | h
              · have := X.le hrec.mono (i := k + 1) (j := m) h I.mle; omega
              · exact h
            rcases X.quiet hk (hno k hkm hk) with e | ⟨blk, hbn, e⟩
            · rw [e] at h4; omega
            · have : b = (H k).next := by rw [e, Heap.next_new] at h4; omega
              subst this
              rw [I.g3 k blk hk hkm hbn]
              exact X.bornAt hrec.mono hbn hk (Nat.le_refl _) (fun q h1 h2 => hno q (by omega) h2)
        · rename_i hbM
          exact (I.g2 b (by omega)).symm
    have A0 : After ρ ρ B M x h h w { w with drawn := w.drawn + 1 } := ⟨Grew.refl _ _ _ _ _, Kept.drew _ _ _ _, HeapKept.refl T.wf, T.hr.drew _⟩
    refine hp σ w' act' (A0.trans A1) ⟨hfr.1, h5, fun t ht => ?_⟩ I.defers
    -- the slots
    have hv := hfr.2.2 t ht
    have : (sel t).f aS = (sel t).f a' := by
      rw [← eAN]
      by_cases hw : ∃ i oi, i < opsA.toList.length ∧ opsA.toList[i]? = some oi ∧ oi.dst = some t
      · obtain ⟨i, oi, hij, hi, hd, hlast⟩ : ∃ i oi, i < opsA.toList.length ∧ opsA.toList[i]? = some oi ∧ oi.dst = some t ∧ ∀ k ok, i < k → k < opsA.toList.length → opsA.toList[k]? = some ok → ok.dst ≠ some t := by
          obtain ⟨i, oi, hij, hi, hd⟩ := hw
          have key : ∀ d i oi, opsA.toList.length - i = d → i < opsA.toList.length → opsA.toList[i]? = some oi → oi.dst = some t → ∃ i oi, i < opsA.toList.length ∧ opsA.toList[i]? = some oi ∧ oi.dst = some t ∧ ∀ k ok, i < k → k < opsA.toList.length → opsA.toList[k]? = some ok → ok.dst ≠ some t := by
            intro d
            induction d using Nat.strongRecOn with
            | _ d ih =>
              intro i oi hd' hij hi hd
              by_cases hk : ∃ k ok, i < k ∧ k < opsA.toList.length ∧ opsA.toList[k]? = some ok ∧ ok.dst = some t
              · obtain ⟨k, ok, h1, h2, h3, h4⟩ := hk
                exact ih (opsA.toList.length - k) (by omega) k ok rfl h2 h3 h4
              · exact ⟨i, oi, hij, hi, hd, fun k ok h1 h2 h3 h4 => hk ⟨k, ok, h1, h2, h3, h4⟩⟩
          exact key _ i oi rfl hij hi hd
        rw [F1 t ht i oi hij hi hd (fun k ok hs hk hdk => by
          rcases Nat.lt_or_ge i k with h | h
          · exact absurd hdk (hlast k ok h hs hk)
          · exact h)]
        have := X.slot h5 ht (i := i + 1) (opsA.toList.length - (i + 1)) (by omega) (fun k ok h1 h2 hk => hlast k ok (by omega) (by omega) hk)
        rw [show i + 1 + (opsA.toList.length - (i + 1)) = opsA.toList.length by omega] at this
        exact this.symm
      · rw [F0 t ht (fun k ok hs hk hdk => hw ⟨k, ok, hs, hk, hdk⟩)]
        have := X.slot h5 ht (i := 0) opsA.toList.length (by omega) (fun k ok h1 h2 hk hdk => hw ⟨k, ok, by omega, hk, hdk⟩)
        rw [Nat.zero_add] at this
        exact this.symm
    rw [← this]
    exact hv
  · have := List.countP_le_length (p := fun i => !(Array.replicate opsA.size false).getD i false) (l := List.range opsA.toList.length)
    simpa using this
  · have hempty : ∀ k, ¬ (Array.replicate opsA.size false).getD k false = true := by
      intro k hk
      simp [Array.getD] at hk
    refine ⟨⟨a, hf, fun t ht j o hs => (hempty j hs).elim, fun t ht _ => by rw [eA0]⟩, rfl, fun j hs => (hempty j hs).elim, fun i j hs _ => (hempty j hs).elim, fun k _ => ⟨fun hs => (hempty k hs).elim, fun h => by omega⟩, Nat.zero_le _, .inl rfl, T1.hr, ?_, ?_, fun j blk hs => (hempty j hs).elim, by rw [eH0]; exact T.wf, ?_, fun j blk _ h => by omega, Grew.refl _ _ _ _ _, Kept.refl _ _ _, fun _ _ _ => rfl⟩
    · intro b hb hrb
      rw [eH0] at hb ⊢
      unfold mix
      rw [if_pos (by have := T.le; omega)]
    · intro b hb
      unfold mix
      rw [if_neg (by omega)]
    · intro b h1 h2 h3
      rw [eH0] at h1
      exact (h3 (T.gap b h1 h2)).elim
end
end Vm

/-! The abstract run is sound: what a call says. -/
set_option linter.unusedVariables false
namespace Vm
open Go
theorem tie_empty (w : World) (M : Nat) : Tie (fun _ => none) w.heap.size M (fun _ => none) ⟨0, .nil⟩ w :=
  ⟨⟨(fun b i h => by cases h), (fun b c i j x y _ h => by cases h), (fun b i h => by cases h), Nat.le_refl _⟩, fun b _ => rfl, Nat.zero_le _, fun b _ _ => rfl⟩
/-- a call from nothing -/
theorem call_sound {P : Program} (hm : P.follows .mixedOrders = true) {Γ : Sums} {w : World} (hΓ : SumsOK P w.heap.size Γ) {n : Nat} {f : FuncId} {args : List Value} {v : Value} {h' : Heap} (hr : callN P Γ n (.call f args) ⟨0, .nil⟩ = .ok v h') (hargs : args.all lit = true) :
    Calls P f args.toArray w fun e w' => ∃ v' σ, e = .returned v' ∧ After (fun _ => none) σ w.heap.size h'.next (fun _ => none) ⟨0, .nil⟩ h' w w' ∧ VR σ v v' :=
  callsIn_wide.1 (((callN_sound (draw_ok hm) hΓ n).call hr).2 (tie_empty w _) (Nat.le_refl _) (by simpa using VRs.lits hargs))
/-- a function that says true -/
theorem says_true {P : Program} (hm : P.follows .mixedOrders = true) {n f : Nat} (hs : says P (fun _ => none) n f [] = true) (w : World) :
    Calls P f #[] w fun e w' => e = .returned (.bool true) ∧ w'.os = w.os ∧ w'.tape = w.tape ∧ w'.output = w.output ∧ w.heap.size ≤ w'.heap.size ∧ ∀ k, k < w.heap.size → w'.heap[k]? = w.heap[k]? := by
  unfold says at hs
  split at hs
  · rename_i b h' hr
    subst hs
    obtain hc := call_sound hm (w := w) sums_none hr rfl
    refine fun cs => ?_
    obtain ⟨e, w', fr, ⟨v', σ, rfl, A, hv⟩, rest⟩ := hc cs
    rw [hv.bool] at rest
    exact ⟨_, w', fr, ⟨rfl, A.kept.os, A.kept.tape, A.kept.output, A.kept.size, A.kept.old⟩, rest⟩
  · cases hs
end Vm

/-! Arguments: rows that a call is given; what a call that answers true leaves. -/
set_option linter.unusedVariables false
namespace Vm
open Go
/-- no arguments yet -/
def rho0 : Ren := fun _ => none
/-- a call that answers true -/
theorem call_true {P : Program} (hm : P.follows .mixedOrders = true) {Γ : Sums} {ρ : Ren} {M : Nat} {x : G} {h h' : Heap} {W : World} (T : Tie ρ W.heap.size M x h W) (hΓ : SumsOK P W.heap.size Γ) {n : Nat} {f : FuncId} {args : List Value} {args' : Array Value}
    (hv : VRs ρ args args'.toList) (hr : callN P Γ n (.call f args) h = .ok (.bool true) h') (hM : h'.next ≤ M) :
    Calls P f args' W fun e W' => e = .returned (.bool true) ∧ RowKit.Below W.heap.size W W' := by
  have hc := callsIn_wide.1 (((callN_sound (draw_ok hm) hΓ n).call hr).2 T hM hv)
  intro cs
  obtain ⟨e, w', fr, ⟨v', σ, rfl, A, hv⟩, rest⟩ := hc cs
  rw [hv.bool] at rest
  exact ⟨_, w', fr, ⟨rfl, A.kept.os, A.kept.tape, A.kept.output, A.kept.size, A.kept.old⟩, rest⟩
end Vm

/-! A run in a heap with more blocks goes as it goes in the heap. -/
set_option linter.unusedVariables false
namespace Vm
open Go
structure Sub (h k : Heap) : Prop where
  next : h.next = k.next
  get : G.le h.get k.get
theorem Sub.refl (h : Heap) : Sub h h := ⟨rfl, fun _ _ e => e⟩
theorem Sub.trans {h k m : Heap} (s : Sub h k) (t : Sub k m) : Sub h m := ⟨s.next.trans t.next, fun b y e => t.get b y (s.get b y e)⟩
theorem Sub.put {h k : Heap} (s : Sub h k) (b : Nat) (x : Blk) : Sub (h.put b x) (k.put b x) := ⟨s.next, fun c y e => by
  rw [Heap.get_put] at e ⊢
  by_cases hc : c = b
  · rw [if_pos hc] at e ⊢; exact e
  · rw [if_neg hc] at e ⊢; exact s.get c y e⟩
theorem Sub.new {h k : Heap} (s : Sub h k) (x : Blk) : Sub (h.new x) (k.new x) := ⟨congrArg (· + 1) s.next, fun c y e => by
  rw [Heap.get_new] at e ⊢
  rw [← s.next]
  by_cases hc : c = h.next
  · rw [if_pos hc] at e ⊢; exact e
  · rw [if_neg hc] at e ⊢; exact s.get c y e⟩
/-- what the one calls, the other calls as well -/
def RecSub (rec rec2 : Rec) : Prop := ∀ j h k v h', Sub h k → rec j h = .ok v h' → ∃ k', rec2 j k = .ok v k' ∧ Sub h' k'
theorem storeN_sub {h k h' : Heap} (s : Sub h k) {p : Addr} {vs : List Value} (e : storeN h p vs = some h') : ∃ k', storeN k p vs = some k' ∧ Sub h' k' := by
  unfold storeN at e ⊢
  split at e
  · rename_i el cs opn hg
    rw [s.get _ _ hg]
    simp only
    cases hb : Nat.ble (p.off + vs.length) cs.length <;> simp only [hb, cond_true, cond_false] at e ⊢
    · cases e
    · cases e
      exact ⟨_, rfl, s.put _ _⟩
  · cases e
theorem srcCells_sub {g g' : G} (s : G.le g g') {sz : Nat} {v : Value} {r : Nat × List Value} (e : srcCells g sz v = some r) : srcCells g' sz v = some r := by
  unfold srcCells at e ⊢
  split at e
  · split at e
    · rename_i l hl
      simp only [G.le_load s hl]
      exact e
    · cases e
  · exact e
  · exact e
  · cases e
theorem EForm.sub {s : ESem} (hf : EForm s) {rec rec2 : Rec} (hrec : RecSub rec rec2) {a : Fr} {h k h' : Heap} {v : Value} (hs : Sub h k) (hr : s.f rec a h = .ok v h') : ∃ k', s.f rec2 a k = .ok v k' ∧ Sub h' k' := by
  cases hf with
  | fix x =>
    simp only [eFix] at hr ⊢
    split at hr
    · rename_i p n c hp
      cases hn : Nat.beq n 0 <;> simp only [hn, cond_true, cond_false] at hr
      · split at hr
        · rename_i e cs hg
          cases hr
          refine ⟨_, ?_, hs.put _ _⟩
          simp only [hp, hn, cond_false, hs.get _ _ hg]
        · cases hr
      · cases hr
    · cases hr
  | store n x y =>
    simp only [eStore] at hr ⊢
    split at hr
    · rename_i p hp
      split at hr
      · rename_i c hc
        cases hb : Nat.beq c.length n <;> simp only [hb, cond_true, cond_false] at hr
        · cases hr
        · split at hr
          · rename_i h2 hst
            cases hr
            obtain ⟨k2, e2, s2⟩ := storeN_sub hs hst
            refine ⟨k2, ?_, s2⟩
            simp only [hp, hc, hb, cond_true, e2]
          · cases hr
      · cases hr
    · cases hr
  | mapUpdate n m kk x =>
    simp only [eMapUpdate] at hr ⊢
    split at hr
    · rename_i r hm
      split at hr
      · rename_i es c hg
        cases hb : keyOk n (kk.f a) <;> simp only [hb, cond_true, cond_false] at hr
        · cases hr
        · split at hr
          · rename_i es' c' hp
            cases hr
            refine ⟨_, ?_, hs.put _ _⟩
            simp only [hm, hs.get _ _ hg, hb, cond_true, hp]
          · cases hr
      · cases hr
    · cases hr
  | mapEntry n z m kk =>
    simp only [eMapEntry] at hr ⊢
    split at hr
    · rename_i r hm
      split at hr
      · rename_i es c hg
        cases hb : keyOk n (kk.f a) <;> simp only [hb, cond_true, cond_false] at hr
        · cases hr
        · split at hr
          · rename_i v1 s1 hfd
            split at hr
            · rename_i es' c' hp
              cases hr
              refine ⟨_, ?_, hs.put _ _⟩
              simp only [hm, hs.get _ _ hg, hb, cond_true, hfd, hp]
            · cases hr
          · rename_i hfd
            split at hr
            · rename_i es' c' hp
              cases hr
              refine ⟨_, ?_, hs.put _ _⟩
              simp only [hm, hs.get _ _ hg, hb, cond_true, hfd, hp]
            · cases hr
          · cases hr
      · cases hr
    · cases hr
  | entryStore m s x =>
    simp only [eEntryStore] at hr ⊢
    split at hr
    · rename_i r hm
      split at hr
      · rename_i es c hg
        split at hr
        · rename_i b hsb
          split at hr
          · rename_i es' hp
            cases hr
            refine ⟨_, ?_, hs.put _ _⟩
            simp only [hm, hs.get _ _ hg, hsb, hp]
          · cases hr
        · cases hr
      · cases hr
    · cases hr
  | delete n m kk =>
    simp only [eDelete] at hr ⊢
    split at hr
    · rename_i hm
      cases hb : keyOk n (kk.f a) <;> simp only [hb, cond_true, cond_false] at hr
      · cases hr
      · cases hr
        refine ⟨_, ?_, hs⟩
        simp only [hm, hb, cond_true]
    · rename_i r hm
      split at hr
      · rename_i es c hg
        cases hb : keyOk n (kk.f a) <;> simp only [hb, cond_true, cond_false] at hr
        · cases hr
        · split at hr
          · rename_i es' hp
            cases hr
            refine ⟨_, ?_, hs.put _ _⟩
            simp only [hm, hs.get _ _ hg, hb, cond_true, hp]
          · cases hr
      · cases hr
    · cases hr
  | call f args =>
    simp only [eCall] at hr ⊢
    split at hr
    · rename_i g first cap hfa
      obtain ⟨k', e, s'⟩ := hrec _ _ _ _ _ hs hr
      exact ⟨k', e, s'⟩
    · rename_i l first cap hfa
      obtain ⟨k', e, s'⟩ := hrec _ _ _ _ _ hs hr
      exact ⟨k', e, s'⟩
    · cases hr
  | callF g args => exact hrec _ _ _ _ _ hs hr
  | append e sz by_ s x =>
    simp only [eAppend] at hr ⊢
    split at hr
    · rename_i base len cap hsa
      split at hr
      · cases hr
      · rename_i n new hsrc
        have hsrc' := srcCells_sub hs.get hsrc
        cases hb : Nat.ble ((len + n) * by_) 140737488355328 <;> simp only [hb, cond_true, cond_false] at hr
        · cases hr
        · cases hb2 : Nat.ble (len + n) cap <;> simp only [hb2, cond_true, cond_false] at hr
          · split at hr
            · cases hb3 : Nat.beq len 0 <;> simp only [hb3, cond_true, cond_false] at hr
              · cases hr
              · cases hr
                refine ⟨_, ?_, hs.new _⟩
                simp only [hsa, hsrc', hb, hb2, hb3, cond_true, cond_false, hs.next]
                rfl
            · rename_i p
              split at hr
              · cases hr
              · rename_i old hold
                have hold' := G.le_load hs.get hold
                split at hr
                · rename_i hsp
                  cases hr
                  refine ⟨_, ?_, hs.new _⟩
                  simp only [hsa, hsrc', hb, hb2, cond_true, cond_false, hold', hsp, hs.next]
                  rfl
                · rename_i z hsp
                  split at hr
                  · rename_i be cs hg
                    cases hb4 : (Nat.beq z sz && Nat.beq be e) <;> simp only [hb4, cond_true, cond_false] at hr
                    · cases hr
                    · cases hr
                      refine ⟨_, ?_, (hs.put _ _).new _⟩
                      simp only [hsa, hsrc', hb, hb2, cond_true, cond_false, hold', hsp, hs.get _ _ hg, hb4, hs.next]
                  · cases hr
          · split at hr
            · cases hr
              refine ⟨_, ?_, hs⟩
              simp only [hsa, hsrc', hb, hb2, cond_true]
            · rename_i p
              cases hb3 : Nat.beq n 0 <;> simp only [hb3, cond_true, cond_false] at hr
              · split at hr
                · rename_i h2 hst
                  cases hr
                  obtain ⟨k2, e2, s2⟩ := storeN_sub hs hst
                  refine ⟨_, ?_, s2⟩
                  simp only [hsa, hsrc', hb, hb2, hb3, cond_true, cond_false, e2]
                · cases hr
              · cases hr
                refine ⟨_, ?_, hs⟩
                simp only [hsa, hsrc', hb, hb2, hb3, cond_true]
    · cases hr
  | copy sz x y =>
    simp only [eCopy] at hr ⊢
    split at hr
    · rename_i d n cc hx
      split at hr
      · cases hr
      · rename_i m l hsrc
        have hsrc' := srcCells_sub hs.get hsrc
        simp only [hx, hsrc']
        generalize (bif Nat.ble n m then n else m) = q at hr ⊢
        split at hr
        · cases hr
          exact ⟨_, rfl, hs⟩
        · rename_i p
          cases hb3 : Nat.beq q 0 <;> simp only [hb3, cond_true, cond_false] at hr ⊢
          · split at hr
            · rename_i h2 hst
              cases hr
              obtain ⟨k2, e2, s2⟩ := storeN_sub hs hst
              exact ⟨_, by rw [e2], s2⟩
            · cases hr
          · cases hr
            exact ⟨_, rfl, hs⟩
    · cases hr
  | clearM x =>
    simp only [eClearM] at hr ⊢
    split at hr
    · rename_i hx
      cases hr
      exact ⟨_, by simp only [hx], hs⟩
    · rename_i r hx
      split at hr
      · rename_i es c hg
        cases hr
        exact ⟨_, by simp only [hx, hs.get _ _ hg], hs.put _ _⟩
      · cases hr
    · cases hr
  | clearS z x =>
    simp only [eClearS] at hr ⊢
    split at hr
    · rename_i hx
      cases hr
      exact ⟨_, by simp only [hx], hs⟩
    · rename_i p n c hx
      try simp only [hx]
      cases hb3 : Nat.beq n 0 <;> simp only [hb3, cond_true, cond_false] at hr ⊢
      · split at hr
        · rename_i h2 hst
          cases hr
          obtain ⟨k2, e2, s2⟩ := storeN_sub hs hst
          exact ⟨_, by rw [e2], s2⟩
        · cases hr
      · cases hr
        exact ⟨_, rfl, hs⟩
    · cases hr
  | range x =>
    simp only [eRange] at hr ⊢
    split at hr
    · rename_i hx
      cases hr
      exact ⟨_, by simp only [hx, hs.next], hs.new _⟩
    · rename_i r hx
      split at hr
      · rename_i es c hg
        cases hr
        exact ⟨_, by simp only [hx, hs.get _ _ hg, hs.next], hs.new _⟩
      · cases hr
    · cases hr
  | next it =>
    simp only [eNext] at hr ⊢
    split at hr
    · rename_i p hx
      try simp only [hx]
      cases hb : Nat.beq p.off 0 <;> simp only [hb, cond_true, cond_false] at hr ⊢
      · cases hr
      · split at hr
        · rename_i m since seen last hg
          simp only [hs.get _ _ hg]
          split at hr
          · cases hr
            exact ⟨_, rfl, hs⟩
          · rename_i r
            split at hr
            · rename_i es c hg2
              simp only [hs.get _ _ hg2]
              cases hb2 : stale seen last es <;> simp only [hb2, cond_true, cond_false] at hr ⊢
              · split at hr
                · rename_i hl
                  try simp only [hl]
                  cases hr
                  exact ⟨_, rfl, hs⟩
                · rename_i e l hl
                  try simp only [hl]
                  split at hr
                  · cases hb3 : Nat.blt e.2.2 since <;> simp only [hb3, cond_true, cond_false] at hr ⊢
                    · cases hr
                    · cases hr
                      exact ⟨_, rfl, hs.put _ _⟩
                  · cases hr
              · cases hr
            · cases hr
        · cases hr
    · cases hr
def Sem.sub (s : Vm.Sem) : Prop := ∀ rec rec2 : Rec, RecSub rec rec2 → ∀ n n2 a h k e a' h', n ≤ n2 → Sub h k → s.f rec n a h = .mk e a' h' → ∃ k', s.f rec2 n2 a k = .mk e a' k' ∧ Sub h' k'
theorem iop_sub {P : Program} {op : Op} {d : Put} {rec rec2 : Rec} (hrec : RecSub rec rec2) {a a' : Fr} {h k h' : Heap} (hs : Sub h k) (hr : (iOp d (denOp P op)).f rec a h = .mk a' h') : ∃ k', (iOp d (denOp P op)).f rec2 a k = .mk a' k' ∧ Sub h' k' := by
  have hf := den_form P op
  cases hd : denOp P op with
  | v rd s =>
    rw [hd] at hr hf
    simp only [iOp] at hr ⊢
    split at hr
    · cases hr
    · rename_i v hv
      cases hr
      rw [hf.1.mono hs.get hv]
      exact ⟨_, rfl, hs⟩
  | a s =>
    rw [hd] at hr
    simp only [iOp] at hr ⊢
    split at hr
    · cases hr
    · rename_i blk v hv
      cases hr
      rw [hs.next]
      exact ⟨_, rfl, hs.new _⟩
  | e s =>
    rw [hd] at hr hf
    simp only [iOp] at hr ⊢
    split at hr
    · cases hr
    · rename_i v h2 he
      cases hr
      obtain ⟨k', e, s'⟩ := EForm.sub hf hrec hs he
      rw [e]
      exact ⟨_, rfl, s'⟩
theorem guard_sub {s : Sel} {want : Bool} {d : Put} {i : ISem} {rec rec2 : Rec} {a a' : Fr} {h k h' : Heap} (hi : ∀ {a a' h k h'}, Sub h k → i.f rec a h = .mk a' h' → ∃ k', i.f rec2 a k = .mk a' k' ∧ Sub h' k') (hs : Sub h k) (hr : (iGuard s want d i).f rec a h = .mk a' h') : ∃ k', (iGuard s want d i).f rec2 a k = .mk a' k' ∧ Sub h' k' := by
  simp only [iGuard] at hr ⊢
  split at hr
  · rename_i b _
    cases b <;> cases want <;> first | (cases hr; exact ⟨_, rfl, hs⟩) | exact hi hs hr
  · cases hr; exact ⟨_, rfl, hs⟩
theorem item_sub {P : Program} {nt : Nat} {ops : List Oper} {o : Oper} {rec rec2 : Rec} (hrec : RecSub rec rec2) {a a' : Fr} {h k h' : Heap} (hs : Sub h k) (hr : (denItem P nt ops o).f rec a h = .mk a' h') : ∃ k', (denItem P nt ops o).f rec2 a k = .mk a' k' ∧ Sub h' k' := by
  unfold denItem at hr ⊢
  cases hb : okOper nt o <;> simp only [hb, cond_true, cond_false] at hr ⊢
  · cases hr
  · split at hr
    · exact iop_sub hrec hs hr
    · split at hr
      · rename_i s _
        exact guard_sub (fun hs h => iop_sub hrec hs h) hs hr
      · cases hr
theorem runItems_sub {P : Program} {nt : Nat} {ops : List Oper} {rec rec2 : Rec} (hrec : RecSub rec rec2) : ∀ {l : List Oper} {a a' : Fr} {h k h' : Heap}, Sub h k → runItems rec (l.map (denItem P nt ops)) a h = .mk a' h' → ∃ k', runItems rec2 (l.map (denItem P nt ops)) a k = .mk a' k' ∧ Sub h' k'
  | [], a, a', h, k, h', hs, hr => by cases hr; exact ⟨k, rfl, hs⟩
  | o :: l, a, a', h, k, h', hs, hr => by
    rw [List.map_cons, runItems_cons] at hr
    split at hr
    · cases hr
    · rename_i a1 h1 h2
      obtain ⟨k1, e1, s1⟩ := item_sub hrec hs h2
      obtain ⟨k2, e2, s2⟩ := runItems_sub hrec s1 hr
      exact ⟨k2, by rw [List.map_cons, runItems_cons, e1]; exact e2, s2⟩
/-- the states on the way: the same frames, heaps with more -/
def SubL : List (Fr × Heap) → List (Fr × Heap) → Prop
  | [], [] => True
  | x :: l, y :: m => (x.1 = y.1 ∧ Sub x.2 y.2) ∧ SubL l m
  | _, _ => False
theorem SubL.at : ∀ {l m : List (Fr × Heap)}, SubL l m → ∀ {i : Nat} {a : Fr} {h : Heap}, l[i]? = some (a, h) → ∃ k, m[i]? = some (a, k) ∧ Sub h k
  | [], [], _, i, a, h, e => by simp at e
  | x :: l, y :: m, ⟨⟨h1, h2⟩, _⟩, 0, a, h, e => by
    cases e
    exact ⟨y.2, by cases h1; rfl, h2⟩
  | x :: l, y :: m, ⟨_, r⟩, i + 1, a, h, e => by
    obtain ⟨k, e1, e2⟩ := SubL.at r (by simpa using e)
    exact ⟨k, by simpa using e1, e2⟩
  | [], _ :: _, x, _, _, _, _ => x.elim
  | _ :: _, [], x, _, _, _, _ => x.elim
theorem SubL.last : ∀ {l m : List (Fr × Heap)}, SubL l m → ∀ {a : Fr} {h : Heap}, l.getLast? = some (a, h) → ∃ k, m.getLast? = some (a, k) ∧ Sub h k
  | [], [], _, a, h, e => by simp at e
  | [x], [y], ⟨⟨h1, h2⟩, _⟩, a, h, e => by
    cases e
    exact ⟨y.2, by cases h1; rfl, h2⟩
  | x :: x2 :: l, y :: y2 :: m, ⟨_, r⟩, a, h, e => by
    obtain ⟨k, e1, e2⟩ := SubL.last r (by simpa [List.getLast?_cons_cons] using e)
    exact ⟨k, by simpa [List.getLast?_cons_cons] using e1, e2⟩
  | [], _ :: _, x, _, _, _ => x.elim
  | _ :: _, [], x, _, _, _ => x.elim
  | [_], _ :: _ :: _, ⟨_, x⟩, _, _, _ => x.elim
  | _ :: _ :: _, [_], ⟨_, x⟩, _, _, _ => x.elim
theorem runStates_sub {P : Program} {nt : Nat} {ops : List Oper} {rec rec2 : Rec} (hrec : RecSub rec rec2) : ∀ {l : List Oper} {a : Fr} {h k : Heap} {st : List (Fr × Heap)}, Sub h k → runStates rec (l.map (denItem P nt ops)) a h = some st → ∃ st', runStates rec2 (l.map (denItem P nt ops)) a k = some st' ∧ SubL st st'
  | [], a, h, k, st, hs, hr => by cases hr; exact ⟨[(a, k)], rfl, ⟨rfl, hs⟩, trivial⟩
  | o :: l, a, h, k, st, hs, hr => by
    rw [List.map_cons, runStates_cons] at hr
    split at hr
    · cases hr
    · rename_i a1 h1 h2
      obtain ⟨k1, e1, s1⟩ := item_sub hrec hs h2
      split at hr
      · rename_i st2 h3
        cases hr
        obtain ⟨st3, e3, s3⟩ := runStates_sub hrec s1 h3
        exact ⟨(a, k) :: st3, by rw [List.map_cons, runStates_cons, e1]; simp only [e3], ⟨rfl, hs⟩, s3⟩
      · cases hr
theorem checkOne_sub {P : Program} {nt : Nat} {ops : List Oper} {st st' : List (Fr × Heap)} (hs : SubL st st') {c : Nat × List Nat} (hc : checkOne P nt ops st c = true) : checkOne P nt ops st' c = true := by
  unfold checkOne at hc ⊢
  split at hc
  · rename_i o a h ho hst
    obtain ⟨k, e1, s1⟩ := hs.at hst
    simp only [ho, e1]
    split at hc
    · rename_i rd s hd
      have hf := den_form P o.op
      rw [hd] at hf
      rw [Bool.or_eq_true] at hc ⊢
      rcases hc with hc | hc
      · exact .inl hc
      · right
        split at hc
        · rename_i v hv
          rw [hf.1.mono s1.get hv]
          simp only
          rw [List.all_eq_true] at hc ⊢
          intro m hm
          have h3 := hc m hm
          split at h3
          · rename_i a2 h2 hst2
            obtain ⟨k2, e2, s2⟩ := hs.at hst2
            simp only [e2]
            split at h3
            · rename_i v2 hv2
              rw [hf.1.mono s2.get hv2]
              exact h3
            · cases h3
          · cases h3
        · cases hc
    · cases hc
  · cases hc
theorem region_sub {P : Program} {nt : Nat} {ops l : List Oper} : Sem.sub (sRegion (l.map (denItem P nt ops))) := by
  intro rec rec2 hrec n n2 a h k e a' h' hn hs hr
  simp only [sRegion] at hr ⊢
  split at hr
  · cases hr
  · rename_i a1 h1 he
    cases hr
    obtain ⟨k', e', s'⟩ := runItems_sub hrec hs he
    exact ⟨k', by rw [e'], s'⟩
theorem draw_sub {P : Program} {nt : Nat} {ops : Array Oper} : Sem.sub (denDraw P nt ops) := by
  intro rec rec2 hrec n n2 a h k e a' h' hn hs hr
  unfold denDraw at hr ⊢
  cases hb : okDraw P nt ops.toList <;> simp only [hb, cond_true, cond_false] at hr ⊢
  · cases hr
  · split at hr
    · exact region_sub rec rec2 hrec n n2 a h k e a' h' hn hs hr
    · simp only [sDraw] at hr ⊢
      split at hr
      · cases hr
      · rename_i st hst
        obtain ⟨st', e1, s1⟩ := runStates_sub hrec hs hst
        simp only [e1]
        cases hq : (checks P ops.toList).all (checkOne P nt ops.toList st) <;> simp only [hq, cond_true, cond_false] at hr
        · cases hr
        · have hq' : (checks P ops.toList).all (checkOne P nt ops.toList st') = true := by
            rw [List.all_eq_true] at hq ⊢
            exact fun c hc => checkOne_sub s1 (hq c hc)
          rw [hq']
          simp only [cond_true]
          split at hr
          · rename_i a1 h1 hl
            cases hr
            obtain ⟨k1, e2, s2⟩ := s1.last hl
            exact ⟨k1, by rw [e2], s2⟩
          · cases hr
theorem loop_sub {x x2 : Fr → Heap → Out} (hx : ∀ a h k e a' h', Sub h k → x a h = .mk e a' h' → ∃ k', x2 a k = .mk e a' k' ∧ Sub h' k') : ∀ n n2 a h k e a' h', n ≤ n2 → Sub h k → loopGo x n a h = .mk e a' h' → ∃ k', loopGo x2 n2 a k = .mk e a' k' ∧ Sub h' k'
  | 0, n2, a, h, k, e, a', h', hn, hs, hr => by cases hr
  | n + 1, 0, a, h, k, e, a', h', hn, hs, hr => by omega
  | n + 1, n2 + 1, a, h, k, e, a', h', hn, hs, hr => by
    rw [loopGo_succ] at hr ⊢
    split at hr
    · cases hr
    · rename_i e1 a1 h1 he
      obtain ⟨k1, e2, s1⟩ := hx _ _ _ _ _ _ hs he
      simp only [e2]
      split at hr
      · exact loop_sub hx n n2 _ _ _ _ _ _ (by omega) s1 hr
      · cases hr; exact ⟨k1, rfl, s1⟩
theorem range_sub {nt : Nat} {f : Sel} {ps : List Tmp} {s b : Code} : Sem.sub (sRangeFunc nt f ps s b) := by
  intro rec rec2 hrec n n2 a h k e a' h' hn hs hr
  simp only [sRangeFunc] at hr ⊢
  split at hr
  · split at hr
    · rename_i v h1 hc
      obtain ⟨k1, e1, s1⟩ := hrec _ _ _ _ _ (hs.new _) hc
      rw [hs.next] at e1
      simp only [e1]
      split at hr
      · rename_i hg
        have hg' := s1.get _ _ hg
        rw [hs.next] at hg'
        simp only [hg']
        split at hr
        · cases hr
        · split at hr
          · cases hr; exact ⟨_, rfl, by rw [hs.next]; exact s1.put _ _⟩
          · split at hr
            · cases hr; exact ⟨_, rfl, by rw [hs.next]; exact s1.put _ _⟩
            · cases hr; exact ⟨_, rfl, by rw [hs.next]; exact s1.put _ _⟩
            · cases hr
      · cases hr
    · cases hr
  · cases hr
theorem code_sub (P : Program) (nt : Nat) (ir : Bool) (c : Code) : Sem.sub (den0 P nt ir c) := by
  have hno : Sem.sub sNo := fun rec rec2 hrec n n2 a h k e a' h' hn hs hr => by cases hr
  have hex : ∀ x, Sem.sub (sEx x) := fun x rec rec2 hrec n n2 a h k e a' h' hn hs hr => by cases hr; exact ⟨k, rfl, hs⟩
  induction c with
  | skip => exact hex _
  | region id ops draw =>
    cases draw with
    | false => exact region_sub
    | true => exact draw_sub
  | seq x y ihx ihy =>
    intro rec rec2 hrec n n2 a h k e a' h' hn hs hr
    simp only [den0, sSeq] at hr ⊢
    split at hr
    · cases hr
    · rename_i e1 a1 h1 he
      obtain ⟨k1, e2, s1⟩ := ihx rec rec2 hrec n n2 _ _ _ _ _ _ hn hs he
      simp only [e2]
      split at hr
      · exact ihy rec rec2 hrec n n2 _ _ _ _ _ _ hn s1 hr
      · cases hr; exact ⟨k1, rfl, s1⟩
  | cond c x y ihx ihy =>
    intro rec rec2 hrec n n2 a h k e a' h' hn hs hr
    simp only [den0] at hr ⊢
    cases hb : okX nt c <;> simp only [hb, cond_true, cond_false] at hr ⊢
    · cases hr
    · simp only [sCond] at hr ⊢
      split at hr
      · rename_i b _
        cases b
        · exact ihy rec rec2 hrec n n2 _ _ _ _ _ _ hn hs hr
        · exact ihx rec rec2 hrec n n2 _ _ _ _ _ _ hn hs hr
      · cases hr
  | block id b ih =>
    intro rec rec2 hrec n n2 a h k e a' h' hn hs hr
    simp only [den0, sBlock] at hr ⊢
    split at hr
    · cases hr
    · rename_i e1 a1 h1 he
      obtain ⟨k1, e2, s1⟩ := ih rec rec2 hrec n n2 _ _ _ _ _ _ hn hs he
      simp only [e2]
      split at hr
      · rename_i i
        cases hb : Nat.beq i id <;> simp only [hb, cond_true, cond_false] at hr ⊢ <;> (cases hr; exact ⟨k1, rfl, s1⟩)
      · cases hr; exact ⟨k1, rfl, s1⟩
  | loop b ih =>
    intro rec rec2 hrec n n2 a h k e a' h' hn hs hr
    simp only [den0, sLoop] at hr ⊢
    exact loop_sub (x := (den0 P nt ir b).f rec n) (x2 := (den0 P nt ir b).f rec2 n2) (fun a h k e a' h' hs hh => ih rec rec2 hrec n n2 a h k e a' h' hn hs hh) n n2 a h k e a' h' hn hs hr
  | rangeFunc f ps s b ihs ihb =>
    simp only [den0]
    cases hb : (!ir && okX nt f && ps.toList.all (fun t => Nat.blt t nt)) <;> simp only [cond_true, cond_false]
    · exact hno
    · exact range_sub
  | exit id => exact hex _
  | label l => exact hex _
  | goto l => exact hex _
  | ret => exact hex _
  | scope b ih => exact hno
  | refuse why => exact hno
theorem scope_sub (P : Program) (nt : Nat) (b : Code) : Sem.sub (sScope P nt b) := by
  intro rec rec2 hrec n n2 a h k e a' h' hn hs hr
  have : ∀ m m2 c a h k e a' h', m ≤ m2 → Sub h k → scopeGo P nt b rec n m c a h = .mk e a' h' → ∃ k', scopeGo P nt b rec2 n2 m2 c a k = .mk e a' k' ∧ Sub h' k' := by
    intro m
    induction m with
    | zero => intro m2 c a h k e a' h' hm hs hr; cases hr
    | succ m ih =>
      intro m2 c a h k e a' h' hm hs hr
      obtain ⟨m3, rfl⟩ : ∃ m3, m2 = m3 + 1 := ⟨m2 - 1, by omega⟩
      rw [scopeGo_succ] at hr ⊢
      split at hr
      · cases hr
      · rename_i e1 a1 h1 he
        obtain ⟨k1, e2, s1⟩ := code_sub P nt false c rec rec2 hrec n n2 _ _ _ _ _ _ hn hs he
        simp only [e2]
        split at hr
        · split at hr
          · rename_i r hl
            try simp only [hl]
            exact ih _ _ _ _ _ _ _ _ (by omega) s1 hr
          · cases hr
        · cases hr; exact ⟨k1, rfl, s1⟩
  exact this n n2 b a h k e a' h' hn hs hr
theorem den_sub (P : Program) (nt : Nat) (c : Code) : Sem.sub (den P nt c) := by
  cases c with
  | scope b => exact scope_sub P nt b
  | _ => exact code_sub P nt false _
theorem rv_sub {h k : Heap} (hs : Sub h k) {a : Fr} {r : RV} {v : Value} (e : rv h a r = some v) : rv k a r = some v := by
  cases r with
  | tmp t => exact e
  | one c =>
    simp only [rv] at e ⊢
    split at e
    · rename_i p hp
      exact (VForm.load1 c).mono (a := a) hs.get (by simp only [oLoad1, hp]; exact e) |>.symm ▸ (by simp only [oLoad1, hp])
    · cases e
  | agg c n =>
    simp only [rv] at e ⊢
    split at e
    · split at e
      · rename_i l hl
        simp only [G.le_load hs.get hl]
        exact e
      · cases e
    · cases e
theorem rvs_sub {h k : Heap} (hs : Sub h k) {a : Fr} : ∀ {rs : List RV} {l : List Value}, rvs h a rs = some l → rvs k a rs = some l
  | [], l, e => e
  | r :: rs, l, e => by
    rw [rvs_cons] at e ⊢
    split at e
    · cases e
    · rename_i v hv
      rw [rv_sub hs hv]
      split at e
      · cases e
      · rename_i vs hvs
        simp only [rvs_sub hs hvs]
        exact e
theorem finish_sub {rs : List RV} {o o' : Out} {v : Value} {h' : Heap} (ho : ∀ e a h, o = .mk e a h → ∃ k, o' = .mk e a k ∧ Sub h k) (hr : finish rs o = .ok v h') : ∃ k', finish rs o' = .ok v k' ∧ Sub h' k' := by
  obtain ⟨e, a, l, he, hex, hl, hv⟩ := finish_some hr
  obtain ⟨k, e1, s1⟩ := ho _ _ _ he
  refine ⟨k, ?_, s1⟩
  subst e1
  have h2 := rvs_sub s1 hl
  rcases hex with rfl | rfl <;>
  · simp only [finish, h2]
    rcases hv with ⟨u, rfl, rfl⟩ | ⟨hne, rfl⟩
    · rfl
    · match l, hne with
      | [], _ => rfl
      | [x], hne => exact absurd rfl hne
      | x :: y :: l, _ => rfl
theorem round_sub {P : Program} {rec rec2 : Rec} (hrec : RecSub rec rec2) {n n2 nt : Nat} (hn : n ≤ n2) {s b : Code} {l : Nat} {a : Fr} {h k h' : Heap} {v : Value} (hs : Sub h k) (hr : roundGo P rec n nt s b l a h = .ok v h') : ∃ k', roundGo P rec2 n2 nt s b l a k = .ok v k' ∧ Sub h' k' := by
  have hend : ∀ {h2 k2 go st p}, Sub h2 k2 → roundEnd l h2 go st p = .ok v h' → ∃ k', roundEnd l k2 go st p = .ok v k' ∧ Sub h' k' := by
    intro h2 k2 go st p s2 hr
    unfold roundEnd at hr ⊢
    split at hr
    · rename_i hg
      cases hr
      simp only [s2.get _ _ hg]
      exact ⟨_, rfl, s2.put _ _⟩
    · cases hr
  unfold roundGo at hr ⊢
  split at hr
  · cases hr
  · rename_i e a1 h1 he
    obtain ⟨k1, e1, s1⟩ := code_sub P nt true s rec rec2 hrec n n2 _ _ _ _ _ _ hn hs he
    simp only [e1]
    split at hr
    · split at hr
      · rename_i hg
        simp only [s1.get _ _ hg]
        split at hr
        · split at hr
          · cases hr
          · rename_i e2 a2 h2 he2
            obtain ⟨k2, e3, s2⟩ := code_sub P nt true b rec rec2 hrec n n2 _ _ _ _ _ _ hn (s1.put _ _) he2
            simp only [e3]
            split at hr
            · exact hend s2 hr
            · exact hend s2 hr
            · exact hend s2 hr
            · cases hr
        · cases hr
      · cases hr
    · cases hr
/-- summaries of the one, as the other runs them, with so much more to run on -/
def SumsSub (P : Program) (Γ Γ2 : Sums) (m : Nat) : Prop := ∀ f, match Γ f with
  | some s => ∀ n args h k v h', Sub h k → s args h = .ok v h' → ∃ k', callN P Γ2 (n + 1 + m) (.call f args) k = .ok v k' ∧ Sub h' k'
  | none => Γ2 f = none
theorem callN_sub (P : Program) {Γ Γ2 : Sums} {m : Nat} (hΓ : SumsSub P Γ Γ2 m) : ∀ n, RecSub (callN P Γ n) (callN P Γ2 (n + m))
  | 0, j, h, k, v, h', hs, hr => by cases hr
  | n + 1, .call f args, h, k, v, h', hs, hr => by
    have hf := hΓ f
    rw [callN_call] at hr
    split at hr
    · rename_i s hsf
      rw [hsf] at hf
      exact hf n args h k v h' hs hr
    · rename_i hsf
      rw [hsf] at hf
      have hf : Γ2 f = none := hf
      rw [show n + 1 + m = (n + m) + 1 by omega, callN_call, hf]
      simp only
      split at hr
      · cases hr
      · rename_i c hc
        cases hb : Nat.ble args.length c.nt <;> simp only [hb, cond_true, cond_false] at hr ⊢
        · cases hr
        · obtain ⟨fn, body, h1, h2, h3, h4, h5, rfl⟩ := denF_some hc
          exact finish_sub (fun e a h1 he => den_sub P _ _ _ _ (callN_sub P hΓ n) n (n + m) _ _ _ _ _ _ (Nat.le_add_right _ _) hs he) hr
  | n + 1, .yield l args, h, k, v, h', hs, hr => by
    rw [show n + 1 + m = (n + m) + 1 by omega]
    rw [callN_yield] at hr ⊢
    split at hr
    · rename_i nt ps s b a st p hg
      simp only [hs.get _ _ hg]
      cases hb : Nat.beq args.length ps.length <;> simp only [hb, cond_true, cond_false] at hr ⊢
      · cases hr
      · exact round_sub (callN_sub P hΓ n) (Nat.le_add_right _ _) hs hr
    · cases hr
end Vm

