/- Part of a proof by an abstract run of the program's code: BY. No condition. -/
import Derived.Test.YtnffglfpjcbfaaaVmD
import Derived.Test.YtnffglfpjcbfaaaGx
/-! Rounds of a range over a function with one way alone. -/
set_option linter.unusedVariables false
namespace Vm
open Go
/-- code with one way alone; regions of open order have one way anyway -/
def detY (P : Program) (D : List Nat) : Code → Bool
  | .region _ ops d => (d && !lastMany P ops.toList) || detOps D ops.toList
  | .seq x y => detY P D x && detY P D y
  | .cond _ x y => detY P D x && detY P D y
  | .block _ b => detY P D b
  | .loop b => detY P D b
  | .scope _ => false
  | .rangeFunc _ _ _ _ => false
  | _ => true
section
variable {P : Program} {D : List Nat} {rec : Rec}
theorem codeY_nor (hr : ∀ g ∈ D, ∀ args h x y, rec (.call g args) h ≠ .or x y) {nt n : Nat} {ir : Bool} : ∀ (c : Code), detY P D c = true → ∀ a h x y, (den0 P nt ir c).f rec n a h ≠ .or x y := by
  intro c
  induction c with
  | region id ops draw =>
    intro hd a h x y
    cases draw with
    | true =>
      refine draw_nor hr ?_ x y
      simp only [detY, Bool.true_and, Bool.or_eq_true, Bool.not_eq_true'] at hd
      exact hd
    | false =>
      have hd : detOps D ops.toList = true := by simpa [detY] using hd
      intro e
      simp only [den0, sRegion] at e
      cases hx : runItems rec (ops.toList.map (denItem P nt ops.toList)) a h with
      | no => rw [hx] at e; cases e
      | mk a1 h1 => rw [hx] at e; cases e
      | or u v => exact ops_det hr hd a h u v hx
  | seq p q ihp ihq =>
    intro hd a h x y
    simp only [detY, Bool.and_eq_true] at hd
    exact out_nor (ihp hd.1 a h) (thenK_nor fun a h x y => ihq hd.2 a h x y) x y
  | cond c p q ihp ihq =>
    intro hd a h x y
    simp only [detY, Bool.and_eq_true] at hd
    simp only [den0]
    cases hb : okX nt c <;> simp only [cond_true, cond_false]
    · exact fun e => by cases e
    · simp only [sCond]
      split
      · rename_i b _
        cases b
        · exact ihq hd.2 a h x y
        · exact ihp hd.1 a h x y
      · exact fun e => by cases e
  | block id b ih =>
    intro hd a h x y
    refine out_nor (ih hd a h) (fun e a h x y => ?_) x y
    cases e with
    | exit i =>
      show (bif Nat.beq i id then Out.mk .normal a h else .mk (.exit i) a h) ≠ .or x y
      cases Nat.beq i id <;> exact fun e => by cases e
    | _ => exact fun e => by cases e
  | loop b ih =>
    intro hd a h x y
    exact loop_nor (ih hd) n a h x y
  | rangeFunc f ps s b ihs ihb => intro hd; cases hd
  | _ => intro hd a h x y e; cases e
theorem res_nor {t : Out} {k : Ex → Fr → Heap → Res} (h1 : ∀ x y, t ≠ .or x y) (h2 : ∀ e a h x y, k e a h ≠ .or x y) (x y : Res) : t.res k ≠ .or x y := by
  cases t with
  | no => exact fun e => by cases e
  | mk e a h => exact h2 e a h x y
  | or u v => exact absurd rfl (h1 u v)
theorem yield_nor {Γ : Sums} {n L nt : Nat} {args : List Value} {ps : List Tmp} {s b : Code} {a : Fr} {h : Heap} {st : LoopState} {p : Option Code} (hg : h.get L = some (.loop nt ps s b a st p)) (hs : detY P D s = true) (hb : detY P D b = true)
    (hr : ∀ n g, g ∈ D → ∀ args h x y, callN P Γ n (.call g args) h ≠ .or x y) : ∀ x y, callN P Γ n (.yield L args) h ≠ .or x y := by
  cases n with
  | zero => intro x y e; cases e
  | succ n =>
    intro x y
    have e : callN P Γ (n + 1) (.yield L args) h = (match h.get L with | some (.loop nt ps s b a _ _) => bif Nat.beq args.length ps.length then roundGo P (callN P Γ n) n nt s b L (setAll ps args a) h else .no | _ => .no) := rfl
    rw [e, hg]
    simp only
    cases Nat.beq args.length ps.length
    · exact fun e => by cases e
    · simp only [cond_true]
      unfold roundGo
      refine res_nor (codeY_nor (hr n) s hs _ _) (fun e1 a1 h1 x y => ?_) x y
      unfold roundK
      split
      · split
        · split
          · refine res_nor (codeY_nor (hr n) b hb _ _) (fun e2 a2 h2 x y => ?_) x y
            unfold roundK2 roundEnd
            split <;> first | (intro e; cases e; done) | (split <;> first | (intro e; cases e; done) | (split <;> intro e <;> cases e))
          · exact fun e => by cases e
        · exact fun e => by cases e
      · exact fun e => by cases e
end
/-- a guarded call of a yield -/
theorem det_yg {rec : Rec} {sg c : Sel} {want : Bool} {d : Put} {args : List Sel} {q : Nat} {a : Fr} {h : Heap} (hc : c.f a = .func (.yield q) #[] #[]) (hg : ∀ x y, rec (.yield q (evs a args)) h ≠ .or x y) : ∀ x y, (iGuard sg want d (iOp d (.e (eCall c args)))).f rec a h ≠ .or x y := by
  have h1 : ∀ x y, (iOp d (.e (eCall c args))).f rec a h ≠ .or x y := by
    intro x y e
    simp only [iOp, eCall, hc] at e
    cases hx : rec (.yield q (([] : List Value) ++ evs a args)) h with
    | no => rw [hx] at e; cases e
    | ok v h' => rw [hx] at e; cases e
    | or u v => exact hg u v hx
  intro x y e
  simp only [iGuard] at e
  split at e
  · rename_i b _
    cases b <;> cases want <;> first | (cases e; done) | exact h1 x y e
  · cases e
section
variable {rec : Rec} {a : Fr} {h : Heap}
theorem tr_consD {K : List (Fr × Heap) → Fr → Heap → Prop} {i : ISem} {l : List ISem} (hd : ∀ x y, i.f rec a h ≠ .or x y) (hs : ItQ (runItems rec [i] a h) (fun a1 h1 => TrQ rec l a1 h1 (fun st => K ((a, h) :: st)))) : TrQ rec (i :: l) a h K := by
  have h1 := hs.a
  rw [runItems_cons] at h1
  have h1 := ItP.it.1 h1
  cases hi : i.f rec a h with
  | no => rw [hi] at h1; exact h1.elim
  | or u v => exact absurd hi (hd u v)
  | mk a1 h1' =>
    rw [hi] at h1
    obtain ⟨st, a', h', e2, hl, hk⟩ : TrQ rec l a1 h1' (fun st => K ((a, h) :: st)) := h1
    refine ⟨(a, h) :: st, a', h', ?_, ?_, hk⟩
    · rw [runStates_cons, hi]
      show (match runStates rec l a1 h1' with | some l => some ((a, h) :: l) | none => none) = _
      rw [e2]
    · cases st with
      | nil => cases hl
      | cons x st => rw [List.getLast?_cons_cons]; exact hl
theorem det_fv {P : Program} {Γ : Sums} {n : Nat} {cp : Sel} {d : Put} {args : List Sel} {g : FuncId} {fs cap : Array Value} (hg : ∀ n args h x y, callN P Γ n (.call g args) h ≠ .or x y) (hc : cp.f a = .func (.func g) fs cap) : ∀ x y, (iOp d (.e (eCall cp args))).f (callN P Γ n) a h ≠ .or x y := by
  intro x y e
  simp only [iOp, eCall, hc] at e
  cases hx : callN P Γ n (.call g (fs.toList ++ evs a args ++ cap.toList)) h with
  | no => rw [hx] at e; cases e
  | ok v h' => rw [hx] at e; cases e
  | or u v => exact hg n _ h u v hx
end
end Vm

