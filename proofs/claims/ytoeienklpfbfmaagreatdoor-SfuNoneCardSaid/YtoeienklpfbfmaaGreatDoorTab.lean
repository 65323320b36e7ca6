/- Part of a proof by an abstract run of the program's code: Tab. No condition. -/
import Derived.Test.YtoeienklpfbfmaaGreatDoorVmC
import Derived.Test.YtoeienklpfbfmaaGreatDoorGx
/-! Runs put together of pieces: what a call makes of a small heap, it makes of every heap that has as much. -/
set_option linter.unusedVariables false
namespace Vm
open Go
noncomputable section
/-- a heap of such blocks -/
def treeOf : List (Nat × Blk) → Tr Blk := List.rec .nil (fun p _ ih => ih.set p.2 p.1)
def hOf (n : Nat) (l : List (Nat × Blk)) : Heap := ⟨n, treeOf l⟩
theorem hOf_get : ∀ {l : List (Nat × Blk)} {n b : Nat} {x : Blk}, (hOf n l).get b = some x → (b, x) ∈ l
  | [], n, b, x, h => by cases h
  | p :: l, n, b, x, h => by
    have h : ((treeOf l).set p.2 p.1).get b = some x := h
    rw [Tr.get_set] at h
    by_cases e : b = p.1
    · rw [if_pos e] at h
      cases h
      subst e
      exact List.mem_cons_self ..
    · rw [if_neg e] at h
      exact List.mem_cons_of_mem _ (hOf_get (n := n) h)
/-- two values are the same: of one cell, or of such -/
def sameS : St → St → Bool
  | .ro, .ro => true
  | .own a, .own b => Bool.rec (!b) b a
  | .fix, .fix => true
  | _, _ => false
theorem sameS_eq {s t : St} (h : sameS s t = true) : s = t := by
  unfold sameS at h
  split at h
  · rfl
  · rename_i a b
    cases a <;> cases b <;> first | rfl | cases h
  · rfl
  · cases h
def sameM : List (Value × Value × Nat) → List (Value × Value × Nat) → Bool := List.rec (fun l => List.rec true (fun _ _ _ => false) l)
  (fun x _ ih l => List.rec false (fun y l _ => bif sameV x.1 y.1 then (bif sameV x.2.1 y.2.1 then (bif Nat.beq x.2.2 y.2.2 then ih l else false) else false) else false) l)
theorem sameM_eq : ∀ {l k : List (Value × Value × Nat)}, sameM l k = true → l = k
  | [], [], _ => rfl
  | [], _ :: _, h => by cases h
  | _ :: _, [], h => by cases h
  | (a, b, c) :: l, (a', b', c') :: k, h => by
    have h : (bif sameV a a' then (bif sameV b b' then (bif Nat.beq c c' then sameM l k else false) else false) else false) = true := h
    cases h1 : sameV a a' with
    | false => rw [h1] at h; cases h
    | true =>
      rw [h1] at h
      cases h2 : sameV b b' with
      | false => rw [h2] at h; cases h
      | true =>
        rw [h2] at h
        cases h3 : Nat.beq c c' with
        | false => rw [h3] at h; cases h
        | true =>
          rw [h3] at h
          rw [sameV_eq h1, sameV_eq h2, Nat.eq_of_beq_eq_true h3, sameM_eq h]
def sameB : Blk → Blk → Bool
  | .cells e cs s, .cells e' cs' s' => bif Nat.beq e e' then (bif sameS s s' then sameL cs cs' else false) else false
  | .map es c, .map es' c' => bif Nat.beq c c' then sameM es es' else false
  | _, _ => false
theorem sameB_eq {x y : Blk} (h : sameB x y = true) : x = y := by
  unfold sameB at h
  split at h
  · rename_i e cs s e' cs' s'
    cases h1 : Nat.beq e e' with
    | false => rw [h1] at h; cases h
    | true =>
      rw [h1] at h
      cases h2 : sameS s s' with
      | false => rw [h2] at h; cases h
      | true =>
        rw [h2] at h
        rw [Nat.eq_of_beq_eq_true h1, sameS_eq h2, sameL_eq h]
  · rename_i es c es' c'
    cases h1 : Nat.beq c c' with
    | false => rw [h1] at h; cases h
    | true =>
      rw [h1] at h
      rw [Nat.eq_of_beq_eq_true h1, sameM_eq h]
  · cases h
/-- does a heap have such blocks? -/
def hasAll (h : Heap) : List (Nat × Blk) → Bool := List.rec true (fun p _ ih => match h.get p.1 with
  | some y => bif sameB p.2 y then ih else false
  | none => false)
theorem hasAll_get {h : Heap} : ∀ {l : List (Nat × Blk)}, hasAll h l = true → ∀ p ∈ l, h.get p.1 = some p.2
  | [], _, p, hp => by cases hp
  | q :: l, e, p, hp => by
    have e : (match h.get q.1 with
      | some y => bif sameB q.2 y then hasAll h l else false
      | none => false) = true := e
    split at e
    · rename_i y hy
      cases hs : sameB q.2 y with
      | false => rw [hs] at e; cases e
      | true =>
        rw [hs] at e
        rcases List.mem_cons.1 hp with rfl | hp
        · rw [hy, sameB_eq hs]
        · exact hasAll_get e p hp
    · cases e
theorem sub_of {h : Heap} {n : Nat} {l : List (Nat × Blk)} (hn : n = h.next) (hl : ∀ p ∈ l, h.get p.1 = some p.2) : Sub (hOf n l) h :=
  ⟨hn, fun b x hb => hl (b, x) (hOf_get hb)⟩
/-- what a call makes of a small heap -/
structure Piece where
  args : List Value
  nx : Nat
  l : List (Nat × Blk)
  v : Value
  nx' : Nat
  l' : List (Nat × Blk)
/-- what is looked at behind a call -/
def probe (r : Res) (l : List (Nat × Blk)) : Option (Value × Nat × List (Option Blk)) := match r with
  | .ok v k => some (v, k.next, l.map fun p => k.get p.1)
  | .no => none
def Piece.ok (P : Program) (Γ : Sums) (m f : Nat) (e : Piece) : Prop := ∃ k, callN P Γ m (.call f e.args) (hOf e.nx e.l) = .ok e.v k ∧ Sub (hOf e.nx' e.l') k
theorem Piece.ok_of {P : Program} {Γ : Sums} {m f : Nat} {e : Piece} (h : probe (callN P Γ m (.call f e.args) (hOf e.nx e.l)) e.l' = some (e.v, e.nx', e.l'.map fun p => some p.2)) : e.ok P Γ m f := by
  unfold probe at h
  split at h
  · rename_i v k hk
    simp only [Option.some.injEq, Prod.mk.injEq] at h
    obtain ⟨rfl, h2, h3⟩ := h
    exact ⟨k, hk, sub_of h2.symm fun p hp => List.map_inj_left.1 h3 p hp⟩
  · cases h
/-- calls by a table -/
def tabS : List Piece → List Value → Heap → Res := List.rec (fun _ _ => .no) (fun e _ ih args h =>
  bif Nat.beq e.nx h.next then (bif sameL e.args args then (bif hasAll h e.l then .ok e.v (hOf e.nx' e.l') else .no) else .no) else ih args h)
theorem tabS_some : ∀ {t : List Piece} {args : List Value} {h h' : Heap} {v : Value}, tabS t args h = .ok v h' → ∃ e ∈ t, args = e.args ∧ Sub (hOf e.nx e.l) h ∧ v = e.v ∧ h' = hOf e.nx' e.l'
  | [], args, h, h', v, hr => by cases hr
  | e :: t, args, h, h', v, hr => by
    have hr : (bif Nat.beq e.nx h.next then (bif sameL e.args args then (bif hasAll h e.l then Res.ok e.v (hOf e.nx' e.l') else .no) else .no) else tabS t args h) = .ok v h' := hr
    cases h1 : Nat.beq e.nx h.next with
    | false =>
      rw [h1] at hr
      obtain ⟨e', he, r⟩ := tabS_some (t := t) hr
      exact ⟨e', List.mem_cons_of_mem _ he, r⟩
    | true =>
      rw [h1] at hr
      cases h2 : sameL e.args args with
      | false => rw [h2] at hr; cases hr
      | true =>
        rw [h2] at hr
        cases h3 : hasAll h e.l with
        | false => rw [h3] at hr; cases hr
        | true =>
          rw [h3] at hr
          cases hr
          exact ⟨e, List.mem_cons_self .., (sameL_eq h2).symm, sub_of (Nat.eq_of_beq_eq_true h1) (hasAll_get h3), rfl, rfl⟩
end
/-! the checksum's summaries -/
theorem rowOf_sub {h k : Heap} (s : Sub h k) {o : Option Addr} {n : Nat} {cs : List Value} (e : rowOf h o n = some cs) : rowOf k o n = some cs := by
  unfold rowOf at e ⊢
  split at e
  · exact e
  · rename_i q
    rw [← s.next]
    cases hb : Nat.blt q.block h.next with
    | false => rw [hb] at e; cases e
    | true =>
      rw [hb] at e
      simp only [cond_true] at e ⊢
      split at e
      · exact G.le_load s.get e
      · rename_i z hz
        cases h1 : Nat.beq z 1 with
        | false => rw [h1] at e; cases e
        | true =>
          rw [h1] at e
          simp only [cond_true] at e ⊢
          exact G.le_load s.get e
theorem sStep_sub {args : List Value} {h k h' : Heap} {v : Value} (s : Sub h k) (hr : sStep args h = .ok v h') : sStep args k = .ok v k ∧ h' = h := by
  unfold sStep at hr ⊢
  split at hr
  · split at hr
    · split at hr
      · split at hr
        · rename_i ot n ct _ s0 _ o m c
          cases h1 : Nat.beq n 256 with
          | false => rw [h1] at hr; cases hr
          | true =>
          rw [h1] at hr
          simp only [cond_true] at hr
          cases h2 : Nat.blt s0 4294967296 with
          | false => rw [h2] at hr; cases hr
          | true =>
          rw [h2] at hr
          simp only [cond_true] at hr
          cases h3 : Nat.ble m 100000 with
          | false => rw [h3] at hr; cases hr
          | true =>
          rw [h3] at hr
          simp only [cond_true] at hr
          split at hr
          · rename_i cs hcs
            cases h4 : isTab cs tabN with
            | false => rw [h4] at hr; cases hr
            | true =>
              rw [h4] at hr
              simp only [cond_true] at hr
              split at hr
              · rename_i bs hbs
                split at hr
                · rename_i l hl
                  cases hr
                  refine ⟨?_, rfl⟩
                  simp only [h1, h2, h3, cond_true, rowOf_sub s hcs, h4, rowOf_sub s hbs, hl]
                · cases hr
              · cases hr
          · cases hr
        · cases hr
      · cases hr
    · cases hr
  · cases hr
theorem crc_one {ft fs ty f : Nat} {s : List Value → Heap → Res} (hf : crcSums ft fs ty f = some s) {args : List Value} {h k h' : Heap} {v : Value} (hs : Sub h k) (hr : s args h = .ok v h') : ∃ k', s args k = .ok v k' ∧ Sub h' k' := by
  unfold crcSums at hf
  cases h1 : Nat.beq f ft with
  | true =>
    rw [h1] at hf
    cases hf
    unfold sTable at hr ⊢
    split at hr
    · cases hr
      rw [hs.next]
      exact ⟨_, rfl, hs.new _⟩
    · cases hr
  | false =>
    rw [h1] at hf
    simp only [cond_false] at hf
    cases h2 : Nat.beq f fs with
    | true =>
      rw [h2] at hf
      cases hf
      obtain ⟨e, rfl⟩ := sStep_sub hs hr
      exact ⟨k, e, hs⟩
    | false => rw [h2] at hf; cases hf
theorem crc_self (P : Program) (ft fs ty m : Nat) : SumsSub P (crcSums ft fs ty) (crcSums ft fs ty) m := fun f => by
  cases hf : crcSums ft fs ty f with
  | none => exact rfl
  | some s =>
    intro n args h k v h' hs hr
    rw [show n + 1 + m = (n + m) + 1 by omega, callN_call, hf]
    exact crc_one hf hs hr
/-- the checksum's summaries, and a table for one function -/
noncomputable def tabSums (ft fs ty g : Nat) (t : List Piece) : Sums := fun f => bif Nat.beq f g then some (tabS t) else crcSums ft fs ty f
theorem tab_sub {P : Program} {ft fs ty g m : Nat} {t : List Piece} (hg : crcSums ft fs ty g = none) (ht : ∀ e ∈ t, e.ok P (crcSums ft fs ty) m g) : SumsSub P (tabSums ft fs ty g t) (crcSums ft fs ty) m := fun f => by
  unfold tabSums
  cases hb : Nat.beq f g with
  | false => exact crc_self P ft fs ty m f
  | true =>
    obtain rfl := Nat.eq_of_beq_eq_true hb
    intro n args h k v h' hs hr
    obtain ⟨e, he, rfl, s1, rfl, rfl⟩ := tabS_some hr
    obtain ⟨k1, r1, s2⟩ := ht e he
    obtain ⟨k2, r2, s3⟩ := callN_sub P (crc_self P ft fs ty (n + 1)) m _ _ _ _ _ (s1.trans hs) r1
    exact ⟨k2, by rw [Nat.add_comm (n + 1) m]; exact r2, s2.trans s3⟩
/-- what is said by a table is said -/
theorem tab_says {P : Program} {ft fs ty g m n f : Nat} {t : List Piece} (hg : crcSums ft fs ty g = none) (ht : ∀ e ∈ t, e.ok P (crcSums ft fs ty) m g) (hs : says P (tabSums ft fs ty g t) n f [] = true) : says P (crcSums ft fs ty) (n + m) f [] = true := by
  unfold says at hs ⊢
  split at hs
  · rename_i b h' hr
    obtain ⟨k, e, _⟩ := callN_sub P (tab_sub hg ht) n _ _ _ _ _ (Sub.refl _) hr
    rw [e]
    exact hs
  · cases hs
end Vm

