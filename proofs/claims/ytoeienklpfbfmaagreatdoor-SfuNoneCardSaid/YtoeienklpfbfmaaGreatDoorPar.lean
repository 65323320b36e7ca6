/- Part of a proof by an abstract run of the program's code: Par. No condition. -/
import Derived.Test.YtoeienklpfbfmaaGreatDoorVmD
/-! Lists of parameters (a number of 16 bits, octets) in the abstract heap. -/
set_option linter.unusedVariables false
namespace Vm
open Go
abbrev Prm := Nat × List UInt8
def Pr (h : Heap) (p : Prm) (x y : Value) : Prop := x = .int .u16 (p.1 : Int) ∧ p.1 < 65536 ∧ ∃ o m c, y = .slice o m c ∧ Row h 1 o m (u8s p.2) ∧ m ≤ c
def PrL (h : Heap) : List Prm → List Value → Prop
  | [], [] => True
  | p :: l, x :: y :: r => Pr h p x y ∧ PrL h l r
  | _, _ => False
theorem Pr.keeps {h h' : Heap} (k : Keeps h h') {p : Prm} {x y : Value} (r : Pr h p x y) : Pr h' p x y := by
  obtain ⟨h1, h2, o, m, c, h3, h4, h5⟩ := r
  exact ⟨h1, h2, o, m, c, h3, h4.keeps k, h5⟩
theorem PrL.keeps {h h' : Heap} (k : Keeps h h') : ∀ {l : List Prm} {c : List Value}, PrL h l c → PrL h' l c
  | [], [], _ => trivial
  | p :: l, x :: y :: r, ⟨h1, h2⟩ => ⟨h1.keeps k, h2.keeps k⟩
theorem PrL.len {h : Heap} : ∀ {l : List Prm} {c : List Value}, PrL h l c → c.length = l.length * 2
  | [], [], _ => rfl
  | p :: l, x :: y :: r, ⟨h1, h2⟩ => by simp [h2.len]; omega
theorem PrL.at {h : Heap} : ∀ {l : List Prm} {c : List Value} {i : Nat} {p : Prm}, PrL h l c → l[i]? = some p → ∃ x y, c[i * 2]? = some x ∧ c[i * 2 + 1]? = some y ∧ Pr h p x y
  | p :: l, x :: y :: r, 0, q, ⟨h1, h2⟩, hq => by simp at hq; subst hq; exact ⟨x, y, rfl, rfl, h1⟩
  | p :: l, x :: y :: r, i + 1, q, ⟨h1, h2⟩, hq => by
    obtain ⟨x', y', e1, e2, e3⟩ := h2.at (i := i) (by simpa using hq)
    refine ⟨x', y', ?_, ?_, e3⟩
    · rw [show (i + 1) * 2 = i * 2 + 1 + 1 by omega]; exact e1
    · rw [show (i + 1) * 2 + 1 = i * 2 + 1 + 1 + 1 by omega]; exact e2
theorem prms_of : ∀ (els : List (List Value)) {h : Heap}, (∀ c ∈ els, Rep h (.pair (.int .u16) (.pair (.slice (.int .u8)) .unit)) c) → ∃ l : List Prm, PrL h l els.flatten ∧ l.length = els.length
  | [], _, _ => ⟨[], trivial, rfl⟩
  | x :: els, h, hx => by
    obtain ⟨l, hl, hlen⟩ := prms_of els (fun c hc => hx c (by simp [hc]))
    cases hx x (by simp) with
    | @pair f r c cs h1 hf hr' =>
      cases hf with
      | @int k1 n1 w1 =>
        cases hr' with
        | @pair f2 r2 c2 cs2 h2 hf2 hr2 =>
          cases hr2 with
          | unit =>
            obtain ⟨v2, rfl⟩ : ∃ v, c2 = [v] := List.length_eq_one_iff.1 h2
            obtain ⟨o, m, c, l2, rfl, hrow, hc, _⟩ := RepV.bytes (show RepV h (.slice (.int .u8)) v2 from hf2)
            simp [Lit.wf, IntKind.min, IntKind.max, IntKind.bits, IntKind.signed] at w1
            refine ⟨(n1.toNat, l2) :: l, ⟨⟨by congr 1; omega, by show n1.toNat < 65536; omega, o, m, c, rfl, hrow, hc⟩, hl⟩, by simp [hlen]⟩
theorem RepV.prms {h : Heap} {v : Value} (r : RepV h (.slice (.pair (.int .u16) (.pair (.slice (.int .u8)) .unit))) v) : ∃ (o : Option Addr) (m c : Nat) (l : List Prm) (cs : List Value), v = .slice o m c ∧ Row h 2 o m cs ∧ PrL h l cs ∧ l.length = m ∧ m ≤ c := by
  obtain ⟨o, m, c, els, h1, h2, h3, h4, h5, h6, h7⟩ := Rep.row r
  obtain ⟨l, hl, hlen⟩ := prms_of els h5
  exact ⟨o, m, c, l, _, h1, h2, hl, by rw [hlen, h3], h6⟩
/-- the place of the first one that is so -/
def idxP (P : Prm → Bool) : List Prm → Nat → Int
  | [], _ => -1
  | p :: l, i => if P p = true then (i : Int) else idxP P l (i + 1)
def findI (k : Nat) (l : List Prm) (i : Nat) : Int := idxP (fun p => decide (p.1 = k)) l i
theorem idxP_any (P : Prm → Bool) : ∀ (l : List Prm) (i : Nat), decide (0 ≤ idxP P l i) = l.any P
  | [], i => by simp [idxP]
  | p :: l, i => by
    rw [idxP, List.any_cons]
    by_cases h : P p = true
    · rw [if_pos h, h]; simp
    · rw [if_neg h, idxP_any P l (i + 1)]; simp at h; rw [h]; simp
theorem PrL.pair {h : Heap} {l : List Prm} {c : List Value} {i : Nat} {p : Prm} (r : PrL h l c) (hp : l[i]? = some p) : ∃ x y, (c.drop (i * 2)).take 2 = [x, y] ∧ Pr h p x y := by
  obtain ⟨x, y, e1, e2, e3⟩ := r.at hp
  refine ⟨x, y, ?_, e3⟩
  obtain ⟨h1, g1⟩ := List.getElem?_eq_some_iff.1 e1
  obtain ⟨h2, g2⟩ := List.getElem?_eq_some_iff.1 e2
  rw [List.drop_eq_getElem_cons h1, List.drop_eq_getElem_cons h2, g1, g2]
  rfl
def fewP (l : List Prm) : Prop := l.length ≤ 40 ∧ ∀ p ∈ l, p.2.length ≤ 1300
instance (l : List Prm) : Decidable (fewP l) := by unfold fewP; infer_instance
theorem drop_cons {α : Type} {l : List α} {i : Nat} {x : α} (h : l[i]? = some x) : l.drop i = x :: l.drop (i + 1) := by
  obtain ⟨hlt, hg⟩ := List.getElem?_eq_some_iff.1 h
  rw [List.drop_eq_getElem_cons hlt, hg]
end Vm

