/- Part of a proof by an abstract run of the program's code: UEsA. No condition. -/
import Derived.Test.YtdcllpjoejkpnaaUChkA
import Derived.Test.YtdcllpjoejkpnaaUFewA
import Derived.Test.YtdcllpjoejkpnaaUEncB
/-! Lists of chunks. -/
set_option linter.unusedVariables false
namespace Vm
open Go
theorem flat_get {sz : Nat} : ∀ (els : List (List Value)) (i : Nat) {v : List Value}, (∀ c ∈ els, c.length = sz) → els[i]? = some v → (els.flatten.drop (i * sz)).take sz = v
  | [], i, v, _, h => by simp at h
  | x :: els, 0, v, hx, h => by
    simp at h; subst h
    rw [Nat.zero_mul, List.drop_zero, List.flatten_cons, List.take_left' (hx x (by simp))]
  | x :: els, i + 1, v, hx, h => by
    have h1 := hx x (by simp)
    rw [List.flatten_cons, show (i + 1) * sz = x.length + i * sz by rw [h1, Nat.add_mul]; omega, List.drop_append]
    rw [List.drop_eq_nil_of_le (by omega), List.nil_append, show x.length + i * sz - x.length = i * sz by omega]
    exact flat_get els i (fun c hc => hx c (by simp [hc])) (by simpa using h)
theorem flat_cell {sz : Nat} {els : List (List Value)} {i j : Nat} {v : List Value} (hx : ∀ c ∈ els, c.length = sz) (h : els[i]? = some v) (hj : j < sz) : els.flatten[i * sz + j]? = v[j]? := by
  rw [← flat_get els i hx h, List.getElem?_take, if_pos hj, List.getElem?_drop]
end Vm
namespace Go.Proofs.Ytdcllpjoejkpnaa
open Go Vm
/-- the cells of chunks -/
def ChE (h : Heap) (l : List Chk) (els : List (List Value)) : Prop := els.length = l.length ∧ (∀ c ∈ els, c.length = 12) ∧ ∀ (i : Nat) (x : Chk) (v : List Value), l[i]? = some x → els[i]? = some v → ChV h x v
theorem ChE.nil (h : Heap) : ChE h [] [] := ⟨rfl, (fun c hc => by cases hc), fun i x v hx => by simp at hx⟩
theorem ChE.snoc {h : Heap} {l : List Chk} {els : List (List Value)} {x : Chk} {v : List Value} (r : ChE h l els) (hx : ChV h x v) : ChE h (l ++ [x]) (els ++ [v]) := by
  obtain ⟨h1, h2, h3⟩ := r
  refine ⟨by rw [List.length_append, List.length_append, h1]; rfl, fun c hc => ?_, fun i y w hy hw => ?_⟩
  · rcases List.mem_append.1 hc with hc | hc
    · exact h2 c hc
    · simp at hc; subst hc; exact hx.len
  · by_cases hi : i < l.length
    · rw [List.getElem?_append_left hi] at hy
      rw [List.getElem?_append_left (by omega)] at hw
      exact h3 i y w hy hw
    · rw [List.getElem?_append_right (by omega)] at hy
      rw [List.getElem?_append_right (by omega), h1] at hw
      have e : i - l.length = 0 := by
        have := (List.getElem?_eq_some_iff.1 hy).1
        simp at this; omega
      rw [e] at hy hw
      simp at hy hw
      subst hy hw
      exact hx
theorem ChE.at {h : Heap} {l : List Chk} {els : List (List Value)} (r : ChE h l els) {i : Nat} {x : Chk} (hx : l[i]? = some x) : ∃ v, els[i]? = some v ∧ ChV h x v := by
  have hi := (List.getElem?_eq_some_iff.1 hx).1
  have : els[i]? = some (els[i]'(by rw [r.1]; exact hi)) := List.getElem?_eq_getElem _
  exact ⟨_, this, r.2.2 i x _ hx this⟩
theorem RepV.chunks {h : Heap} {v : Value} (r : RepV h (.slice PTc) v) : ∃ (o : Option Addr) (m c : Nat) (l : List Chk) (els : List (List Value)), v = .slice o m c ∧ Row h 12 o m els.flatten ∧ l.length = m ∧ ChE h l els ∧ (∀ x ∈ l, x.Ok) ∧ m ≤ c := by
  obtain ⟨o, m, c, els, h1, h2, h3, h4, h5, h6, h7⟩ := Rep.row r
  have key : ∀ (els : List (List Value)), (∀ c ∈ els, c.length = 12) → (∀ c ∈ els, Rep h PTc c) → ∃ l : List Chk, ChE h l els ∧ ∀ x ∈ l, x.Ok := by
    intro els
    induction els with
    | nil => intro _ _; exact ⟨[], ChE.nil h, fun x hx => by cases hx⟩
    | cons e els ih =>
      intro hl he
      obtain ⟨l, q1, q2⟩ := ih (fun c hc => hl c (by simp [hc])) (fun c hc => he c (by simp [hc]))
      obtain ⟨x, hx, ho⟩ := rep_chunk (he e (by simp))
      refine ⟨x :: l, ⟨by rw [List.length_cons, List.length_cons, q1.1], hl, fun i y w hy hw => ?_⟩, fun y hy => ?_⟩
      · cases i with
        | zero => simp at hy hw; subst hy hw; exact hx
        | succ i => exact q1.2.2 i y w (by simpa using hy) (by simpa using hw)
      · rcases List.mem_cons.1 hy with rfl | hy
        · exact ho
        · exact q2 y hy
  obtain ⟨l, hl, ho⟩ := key els h4 h5
  exact ⟨o, m, c, l, els, h1, h2, by rw [← hl.1, h3], hl, ho, h6⟩
/-- the octets of chunks, one behind the other -/
def encs (l : List Chk) : List UInt8 := l.flatMap fun x => (encC x).1
theorem encs_snoc (l : List Chk) (x : Chk) : encs (l ++ [x]) = encs l ++ (encC x).1 := by simp [encs, List.flatMap_append]
theorem encs_len : ∀ (l : List Chk), (∀ x ∈ l, x.shaped) → (encs l).length ≤ 42010 * l.length
  | [], _ => Nat.le_refl _
  | x :: l, h => by
    have h1 := encs_len l (fun y hy => h y (by simp [hy]))
    have h2 := (encC_len (h x (by simp))).2.2
    simp only [encs, List.flatMap_cons, List.length_append, List.length_cons] at h1 ⊢
    omega
theorem few_Few {c : Chk} (h : c.few) : c.Few := ⟨h.1.1, h.1.2.1, h.1.2.2.1, by have := h.1.2.2.2.1; omega, by have := h.1.2.2.2.2; omega, fun p hp => by have := h.2 p hp; omega⟩
theorem encC_bad {c : Chk} (h : ¬c.shaped) : (encC c).2 = 1 ∧ (encC c).1.length = 0 := by
  rw [encC, if_neg h]; exact ⟨rfl, rfl⟩
end Go.Proofs.Ytdcllpjoejkpnaa

