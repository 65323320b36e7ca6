/- Part of a proof by an abstract run of the program's code: FndA. No condition. -/
import Derived.Test.YtnnffmnbcealkaaActA
import Derived.Test.YtnnffmnbcealkaaTlvA
/-! TlvFinds in the abstract run. -/
set_option linter.unusedVariables false
namespace Go.Proofs.Ytnnffmnbcealkaa
open Go Vm
theorem idxP_low (P : Prm → Bool) : ∀ (l : List Prm) (i : Nat), idxP P l i = -1 ∨ (i : Int) ≤ idxP P l i ∧ idxP P l i < ((i + l.length : Nat) : Int)
  | [], i => .inl rfl
  | p :: l, i => by
    rw [idxP]
    by_cases h : P p = true
    · rw [if_pos h]; right; simp; omega
    · rw [if_neg h]
      rcases idxP_low P l (i + 1) with e | ⟨e1, e2⟩
      · exact .inl e
      · right; simp at e2 ⊢; omega
theorem idxP_hit (P : Prm → Bool) : ∀ (l : List Prm) (i j : Nat) (p : Prm), l[j]? = some p → P p = true → 0 ≤ idxP P l i ∧ idxP P l i ≤ ((i + j : Nat) : Int)
  | q :: l, i, 0, p, h, hp => by
    simp at h; subst h
    rw [idxP, if_pos hp]; omega
  | q :: l, i, j + 1, p, h, hp => by
    rw [idxP]
    by_cases hq : P q = true
    · rw [if_pos hq]; omega
    · rw [if_neg hq]
      have := idxP_hit P l (i + 1) j p (by simpa using h) hp
      omega
theorem idxP_at (P : Prm → Bool) : ∀ (l : List Prm) (i j : Nat) (p : Prm), l[j]? = some p → idxP P l i = ((i + j : Nat) : Int) → P p = true
  | q :: l, i, 0, p, h, he => by
    simp at h; subst h
    rw [idxP] at he
    by_cases hq : P q = true
    · exact hq
    · rw [if_neg hq] at he
      rcases idxP_low P l (i + 1) with e | ⟨e, _⟩ <;> omega
  | q :: l, i, j + 1, p, h, he => by
    rw [idxP] at he
    by_cases hq : P q = true
    · rw [if_pos hq] at he; omega
    · rw [if_neg hq] at he
      exact idxP_at P l (i + 1) j p (by simpa using h) (by omega)
set_option maxHeartbeats 2000000 in
theorem w_finds {h : Heap} {o : Option Addr} {m c : Nat} {l : List Prm} {cs : List Value} (hr : Row h 2 o m cs) (hp : PrL h l cs) (hl : l.length = m) (hc : m ≤ c) (k : Nat) (hk : k < 65536) (n : Nat) (hn : 200 ≤ n) :
    ResQ (callN Try.prog G0 n (.call 9 [.slice o m c, .int .u16 (k : Int)]) h) (fun v h' => v = .bool true) := by
  subst hl
  obtain ⟨n, rfl⟩ : ∃ m, n = m + 1 := ⟨n - 1, by omega⟩
  refine res_enter rfl d9 rfl ?_; simp only [c9]
  refine gg ?_
  refine i_call0 (w_awake h n (by omega)) ?_
  rintro _ _ ⟨rfl, rfl⟩
  refine gg ?_
  refine out_if (by exact sel_of rfl) (fun hif => ?_) (fun hif => ?_)
  · refine gg ?_
    rfl
  refine gg ?_
  refine i_call2 (by exact sel_of rfl) (by exact sel_of rfl) (w_find hr hp rfl (by omega) k n (by omega)) ?_
  rintro _ h1 ⟨rfl, k1⟩
  have hlow := idxP_low (fun p => decide (p.1 = k)) l 0
  have hhit := fun j p e (hpk : p.1 = k) => idxP_hit (fun p => decide (p.1 = k)) l 0 j p e (decide_eq_true hpk)
  have hat := fun j p e he => of_decide_eq_true (idxP_at (fun p => decide (p.1 = k)) l 0 j p e he)
  rw [findI]
  generalize idxP (fun p => decide (p.1 = k)) l 0 = F at *
  have hlow' : -1 ≤ F ∧ F < (l.length : Int) := by omega
  clear hlow
  refine gg ?_
  refine o_up l.length (fun i f h' => Sl [(7, .int .i64 (i : Int)), (6, .int .i64 F), (5, .bool true), (0, .slice o l.length c), (1, .int .u16 (k : Int))] f ∧ h' = h1) (by omega) ?_ ?_
  · exact ⟨⟨sel_of rfl, sel_of rfl, sel_of rfl, sel_of rfl, sel_of rfl, trivial⟩, rfl⟩
  rintro i f h' hi ⟨hs, rfl⟩
  obtain ⟨f0, rfl⟩ := hs.puts
  simp only [c9_0]
  refine gg ?_
  refine out_if (by exact sel_of rfl) (fun hif => ?_) (fun hif => ?_)
  · obtain ⟨p, hpi⟩ : ∃ p, l[i]? = some p := ⟨_, List.getElem?_eq_getElem (by omega)⟩
    obtain ⟨x, y, e1, e2, rfl, hx', o1, m1, c1, rfl, hrow, hc1⟩ := (hp.keeps k1).at hpi
    have r1 := hr.keeps k1
    refine gg ?_
    refine i_idx (by exact sel_of rfl) r1 (i := i) (by exact sel_of rfl) (by omega) fun u hu => ?_
    subst hu
    refine gg ?_
    refine i_load1 (v := .int .u16 (p.1 : Int)) (by exact sel_of rfl) (by rw [← e1, ← r1.cell (by omega)]; rfl) ?_
    by_cases hpk : p.1 = k
    · have := hhit i p hpi hpk
      by_cases hF : F = (i : Int)
      · refine gg ?_
        refine i_idx (by exact sel_of rfl) r1 (i := i) (by exact sel_of rfl) (by omega) fun u hu => ?_
        cases hu
        refine gg ?_
        refine i_load1 (v := .int .u16 (p.1 : Int)) (by exact sel_of rfl) (by rw [← e1, ← r1.cell (by omega)]; rfl) ?_
        refine gg ?_
        exact rnd_up (by omega) ⟨⟨sel_of rfl, sel_of rfl, sel_of rfl, sel_of rfl, sel_of rfl, trivial⟩, rfl⟩
      · refine gg ?_
        exact rnd_up (by omega) ⟨⟨sel_of rfl, sel_of rfl, sel_of rfl, sel_of rfl, sel_of rfl, trivial⟩, rfl⟩
    · have hF : F ≠ (i : Int) := fun e => hpk (hat i p hpi (by omega))
      refine gg ?_
      exact rnd_up (by omega) ⟨⟨sel_of rfl, sel_of rfl, sel_of rfl, sel_of rfl, sel_of rfl, trivial⟩, rfl⟩
  · refine gg ?_
    refine i_bslice (cs := [.int .u16 (k : Int), .slice none 0 0]) (by rfl) ?_
    refine gg ?_
    have k2 : Keeps h' (h'.new (.cells 44 [.int .u16 (k : Int), .slice none 0 0] (.own false))) := Keeps.new h' _
    have hrr := (hr.keeps k1).keeps k2
    refine i_app (t := 1 + l.length) (o := some ⟨h'.next, 0, none⟩) (cs := [.int .u16 (k : Int), .slice none 0 0]) k2 (by decide) (by exact sel_of rfl) ⟨rfl, Row.new (by simp) rfl (.inl rfl), fun q e => .inl (by cases e; rfl)⟩ (hrr.src (c := c)) (hp.len) (by omega) rfl rfl fun o3 h3 k3 a3 _ => ?_
    refine gg ?_
    have hp3 : PrL h3 ((k, []) :: l) ([.int .u16 (k : Int), .slice none 0 0] ++ cs) := ⟨⟨rfl, hk, none, 0, 0, rfl, Row.nil _ _, Nat.le_refl _⟩, (hp.keeps k1).keeps k3⟩
    refine i_call2 (by exact sel_of rfl) (by exact sel_of rfl) (w_find a3.row hp3 (by simp; omega) (by simp; omega) k n (by simp; omega)) ?_
    rintro _ h4 ⟨rfl, k4⟩
    rw [findI, idxP, if_pos (decide_eq_true rfl)]
    refine gg ?_
    rfl
end Go.Proofs.Ytnnffmnbcealkaa

