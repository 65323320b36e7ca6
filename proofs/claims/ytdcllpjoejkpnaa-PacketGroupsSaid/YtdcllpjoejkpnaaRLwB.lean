/- Part of a proof by an abstract run of the program's code: RLwB. No condition. -/
import Derived.Test.YtdcllpjoejkpnaaRLwC
/-! Octets that are a chunk are its octets: in plain terms. -/
set_option linter.unusedVariables false
namespace Go.Proofs.Ytdcllpjoejkpnaa
open Go Vm
theorem rn_inv2 {s : RS} (h : (rn 2 s).2.2 = 0) : s.2 = 0 ∧ s.1 = down (rn 2 s).1 2 ++ (rn 2 s).2.1 ∧ (rn 2 s).1 < 65536 := by
  unfold rn at h ⊢
  by_cases h0 : s.2 = 0
  · rw [if_pos h0] at h ⊢
    unfold getR at h ⊢
    by_cases h1 : s.1.length < 2
    · rw [if_pos h1] at h; cases h
    · rw [if_neg h1]
      refine ⟨h0, ?_, num_two _⟩
      dsimp only
      rw [down_num _ (by rw [List.length_take]; omega), List.take_append_drop]
  · rw [if_neg h0] at h; exact absurd h h0
theorem rn_inv4 {s : RS} (h : (rn 4 s).2.2 = 0) : s.2 = 0 ∧ s.1 = down (rn 4 s).1 4 ++ (rn 4 s).2.1 := by
  unfold rn at h ⊢
  by_cases h0 : s.2 = 0
  · rw [if_pos h0] at h ⊢
    unfold getR at h ⊢
    by_cases h1 : s.1.length < 4
    · rw [if_pos h1] at h; cases h
    · rw [if_neg h1]
      refine ⟨h0, ?_⟩
      dsimp only
      rw [down_num4 _ (by rw [List.length_take]; omega), List.take_append_drop]
  · rw [if_neg h0] at h; exact absurd h h0
theorem need_inv {φ : Prop} [Decidable φ] {e : Nat} {s : RS} (he : e ≠ 0) (h : (need φ e s).2 = 0) : s.2 = 0 ∧ φ ∧ need φ e s = s := by
  unfold need at h ⊢
  by_cases h1 : s.2 = 0 ∧ ¬φ
  · rw [if_pos h1] at h; exact absurd h he
  · rw [if_neg h1] at h
    rw [if_neg h1]
    exact ⟨h, Classical.not_not.1 fun hn => h1 ⟨h, hn⟩, rfl⟩
theorem rdBl_inv : ∀ (n : Nat) (s : RS), (rdBl n s).2.2 = 0 → s.2 = 0 ∧ s.1 = encPairs (rdBl n s).1 ++ (rdBl n s).2.1
  | 0, s, h => ⟨h, rfl⟩
  | n + 1, s, h => by
    have h' : (rdBl n (rn 2 (rn 2 s).2).2).2.2 = 0 := h
    obtain ⟨a1, a2⟩ := rdBl_inv n _ h'
    obtain ⟨b1, b2, _⟩ := rn_inv2 a1
    obtain ⟨c1, c2, _⟩ := rn_inv2 b1
    refine ⟨c1, ?_⟩
    rw [rdBl]
    dsimp only
    rw [encPairs_cons, ← a2, ← b2, ← c2]
theorem rdBl_len : ∀ (n : Nat) (s : RS), (rdBl n s).1.length = n
  | 0, s => rfl
  | n + 1, s => by rw [rdBl, List.length_cons, rdBl_len n]
theorem rdDu_len : ∀ (n : Nat) (s : RS), (rdDu n s).1.length = n
  | 0, s => rfl
  | n + 1, s => by rw [rdDu, List.length_cons, rdDu_len n]
theorem rdDu_inv : ∀ (n : Nat) (s : RS), (rdDu n s).2.2 = 0 → s.2 = 0 ∧ s.1 = encNums (rdDu n s).1 ++ (rdDu n s).2.1
  | 0, s, h => ⟨h, rfl⟩
  | n + 1, s, h => by
    have h' : (rdDu n (rn 4 s).2).2.2 = 0 := h
    obtain ⟨a1, a2⟩ := rdDu_inv n _ h'
    obtain ⟨b1, b2⟩ := rn_inv4 a1
    refine ⟨b1, ?_⟩
    rw [rdDu]
    dsimp only
    rw [encNums_cons, ← a2, ← b2]
theorem rdSk_inv : ∀ (n : Nat) (s : RS), (rdSk n s).2.2 = 0 → s.2 = 0 ∧ s.1 = encPairs (rdSk n s).1 ∧ (rdSk n s).2.1 = [] ∧ (rdSk n s).1.length ≤ n
  | 0, s, h => by
    unfold rdSk at h ⊢
    by_cases h1 : s.2 = 0 ∧ s.1 ≠ []
    · rw [if_pos h1] at h
      split at h <;> cases h
    · rw [if_neg h1] at h ⊢
      have h2 : s.1 = [] := Classical.not_not.1 fun hn => h1 ⟨h, hn⟩
      exact ⟨h, by rw [h2]; rfl, h2, Nat.le_refl _⟩
  | n + 1, s, h => by
    unfold rdSk at h ⊢
    by_cases h1 : s.2 = 0 ∧ s.1 ≠ []
    · rw [if_pos h1] at h ⊢
      by_cases h3 : s.1.length < 4
      · rw [if_pos h3] at h; cases h
      · rw [if_neg h3] at h ⊢
        obtain ⟨a1, a2, a3, a4⟩ := rdSk_inv n _ h
        obtain ⟨b1, b2, _⟩ := rn_inv2 a1
        obtain ⟨c1, c2, _⟩ := rn_inv2 b1
        refine ⟨c1, ?_, a3, by rw [List.length_cons]; omega⟩
        have e := encPairs_cons ((rn 2 s).1, (rn 2 (rn 2 s).2).1) (rdSk n (rn 2 (rn 2 s).2).2).1 []
        rw [List.append_nil, List.append_nil] at e
        rw [e, ← a2, ← b2, ← c2]
    · rw [if_neg h1] at h ⊢
      have h2 : s.1 = [] := Classical.not_not.1 fun hn => h1 ⟨h, hn⟩
      exact ⟨h, by rw [h2]; rfl, h2, Nat.zero_le _⟩
theorem rdDa_inv {k : Nat} {s : RS} (h : (rdDa k s).2.2 = 0) : s.2 = 0 ∧ s.1 = (rdDa k s).1 ∧ (rdDa k s).2.1 = [] ∧ (rdDa k s).1.length ≤ 1200 ∧ (k = 0 → (rdDa k s).1 ≠ []) := by
  unfold rdDa at h ⊢
  by_cases h0 : s.2 = 0
  · rw [if_pos h0] at h ⊢
    by_cases h1 : 1200 < s.1.length
    · rw [if_pos h1] at h; cases h
    rw [if_neg h1] at h ⊢
    by_cases h2 : k = 0 ∧ s.1 = []
    · rw [if_pos h2] at h; cases h
    rw [if_neg h2]
    exact ⟨h0, rfl, rfl, by show s.1.length ≤ 1200; omega, fun hk hn => h2 ⟨hk, hn⟩⟩
  · rw [if_neg h0] at h; exact absurd h h0
theorem rdPa_inv {s : RS} (h : (rdPa s).2.2 = 0) : s.2 = 0 ∧ s.1 = (encR (rdPa s).1).1 ∧ (rdPa s).2.1 = [] ∧ (encR (rdPa s).1).2 = 0 := by
  unfold rdPa at h ⊢
  by_cases h0 : s.2 = 0
  · rw [if_pos h0] at h ⊢
    dsimp only at h ⊢
    obtain ⟨e1, e2⟩ := decA_inv 32 s.1 h
    have hl := decL_len s.1
    have hn : ¬(32 < (decL s.1).2.length ∨ ((decL s.1).2.any fun p => decide (1200 < p.2.length)) = true) := by
      rintro (h1 | h1)
      · omega
      · obtain ⟨p, hp, hd⟩ := List.any_eq_true.1 h1
        have := e2 p hp
        have := of_decide_eq_true hd
        omega
    have : encR (decL s.1).2 = (s.1, 0) := by
      rw [encR, if_neg hn]; exact congrArg (fun x => (x, 0)) e1
    rw [this]
    exact ⟨h0, rfl, rfl, rfl⟩
  · rw [if_neg h0] at h; exact absurd h h0
theorem rdSa_inv {s : RS} (h : (rdSa s).2.2 = 0) : s.2 = 0 ∧ s.1 = down (rdSa s).1.1.length 2 ++ down (rdSa s).1.2.length 2 ++ encPairs (rdSa s).1.1 ++ encNums (rdSa s).1.2 ++ (rdSa s).2.1 ∧ (rdSa s).1.1.length ≤ 64 ∧ (rdSa s).1.2.length ≤ 64 := by
  unfold rdSa at h ⊢
  by_cases h1 : (need ((rn 2 s).1 ≤ 64 ∧ (rn 2 (rn 2 s).2).1 ≤ 64) 10 (rn 2 (rn 2 s).2).2).2 = 0
  · rw [if_pos h1] at h ⊢
    obtain ⟨h2, ⟨h3, h4⟩, _⟩ := need_inv (by decide) h1
    obtain ⟨a1, a2⟩ := rdDu_inv _ _ h
    obtain ⟨b1, b2⟩ := rdBl_inv _ _ a1
    obtain ⟨c1, c2, _⟩ := rn_inv2 b1
    obtain ⟨d1, d2, _⟩ := rn_inv2 c1
    dsimp only
    rw [rdBl_len, rdDu_len]
    refine ⟨d1, ?_, h3, h4⟩
    rw [List.append_assoc, List.append_assoc, List.append_assoc, ← a2, ← b2, ← c2, ← d2]
  · rw [if_neg h1] at h; exact absurd h h1
theorem readC_inv {k fl : Nat} {l : List UInt8} (h : (readC { Chk.zero with k := k, fl := fl } (l, 0)).2.2 = 0) :
    (readC { Chk.zero with k := k, fl := fl } (l, 0)).1.shaped ∧ fieldsC (readC { Chk.zero with k := k, fl := fl } (l, 0)).1 = l ∧ (readC { Chk.zero with k := k, fl := fl } (l, 0)).1.k = k ∧ (readC { Chk.zero with k := k, fl := fl } (l, 0)).1.fl = fl := by
  have h0 : (need ((readAll (lets k) ({ Chk.zero with k := k, fl := fl }, (l, 0))).2.1 = []) 3 (readAll (lets k) ({ Chk.zero with k := k, fl := fl }, (l, 0))).2).2 = 0 := h
  obtain ⟨h1, h2, _⟩ := need_inv (by decide) h0
  show (readAll (lets k) ({ Chk.zero with k := k, fl := fl }, (l, 0))).1.shaped ∧ fieldsC (readAll (lets k) ({ Chk.zero with k := k, fl := fl }, (l, 0))).1 = l ∧ (readAll (lets k) ({ Chk.zero with k := k, fl := fl }, (l, 0))).1.k = k ∧ (readAll (lets k) ({ Chk.zero with k := k, fl := fl }, (l, 0))).1.fl = fl
  clear h h0
  have e0 : (encR []).2 = 0 := rfl
  rcases lets_cases k with ⟨hk, hl⟩ | ⟨hk, hl⟩ | ⟨hk, hl⟩ | ⟨hk, hl⟩ | ⟨hk, hl⟩ | ⟨hk, hl⟩ | ⟨hk, hl⟩ | ⟨hk, hl⟩ <;>
  rw [hl] at h1 h2 ⊢ <;>
  simp only [readAll, List.foldl_cons, List.foldl_nil, readL, Nat.reduceEqDiff, if_true, if_false, Chk.zero] at h1 h2 ⊢ <;>
  simp only [Chk.shaped, fieldsC, hl, List.mem_cons, List.not_mem_nil, List.flatMap_cons, List.flatMap_nil, fieldL, Nat.reduceEqDiff, if_true, if_false, List.append_nil, or_false, or_true, true_or, and_true, true_and]
  · obtain ⟨a1, a2, a3, a4, a5⟩ := rdDa_inv h1
    obtain ⟨b1, b2⟩ := rn_inv4 a1
    obtain ⟨c1, c2, _⟩ := rn_inv2 b1
    obtain ⟨d1, d2, _⟩ := rn_inv2 c1
    obtain ⟨f1, f2⟩ := rn_inv4 d1
    refine ⟨⟨e0, Nat.zero_le _, Nat.zero_le _, Nat.zero_le _, a4, a5⟩, ?_⟩
    rw [← a2, ← b2, ← c2, ← d2, ← f2]
  · obtain ⟨a1, a2, a3, a4⟩ := rdPa_inv h1
    obtain ⟨b1, b2⟩ := rn_inv4 a1
    obtain ⟨c1, c2, _⟩ := rn_inv2 b1
    obtain ⟨d1, d2, _⟩ := rn_inv2 c1
    obtain ⟨f1, f2⟩ := rn_inv4 d1
    obtain ⟨g1, g2⟩ := rn_inv4 f1
    refine ⟨⟨a4, Nat.zero_le _, Nat.zero_le _, Nat.zero_le _, Nat.zero_le _, fun h => absurd h hk⟩, ?_⟩
    rw [← a2, ← b2, ← c2, ← d2, ← f2, ← g2]
  · obtain ⟨a1, a2, a3, a4⟩ := rdSa_inv h1
    obtain ⟨b1, b2⟩ := rn_inv4 a1
    obtain ⟨c1, c2⟩ := rn_inv4 b1
    refine ⟨⟨e0, a3, a4, Nat.zero_le _, Nat.zero_le _, fun h => absurd h hk⟩, ?_⟩
    rw [h2, List.append_nil] at a2
    rw [← a2, ← b2, ← c2]
  · obtain ⟨a1, a2, a3, a4⟩ := rdPa_inv h1
    exact ⟨⟨a4, Nat.zero_le _, Nat.zero_le _, Nat.zero_le _, Nat.zero_le _, fun h => absurd h hk⟩, a2.symm⟩
  · obtain ⟨b1, b2⟩ := rn_inv4 h1
    rw [h2, List.append_nil] at b2
    exact ⟨⟨e0, Nat.zero_le _, Nat.zero_le _, Nat.zero_le _, Nat.zero_le _, fun h => absurd h hk⟩, b2.symm⟩
  · exact ⟨⟨e0, Nat.zero_le _, Nat.zero_le _, Nat.zero_le _, Nat.zero_le _, fun h => absurd h hk⟩, h2.symm⟩
  · obtain ⟨a1, a2, a3, a4⟩ := rdSk_inv _ _ h1
    obtain ⟨b1, b2⟩ := rn_inv4 a1
    refine ⟨⟨e0, Nat.zero_le _, Nat.zero_le _, a4, Nat.zero_le _, fun h => absurd h hk⟩, ?_⟩
    rw [← a2, ← b2]
  · obtain ⟨a1, a2, a3, a4, a5⟩ := rdDa_inv h1
    exact ⟨⟨e0, Nat.zero_le _, Nat.zero_le _, Nat.zero_le _, a4, a5⟩, a2.symm⟩
/-- one way alone -/
theorem decC_inv {c : Chk} {l : List UInt8} {n : Nat} (h : decC l = (c, n, 0)) : c.shaped ∧ c.k < 256 ∧ c.fl < 256 ∧ (encC c).1 = l.take n ∧ n ≤ l.length ∧ (encC c).2 = 0 := by
  unfold decC at h
  by_cases h1 : (headC l).2.2.2 ≠ 0
  · rw [if_pos h1] at h
    exact absurd (congrArg (fun x => x.2.2) h) h1
  rw [if_neg h1] at h
  by_cases h2 : (ownC l).2.2 ≠ 0
  · rw [if_pos h2] at h
    exact absurd (congrArg (fun x => x.2.2) h) h2
  rw [if_neg h2] at h
  by_cases h3 : (restC l).2 ≠ 0
  · rw [if_pos h3] at h
    exact absurd (congrArg (fun x => x.2.2) h) h3
  rw [if_neg h3] at h
  have e1 : (ownC l).1 = c := congrArg (fun x => x.1) h
  have e2 : l.length - (restC l).1.length = n := congrArg (fun x => x.2.1) h
  have h1 := Classical.not_not.1 h1
  have h2 := Classical.not_not.1 h2
  have h3 := Classical.not_not.1 h3
  clear h
  obtain ⟨a1, a2, a3⟩ := need_inv (by decide) h1
  obtain ⟨b1, b2, b3⟩ := need_inv (by decide) a1
  obtain ⟨c1, c2, c3⟩ := rn_inv2 b1
  obtain ⟨d1, d2, d3⟩ := rn_inv2 c1
  have hr : (headC l).2.2.1 = (rn 2 (rn 2 (l, 0)).2).2.1 := by
    show (need _ _ _).1 = _
    rw [a3, b3]
  rw [b3] at a2
  have hx : (headC l).1 = (rn 2 (l, 0)).1 := rfl
  have hn : (headC l).2.1 = (rn 2 (rn 2 (l, 0)).2).1 := rfl
  rw [← hr] at c2 a2
  rw [← hn] at c2 c3 a2 b2
  rw [← hx] at d2 d3
  rw [c2] at d2
  have d2 : l = down (headC l).1 2 ++ (down (headC l).2.1 2 ++ (headC l).2.2.1) := d2
  unfold ownC kindC at h2 e1
  obtain ⟨f1, f2, f3, f4⟩ := readC_inv h2
  rw [e1] at f1 f2 f3 f4
  have hF : (fieldsC c).length = (headC l).2.1 - 4 := by rw [f2, List.length_take]; omega
  unfold restC at h3 e2
  rcases hpd : padR ((headC l).2.2.1.drop ((headC l).2.1 - 4)) ((headC l).2.1 : Int) with ⟨q, e⟩
  rw [hpd] at h3 e2
  dsimp only at h3 e2
  subst h3
  have hp := padR_inv hpd
  have hb : bodyC c = down (headC l).1 2 ++ (down (headC l).2.1 2 ++ fieldsC c) := by
    rw [bodyC, hF, show 4 + ((headC l).2.1 - 4) = (headC l).2.1 by omega, f3, f4, down_app2 (by omega) (by omega), show (headC l).1 / 256 * 256 + (headC l).1 % 256 = (headC l).1 by omega, List.append_assoc]
  have hl : l = bodyC c ++ padding (bodyC c).length ++ q := by
    rw [bodyC_len, hF, show 4 + ((headC l).2.1 - 4) = (headC l).2.1 by omega, List.append_assoc, padding, ← hp, hb, f2]
    simp only [List.append_assoc, List.take_append_drop]
    exact d2
  refine ⟨f1, by rw [f3]; omega, by rw [f4]; omega, ?_, by omega, (encC_ok f1).2⟩
  rw [(encC_ok f1).1, ← e2]
  have e5 : l.length - q.length = (bodyC c ++ padding (bodyC c).length).length := by
    have := congrArg List.length hl
    rw [List.length_append] at this
    omega
  rw [e5, hl]
  conv => rhs; rw [List.take_left' rfl]
end Go.Proofs.Ytdcllpjoejkpnaa

