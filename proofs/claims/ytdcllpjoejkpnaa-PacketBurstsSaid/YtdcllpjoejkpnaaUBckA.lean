/- Part of a proof by an abstract run of the program's code: UBckA. No condition. -/
import Derived.Test.YtdcllpjoejkpnaaUEncA
import Derived.Test.YtdcllpjoejkpnaaUDecB
/-! There and back. -/
set_option linter.unusedVariables false
namespace Go.Proofs.Ytdcllpjoejkpnaa
open Go Vm
theorem num_two_down (v : Nat) (hv : v < 65536) : num (down v 2) = v := by
  rw [← down_2]
  simp only [num, List.foldl_cons, List.foldl_nil, UInt8.toNat_ofNat', Nat.zero_mul, Nat.zero_add]
  omega
theorem padR_zero (k : Nat) (r : List UInt8) : padR (List.replicate ((4 - k % 4) % 4) 0 ++ r) (k : Int) = (r, 0) := by
  unfold padR
  rw [if_neg (by omega), Int.toNat_natCast, if_neg (by simp), List.take_left' (by simp), List.drop_left' (by simp), if_neg (by simp)]
theorem valE_enc (v r : List UInt8) (hv : v.length ≤ 1200) : valE (4 + v.length) (v ++ (List.replicate ((4 - (4 + v.length) % 4) % 4) 0 ++ r)) = (0, v, r) := by
  unfold valE
  rw [if_neg (by omega), if_neg (by omega), if_neg (by simp), show 4 + v.length - 4 = v.length by omega, List.take_left' rfl, List.drop_left' rfl, padR_zero]
theorem oneE_enc (p : Prm) (r : List UInt8) (h1 : p.1 < 65536) (h2 : p.2.length ≤ 1200) : oneE (encP p ++ r) = (0, p, r) := by
  have hl := (encP_len p).2.2
  have e : encP p ++ r = down p.1 2 ++ (down (4 + p.2.length) 2 ++ (p.2 ++ (List.replicate ((4 - (4 + p.2.length) % 4) % 4) 0 ++ r))) := by
    unfold encP
    have : (down p.1 2 ++ down (4 + p.2.length) 2 ++ p.2).length = 4 + p.2.length := by simp [down_length]; omega
    rw [this]; simp only [List.append_assoc]
  unfold oneE
  rw [if_neg (by rw [List.length_append]; omega), if_neg (by rw [List.length_append]; omega), e]
  rw [List.take_left' (down_length _ _), List.drop_left' (down_length _ _), List.take_left' (down_length _ _)]
  rw [show ∀ t : List UInt8, (down p.1 2 ++ (down (4 + p.2.length) 2 ++ t)).drop 4 = t from fun t => by rw [← List.append_assoc]; exact List.drop_left' (by simp [down_length])]
  rw [num_two_down _ h1, num_two_down _ (by omega), valE_enc _ _ h2]
theorem decA_enc : ∀ (l : List Prm) (j : Nat), l.length ≤ j → (∀ p ∈ l, p.1 < 65536 ∧ p.2.length ≤ 1200) → decA j (encL l) = (0, l)
  | [], j, _, _ => decA_nil j
  | p :: l, 0, h, _ => by simp at h
  | p :: l, j + 1, h, hp => by
    have e : encL (p :: l) = encP p ++ encL l := rfl
    have h1 := hp p (by simp)
    have hne : encP p ++ encL l ≠ [] := fun h => by
      have h3 : (encP p ++ encL l).length = 0 := by rw [h]; rfl
      have h4 := (encP_len p).2.2
      rw [List.length_append] at h3; omega
    have ih := decA_enc l j (by simpa using h) (fun q hq => hp q (by simp [hq]))
    rw [e, decA, if_neg hne, oneE_enc p _ h1.1 h1.2, ih]
    simp
theorem prl_kind {h : Heap} : ∀ {l : List Prm} {cs : List Value}, PrL h l cs → ∀ p ∈ l, p.1 < 65536
  | [], [], _, p, hp => by simp at hp
  | q :: l, x :: y :: r, ⟨h1, h2⟩, p, hp => by
    simp only [List.mem_cons] at hp
    rcases hp with rfl | hp
    · exact h1.2.1
    · exact prl_kind h2 p hp
end Go.Proofs.Ytdcllpjoejkpnaa

/-! One way alone. -/
set_option linter.unusedVariables false
namespace Go.Proofs.Ytdcllpjoejkpnaa
open Go Vm
theorem down_num (t : List UInt8) (h : t.length = 2) : down (num t) 2 = t := by
  obtain ⟨x, y, rfl⟩ := len_two h
  rw [← down_2]
  simp only [num, List.foldl_cons, List.foldl_nil, Nat.zero_mul, Nat.zero_add]
  have hx := x.toNat_lt
  have hy := y.toNat_lt
  have e1 : (x.toNat * 256 + y.toNat) / 2 ^ 8 = x.toNat := by omega
  rw [e1]
  have e2 : UInt8.ofNat (x.toNat * 256 + y.toNat) = UInt8.ofNat y.toNat := by
    have := ofNat_mod (x.toNat * 256 + y.toNat) 1
    rw [← this, show (x.toNat * 256 + y.toNat) % (256 * 1) = y.toNat by omega]
  rw [e2, UInt8.ofNat_toNat, UInt8.ofNat_toNat]
theorem padR_inv {l r : List UInt8} {k : Nat} (h : padR l (k : Int) = (r, 0)) : l = List.replicate ((4 - k % 4) % 4) 0 ++ r := by
  unfold padR at h
  rw [if_neg (by omega), Int.toNat_natCast] at h
  by_cases h1 : l.length < (4 - k % 4) % 4
  · rw [if_pos h1] at h; cases h
  rw [if_neg h1] at h
  by_cases h2 : (l.take ((4 - k % 4) % 4)).any (· ≠ 0) = true
  · rw [if_pos h2] at h; cases h
  rw [if_neg h2] at h
  cases h
  have e : l.take ((4 - k % 4) % 4) = List.replicate ((4 - k % 4) % 4) 0 := by
    refine List.eq_replicate_iff.2 ⟨by rw [List.length_take]; omega, fun b hb => ?_⟩
    apply Classical.byContradiction
    intro hn
    exact h2 (List.any_eq_true.2 ⟨b, hb, by simpa using hn⟩)
  rw [← e, List.take_append_drop]
theorem valE_inv {k : Nat} {l v r : List UInt8} (h : valE k l = (0, v, r)) : k = 4 + v.length ∧ v.length ≤ 1200 ∧ l = v ++ (List.replicate ((4 - (4 + v.length) % 4) % 4) 0 ++ r) := by
  unfold valE at h
  by_cases h1 : k < 4
  · rw [if_pos h1] at h; cases h
  rw [if_neg h1] at h
  by_cases h2 : 1204 < k
  · rw [if_pos h2] at h; cases h
  rw [if_neg h2] at h
  by_cases h3 : l.length < k - 4
  · rw [if_pos h3] at h; cases h
  rw [if_neg h3] at h
  have e1 : (padR (l.drop (k - 4)) (k : Int)).2 = 0 := congrArg Prod.fst h
  have e2 : l.take (k - 4) = v := congrArg (fun x => x.2.1) h
  have e3 : (padR (l.drop (k - 4)) (k : Int)).1 = r := congrArg (fun x => x.2.2) h
  have hv : v.length = k - 4 := by rw [← e2, List.length_take]; omega
  have hk : k = 4 + v.length := by omega
  have e4 := padR_inv (Prod.ext e3 e1 : padR (l.drop (k - 4)) (k : Int) = (r, 0))
  refine ⟨hk, by omega, ?_⟩
  rw [← hk, ← e4, ← e2, List.take_append_drop]
theorem oneE_inv {l r : List UInt8} {p : Prm} (h : oneE l = (0, p, r)) : l = encP p ++ r ∧ p.2.length ≤ 1200 := by
  unfold oneE at h
  by_cases h1 : l.length < 2
  · rw [if_pos h1] at h; cases h
  rw [if_neg h1] at h
  by_cases h2 : l.length < 4
  · rw [if_pos h2] at h; cases h
  rw [if_neg h2] at h
  have e1 : (valE (num ((l.drop 2).take 2)) (l.drop 4)).1 = 0 := congrArg Prod.fst h
  have e2 : (num (l.take 2), (valE (num ((l.drop 2).take 2)) (l.drop 4)).2.1) = p := congrArg (fun x => x.2.1) h
  have e3 : (valE (num ((l.drop 2).take 2)) (l.drop 4)).2.2 = r := congrArg (fun x => x.2.2) h
  subst e2
  rcases ev : valE (num ((l.drop 2).take 2)) (l.drop 4) with ⟨e, v, r'⟩
  rw [ev] at e1 e3
  dsimp only at e1 e3
  subst e1 e3
  obtain ⟨k1, k2, k3⟩ := valE_inv ev
  refine ⟨?_, k2⟩
  unfold encP
  dsimp only
  have el : (down (num (l.take 2)) 2 ++ down (4 + v.length) 2 ++ v).length = 4 + v.length := by simp [down_length]; omega
  rw [el, ← k1, down_num _ (by rw [List.length_take]; omega), down_num _ (by rw [List.length_take, List.length_drop]; omega), k1]
  have : l = l.take 2 ++ ((l.drop 2).take 2 ++ l.drop 4) := by
    rw [show l.drop 4 = (l.drop 2).drop 2 by rw [List.drop_drop], List.take_append_drop, List.take_append_drop]
  rw [k3] at this
  simp only [List.append_assoc]
  exact this
theorem decA_inv : ∀ (j : Nat) (l : List UInt8), (decA j l).1 = 0 → encL (decA j l).2 = l ∧ ∀ p ∈ (decA j l).2, p.2.length ≤ 1200
  | 0, l, h => by
    unfold decA at h ⊢
    by_cases h1 : l = []
    · subst h1; simp [encL]
    · rw [if_neg h1] at h; cases h
  | j + 1, l, h => by
    unfold decA at h ⊢
    by_cases h1 : l = []
    · subst h1; simp [encL]
    rw [if_neg h1] at h ⊢
    by_cases h2 : (oneE l).1 ≠ 0
    · rw [if_pos h2] at h; exact absurd h h2
    rw [if_neg h2] at h ⊢
    by_cases h3 : (decA j (oneE l).2.2).1 ≠ 0
    · rw [if_pos h3] at h; exact absurd h h3
    rw [if_neg h3]
    have ih := decA_inv j (oneE l).2.2 (Classical.not_not.1 h3)
    have ho := oneE_inv (l := l) (p := (oneE l).2.1) (r := (oneE l).2.2) (Prod.ext (Classical.not_not.1 h2) rfl)
    refine ⟨?_, fun p hp => ?_⟩
    · show encP _ ++ encL _ = l
      rw [ih.1]; exact ho.1.symm
    · simp only [List.mem_cons] at hp
      rcases hp with rfl | hp
      · exact ho.2
      · exact ih.2 p hp
end Go.Proofs.Ytdcllpjoejkpnaa

