/- Part of a proof by an abstract run of the program's code: BckA. No condition. -/
import Derived.Test.YtnnffmnbcealkaaEncA
import Derived.Test.YtnnffmnbcealkaaDecB
/-! There and back. -/
set_option linter.unusedVariables false
namespace Go.Proofs.Ytnnffmnbcealkaa
open Go Vm
theorem num_two_down (v : Nat) (hv : v < 65536) : num (down v 2) = v := by
  rw [← down_2]
  simp only [num, List.foldl_cons, List.foldl_nil, UInt8.toNat_ofNat', Nat.zero_mul, Nat.zero_add]
  omega
theorem padR_zero (k : Nat) (r : List UInt8) : padR (List.replicate ((4 - k % 4) % 4) 0 ++ r) (k : Int) = (r, 0) := by
  unfold padR
  rw [if_neg (by omega), Int.toNat_natCast, if_neg (by simp), List.take_left' (by simp), List.drop_left' (by simp), if_neg (by simp)]
theorem valE_enc (v r : List UInt8) (hv : v.length ≤ 1200) : valE (4 + v.length) (v ++ (List.replicate ((4 - (4 + v.length) % 4) % 4) 0 ++ r)) = (0, v, r) := by
  unfold valE
  rw [if_neg (by omega), if_neg (by omega), if_neg (by simp), show 4 + v.length - 4 = v.length by omega, List.take_left' rfl, List.drop_left' rfl, padR_zero]
theorem oneE_enc (p : Prm) (r : List UInt8) (h1 : p.1 < 65536) (h2 : p.2.length ≤ 1200) : oneE (encP p ++ r) = (0, p, r) := by
  have hl := (encP_len p).2.2
  have e : encP p ++ r = down p.1 2 ++ (down (4 + p.2.length) 2 ++ (p.2 ++ (List.replicate ((4 - (4 + p.2.length) % 4) % 4) 0 ++ r))) := by
    unfold encP
    have : (down p.1 2 ++ down (4 + p.2.length) 2 ++ p.2).length = 4 + p.2.length := by simp [down_length]; omega
    rw [this]; simp only [List.append_assoc]
  unfold oneE
  rw [if_neg (by rw [List.length_append]; omega), if_neg (by rw [List.length_append]; omega), e]
  rw [List.take_left' (down_length _ _), List.drop_left' (down_length _ _), List.take_left' (down_length _ _)]
  rw [show ∀ t : List UInt8, (down p.1 2 ++ (down (4 + p.2.length) 2 ++ t)).drop 4 = t from fun t => by rw [← List.append_assoc]; exact List.drop_left' (by simp [down_length])]
  rw [num_two_down _ h1, num_two_down _ (by omega), valE_enc _ _ h2]
theorem decA_enc : ∀ (l : List Prm) (j : Nat), l.length ≤ j → (∀ p ∈ l, p.1 < 65536 ∧ p.2.length ≤ 1200) → decA j (encL l) = (0, l)
  | [], j, _, _ => decA_nil j
  | p :: l, 0, h, _ => by simp at h
  | p :: l, j + 1, h, hp => by
    have e : encL (p :: l) = encP p ++ encL l := rfl
    have h1 := hp p (by simp)
    have hne : encP p ++ encL l ≠ [] := fun h => by
      have h3 : (encP p ++ encL l).length = 0 := by rw [h]; rfl
      have h4 := (encP_len p).2.2
      rw [List.length_append] at h3; omega
    have ih := decA_enc l j (by simpa using h) (fun q hq => hp q (by simp [hq]))
    rw [e, decA, if_neg hne, oneE_enc p _ h1.1 h1.2, ih]
    simp
theorem prl_kind {h : Heap} : ∀ {l : List Prm} {cs : List Value}, PrL h l cs → ∀ p ∈ l, p.1 < 65536
  | [], [], _, p, hp => by simp at hp
  | q :: l, x :: y :: r, ⟨h1, h2⟩, p, hp => by
    simp only [List.mem_cons] at hp
    rcases hp with rfl | hp
    · exact h1.2.1
    · exact prl_kind h2 p hp
theorem w_back {h : Heap} {o : Option Addr} {m c : Nat} {l : List Prm} {cs : List Value} (hr : Row h 2 o m cs) (hp : PrL h l cs) (hl : l.length = m) (n : Nat) (hn : 300 ≤ n) :
    ResQ (callN Try.prog G0 n (.call 6 [.slice o m c]) h) (fun v h' => v = .bool true) := by
  subst hl
  obtain ⟨n, rfl⟩ : ∃ m, n = m + 1 := ⟨n - 1, by omega⟩
  refine res_enter rfl d6 rfl ?_; simp only [c6]
  refine gg ?_
  refine i_call0 (w_awake h n (by omega)) ?_
  rintro _ _ ⟨rfl, rfl⟩
  refine gg ?_
  refine i_call1 (by exact sel_of rfl) (w_few hr hp rfl n (by omega)) ?_
  rintro _ _ ⟨rfl, rfl⟩
  by_cases hf : fewP l
  · refine gg ?_
    obtain ⟨h40, hall⟩ := hf
    refine i_call1 (by exact sel_of rfl) (w_enc hr hp rfl (by omega) hall n (by omega) (by omega)) ?_
    rintro _ h1 ⟨k1, o1, c1, rfl, r1, hc1⟩
    by_cases hb : 32 < l.length ∨ (l.any fun p => decide (1200 < p.2.length)) = true
    · have e : encR l = ([], 10) := if_pos hb
      rw [e] at r1 ⊢
      refine gg ?_
      rfl
    · have e : encR l = (encL l, 0) := if_neg hb
      have hlen := encL_len l hall
      have hd : decL (encL l) = (0, l) := decA_enc l 32 (by omega) (fun p hpl => ⟨prl_kind hp p hpl, by
        have : ¬1200 < p.2.length := fun h => hb (.inr (List.any_eq_true.2 ⟨p, hpl, decide_eq_true h⟩))
        omega⟩)
      rw [e] at r1 hc1 ⊢
      refine gg ?_
      refine i_call1 (by exact sel_of rfl) (w_decode r1 (by show (encL l).length ≤ _; omega) n (by omega)) ?_
      rintro _ h2 ⟨k2, o2, c2, cs2, rfl, r2, p2, hc2⟩
      simp only [hd] at r2 p2 ⊢
      refine gg ?_
      refine i_call2 (by exact sel_of rfl) (by exact sel_of rfl) (w_rsame r2 p2 ((hr.keeps k1).keeps k2) ((hp.keeps k1).keeps k2) (by omega) n (by omega)) ?_
      rintro _ _ ⟨rfl, rfl⟩
      refine gg ?_
      refine i_remn ((encL l).length % 4) (p := (encL l).length) (q := 4) (by exact sel_of rfl) (by first | exact sel_of rfl | exact const_of) (by decide) rfl ?_
      refine gg ?_
      exact bool_true (by omega)
  · refine gg ?_
    rfl
end Go.Proofs.Ytnnffmnbcealkaa

