/- Part of a proof by an abstract run of the program's code: ULwC. No condition. -/
import Derived.Test.YtdcllpjoejkpnaaUChkA
/-! Chunks: there and back, one way alone, cut off: in plain terms. -/
set_option linter.unusedVariables false
namespace Go.Proofs.Ytdcllpjoejkpnaa
open Go Vm
theorem num_four_down (v : Nat) (hv : v < 4294967296) : num (down v 4) = v := by
  rw [← down_4]
  simp only [num, List.foldl_cons, List.foldl_nil, UInt8.toNat_ofNat', Nat.zero_mul, Nat.zero_add]
  omega
theorem down_num4 (t : List UInt8) (h : t.length = 4) : down (num t) 4 = t := by
  obtain ⟨x, y, z, w, rfl⟩ := len_four h
  rw [← down_4]
  simp only [num, List.foldl_cons, List.foldl_nil, Nat.zero_mul, Nat.zero_add]
  have hx := x.toNat_lt
  have hy := y.toNat_lt
  have hz := z.toNat_lt
  have hw := w.toNat_lt
  have key : ∀ (m : Nat) (b : UInt8), m % 256 = b.toNat → UInt8.ofNat m = b := fun m b e => by
    rw [← UInt8.toNat_inj, UInt8.toNat_ofNat']; exact e
  rw [key _ x (by omega), key _ y (by omega), key _ z (by omega), key _ w (by omega)]
theorem rn_two (v : Nat) (r : List UInt8) (hv : v < 65536) : rn 2 (down v 2 ++ r, 0) = (v, (r, 0)) := by
  rw [rn, if_pos rfl, getR, if_neg (by simp [down_length]), List.take_left' (down_length _ _), List.drop_left' (down_length _ _), num_two_down v hv]
theorem rn_four (v : Nat) (r : List UInt8) (hv : v < 4294967296) : rn 4 (down v 4 ++ r, 0) = (v, (r, 0)) := by
  rw [rn, if_pos rfl, getR, if_neg (by simp [down_length]), List.take_left' (down_length _ _), List.drop_left' (down_length _ _), num_four_down v hv]
theorem need_ok {φ : Prop} [Decidable φ] (e : Nat) (s : RS) (h : φ) : need φ e s = s := by rw [need, if_neg (fun h' => h'.2 h)]
theorem encPairs_cons (x : Nat × Nat) (l : List (Nat × Nat)) (r : List UInt8) : encPairs (x :: l) ++ r = down x.1 2 ++ (down x.2 2 ++ (encPairs l ++ r)) := by
  simp [encPairs, encPair, List.append_assoc]
theorem encNums_cons (x : Nat) (l : List Nat) (r : List UInt8) : encNums (x :: l) ++ r = down x 4 ++ (encNums l ++ r) := by
  simp [encNums, List.append_assoc]
theorem encPairs_len : ∀ (l : List (Nat × Nat)), (encPairs l).length = 4 * l.length
  | [] => rfl
  | x :: l => by
    have := encPairs_len l
    simp only [encPairs, List.flatMap_cons, List.length_append, encPair, down_length, List.length_cons] at this ⊢
    omega
theorem encNums_len : ∀ (l : List Nat), (encNums l).length = 4 * l.length
  | [] => rfl
  | x :: l => by
    have := encNums_len l
    simp only [encNums, List.flatMap_cons, List.length_append, down_length, List.length_cons] at this ⊢
    omega
theorem rdBl_enc : ∀ (l : List (Nat × Nat)) (r : List UInt8), (∀ x ∈ l, x.1 < 65536 ∧ x.2 < 65536) → rdBl l.length (encPairs l ++ r, 0) = (l, (r, 0))
  | [], r, _ => rfl
  | x :: l, r, h => by
    have h1 := h x (by simp)
    have ih := rdBl_enc l r (fun y hy => h y (by simp [hy]))
    rw [encPairs_cons, List.length_cons, rdBl, rn_two _ _ h1.1]
    dsimp only
    rw [rn_two _ _ h1.2]
    dsimp only
    rw [ih]
theorem rdDu_enc : ∀ (l : List Nat) (r : List UInt8), (∀ x ∈ l, x < 4294967296) → rdDu l.length (encNums l ++ r, 0) = (l, (r, 0))
  | [], r, _ => rfl
  | x :: l, r, h => by
    have h1 := h x (by simp)
    have ih := rdDu_enc l r (fun y hy => h y (by simp [hy]))
    rw [encNums_cons, List.length_cons, rdDu, rn_four _ _ h1]
    dsimp only
    rw [ih]
theorem rdSk_enc : ∀ (l : List (Nat × Nat)) (j : Nat), l.length ≤ j → (∀ x ∈ l, x.1 < 65536 ∧ x.2 < 65536) → rdSk j (encPairs l, 0) = (l, ([], 0))
  | [], j, _, _ => by cases j <;> simp [rdSk, encPairs]
  | x :: l, 0, h, _ => by simp at h
  | x :: l, j + 1, h, hx => by
    have h1 := hx x (by simp)
    have ih := rdSk_enc l j (by simpa using h) (fun y hy => hx y (by simp [hy]))
    have hl := encPairs_len (x :: l)
    rw [List.length_cons] at hl
    have hne : encPairs (x :: l) ≠ [] := fun e => by rw [e] at hl; simp at hl
    have e := encPairs_cons x l []
    rw [List.append_nil, List.append_nil] at e
    rw [rdSk, if_pos ⟨rfl, hne⟩, if_neg (by show ¬(encPairs (x :: l)).length < 4; omega), e, rn_two _ _ h1.1]
    dsimp only
    rw [rn_two _ _ h1.2]
    dsimp only
    rw [ih]
theorem encR_ok {l : List Prm} (h : (encR l).2 = 0) : (encR l).1 = encL l ∧ l.length ≤ 32 ∧ ∀ p ∈ l, p.2.length ≤ 1200 := by
  unfold encR at h ⊢
  split at h
  · cases h
  · rename_i hn
    rw [if_neg hn]
    refine ⟨rfl, by omega, fun p hp => ?_⟩
    apply Classical.byContradiction
    intro hc
    exact hn (.inr (List.any_eq_true.2 ⟨p, hp, decide_eq_true (by omega)⟩))
theorem rdPa_enc {l : List Prm} (h : (encR l).2 = 0) (hk : ∀ x ∈ l, x.1 < 65536) : rdPa ((encR l).1, 0) = (l, ([], 0)) := by
  obtain ⟨e, h1, h2⟩ := encR_ok h
  have : decL (encL l) = (0, l) := decA_enc l 32 h1 (fun p hp => ⟨hk p hp, h2 p hp⟩)
  rw [rdPa, if_pos rfl]
  dsimp only
  rw [e, this]
/-- the cases of kinds -/
theorem lets_cases (k : Nat) : (k = 0 ∧ lets k = [65, 79, 73, 80, 68]) ∨ (k ≠ 0 ∧ lets k = [65, 66, 79, 73, 80, 84]) ∨ (k ≠ 0 ∧ lets k = [65, 66, 67]) ∨ (k ≠ 0 ∧ lets k = [84]) ∨ (k ≠ 0 ∧ lets k = [65]) ∨ (k ≠ 0 ∧ lets k = []) ∨ (k ≠ 0 ∧ lets k = [65, 83]) ∨ (k ≠ 0 ∧ lets k = [68]) := by
  unfold lets
  by_cases h0 : k = 0
  · exact .inl ⟨h0, if_pos h0⟩
  rw [if_neg h0]
  by_cases h1 : k = 1 ∨ k = 2
  · exact .inr (.inl ⟨h0, if_pos h1⟩)
  rw [if_neg h1]
  by_cases h2 : k = 3
  · exact .inr (.inr (.inl ⟨h0, if_pos h2⟩))
  rw [if_neg h2]
  by_cases h3 : k = 4 ∨ k = 5 ∨ k = 6 ∨ k = 9 ∨ k = 130
  · exact .inr (.inr (.inr (.inl ⟨h0, if_pos h3⟩)))
  rw [if_neg h3]
  by_cases h4 : k = 7
  · exact .inr (.inr (.inr (.inr (.inl ⟨h0, if_pos h4⟩))))
  rw [if_neg h4]
  by_cases h5 : k = 8 ∨ k = 11 ∨ k = 14
  · exact .inr (.inr (.inr (.inr (.inr (.inl ⟨h0, if_pos h5⟩)))))
  rw [if_neg h5]
  by_cases h6 : k = 192
  · exact .inr (.inr (.inr (.inr (.inr (.inr (.inl ⟨h0, if_pos h6⟩))))))
  rw [if_neg h6]
  exact .inr (.inr (.inr (.inr (.inr (.inr (.inr ⟨h0, rfl⟩))))))
theorem rdDa_enc {k : Nat} {l : List UInt8} (h : l.length ≤ 1200) (hk : k = 0 → l ≠ []) : rdDa k (l, 0) = (l, ([], 0)) := by
  rw [rdDa, if_pos rfl, if_neg (by show ¬1200 < l.length; omega), if_neg (fun e => hk e.1 e.2)]
theorem rdSa_enc {bl : List (Nat × Nat)} {du : List Nat} (h1 : bl.length ≤ 64) (h2 : du.length ≤ 64) (hb : ∀ x ∈ bl, x.1 < 65536 ∧ x.2 < 65536) (hd : ∀ x ∈ du, x < 4294967296) : rdSa (down bl.length 2 ++ down du.length 2 ++ encPairs bl ++ encNums du, 0) = ((bl, du), ([], 0)) := by
  have e : down bl.length 2 ++ down du.length 2 ++ encPairs bl ++ encNums du = down bl.length 2 ++ (down du.length 2 ++ (encPairs bl ++ (encNums du ++ []))) := by simp only [List.append_assoc, List.append_nil]
  rw [e, rdSa, rn_two _ _ (by omega)]
  dsimp only
  rw [rn_two _ _ (by omega)]
  dsimp only
  rw [need_ok _ _ ⟨h1, h2⟩, if_pos rfl, rdBl_enc _ _ hb]
  dsimp only
  rw [rdDu_enc _ _ hd]
theorem readC_enc {c : Chk} (hs : c.shaped) (ho : c.Ok) : readC { Chk.zero with k := c.k, fl := c.fl } (fieldsC c, 0) = (c, ([], 0)) := by
  obtain ⟨⟨s1, s2, s3, s4, s5⟩, ⟨s6, s7, s8, s9⟩, s10, s11, s12, s13, s14, s15⟩ := hs
  have key : readAll (lets c.k) ({ Chk.zero with k := c.k, fl := c.fl }, (fieldsC c, 0)) = (c, ([], 0)) := by
    rcases lets_cases c.k with ⟨hk, hl⟩ | ⟨hk, hl⟩ | ⟨hk, hl⟩ | ⟨hk, hl⟩ | ⟨hk, hl⟩ | ⟨hk, hl⟩ | ⟨hk, hl⟩ | ⟨hk, hl⟩ <;>
    rw [hl] at s1 s2 s3 s4 s5 s6 s7 s8 s9 <;>
    simp only [List.mem_cons, List.not_mem_nil, or_false, or_true, true_or, false_or, Nat.reduceEqDiff] at s1 s2 s3 s4 s5 s6 s7 s8 s9 <;>
    rw [fieldsC, hl] <;>
    simp only [List.flatMap_cons, List.flatMap_nil, fieldL, readAll, List.foldl_cons, List.foldl_nil, readL, Nat.reduceEqDiff, if_true, if_false, List.append_nil] <;>
    simp only [rn_two _ _ ho.o, rn_two _ _ ho.i, rn_four _ _ ho.a, rn_four _ _ ho.b, rn_four _ _ ho.p, Chk.zero]
    · rw [rdDa_enc s14 s15]; exact congrArg (fun x => (x, (([], 0) : RS))) (Chk.ext' rfl rfl rfl s2.symm rfl rfl rfl s6.1.symm s6.2.symm s7.symm s8.symm rfl)
    · rw [rdPa_enc s10 ho.pa]; exact congrArg (fun x => (x, (([], 0) : RS))) (Chk.ext' rfl rfl rfl rfl rfl rfl rfl s6.1.symm s6.2.symm s7.symm rfl s9.symm)
    · rw [rdSa_enc s11 s12 ho.bl ho.du]; exact congrArg (fun x => (x, (([], 0) : RS))) (Chk.ext' rfl rfl rfl rfl s3.symm s4.symm s5.symm rfl rfl s7.symm s8.symm s9.symm)
    · rw [rdPa_enc s10 ho.pa]; exact congrArg (fun x => (x, (([], 0) : RS))) (Chk.ext' rfl rfl s1.symm s2.symm s3.symm s4.symm s5.symm s6.1.symm s6.2.symm s7.symm rfl s9.symm)
    · rw [show down c.a 4 = down c.a 4 ++ [] from (List.append_nil _).symm, rn_four _ _ ho.a]; exact congrArg (fun x => (x, (([], 0) : RS))) (Chk.ext' rfl rfl rfl s2.symm s3.symm s4.symm s5.symm s6.1.symm s6.2.symm s7.symm s8.symm s9.symm)
    · exact congrArg (fun x => (x, (([], 0) : RS))) (Chk.ext' rfl rfl s1.symm s2.symm s3.symm s4.symm s5.symm s6.1.symm s6.2.symm s7.symm s8.symm s9.symm)
    · rw [rdSk_enc _ 64 s13 ho.sk]; exact congrArg (fun x => (x, (([], 0) : RS))) (Chk.ext' rfl rfl rfl s2.symm s3.symm s4.symm s5.symm s6.1.symm s6.2.symm rfl s8.symm s9.symm)
    · rw [rdDa_enc s14 s15]; exact congrArg (fun x => (x, (([], 0) : RS))) (Chk.ext' rfl rfl s1.symm s2.symm s3.symm s4.symm s5.symm s6.1.symm s6.2.symm s7.symm s8.symm rfl)
  rw [readC, key]
  rw [need_ok _ _ rfl]
theorem fieldsC_len {c : Chk} (hs : c.shaped) : (fieldsC c).length ≤ 42000 := by
  have h0 := hs
  obtain ⟨_, _, s10, s11, s12, s13, s14, _⟩ := hs
  have e := (encR_ok s10).1
  have h1 := (encR_ok s10).2.1
  have := (encL_len c.pa (fun p hp => by have := (encR_ok s10).2.2 p hp; omega)).2
  rw [fieldsC]
  rcases lets_cases c.k with ⟨hk, hl⟩ | ⟨hk, hl⟩ | ⟨hk, hl⟩ | ⟨hk, hl⟩ | ⟨hk, hl⟩ | ⟨hk, hl⟩ | ⟨hk, hl⟩ | ⟨hk, hl⟩ <;> rw [hl] <;>
  simp only [List.flatMap_cons, List.flatMap_nil, fieldL, Nat.reduceEqDiff, if_true, if_false, List.length_append, down_length, encPairs_len, encNums_len, e, List.length_nil] <;> omega
theorem down_app2 {k fl : Nat} (h1 : k < 256) (h2 : fl < 256) : [UInt8.ofNat k, UInt8.ofNat fl] = down (k * 256 + fl) 2 := by
  rw [← down_2]
  have e1 : (k * 256 + fl) / 2 ^ 8 = k := by omega
  have e2 : UInt8.ofNat (k * 256 + fl) = UInt8.ofNat fl := by
    rw [← ofNat_mod (k * 256 + fl) 1, show (k * 256 + fl) % (256 * 1) = fl by omega]
  rw [e1, e2]
theorem bodyC_len (c : Chk) : (bodyC c).length = 4 + (fieldsC c).length := by
  simp only [bodyC, List.length_append, down_length, List.length_cons, List.length_nil]
theorem headC_enc {x n : Nat} {r : List UInt8} (hx : x < 65536) (hn : n < 65536) (h4 : 4 ≤ n) (hr : n - 4 ≤ r.length) : headC (down x 2 ++ (down n 2 ++ r)) = (x, n, (r, 0)) := by
  unfold headC
  rw [rn_two _ _ hx]
  dsimp only
  rw [rn_two _ _ hn]
  dsimp only
  rw [need_ok _ _ h4, need_ok _ _ (by show n ≤ 4 + r.length; omega)]
theorem bodyC_eq {c : Chk} (ho : c.Ok) (r : List UInt8) : bodyC c ++ r = down (c.k * 256 + c.fl) 2 ++ (down (4 + (fieldsC c).length) 2 ++ (fieldsC c ++ r)) := by
  rw [bodyC, down_app2 ho.k ho.fl]; simp only [List.append_assoc]
theorem ownC_enc {c : Chk} (hs : c.shaped) (ho : c.Ok) (r : List UInt8) : headC (bodyC c ++ r) = (c.k * 256 + c.fl, 4 + (fieldsC c).length, (fieldsC c ++ r, 0)) ∧ ownC (bodyC c ++ r) = (c, ([], 0)) ∧ restC (bodyC c ++ r) = padR r ((4 + (fieldsC c).length : Nat) : Int) := by
  have hl := fieldsC_len hs
  have h1 := ho.k
  have h2 := ho.fl
  have hh : headC (bodyC c ++ r) = (c.k * 256 + c.fl, 4 + (fieldsC c).length, (fieldsC c ++ r, 0)) := by
    rw [bodyC_eq ho]
    exact headC_enc (by omega) (by omega) (by omega) (by rw [List.length_append]; omega)
  refine ⟨hh, ?_, ?_⟩
  · unfold ownC kindC
    rw [hh]
    dsimp only
    rw [show 4 + (fieldsC c).length - 4 = (fieldsC c).length by omega, List.take_left' rfl, show (c.k * 256 + c.fl) / 256 = c.k by omega, show (c.k * 256 + c.fl) % 256 = c.fl by omega]
    exact readC_enc hs ho
  · unfold restC
    rw [hh]
    dsimp only
    rw [show 4 + (fieldsC c).length - 4 = (fieldsC c).length by omega, List.drop_left' rfl]
theorem encC_ok {c : Chk} (hs : c.shaped) : (encC c).1 = bodyC c ++ padding (bodyC c).length ∧ (encC c).2 = 0 := by
  rw [encC, if_pos hs]; exact ⟨rfl, rfl⟩
theorem encC_len {c : Chk} (hs : c.shaped) : (encC c).1.length % 4 = 0 ∧ 4 ≤ (encC c).1.length ∧ (encC c).1.length ≤ 42010 := by
  have := fieldsC_len hs
  rw [(encC_ok hs).1, List.length_append, bodyC_len, padding, List.length_replicate]; omega
/-- there and back -/
theorem decC_enc {c : Chk} (hs : c.shaped) (ho : c.Ok) (r : List UInt8) : decC ((encC c).1 ++ r) = (c, (encC c).1.length, 0) := by
  obtain ⟨h1, h2, h3⟩ := ownC_enc hs ho (padding (bodyC c).length ++ r)
  rw [(encC_ok hs).1, List.append_assoc, decC, h1, h2, h3, ← bodyC_len, padding, padR_zero]
  simp only [ne_eq, not_true, if_false, List.length_append]
  congr 2; omega
/-- cut off anywhere -/
theorem decC_cut {c : Chk} (hs : c.shaped) (ho : c.Ok) {j : Nat} (hj : j < (encC c).1.length) : decC ((encC c).1.take j) = (Chk.zero, 0, 2) := by
  have hF := fieldsC_len hs
  have hb := bodyC_len c
  have h1 := ho.k
  have h2 := ho.fl
  have hx : c.k * 256 + c.fl < 65536 := by omega
  rw [(encC_ok hs).1] at hj ⊢
  by_cases h5 : (bodyC c).length ≤ j
  · have e : (bodyC c ++ padding (bodyC c).length).take j = bodyC c ++ (padding (bodyC c).length).take (j - (bodyC c).length) := by
      rw [List.take_append, List.take_of_length_le h5]
    obtain ⟨g1, g2, g3⟩ := ownC_enc hs ho ((padding (bodyC c).length).take (j - (bodyC c).length))
    rw [e, decC, g1, g2, g3]
    have hp : padR ((padding (bodyC c).length).take (j - (bodyC c).length)) ((4 + (fieldsC c).length : Nat) : Int) = ((padding (bodyC c).length).take (j - (bodyC c).length), 2) := by
      rw [padR, if_neg (by omega), Int.toNat_natCast, if_pos]
      rw [List.length_append, padding, List.length_replicate] at hj
      rw [List.length_take, padding, List.length_replicate, ← hb]; omega
    rw [hp]
    simp
  · have e : (bodyC c ++ padding (bodyC c).length).take j = (bodyC c).take j := by
      rw [List.take_append, show j - (bodyC c).length = 0 by omega, List.take_zero, List.append_nil]
    rw [e]
    have key : (headC ((bodyC c).take j)).2.2.2 = 2 := by
      have eb : bodyC c = down (c.k * 256 + c.fl) 2 ++ (down (4 + (fieldsC c).length) 2 ++ fieldsC c) := by
        have := bodyC_eq ho []
        rwa [List.append_nil, List.append_nil] at this
      by_cases h3 : j < 2
      · have e0 : rn 2 ((bodyC c).take j, 0) = (0, ((bodyC c).take j, 2)) := by
          rw [rn, if_pos rfl, getR, if_pos (by rw [List.length_take]; omega)]
        have e1 : rn 2 ((bodyC c).take j, 2) = (0, ((bodyC c).take j, 2)) := by rw [rn, if_neg (fun h => by cases h)]
        unfold headC
        rw [e0]; dsimp only; rw [e1]; dsimp only
        simp [need]
      have e2 : (bodyC c).take j = down (c.k * 256 + c.fl) 2 ++ (down (4 + (fieldsC c).length) 2 ++ fieldsC c).take (j - 2) := by
        rw [eb, List.take_append, down_length, List.take_of_length_le (by rw [down_length]; omega)]
      rw [e2]
      by_cases h4 : j < 4
      · have e0 : rn 2 ((down (4 + (fieldsC c).length) 2 ++ fieldsC c).take (j - 2), 0) = (0, ((down (4 + (fieldsC c).length) 2 ++ fieldsC c).take (j - 2), 2)) := by
          rw [rn, if_pos rfl, getR, if_pos (by rw [List.length_take]; omega)]
        unfold headC
        rw [rn_two _ _ hx]; dsimp only; rw [e0]; dsimp only
        simp [need]
      · have e3 : (down (4 + (fieldsC c).length) 2 ++ fieldsC c).take (j - 2) = down (4 + (fieldsC c).length) 2 ++ (fieldsC c).take (j - 4) := by
          rw [List.take_append, down_length, List.take_of_length_le (by rw [down_length]; omega)]; rfl
        unfold headC
        rw [rn_two _ _ hx]; dsimp only; rw [e3, rn_two _ _ (by omega)]; dsimp only
        rw [need_ok (φ := 4 ≤ 4 + (fieldsC c).length) _ _ (by omega), need, if_pos]
        refine ⟨rfl, ?_⟩
        show ¬(4 + (fieldsC c).length ≤ 4 + ((fieldsC c).take (j - 4)).length)
        rw [List.length_take]; omega
    rw [decC, if_pos (by rw [key]; decide), key]
end Go.Proofs.Ytdcllpjoejkpnaa

