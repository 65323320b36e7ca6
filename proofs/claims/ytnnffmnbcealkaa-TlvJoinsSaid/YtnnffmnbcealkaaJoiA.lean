/- Part of a proof by an abstract run of the program's code: JoiA. No condition. -/
import Derived.Test.YtnnffmnbcealkaaOnlA
/-! Octets of parameters, one behind the other; and cut off. -/
set_option linter.unusedVariables false
namespace Go.Proofs.Ytnnffmnbcealkaa
open Go Vm
theorem oneE_short (t : List UInt8) (h : t.length < 4) : (oneE t).1 = 2 := by
  unfold oneE
  by_cases h1 : t.length < 2
  · rw [if_pos h1]
  · rw [if_neg h1, if_pos h]
theorem decA_cut (t : List UInt8) (h1 : 0 < t.length) (h2 : t.length < 4) : ∀ (a : List Prm) (j : Nat), a.length < j → (∀ p ∈ a, p.1 < 65536 ∧ p.2.length ≤ 1200) → decA j (encL a ++ t) = (2, [])
  | [], j + 1, _, _ => by
    have hne : t ≠ [] := fun h => by rw [h] at h1; cases h1
    show decA (j + 1) t = _
    have h3 := oneE_short t h2
    rw [decA, if_neg hne, if_pos (by rw [h3]; decide), h3]
  | p :: a, 0, h, _ => by simp at h
  | p :: a, j + 1, h, hp => by
    have e : encL (p :: a) ++ t = encP p ++ (encL a ++ t) := by rw [← List.append_assoc]; rfl
    have hp1 := hp p (by simp)
    have hne : encP p ++ (encL a ++ t) ≠ [] := fun h => by
      have h3 : (encP p ++ (encL a ++ t)).length = 0 := by rw [h]; rfl
      have h4 := (encP_len p).2.2
      rw [List.length_append] at h3; omega
    have ih := decA_cut t h1 h2 a j (by simpa using h) (fun q hq => hp q (by simp [hq]))
    rw [e, decA, if_neg hne, oneE_enc p _ hp1.1 hp1.2, ih]
    simp
theorem encL_app (a b : List Prm) : encL (a ++ b) = encL a ++ encL b := by simp [encL, List.flatMap_append]
theorem encL_pos {b : List Prm} (h : b ≠ []) : 4 ≤ (encL b).length := by
  cases b with
  | nil => exact absurd rfl h
  | cons p b =>
    have := (encP_len p).2.2
    show 4 ≤ (encP p ++ encL b).length
    rw [List.length_append]; omega
/-- the octets of both, cut within the first head of the second -/
theorem decL_cut {a b : List Prm} {k : Nat} (hb : b ≠ []) (hl : a.length + b.length ≤ 32) (hp : ∀ p ∈ a, p.1 < 65536 ∧ p.2.length ≤ 1200) (h1 : (encL a).length < k) (h2 : k < (encL a).length + 4) : decL ((encL (a ++ b)).take k) = (2, []) := by
  have hb1 : 0 < b.length := List.length_pos_iff.2 hb
  have hb4 := encL_pos hb
  rw [encL_app, List.take_append, List.take_of_length_le (by omega)]
  exact decA_cut _ (by rw [List.length_take]; omega) (by rw [List.length_take]; omega) a 32 (by omega) hp
end Go.Proofs.Ytnnffmnbcealkaa

/-! TlvJoins in the abstract run. -/
set_option linter.unusedVariables false
namespace Go.Proofs.Ytnnffmnbcealkaa
open Go Vm
theorem prl_app {h : Heap} {b : List Prm} {ds : List Value} (hb : PrL h b ds) : ∀ {a : List Prm} {cs : List Value}, PrL h a cs → PrL h (a ++ b) (cs ++ ds)
  | [], [], _ => hb
  | p :: l, x :: y :: r, ⟨h1, h2⟩ => ⟨h1, prl_app hb h2⟩
theorem i_min {rec : Rec} {L : List (Nat × Value)} {f : Fr} {dt : Nat} {h : Heap} {K : Fr → Heap → Prop} {rd : Bool} {x y : Sel} {l : List ISem} {k k' : IntKind} {p q : Int} (hx : x.f (puts L f) = .int k p) (hy : y.f (puts L f) = .int k' q) (hl : p ≤ q) (hq : ItQ (runItems rec l (puts ((dt, (.int k p)) :: L) f) h) K) : ItQ (runItems rec (iOp (put dt) (.v rd (oBest true x [y])) :: l) (puts L f) h) K := i_v (by
  show best true [y.f (puts L f)] (x.f (puts L f)) = _
  rw [hx, hy]
  show some (Value.int k (Bool.rec p q (ltI q p))) = _
  rw [ltI_eq, decide_eq_false (by omega)]) hq
set_option maxHeartbeats 2000000 in
theorem w_joins {h : Heap} {o o' : Option Addr} {m m' c c' : Nat} {a b : List Prm} {cs ds : List Value} (hr : Row h 2 o m cs) (hp : PrL h a cs) (hl : a.length = m) (hr' : Row h 2 o' m' ds) (hp' : PrL h b ds) (hl' : b.length = m') (hc : m ≤ c) (hc' : m' ≤ c') (cut : Int) (n : Nat) (hn : 400 ≤ n) :
    ResQ (callN Try.prog G0 n (.call 8 [.slice o m c, .slice o' m' c', .int .i64 cut]) h) (fun v h' => v = .bool true) := by
  subst hl hl'
  obtain ⟨n, rfl⟩ : ∃ m, n = m + 1 := ⟨n - 1, by omega⟩
  refine res_enter rfl d8 rfl ?_; simp only [c8]
  refine gg ?_
  refine i_call0 (w_awake h n (by omega)) ?_
  rintro _ _ ⟨rfl, rfl⟩
  refine gg ?_
  refine i_call1 (by exact sel_of rfl) (w_few hr hp rfl n (by omega)) ?_
  rintro _ _ ⟨rfl, rfl⟩
  by_cases hf : fewP a
  case neg =>
    rw [decide_eq_false hf]
    refine gg ?_
    rfl
  rw [decide_eq_true hf]
  refine gg ?_
  refine i_call1 (by exact sel_of rfl) (w_few hr' hp' rfl n (by omega)) ?_
  rintro _ _ ⟨rfl, rfl⟩
  by_cases hf' : fewP b
  case neg =>
    rw [decide_eq_false hf']
    refine gg ?_
    rfl
  rw [decide_eq_true hf']
  obtain ⟨h40, hall⟩ := hf
  obtain ⟨h40', hall'⟩ := hf'
  refine gg ?_
  by_cases hsum : 32 < a.length + b.length
  · refine gg ?_
    rfl
  refine gg ?_
  refine i_call1 (by exact sel_of rfl) (w_enc hr hp rfl (by omega) hall n (by omega) (by omega)) ?_
  rintro _ h1 ⟨k1, o1, c1, rfl, r1, hc1⟩
  refine gg ?_
  refine i_call1 (by exact sel_of rfl) (w_enc (hr'.keeps k1) (hp'.keeps k1) rfl (by omega) hall' n (by omega) (by omega)) ?_
  rintro _ h2 ⟨k2, o2, c2, rfl, r2, hc2⟩
  refine gg ?_
  have k12 := k1.trans k2
  have k3 : Keeps h2 (h2.new (.cells 44 [] (.own false))) := Keeps.new h2 _
  have hlen := hp.len
  have hlen' := hp'.len
  refine i_app (o := some ⟨h2.next, 0, none⟩) (cs := []) (Keeps.refl _) (by decide) (by exact sel_of rfl) ⟨rfl, Row.new (by simp) rfl (.inl rfl), fun q e => .inl (by cases e; rfl)⟩ (((hr.keeps k12).keeps k3).src (c := c)) hlen (by omega) (Nat.zero_add _) (List.nil_append _) fun o4 h4 k4 a4 _ => ?_
  refine gg ?_
  refine i_app (t := (a ++ b).length) (es := cs ++ ds) k4 (by decide) (by exact sel_of rfl) a4 ((((hr'.keeps k12).keeps k3).keeps k4).src (c := c')) hlen' (by omega) (by simp) rfl fun o5 h5 k5 a5 _ => ?_
  have hpab : PrL h5 (a ++ b) (cs ++ ds) := prl_app (((hp'.keeps k12).keeps k3).keeps k5) (((hp.keeps k12).keeps k3).keeps k5)
  have hallab : ∀ p ∈ a ++ b, p.2.length ≤ 1300 := fun p hp => by
    rcases List.mem_append.1 hp with h | h
    · exact hall p h
    · exact hall' p h
  have hlab : (a ++ b).length = a.length + b.length := List.length_append
  refine gg ?_
  refine i_call1 (by exact sel_of rfl) (w_enc a5.row hpab rfl (by omega) hallab n (by omega) (by omega)) ?_
  rintro _ h6 ⟨k6, o6, c6, rfl, r6, hc6⟩
  have kk : Keeps h2 h6 := k3.trans (k5.trans k6)
  by_cases hba : 32 < a.length ∨ (a.any fun p => decide (1200 < p.2.length)) = true
  · have e1 : encR a = ([], 10) := if_pos hba
    have e3 : encR (a ++ b) = ([], 10) := if_pos (hba.imp (fun h => by omega) (fun h => by rw [List.any_append, h]; rfl))
    rw [e1] at r1 ⊢
    rw [e3] at r6 ⊢
    refine gg ?_
    rfl
  by_cases hbb : 32 < b.length ∨ (b.any fun p => decide (1200 < p.2.length)) = true
  · have e1 : encR a = (encL a, 0) := if_neg hba
    have e2 : encR b = ([], 10) := if_pos hbb
    have e3 : encR (a ++ b) = ([], 10) := if_pos (hbb.imp (fun h => by omega) (fun h => by rw [List.any_append, h, Bool.or_true]))
    rw [e1] at r1 ⊢
    rw [e2] at r2 ⊢
    rw [e3] at r6 ⊢
    refine gg ?_
    rfl
  have e1 : encR a = (encL a, 0) := if_neg hba
  have e2 : encR b = (encL b, 0) := if_neg hbb
  have e3 : encR (a ++ b) = (encL a ++ encL b, 0) := by
    rw [encR, if_neg, encL_app]
    rintro (h | h)
    · omega
    · rw [List.any_append, Bool.or_eq_true] at h
      rcases h with h | h
      · exact hba (.inr h)
      · exact hbb (.inr h)
  have la := encL_len a hall
  have lb := encL_len b hall'
  rw [e1] at r1 hc1 ⊢
  rw [e2] at r2 hc2 ⊢
  rw [e3] at r6 hc6 ⊢
  dsimp only at r1 hc1 r2 hc2 r6 hc6 ⊢
  by_cases hb : b = []
  · subst hb
    refine gg ?_
    refine i_call2 (by exact sel_of rfl) (by exact sel_of rfl) (w_same ((r1.keeps k2).keeps kk) r6 n (by omega)) ?_
    rintro _ _ ⟨rfl, rfl⟩
    refine gg ?_
    exact bool_true (by simp [encL])
  have hb1 : 0 < b.length := List.length_pos_iff.2 hb
  refine gg ?_
  refine i_mask (q := 65535) (by exact sel_of rfl) (by first | exact sel_of rfl | exact const_of) (by decide) fun r hr3 => ?_
  refine i_remn (r % 3) (p := r) (q := 3) (by exact sel_of rfl) (by first | exact sel_of rfl | exact const_of) (by decide) rfl ?_
  refine gg ?_
  refine i_min (by exact sel_of rfl) (by exact sel_of rfl) (by rw [List.length_append]; have := encL_pos hb; omega) ?_
  refine i_sl_hi (i := (encL a).length + 1 + r % 3) (by exact sel_of rfl) r6 hc6 ((sel_of rfl).trans (congrArg (Value.int .i64) (by omega))) (by show _ ≤ (encL a ++ encL b).length; rw [List.length_append]; have := encL_pos hb; omega) fun r7 => ?_
  rw [Nat.mul_one, ← u8s_take] at r7
  have hcut : decL ((encL a ++ encL b).take ((encL a).length + 1 + r % 3)) = (2, []) := by
    rw [← encL_app]
    exact decL_cut hb (by omega) (fun p hpa => ⟨prl_kind hp p hpa, by
      have : ¬1200 < p.2.length := fun h => hba (.inr (List.any_eq_true.2 ⟨p, hpa, decide_eq_true h⟩))
      omega⟩) (by omega) (by omega)
  refine i_call1 (by exact sel_of rfl) (w_decode r7 (by rw [List.length_take, List.length_append]; omega) n (by omega)) ?_
  rintro _ h7 ⟨k7, o7, c7, cs7, rfl, r7', p7, hc7⟩
  simp only [hcut] at r7' p7 ⊢
  refine gg ?_
  have k8 : Keeps h7 (h7.new (.cells 5 [] (.own false))) := Keeps.new h7 _
  refine i_app (o := some ⟨h7.next, 0, none⟩) (cs := []) (Keeps.refl _) (by decide) (by exact sel_of rfl) ⟨rfl, Row.new (by simp) rfl (.inl rfl), fun q e => .inl (by cases e; rfl)⟩ (((((r1.keeps k2).keeps kk).keeps k7).keeps k8).src8) (by rw [u8s_length, Nat.mul_one]) (by show (0 + (encL a).length) * 1 ≤ _; omega) (Nat.zero_add _) (List.nil_append _) fun o9 h9 k9 a9 _ => ?_
  refine gg ?_
  refine i_app (t := (encL a ++ encL b).length) (es := u8s (encL a ++ encL b)) k9 (by decide) (by exact sel_of rfl) a9 (((((r2.keeps kk).keeps k7).keeps k8).keeps k9).src8) (by rw [u8s_length, Nat.mul_one]) (by show ((encL a).length + (encL b).length) * 1 ≤ _; omega) List.length_append.symm (u8s_append _ _).symm fun o10 h10 k10 a10 _ => ?_
  refine gg ?_
  refine i_call2 (by exact sel_of rfl) (by exact sel_of rfl) (w_same a10.row (((r6.keeps k7).keeps k8).keeps k10) n (by omega)) ?_
  rintro _ _ ⟨rfl, rfl⟩
  rw [decide_eq_true (rfl : encL a ++ encL b = encL a ++ encL b)]
  refine gg ?_
  rfl
end Go.Proofs.Ytnnffmnbcealkaa

