/- Part of a proof by an abstract run of the program's code: SShA. No condition. -/
import Derived.Test.YtdcllpjoejkpnaaSFewA
import Derived.Test.YtdcllpjoejkpnaaSEncB
/-! The document's answer for chunks: shaped, and its octets, walked. -/
set_option linter.unusedVariables false
namespace Vm
open Go
theorem i_lstr {rec : Rec} {L : List (Nat × Value)} {f : Fr} {dt : Nat} {h : Heap} {K : Fr → Heap → Prop} {rd : Bool} {x : Sel} {l : List ISem} {s : List UInt8} (hx : x.f (puts L f) = .string ⟨s.toArray⟩) (hq : ItQ (runItems rec l (puts ((dt, .int .i64 (s.length : Int)) :: L) f) h) K) : ItQ (runItems rec (iOp (put dt) (.v rd (oLenStr x)) :: l) (puts L f) h) K := i_v (by simp only [oLenStr, hx]; rfl) hq
theorem i_idxS {rec : Rec} {L : List (Nat × Value)} {f : Fr} {dt : Nat} {h : Heap} {K : Fr → Heap → Prop} {rd : Bool} {x y : Sel} {l : List ISem} {s : List UInt8} {k : IntKind} {i : Nat} (b : UInt8) (hx : x.f (puts L f) = .string ⟨s.toArray⟩) (hy : y.f (puts L f) = .int k (i : Int)) (hb : s[i]? = some b)
    (hq : ItQ (runItems rec l (puts ((dt, .int .u8 ((b.toNat : Nat) : Int)) :: L) f) h) K) : ItQ (runItems rec (iOp (put dt) (.v rd (oIndexS x y)) :: l) (puts L f) h) K := i_v (by
  simp only [oIndexS, hx, hy]
  show (match nth s i with | some b => some (Value.int .u8 (.ofNat b.toNat)) | none => none) = _
  rw [nth_eq, hb]; rfl) hq
end Vm
namespace Go.Proofs.Ytdcllpjoejkpnaa
open Go Vm
def letb (k : Nat) : List UInt8 := (lets k).map UInt8.ofNat
theorem lets_lt (k : Nat) : ∀ x ∈ lets k, x = 65 ∨ x = 66 ∨ x = 79 ∨ x = 73 ∨ x = 80 ∨ x = 67 ∨ x = 83 ∨ x = 84 ∨ x = 68 := by
  intro x hx
  rcases lets_cases k with ⟨_, hl⟩ | ⟨_, hl⟩ | ⟨_, hl⟩ | ⟨_, hl⟩ | ⟨_, hl⟩ | ⟨_, hl⟩ | ⟨_, hl⟩ | ⟨_, hl⟩ <;> rw [hl] at hx <;> simp only [List.mem_cons, List.not_mem_nil, or_false] at hx <;> omega
theorem letb_mem (k x : Nat) (hx : x < 256) : UInt8.ofNat x ∈ letb k ↔ x ∈ lets k := by
  constructor
  · intro h
    obtain ⟨y, hy, e⟩ := List.mem_map.1 h
    have := lets_lt k y hy
    have e2 := congrArg UInt8.toNat e
    rw [UInt8.toNat_ofNat', UInt8.toNat_ofNat'] at e2
    have : y = x := by omega
    rw [← this]; exact hy
  · intro h
    exact List.mem_map.2 ⟨x, h, rfl⟩
set_option maxHeartbeats 4000000 in
theorem w_rfields {h : Heap} (k : Nat) (n : Nat) (hn : 1 ≤ n) :
    ResQ (callN Try.prog G0 n (.call 56 [.int .u8 (k : Int)]) h) (fun u h' => u = .string ⟨(letb k).toArray⟩ ∧ h = h') := by
  obtain ⟨n, rfl⟩ : ∃ m, n = m + 1 := ⟨n - 1, by omega⟩
  refine res_enter rfl d56 rfl ?_; simp only [c56]
  rcases kinds_cases k with rfl | rfl | rfl | rfl | rfl | rfl | rfl | rfl | rfl | rfl | rfl | rfl | rfl | rfl | hk
  · refine gg ?_
    exact ⟨rfl, rfl⟩
  · refine gg ?_
    exact ⟨rfl, rfl⟩
  · refine gg ?_
    exact ⟨rfl, rfl⟩
  · refine gg ?_
    exact ⟨rfl, rfl⟩
  · refine gg ?_
    exact ⟨rfl, rfl⟩
  · refine gg ?_
    exact ⟨rfl, rfl⟩
  · refine gg ?_
    exact ⟨rfl, rfl⟩
  · refine gg ?_
    exact ⟨rfl, rfl⟩
  · refine gg ?_
    exact ⟨rfl, rfl⟩
  · refine gg ?_
    exact ⟨rfl, rfl⟩
  · refine gg ?_
    exact ⟨rfl, rfl⟩
  · refine gg ?_
    exact ⟨rfl, rfl⟩
  · refine gg ?_
    exact ⟨rfl, rfl⟩
  · refine gg ?_
    exact ⟨rfl, rfl⟩
  · have hl : lets k = [68] := by unfold lets; simp only [hk, if_false, or_self]
    refine gg ?_
    exact ⟨by rw [letb, hl]; rfl, rfl⟩
theorem w_has {h : Heap} (s : List UInt8) (b : UInt8) (hs : s.length ≤ 100) (n : Nat) (hn : 110 ≤ n) :
    ResQ (callN Try.prog G0 n (.call 63 [.string ⟨s.toArray⟩, .int .u8 ((b.toNat : Nat) : Int)]) h) (fun u h' => u = .bool (decide (b ∈ s)) ∧ h = h') := by
  obtain ⟨n, rfl⟩ : ∃ m, n = m + 1 := ⟨n - 1, by omega⟩
  refine res_enter rfl d63 rfl ?_; simp only [c63]
  refine gg ?_
  refine o_up s.length (fun i f h' => Sl [(5, .int .i64 (i : Int)), (0, .string ⟨s.toArray⟩), (1, .int .u8 ((b.toNat : Nat) : Int))] f ∧ h = h' ∧ b ∉ s.take i) (by omega) ?_ ?_
  · exact ⟨⟨sel_of rfl, sel_of rfl, sel_of rfl, trivial⟩, rfl, by simp⟩
  rintro i f h' hi ⟨hs', rfl, hno⟩
  obtain ⟨f0, rfl⟩ := hs'.puts
  simp only [c63_0]
  refine gg ?_
  refine i_lstr (by exact sel_of rfl) ?_
  refine gg ?_
  refine out_if (by exact sel_of rfl) (fun hif => ?_) (fun hif => ?_)
  · obtain ⟨x, hx⟩ : ∃ x, s[i]? = some x := ⟨_, List.getElem?_eq_getElem (by omega)⟩
    refine gg ?_
    refine i_idxS x (by exact sel_of rfl) (by exact sel_of rfl) hx ?_
    refine gg ?_
    by_cases hxb : x = b
    · subst hxb
      rw [decide_eq_true (rfl : ((x.toNat : Nat) : Int) = ((x.toNat : Nat) : Int))]
      refine gg ?_
      exact ⟨(bool_true (List.mem_of_getElem? hx)).symm, rfl⟩
    · rw [decide_eq_false (p := ((x.toNat : Nat) : Int) = ((b.toNat : Nat) : Int)) (fun e => hxb (UInt8.toNat_inj.1 (by omega)))]
      refine gg ?_
      refine rnd_up (by omega) ⟨⟨sel_of rfl, sel_of rfl, sel_of rfl, trivial⟩, rfl, fun hm => ?_⟩
      rw [List.take_add_one, hx] at hm
      rcases List.mem_append.1 hm with hm | hm
      · exact hno hm
      · simp at hm; exact hxb hm.symm
  · rw [List.take_of_length_le (by omega)] at hno
    refine gg ?_
    exact ⟨(bool_false hno).symm, rfl⟩
theorem w_hasL {h : Heap} (k x : Nat) (hx : x < 256) (n : Nat) (hn : 110 ≤ n) :
    ResQ (callN Try.prog G0 n (.call 63 [.string ⟨(letb k).toArray⟩, .int .u8 (x : Int)]) h) (fun u h' => u = .bool (decide (x ∈ lets k)) ∧ h = h') := by
  have e : (UInt8.ofNat x).toNat = x := by rw [UInt8.toNat_ofNat', Nat.mod_eq_of_lt hx]
  have hl : (letb k).length ≤ 100 := by
    rw [letb, List.length_map]
    rcases lets_cases k with ⟨_, hl⟩ | ⟨_, hl⟩ | ⟨_, hl⟩ | ⟨_, hl⟩ | ⟨_, hl⟩ | ⟨_, hl⟩ | ⟨_, hl⟩ | ⟨_, hl⟩ <;> rw [hl] <;> decide
  have := w_has (h := h) (letb k) (UInt8.ofNat x) hl n hn
  rw [e] at this
  refine this.mono ?_
  rintro v h' ⟨rfl, rfl⟩
  exact ⟨congrArg Value.bool (decide_eq_decide.2 (letb_mem k x hx)), rfl⟩
theorem or_bad {α : Type} [DecidableEq α] {P : Prop} {x z : α} (hP : ¬P) : decide (x ≠ z) = true ↔ ¬(P ∨ x = z) := by
  rw [decide_eq_true_iff]
  exact ⟨fun h e => e.elim hP h, fun h e => h (.inr e)⟩
set_option maxHeartbeats 8000000 in
theorem w_rshaped {h : Heap} {c : Chk} {v : List Value} (hv : ChV h c v) (hf : c.few) (n : Nat) (hn : 300 ≤ n) :
    ResQ (callN Try.prog G0 n (.call 41 [.agg v.toArray]) h) (fun u h' => u = .bool (decide c.shaped) ∧ Keeps h h') := by
  obtain ⟨⟨q1, q2, q3, q4, q5⟩, q6⟩ := hf
  obtain ⟨n, rfl⟩ : ∃ m, n = m + 1 := ⟨n - 1, by omega⟩
  refine res_enter rfl d41 rfl ?_; simp only [c41]
  obtain ⟨a1, k1, n1⟩ := box_one h (.cells 33 v.toArray.toList (.own false))
  refine o_cut (fun a h' => h' = (h.new (.cells 33 v.toArray.toList (.own false))) ∧ Sl [(1, .pointer (some ⟨h.next, 0, none⟩))] a) ?_ ?_
  · refine gg ?_
    exact ⟨rfl, rfl, sel_of rfl, trivial⟩
  rintro a h1 ⟨hh, hs⟩
  rw [← hh] at a1 k1 n1
  clear hh
  obtain ⟨o1, c1, o2, c2, o3, c3, o4, c4, o5, c5, ps, rfl, r1, r2, r3, ⟨r4, p4⟩, r5, ⟨b1, b2, b3, b4, b5⟩, hk256, hf256⟩ := hv
  obtain ⟨f0, rfl⟩ := hs.puts
  have x1 : h.next < h1.next := by omega
  refine o_cut (fun a h' => h1 = h' ∧ Sl [(1, .pointer (some ⟨h.next, 0, none⟩)), (3, .string ⟨(letb c.k).toArray⟩)] a) ?_ ?_
  · refine gg ?_; repeat (refine i_ldown (by exact sel_of rfl) (by assumption) (by rfl) ?_; refine gg ?_)
    refine i_call1 (by exact sel_of rfl) (w_rfields c.k n (by omega)) ?_
    rintro _ _ ⟨rfl, rfl⟩
    refine gg ?_
    exact ⟨rfl, rfl, sel_of rfl, sel_of rfl, trivial⟩
  rintro a _ ⟨rfl, hs⟩
  obtain ⟨f0, rfl⟩ := hs.puts
  refine o_seq (o_seq (o_reg ?_))
  refine i_cut 9 (fun a h' => h1 = h' ∧ ∃ b : Bool, Sl [(1, .pointer (some ⟨h.next, 0, none⟩)), (3, .string ⟨(letb c.k).toArray⟩), (17, .bool b)] a ∧ (b = true ↔ ¬(65 ∈ lets c.k ∨ c.a = 0))) ?_ ?_
  · simp only [List.take_succ_cons, List.take_zero]
    refine gg ?_; repeat (refine i_ldown (by exact sel_of rfl) (by assumption) (by rfl) ?_; refine gg ?_)
    refine i_call2 (by exact sel_of rfl) (by first | exact sel_of rfl | exact const_of) (w_hasL c.k 65 (by decide) n (by omega)) ?_
    rintro _ _ ⟨rfl, rfl⟩
    by_cases hl : 65 ∈ lets c.k
    · rw [decide_eq_true hl]
      refine gg ?_; repeat (refine i_ldown (by exact sel_of rfl) (by assumption) (by rfl) ?_; refine gg ?_)
      exact ⟨rfl, _, ⟨sel_of rfl, sel_of rfl, sel_of rfl, trivial⟩, ⟨fun h => absurd h (by decide), fun h => absurd (.inl hl) h⟩⟩
    · rw [decide_eq_false hl]
      refine gg ?_; repeat (refine i_ldown (by exact sel_of rfl) (by assumption) (by rfl) ?_; refine gg ?_)
      exact ⟨rfl, _, ⟨sel_of rfl, sel_of rfl, sel_of rfl, trivial⟩, ⟨fun h he => by have h := of_decide_eq_true h; rcases he with he | he; exact hl he; exact h (by rw [he]; rfl), fun h => decide_eq_true (fun e => h (.inr (by omega)))⟩⟩
  simp only [List.drop_succ_cons, List.drop_zero]
  rintro a _ ⟨rfl, b, hs, hb⟩
  obtain ⟨f0, rfl⟩ := hs.puts
  refine i_cut 10 (fun a h' => h1 = h' ∧ ∃ b : Bool, Sl [(1, .pointer (some ⟨h.next, 0, none⟩)), (3, .string ⟨(letb c.k).toArray⟩), (27, .bool b)] a ∧ (b = true ↔ ¬((65 ∈ lets c.k ∨ c.a = 0) ∧ (66 ∈ lets c.k ∨ c.b = 0)))) ?_ ?_
  · simp only [List.take_succ_cons, List.take_zero]
    cases b with
    | true =>
      refine gg ?_; repeat (refine i_ldown (by exact sel_of rfl) (by assumption) (by rfl) ?_; refine gg ?_)
      exact ⟨rfl, _, ⟨sel_of rfl, sel_of rfl, sel_of rfl, trivial⟩, st_t hb⟩
    | false =>
      refine gg ?_; repeat (refine i_ldown (by exact sel_of rfl) (by assumption) (by rfl) ?_; refine gg ?_)
      refine i_call2 (by exact sel_of rfl) (by first | exact sel_of rfl | exact const_of) (w_hasL c.k 66 (by decide) n (by omega)) ?_
      rintro _ _ ⟨rfl, rfl⟩
      by_cases hl : 66 ∈ lets c.k
      · rw [decide_eq_true hl]
        refine gg ?_; repeat (refine i_ldown (by exact sel_of rfl) (by assumption) (by rfl) ?_; refine gg ?_)
        exact ⟨rfl, _, ⟨sel_of rfl, sel_of rfl, sel_of rfl, trivial⟩, st_f hb (⟨fun h => absurd h (by decide), fun h => absurd (.inl hl) h⟩)⟩
      · rw [decide_eq_false hl]
        refine gg ?_; repeat (refine i_ldown (by exact sel_of rfl) (by assumption) (by rfl) ?_; refine gg ?_)
        exact ⟨rfl, _, ⟨sel_of rfl, sel_of rfl, sel_of rfl, trivial⟩, st_f hb (⟨fun h he => by have h := of_decide_eq_true h; rcases he with he | he; exact hl he; exact h (by rw [he]; rfl), fun h => decide_eq_true (fun e => h (.inr (by omega)))⟩)⟩
  simp only [List.drop_succ_cons, List.drop_zero]
  rintro a _ ⟨rfl, b, hs, hb⟩
  obtain ⟨f0, rfl⟩ := hs.puts
  refine i_cut 10 (fun a h' => h1 = h' ∧ ∃ b : Bool, Sl [(1, .pointer (some ⟨h.next, 0, none⟩)), (3, .string ⟨(letb c.k).toArray⟩), (37, .bool b)] a ∧ (b = true ↔ ¬(((65 ∈ lets c.k ∨ c.a = 0) ∧ (66 ∈ lets c.k ∨ c.b = 0)) ∧ (79 ∈ lets c.k ∨ c.o = 0)))) ?_ ?_
  · simp only [List.take_succ_cons, List.take_zero]
    cases b with
    | true =>
      refine gg ?_; repeat (refine i_ldown (by exact sel_of rfl) (by assumption) (by rfl) ?_; refine gg ?_)
      exact ⟨rfl, _, ⟨sel_of rfl, sel_of rfl, sel_of rfl, trivial⟩, st_t hb⟩
    | false =>
      refine gg ?_; repeat (refine i_ldown (by exact sel_of rfl) (by assumption) (by rfl) ?_; refine gg ?_)
      refine i_call2 (by exact sel_of rfl) (by first | exact sel_of rfl | exact const_of) (w_hasL c.k 79 (by decide) n (by omega)) ?_
      rintro _ _ ⟨rfl, rfl⟩
      by_cases hl : 79 ∈ lets c.k
      · rw [decide_eq_true hl]
        refine gg ?_; repeat (refine i_ldown (by exact sel_of rfl) (by assumption) (by rfl) ?_; refine gg ?_)
        exact ⟨rfl, _, ⟨sel_of rfl, sel_of rfl, sel_of rfl, trivial⟩, st_f hb (⟨fun h => absurd h (by decide), fun h => absurd (.inl hl) h⟩)⟩
      · rw [decide_eq_false hl]
        refine gg ?_; repeat (refine i_ldown (by exact sel_of rfl) (by assumption) (by rfl) ?_; refine gg ?_)
        exact ⟨rfl, _, ⟨sel_of rfl, sel_of rfl, sel_of rfl, trivial⟩, st_f hb (⟨fun h he => by have h := of_decide_eq_true h; rcases he with he | he; exact hl he; exact h (by rw [he]; rfl), fun h => decide_eq_true (fun e => h (.inr (by omega)))⟩)⟩
  simp only [List.drop_succ_cons, List.drop_zero]
  rintro a _ ⟨rfl, b, hs, hb⟩
  obtain ⟨f0, rfl⟩ := hs.puts
  refine i_cut 10 (fun a h' => h1 = h' ∧ ∃ b : Bool, Sl [(1, .pointer (some ⟨h.next, 0, none⟩)), (3, .string ⟨(letb c.k).toArray⟩), (47, .bool b)] a ∧ (b = true ↔ ¬((((65 ∈ lets c.k ∨ c.a = 0) ∧ (66 ∈ lets c.k ∨ c.b = 0)) ∧ (79 ∈ lets c.k ∨ c.o = 0)) ∧ (73 ∈ lets c.k ∨ c.i = 0)))) ?_ ?_
  · simp only [List.take_succ_cons, List.take_zero]
    cases b with
    | true =>
      refine gg ?_; repeat (refine i_ldown (by exact sel_of rfl) (by assumption) (by rfl) ?_; refine gg ?_)
      exact ⟨rfl, _, ⟨sel_of rfl, sel_of rfl, sel_of rfl, trivial⟩, st_t hb⟩
    | false =>
      refine gg ?_; repeat (refine i_ldown (by exact sel_of rfl) (by assumption) (by rfl) ?_; refine gg ?_)
      refine i_call2 (by exact sel_of rfl) (by first | exact sel_of rfl | exact const_of) (w_hasL c.k 73 (by decide) n (by omega)) ?_
      rintro _ _ ⟨rfl, rfl⟩
      by_cases hl : 73 ∈ lets c.k
      · rw [decide_eq_true hl]
        refine gg ?_; repeat (refine i_ldown (by exact sel_of rfl) (by assumption) (by rfl) ?_; refine gg ?_)
        exact ⟨rfl, _, ⟨sel_of rfl, sel_of rfl, sel_of rfl, trivial⟩, st_f hb (⟨fun h => absurd h (by decide), fun h => absurd (.inl hl) h⟩)⟩
      · rw [decide_eq_false hl]
        refine gg ?_; repeat (refine i_ldown (by exact sel_of rfl) (by assumption) (by rfl) ?_; refine gg ?_)
        exact ⟨rfl, _, ⟨sel_of rfl, sel_of rfl, sel_of rfl, trivial⟩, st_f hb (⟨fun h he => by have h := of_decide_eq_true h; rcases he with he | he; exact hl he; exact h (by rw [he]; rfl), fun h => decide_eq_true (fun e => h (.inr (by omega)))⟩)⟩
  simp only [List.drop_succ_cons, List.drop_zero]
  rintro a _ ⟨rfl, b, hs, hb⟩
  obtain ⟨f0, rfl⟩ := hs.puts
  refine i_cut 9 (fun a h' => h1 = h' ∧ ∃ b : Bool, Sl [(1, .pointer (some ⟨h.next, 0, none⟩)), (3, .string ⟨(letb c.k).toArray⟩), (56, .bool b)] a ∧ (b = true ↔ ¬(((((65 ∈ lets c.k ∨ c.a = 0) ∧ (66 ∈ lets c.k ∨ c.b = 0)) ∧ (79 ∈ lets c.k ∨ c.o = 0)) ∧ (73 ∈ lets c.k ∨ c.i = 0)) ∧ (80 ∈ lets c.k ∨ c.p = 0)))) ?_ ?_
  · simp only [List.take_succ_cons, List.take_zero]
    cases b with
    | true =>
      refine gg ?_; repeat (refine i_ldown (by exact sel_of rfl) (by assumption) (by rfl) ?_; refine gg ?_)
      exact ⟨rfl, _, ⟨sel_of rfl, sel_of rfl, sel_of rfl, trivial⟩, st_t hb⟩
    | false =>
      refine gg ?_; repeat (refine i_ldown (by exact sel_of rfl) (by assumption) (by rfl) ?_; refine gg ?_)
      refine i_call2 (by exact sel_of rfl) (by first | exact sel_of rfl | exact const_of) (w_hasL c.k 80 (by decide) n (by omega)) ?_
      rintro _ _ ⟨rfl, rfl⟩
      by_cases hl : 80 ∈ lets c.k
      · rw [decide_eq_true hl]
        refine gg ?_; repeat (refine i_ldown (by exact sel_of rfl) (by assumption) (by rfl) ?_; refine gg ?_)
        exact ⟨rfl, _, ⟨sel_of rfl, sel_of rfl, sel_of rfl, trivial⟩, st_f hb (⟨fun h => absurd h (by decide), fun h => absurd (.inl hl) h⟩)⟩
      · rw [decide_eq_false hl]
        refine gg ?_; repeat (refine i_ldown (by exact sel_of rfl) (by assumption) (by rfl) ?_; refine gg ?_)
        exact ⟨rfl, _, ⟨sel_of rfl, sel_of rfl, sel_of rfl, trivial⟩, st_f hb (⟨fun h he => by have h := of_decide_eq_true h; rcases he with he | he; exact hl he; exact h (by rw [he]; rfl), fun h => decide_eq_true (fun e => h (.inr (by omega)))⟩)⟩
  simp only [List.drop_succ_cons, List.drop_zero]
  rintro a _ ⟨rfl, b, hs, hb⟩
  obtain ⟨f0, rfl⟩ := hs.puts
  cases b with
  | true =>
    refine gg ?_; repeat (refine i_ldown (by exact sel_of rfl) (by assumption) (by rfl) ?_; refine gg ?_)
    exact ⟨(bool_false (fun hs => hb.1 rfl ⟨⟨⟨⟨hs.1.1, hs.1.2.1⟩, hs.1.2.2.1⟩, hs.1.2.2.2.1⟩, hs.1.2.2.2.2⟩)).symm, k1⟩
  | false =>
  obtain ⟨⟨⟨⟨s1, s2⟩, s3⟩, s4⟩, s5⟩ := Classical.byContradiction fun hn => absurd (hb.2 hn) (by decide)
  clear hb
  refine gg ?_; repeat (refine i_ldown (by exact sel_of rfl) (by assumption) (by rfl) ?_; refine gg ?_)
  refine refr [(1, _), (3, _), (57, _)] ⟨sel_of rfl, sel_of rfl, sel_of rfl, trivial⟩ fun _ => ?_
  refine i_cut 13 (fun a h' => h1 = h' ∧ ∃ b : Bool, Sl [(1, .pointer (some ⟨h.next, 0, none⟩)), (3, .string ⟨(letb c.k).toArray⟩), (70, .bool b)] a ∧ (b = true ↔ ¬(67 ∈ lets c.k ∨ (c.bl = [] ∧ c.du = [])))) ?_ ?_
  · simp only [List.take_succ_cons, List.take_zero]
    refine gg ?_; repeat (refine i_ldown (by exact sel_of rfl) (by assumption) (by rfl) ?_; refine gg ?_)
    refine i_call2 (by exact sel_of rfl) (by first | exact sel_of rfl | exact const_of) (w_hasL c.k 67 (by decide) n (by omega)) ?_
    rintro _ _ ⟨rfl, rfl⟩
    by_cases hl : 67 ∈ lets c.k
    · rw [decide_eq_true hl]
      refine gg ?_; repeat (refine i_ldown (by exact sel_of rfl) (by assumption) (by rfl) ?_; refine gg ?_)
      exact ⟨rfl, _, ⟨sel_of rfl, sel_of rfl, sel_of rfl, trivial⟩, ⟨fun h => absurd h (by decide), fun h => absurd (.inl hl) h⟩⟩
    · rw [decide_eq_false hl]
      refine gg ?_; repeat (refine i_ldown (by exact sel_of rfl) (by assumption) (by rfl) ?_; refine gg ?_)
      exact ⟨rfl, _, ⟨sel_of rfl, sel_of rfl, sel_of rfl, trivial⟩, ⟨fun h he => by have h := of_decide_eq_true h; rcases he with he | he; exact hl he; exact absurd h (by rw [he.1, he.2]; decide), fun h => decide_eq_true (Classical.byContradiction fun hn => h (.inr ⟨List.length_eq_zero_iff.1 (by omega), List.length_eq_zero_iff.1 (by omega)⟩))⟩⟩
  simp only [List.drop_succ_cons, List.drop_zero]
  rintro a _ ⟨rfl, b, hs, hb⟩
  obtain ⟨f0, rfl⟩ := hs.puts
  refine i_cut 11 (fun a h' => h1 = h' ∧ ∃ b : Bool, Sl [(1, .pointer (some ⟨h.next, 0, none⟩)), (3, .string ⟨(letb c.k).toArray⟩), (81, .bool b)] a ∧ (b = true ↔ ¬((67 ∈ lets c.k ∨ (c.bl = [] ∧ c.du = [])) ∧ (83 ∈ lets c.k ∨ c.sk = [])))) ?_ ?_
  · simp only [List.take_succ_cons, List.take_zero]
    cases b with
    | true =>
      refine gg ?_; repeat (refine i_ldown (by exact sel_of rfl) (by assumption) (by rfl) ?_; refine gg ?_)
      exact ⟨rfl, _, ⟨sel_of rfl, sel_of rfl, sel_of rfl, trivial⟩, st_t hb⟩
    | false =>
      refine gg ?_; repeat (refine i_ldown (by exact sel_of rfl) (by assumption) (by rfl) ?_; refine gg ?_)
      refine i_call2 (by exact sel_of rfl) (by first | exact sel_of rfl | exact const_of) (w_hasL c.k 83 (by decide) n (by omega)) ?_
      rintro _ _ ⟨rfl, rfl⟩
      by_cases hl : 83 ∈ lets c.k
      · rw [decide_eq_true hl]
        refine gg ?_; repeat (refine i_ldown (by exact sel_of rfl) (by assumption) (by rfl) ?_; refine gg ?_)
        exact ⟨rfl, _, ⟨sel_of rfl, sel_of rfl, sel_of rfl, trivial⟩, st_f hb (⟨fun h => absurd h (by decide), fun h => absurd (.inl hl) h⟩)⟩
      · rw [decide_eq_false hl]
        refine gg ?_; repeat (refine i_ldown (by exact sel_of rfl) (by assumption) (by rfl) ?_; refine gg ?_)
        exact ⟨rfl, _, ⟨sel_of rfl, sel_of rfl, sel_of rfl, trivial⟩, st_f hb (⟨fun h he => by have h := of_decide_eq_true h; rcases he with he | he; exact hl he; exact absurd h (by rw [he]; decide), fun h => decide_eq_true (by have : ¬c.sk = [] := fun e => h (.inr e); have := List.length_pos_iff.2 this; omega)⟩)⟩
  simp only [List.drop_succ_cons, List.drop_zero]
  rintro a _ ⟨rfl, b, hs, hb⟩
  obtain ⟨f0, rfl⟩ := hs.puts
  refine i_cut 11 (fun a h' => h1 = h' ∧ ∃ b : Bool, Sl [(1, .pointer (some ⟨h.next, 0, none⟩)), (3, .string ⟨(letb c.k).toArray⟩), (92, .bool b)] a ∧ (b = true ↔ ¬(((67 ∈ lets c.k ∨ (c.bl = [] ∧ c.du = [])) ∧ (83 ∈ lets c.k ∨ c.sk = [])) ∧ (84 ∈ lets c.k ∨ c.pa = [])))) ?_ ?_
  · simp only [List.take_succ_cons, List.take_zero]
    cases b with
    | true =>
      refine gg ?_; repeat (refine i_ldown (by exact sel_of rfl) (by assumption) (by rfl) ?_; refine gg ?_)
      exact ⟨rfl, _, ⟨sel_of rfl, sel_of rfl, sel_of rfl, trivial⟩, st_t hb⟩
    | false =>
      refine gg ?_; repeat (refine i_ldown (by exact sel_of rfl) (by assumption) (by rfl) ?_; refine gg ?_)
      refine i_call2 (by exact sel_of rfl) (by first | exact sel_of rfl | exact const_of) (w_hasL c.k 84 (by decide) n (by omega)) ?_
      rintro _ _ ⟨rfl, rfl⟩
      by_cases hl : 84 ∈ lets c.k
      · rw [decide_eq_true hl]
        refine gg ?_; repeat (refine i_ldown (by exact sel_of rfl) (by assumption) (by rfl) ?_; refine gg ?_)
        exact ⟨rfl, _, ⟨sel_of rfl, sel_of rfl, sel_of rfl, trivial⟩, st_f hb (⟨fun h => absurd h (by decide), fun h => absurd (.inl hl) h⟩)⟩
      · rw [decide_eq_false hl]
        refine gg ?_; repeat (refine i_ldown (by exact sel_of rfl) (by assumption) (by rfl) ?_; refine gg ?_)
        exact ⟨rfl, _, ⟨sel_of rfl, sel_of rfl, sel_of rfl, trivial⟩, st_f hb (⟨fun h he => by have h := of_decide_eq_true h; rcases he with he | he; exact hl he; exact absurd h (by rw [he]; decide), fun h => decide_eq_true (by have : ¬c.pa = [] := fun e => h (.inr e); have := List.length_pos_iff.2 this; omega)⟩)⟩
  simp only [List.drop_succ_cons, List.drop_zero]
  rintro a _ ⟨rfl, b, hs, hb⟩
  obtain ⟨f0, rfl⟩ := hs.puts
  refine i_cut 10 (fun a h' => h1 = h' ∧ ∃ b : Bool, Sl [(1, .pointer (some ⟨h.next, 0, none⟩)), (3, .string ⟨(letb c.k).toArray⟩), (102, .bool b)] a ∧ (b = true ↔ ¬((((67 ∈ lets c.k ∨ (c.bl = [] ∧ c.du = [])) ∧ (83 ∈ lets c.k ∨ c.sk = [])) ∧ (84 ∈ lets c.k ∨ c.pa = [])) ∧ (68 ∈ lets c.k ∨ c.da = [])))) ?_ ?_
  · simp only [List.take_succ_cons, List.take_zero]
    cases b with
    | true =>
      refine gg ?_; repeat (refine i_ldown (by exact sel_of rfl) (by assumption) (by rfl) ?_; refine gg ?_)
      exact ⟨rfl, _, ⟨sel_of rfl, sel_of rfl, sel_of rfl, trivial⟩, st_t hb⟩
    | false =>
      refine gg ?_; repeat (refine i_ldown (by exact sel_of rfl) (by assumption) (by rfl) ?_; refine gg ?_)
      refine i_call2 (by exact sel_of rfl) (by first | exact sel_of rfl | exact const_of) (w_hasL c.k 68 (by decide) n (by omega)) ?_
      rintro _ _ ⟨rfl, rfl⟩
      by_cases hl : 68 ∈ lets c.k
      · rw [decide_eq_true hl]
        refine gg ?_; repeat (refine i_ldown (by exact sel_of rfl) (by assumption) (by rfl) ?_; refine gg ?_)
        exact ⟨rfl, _, ⟨sel_of rfl, sel_of rfl, sel_of rfl, trivial⟩, st_f hb (⟨fun h => absurd h (by decide), fun h => absurd (.inl hl) h⟩)⟩
      · rw [decide_eq_false hl]
        refine gg ?_; repeat (refine i_ldown (by exact sel_of rfl) (by assumption) (by rfl) ?_; refine gg ?_)
        exact ⟨rfl, _, ⟨sel_of rfl, sel_of rfl, sel_of rfl, trivial⟩, st_f hb (⟨fun h he => by have h := of_decide_eq_true h; rcases he with he | he; exact hl he; exact absurd h (by rw [he]; decide), fun h => decide_eq_true (by have : ¬c.da = [] := fun e => h (.inr e); have := List.length_pos_iff.2 this; omega)⟩)⟩
  simp only [List.drop_succ_cons, List.drop_zero]
  rintro a _ ⟨rfl, b, hs, hb⟩
  obtain ⟨f0, rfl⟩ := hs.puts
  cases b with
  | true =>
    refine gg ?_; repeat (refine i_ldown (by exact sel_of rfl) (by assumption) (by rfl) ?_; refine gg ?_)
    exact ⟨(bool_false (fun hs => hb.1 rfl ⟨⟨⟨hs.2.1.1, hs.2.1.2.1⟩, hs.2.1.2.2.1⟩, hs.2.1.2.2.2⟩)).symm, k1⟩
  | false =>
  obtain ⟨⟨⟨s6, s7⟩, s8⟩, s9⟩ := Classical.byContradiction fun hn => absurd (hb.2 hn) (by decide)
  clear hb
  refine gg ?_; repeat (refine i_ldown (by exact sel_of rfl) (by assumption) (by rfl) ?_; refine gg ?_)
  refine i_call1 (by exact sel_of rfl) (w_renc (r4.keeps k1) (p4.keeps k1) rfl (by omega) q6 n (by omega) (by omega)) ?_
  rintro _ h2 ⟨k2, oE, cE, rfl, rowE, hcE⟩
  have a2 := (k2.get _ x1).trans a1
  have k12 := k1.trans k2
  refine gg ?_; repeat (refine i_ldown (by exact sel_of rfl) (by assumption) (by rfl) ?_; refine gg ?_)
  by_cases t0 : (encR c.pa).2 = 0
  case neg =>
    rw [decide_eq_false (p := (((encR c.pa).2 : Nat) : Int) = 0) (by omega)]
    refine gg ?_; repeat (refine i_ldown (by exact sel_of rfl) (by assumption) (by rfl) ?_; refine gg ?_)
    exact ⟨(bool_false (fun hs => t0 hs.2.2.1)).symm, k12⟩
  rw [decide_eq_true (p := (((encR c.pa).2 : Nat) : Int) = 0) (by omega)]
  refine gg ?_; repeat (refine i_ldown (by exact sel_of rfl) (by assumption) (by rfl) ?_; refine gg ?_)
  by_cases t1 : c.bl.length ≤ 64
  case neg =>
    rw [decide_eq_false (p := ((c.bl.length : Nat) : Int) ≤ 64) (by omega)]
    refine gg ?_; repeat (refine i_ldown (by exact sel_of rfl) (by assumption) (by rfl) ?_; refine gg ?_)
    exact ⟨(bool_false (fun hs => t1 hs.2.2.2.1)).symm, k12⟩
  rw [decide_eq_true (p := ((c.bl.length : Nat) : Int) ≤ 64) (by omega)]
  refine gg ?_; repeat (refine i_ldown (by exact sel_of rfl) (by assumption) (by rfl) ?_; refine gg ?_)
  by_cases t2 : c.du.length ≤ 64
  case neg =>
    rw [decide_eq_false (p := ((c.du.length : Nat) : Int) ≤ 64) (by omega)]
    refine gg ?_; repeat (refine i_ldown (by exact sel_of rfl) (by assumption) (by rfl) ?_; refine gg ?_)
    exact ⟨(bool_false (fun hs => t2 hs.2.2.2.2.1)).symm, k12⟩
  rw [decide_eq_true (p := ((c.du.length : Nat) : Int) ≤ 64) (by omega)]
  refine gg ?_; repeat (refine i_ldown (by exact sel_of rfl) (by assumption) (by rfl) ?_; refine gg ?_)
  by_cases t3 : c.sk.length ≤ 64
  case neg =>
    rw [decide_eq_false (p := ((c.sk.length : Nat) : Int) ≤ 64) (by omega)]
    refine gg ?_; repeat (refine i_ldown (by exact sel_of rfl) (by assumption) (by rfl) ?_; refine gg ?_)
    exact ⟨(bool_false (fun hs => t3 hs.2.2.2.2.2.1)).symm, k12⟩
  rw [decide_eq_true (p := ((c.sk.length : Nat) : Int) ≤ 64) (by omega)]
  refine gg ?_; repeat (refine i_ldown (by exact sel_of rfl) (by assumption) (by rfl) ?_; refine gg ?_)
  by_cases t4 : c.da.length ≤ 1200
  case neg =>
    rw [decide_eq_false (p := ((c.da.length : Nat) : Int) ≤ 1200) (by omega)]
    refine gg ?_; repeat (refine i_ldown (by exact sel_of rfl) (by assumption) (by rfl) ?_; refine gg ?_)
    exact ⟨(bool_false (fun hs => t4 hs.2.2.2.2.2.2.1)).symm, k12⟩
  rw [decide_eq_true (p := ((c.da.length : Nat) : Int) ≤ 1200) (by omega)]
  refine gg ?_; repeat (refine i_ldown (by exact sel_of rfl) (by assumption) (by rfl) ?_; refine gg ?_)
  have fin : (c.k = 0 → c.da ≠ []) ↔ c.shaped := ⟨fun e => ⟨⟨s1, s2, s3, s4, s5⟩, ⟨s6, s7, s8, s9⟩, t0, t1, t2, t3, t4, e⟩, fun hs => hs.2.2.2.2.2.2.2⟩
  by_cases hk : c.k = 0
  · rw [decide_eq_false (p := ((c.k : Nat) : Int) ≠ 0) (by omega)]
    refine gg ?_; repeat (refine i_ldown (by exact sel_of rfl) (by assumption) (by rfl) ?_; refine gg ?_)
    refine ⟨congrArg Value.bool ?_, k12⟩
    rw [decide_eq_decide, ← fin]
    exact ⟨fun hp _ he => by rw [he] at hp; exact absurd hp (by decide), fun hd => by have := List.length_pos_iff.2 (hd hk); omega⟩
  · rw [decide_eq_true (p := ((c.k : Nat) : Int) ≠ 0) (by omega)]
    refine gg ?_; repeat (refine i_ldown (by exact sel_of rfl) (by assumption) (by rfl) ?_; refine gg ?_)
    exact ⟨(bool_true (fin.1 (fun e => absurd e hk))).symm, k12⟩
end Go.Proofs.Ytdcllpjoejkpnaa

