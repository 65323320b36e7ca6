/- Part of a proof by an abstract run of the program's code: RS. No condition. -/
import Derived.Test.YtmlagbknnngjjaaGreatRH
/-! The law XferFirst, walked. -/
set_option linter.unusedVariables false
namespace Go.Proofs.YtmlagbknnngjjaaGreat
open Go Vm
theorem cksv_cell : ∀ (ks : List (Nat × Ck)) (j r : Nat) (x : Nat × Ck), ks[j]? = some x → r < 12 → (cksv ks)[j * 12 + r]? = (ckv x.2 (some ⟨x.1, 0, some 1⟩) x.2.dt.length)[r]?
  | [], j, r, x, h, _ => by cases h
  | y :: ks, 0, r, x, h, hr => by
    cases h
    show (ckv y.2 _ _ ++ cksv ks)[_]? = _
    rw [Nat.zero_mul, Nat.zero_add, List.getElem?_append_left (by rw [ckv_length]; exact hr)]
  | y :: ks, j + 1, r, x, h, hr => by
    have ih := cksv_cell ks j r x h hr
    show (ckv y.2 _ _ ++ cksv ks)[_]? = _
    rw [List.getElem?_append_right (by rw [ckv_length]; omega), ckv_length, ← ih]
    congr 1
    omega
/-- what is taken of what waits -/
theorem takeF_pre (t : Int) : ∀ (es : List Ent) (r : Nat), (∀ e ∈ es, e.st = 0) → ∃ j, (takeF t r es).2 = es.take j ∧ (takeF t r es).1 = (es.take j).map (fly t) ++ es.drop j ∧ ((takeF t r es).2.map Ent.sz).sum ≤ r
  | [], r, _ => ⟨0, rfl, rfl, Nat.zero_le _⟩
  | e :: es, r, h => by
    have he := h e (List.mem_cons_self ..)
    unfold takeF
    rw [if_pos he]
    by_cases hr : r < e.sz
    · rw [if_pos hr]; exact ⟨0, rfl, rfl, Nat.zero_le _⟩
    · rw [if_neg hr]
      obtain ⟨j, h1, h2, h3⟩ := takeF_pre t es (r - e.sz) fun x hx => h x (List.mem_cons_of_mem _ hx)
      refine ⟨j + 1, by rw [h1]; rfl, by rw [h2]; rfl, ?_⟩
      rw [List.map_cons, List.sum_cons]; omega
theorem takeF_some (t : Int) {e : Ent} {es : List Ent} {r : Nat} (h0 : e.st = 0) (hr : e.sz ≤ r) : (takeF t r (e :: es)).2 ≠ [] := by
  unfold takeF
  rw [if_pos h0, if_neg (by omega)]
  exact fun h => by cases h
theorem pcs_few {most : Nat} (h1 : 1 ≤ most) : ∀ (m : Nat) (b : List UInt8), b.length ≤ m * most → (pcs most b).length ≤ m
  | 0, b, hb => by
    have : b = [] := List.length_eq_zero_iff.1 (by omega)
    rw [this]; exact Nat.le_refl _
  | m + 1, b, hb => by
    by_cases h0 : b = []
    · rw [h0]; exact Nat.zero_le _
    · rw [pcs_cons h1 h0, List.length_cons]
      have := pcs_few h1 m (b.drop most) (by rw [List.length_drop]; rw [Nat.add_mul] at hb; omega)
      omega
theorem pcs_sum {most : Nat} (h1 : 1 ≤ most) : ∀ (n : Nat) (b : List UInt8), b.length ≤ n → ((pcs most b).map List.length).sum = b.length
  | 0, b, hb => by
    have : b = [] := List.length_eq_zero_iff.1 (by omega)
    rw [this]; rfl
  | n + 1, b, hb => by
    by_cases h0 : b = []
    · rw [h0]; rfl
    · have hl : 0 < b.length := List.length_pos_iff.2 h0
      rw [pcs_cons h1 h0, List.map_cons, List.sum_cons, pcs_sum h1 n (b.drop most) (by rw [List.length_drop]; omega), List.length_take, List.length_drop]
      omega
section
variable {h : Heap} {n : Nat}
theorem w_pair {a b mt : Nat} (ha : a < 4294967296) (hb : b < 4294967296) (h1 : 1 ≤ mt) (h2 : mt ≤ 65536) (hn : 20 ≤ n) :
    ResQ (callN Tryz.prog G0 n (.call 11 [.int .u32 (a : Int), .int .u32 (b : Int), nv mt]) h) (fun v h' => ∃ X Q sb S M N X2 Q2 sb2 S2 M2 N2 h1, v = .tuple #[pt X, pt X2] ∧ NwQ h h1 X Q sb S M N a b 65536 mt 4 4 ∧ NwQ h1 h' X2 Q2 sb2 S2 M2 N2 b a 65536 mt 4 4) := by
  obtain ⟨n, rfl⟩ : ∃ m, n = m + 1 := ⟨n - 1, by omega⟩
  refine res_enter rfl d11 rfl ?_; simp only [c11]
  refine gg ?_
  refine i_call1 (by exact sel_of rfl) (w_xnew (first := a) (pf := b) (pe := 65536) (ns := 4) (ni := 4) (mt := mt) h1 h2 (by decide) (by decide) (by decide) (by decide) ha hb (by decide) (by omega)) ?_
  rintro _ h3 ⟨X, Q, sb, S, M, N, rfl, W⟩
  refine gg ?_
  refine i_call1 (by exact sel_of rfl) (w_xnew (first := b) (pf := a) (pe := 65536) (ns := 4) (ni := 4) (mt := mt) h1 h2 (by decide) (by decide) (by decide) (by decide) hb ha (by decide) (by omega)) ?_
  rintro _ h4 ⟨X2, Q2, sb2, S2, M2, N2, rfl, W2⟩
  refine gg ?_
  exact ⟨X, Q, sb, S, M, N, X2, Q2, sb2, S2, M2, N2, h3, rfl, W, W2⟩
theorem w_due {X : Nat} {cs : List Value} {ru : Bool} {al : Int} (hX : h.get X = some (.cells 79 cs (.own false))) (h13 : cs[13]? = some (.bool ru)) (h14 : cs[14]? = some (.int .i64 al)) (hn : 1 ≤ n) :
    ResQ (callN Tryz.prog G0 n (.call 15 [pt X]) h) (fun v h' => (∃ w : Int, v = .tuple #[.int .i64 w, .bool ru]) ∧ h = h') := by
  obtain ⟨n, rfl⟩ : ∃ m, n = m + 1 := ⟨n - 1, by omega⟩
  refine res_enter rfl d15 rfl ?_; simp only [c15]
  refine gg ?_
  refine i_load1 (v := .bool ru) (by exact sel_of rfl) ((load1_own hX).trans h13) ?_
  cases ru with
  | true =>
    refine gg ?_
    refine i_load1 (v := .int .i64 al) (by exact sel_of rfl) ((load1_own hX).trans h14) ?_
    refine gg ?_
    exact ⟨⟨_, rfl⟩, rfl⟩
  | false =>
    refine gg ?_
    exact ⟨⟨_, rfl⟩, rfl⟩
theorem w_xnext {X Q nx : Nat} {oq : Option Addr} {es : List Ent} {cs : List Value} (x : Que h Q oq nx es) (hX : h.get X = some (.cells 79 cs (.own false))) (h0 : cs[0]? = some (pt Q)) (hn : 2 ≤ n) :
    ResQ (callN Tryz.prog G0 n (.call 17 [pt X]) h) (fun v h' => v = .int .u32 (nx : Int) ∧ h = h') := by
  obtain ⟨n, rfl⟩ : ∃ m, n = m + 1 := ⟨n - 1, by omega⟩
  refine res_enter rfl d17 rfl ?_; simp only [c17]
  refine gg ?_
  refine i_load1 (v := pt Q) (by exact sel_of rfl) ((load1_own hX).trans h0) ?_
  refine i_call1 (by exact sel_of rfl) (w_qnext x (by omega)) ?_
  rintro _ _ ⟨rfl, rfl⟩
  refine gg ?_
  exact ⟨rfl, rfl⟩
theorem w_dist {a b : Nat} (ha : a < 4294967296) (hn : 1 ≤ n) :
    ResQ (callN Tryz.prog G0 n (.call 16 [.int .u32 (a : Int), .int .u32 (b : Int)]) h) (fun v h' => v = .int .u32 (((b + 4294967296 - a) % 4294967296 : Nat) : Int) ∧ h = h') := by
  obtain ⟨n, rfl⟩ : ∃ m, n = m + 1 := ⟨n - 1, by omega⟩
  refine res_enter rfl d16 rfl ?_; simp only [c16]
  refine gg ?_
  refine i_subW (r := (((b + 4294967296 - a) % 4294967296 : Nat) : Int)) (by exact sel_of rfl) (by exact sel_of rfl) (sub32 b ha) ?_
  refine gg ?_
  exact ⟨rfl, rfl⟩
end
end Go.Proofs.YtmlagbknnngjjaaGreat

