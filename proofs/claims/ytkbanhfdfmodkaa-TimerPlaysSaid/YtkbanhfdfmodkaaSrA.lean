/- Part of a proof by an abstract run of the program's code: SrA. No condition. -/
import Derived.Test.YtkbanhfdfmodkaaGx
import Derived.Test.YtkbanhfdfmodkaaSoI
/-! The keys of a map, collected, in whatever order they come. -/
set_option linter.unusedVariables false
namespace Go.Proofs.Ytkbanhfdfmodkaa
open Go Vm
theorem row_lowG {h h' : Heap} {sz n : Nat} {o : Option Addr} {cs : List Value} (r : Row h sz o n cs) (hn : h.next ≤ h'.next) (hg : ∀ q, o = some q → h'.get q.block = h.get q.block) : Row h' sz o n cs := by
  obtain ⟨h1, h2⟩ := r
  refine ⟨h1, ?_⟩
  cases o with
  | none => exact h2
  | some q =>
    obtain ⟨h3, h4, h5⟩ := h2
    refine ⟨Nat.lt_of_lt_of_le h3 hn, h4, ?_⟩
    obtain ⟨e, l, st, g, hst, hlen, hcs⟩ := loadN_dead h5
    rw [loadN_of (q := q) (by rw [hg q rfl]; exact g) hst hlen, hcs]
theorem o_brangeG {P : Program} {rec : Rec} {n id nt : Nat} {f : Sel} {ps : List Tmp} {s b : Code} {a : Fr} {h : Heap} {g : FuncId} {cap : Array Value} {Q : Ex → Fr → Heap → Prop} (hf : f.f a = .func (.func g) #[] cap)
    (hc : ResQ (rec (.call g (Value.func (.yield h.next) #[] #[] :: cap.toList)) (h.new (.loop nt ps s b a .ready none))) (fun _ h' => RgQ h.next nt ps s b a (Blo id Q) h')) : OutQ ((sBlock id (sRangeFunc nt f ps s b)).f rec n a h) Q := out_block (out_range hf hc)
theorem i_yield1 {rec : Rec} {L : List (Nat × Value)} {f : Fr} {h : Heap} {K : Fr → Heap → Prop} {l : List ISem} {dt q : Nat} {c x1 : Sel} {v1 : Value} {R : Value → Heap → Prop} (hc : c.f (puts L f) = .func (.yield q) #[] #[]) (h1 : x1.f (puts L f) = v1) (hv : ResQ (rec (.yield q [v1]) h) R)
    (hq : ∀ v h', R v h' → ItQ (runItems rec l (puts ((dt, v) :: L) f) h') K) : ItQ (runItems rec (iOp (put dt) (.e (eCall c [x1])) :: l) (puts L f) h) K := by
  subst h1
  refine items_cons (it_e (ResQ.mono ?_ hq))
  simp only [eCall, hc]
  exact hv
/-- between two rounds: what was collected -/
structure Ct (h0 : Heap) (a : Fr) (X L J : Nat) (h : Heap) (acc : List El) : Prop where
  ord : h0.next ≤ X ∧ X < L ∧ L < J ∧ J ≤ h.next
  fr : Sl [(2, .pointer (some ⟨X, 0, none⟩))] a
  keep : Keeps h0 h
  lp : h.get L = some (.loop 13 [7] k30_0.1 k30_0.2 a .ready none)
  out : ∃ oa, h.get X = some (.cells 22 [.slice oa acc.length acc.length] (.own false)) ∧ Ap J h 3 1 oa acc.length acc.length (acc.map iv) ∧ (∀ q, oa = some q → q.spot ≠ none)
theorem Ct.next {h0 : Heap} {a : Fr} {X L J : Nat} {h h' : Heap} {acc : List El} (s : Ct h0 a X L J h acc) {I : Nat} (k : KeepsB I h h') (hI : L < I) (hJ : I < J) : Ct h0 a X L J h' acc := by
  obtain ⟨⟨b1, b2, b3, b4⟩, fr, keep, lp, oa, cX, ap, sp⟩ := s
  have harr : ∀ q, oa = some q → J ≤ q.block ∧ q.block < h.next := fun q e => by
    subst e
    rcases ap.2.2 q rfl with e | ⟨k', e2, e3, _⟩
    · exact absurd e (sp q rfl)
    · have := ap.row.2.1; rw [e2] at this ⊢; exact ⟨e3, this⟩
  refine ⟨⟨b1, b2, b3, Nat.le_trans b4 k.next⟩, fr, ⟨Nat.le_trans keep.next k.next, fun c hc => (k.get c (Nat.lt_of_lt_of_le hc keep.next) (by omega)).trans (keep.get c hc)⟩, (k.get _ (by omega) (by omega)).trans lp, oa, (k.get _ (by omega) (by omega)).trans cX, ⟨ap.1, row_lowG ap.row k.next (fun q e => k.get _ (harr q e).2 (by have := harr q e; omega)), fun q e => (ap.2.2 q e).imp id fun ⟨k', h1, h2, h3⟩ => ⟨k', h1, h2, ?_⟩⟩, sp⟩
  have := harr q e
  rw [h1] at this
  rw [k.get k' this.2 (by have : J ≤ k' := this.1; omega)]; exact h3
theorem w_kround {h0 : Heap} {a : Fr} {X L J : Nat} {h : Heap} {acc : List El} (s : Ct h0 a X L J h acc) (x : El) (hlen : acc.length ≤ 1000) (n : Nat) (hn : 2 ≤ n) :
    ResQ (callN Try.prog G0 n (.yield L [iv x]) h) (fun v h' => v = .bool true ∧ Ct h0 a X L J h' (acc ++ [x]) ∧ h.next ≤ h'.next ∧ ∀ d, d < J → d ≠ L → d ≠ X → h'.get d = h.get d) := by
  obtain ⟨⟨b1, b2, b3, b4⟩, fr, keep, lp, oa, cX, ap, sp⟩ := s
  have frs := fr
  obtain ⟨n, rfl⟩ : ∃ m, n = m + 1 := ⟨n - 1, by omega⟩
  refine res_yield lp rfl ea30_0 eb30_0 ?_
  obtain ⟨f0, hfa⟩ := fr.puts
  rw [show setAll [7] [iv x] a = puts [(7, iv x), (2, .pointer (some ⟨X, 0, none⟩))] f0 by rw [hfa]; rfl]
  simp only [a30_0]
  refine gg ?_
  have harr : ∀ q, oa = some q → J ≤ q.block ∧ q.block < h.next := fun q e => by
    subst e
    rcases ap.2.2 q rfl with e | ⟨k', e2, e3, _⟩
    · exact absurd e (sp q rfl)
    · have := ap.row.2.1; rw [e2] at this ⊢; exact ⟨e3, this⟩
  refine YA.mk lp ?_
  simp only [b30_0]
  generalize hh : (h.put L (.loop 13 [7] k30_0.1 k30_0.2 a .busy none)) = h3
  have n3 : h3.next = h.next := by rw [← hh]; rfl
  have e3 : ∀ d, d ≠ L → h3.get d = h.get d := fun d hL => by rw [← hh, Heap.get_put, if_neg hL]
  have e3L : h3.get L = some (.loop 13 [7] k30_0.1 k30_0.2 a .busy none) := by rw [← hh, Heap.get_put, if_pos rfl]
  clear hh
  refine gg ?_
  refine i_load1 (v := .slice oa acc.length acc.length) (by exact sel_of rfl) (by rw [load1_own (b := X) ((e3 _ (by omega)).trans cX)]; rfl) ?_
  refine gg ?_
  have e4 : ∀ d, d < h3.next → (h3.new (.cells 3 [iv x] (.own false))).get d = h3.get d := fun d hd => by rw [Heap.get_new, if_neg (by omega)]
  have n4 : (h3.new (.cells 3 [iv x] (.own false))).next = h.next + 1 := by rw [Heap.next_new, n3]
  have src4 : srcCells (h3.new (.cells 3 [iv x] (.own false))).get 1 (.slice (some ⟨h3.next, 0, none⟩) 1 1) = some (1, [iv x]) := (Row.new (by simp) rfl (.inl rfl)).src (c := 1)
  show ItQ (runItems _ _ _ (h3.new (.cells 3 [iv x] (.own false)))) _
  generalize (h3.new (.cells 3 [iv x] (.own false))) = h4 at *
  have ap4 : Ap J h4 3 1 oa acc.length acc.length (acc.map iv) := by
    refine ⟨ap.1, row_lowG ap.row (by omega) (fun q e => ?_), fun q e => (ap.2.2 q e).imp id fun ⟨k', e1, e2, e5⟩ => ⟨k', e1, e2, ?_⟩⟩
    · have := harr q e
      rw [e4 _ (by omega), e3 _ (by omega)]
    · have := harr q e
      rw [e1] at this
      have h1 : k' < h.next := this.2
      have h2 : J ≤ k' := this.1
      rw [e4 _ (by omega), e3 _ (by omega)]; exact e5
  refine i_appF (B := J) (m := 1) (t := acc.length + 1) (es := (acc ++ [x]).map iv) (by decide) (by omega) (by exact sel_of rfl) ap4 src4 rfl (by omega) rfl (by simp) fun h5 n5 k5 a5 => ?_
  have e5 : ∀ d, d < h.next → d ≠ L → (∀ q, oa = some q → d ≠ q.block) → h5.get d = h.get d := fun d hd hL ho => by
    rw [k5 d (by omega) (fun q e => .inl (ho q e)), e4 d (by omega), e3 d hL]
  have hX5 : h5.get X = some (.cells 22 [.slice oa acc.length acc.length] (.own false)) := (e5 _ (by omega) (by omega) (fun q e => by have := harr q e; omega)).trans cX
  refine i_storeP (vs := [.slice (some ⟨h4.next, 0, some 1⟩) (acc.length + 1) (acc.length + 1)]) (by exact sel_of rfl) (by rfl) hX5 rfl rfl ?_
  refine gg ?_
  have e5L : h5.get L = some (.loop 13 [7] k30_0.1 k30_0.2 a .busy none) := by
    rw [k5 L (by omega) (fun q e => .inl (by have := harr q e; omega)), e4 L (by omega)]; exact e3L
  refine YB.go (by rw [Heap.get_put, if_neg (by omega)]; exact e5L) ⟨rfl, ?_⟩
  generalize hh : ((h5.put X (.cells 22 [.slice (some ⟨h4.next, 0, some 1⟩) (acc.length + 1) (acc.length + 1)] (.own false))).put L (.loop 13 [7] k30_0.1 k30_0.2 a .ready none)) = h6
  have n6 : h6.next = h.next + 2 := by rw [← hh, Heap.next_put, Heap.next_put]; omega
  have e65 : ∀ d, d ≠ L → d ≠ X → h6.get d = h5.get d := fun d h1 h2 => by rw [← hh, Heap.get_put, if_neg h1, Heap.get_put, if_neg h2]
  have low : ∀ d, d < J → d ≠ L → d ≠ X → h6.get d = h.get d := fun d hd h1 h2 => by rw [e65 d h1 h2, e5 d (by omega) h1 (fun q e => by have := harr q e; omega)]
  have hlen2 : (acc ++ [x]).length = acc.length + 1 := by simp
  refine ⟨⟨⟨b1, b2, b3, by omega⟩, frs, ⟨by have := keep.next; omega, fun d hd => (low d (by omega) (by omega) (by omega)).trans (keep.get d hd)⟩, by rw [← hh, Heap.get_put, if_pos rfl], some ⟨h4.next, 0, some 1⟩, ?_, ?_, ?_⟩, by omega, low⟩
  · rw [hlen2, ← hh, Heap.get_put, if_neg (by omega), Heap.get_put, if_pos rfl]
  · rw [hlen2]
    refine ⟨rfl, row_lowG a5.row (by omega) (fun q e => by cases e; exact e65 _ (by show h4.next ≠ L; omega) (by show h4.next ≠ X; omega)), fun q e => ?_⟩
    cases e
    rcases a5.2.2 _ rfl with e | ⟨k', e1, e2, e7⟩
    · cases e
    · cases e1
      exact .inr ⟨_, rfl, e2, (e65 _ (by omega) (by omega)).trans e7⟩
  · intro q e
    cases e
    simp
end Go.Proofs.Ytkbanhfdfmodkaa

/-! The keys of a map, collected: maps.Keys, slices.AppendSeq, slices.Collect. -/
set_option linter.unusedVariables false
namespace Go.Proofs.Ytkbanhfdfmodkaa
open Go Vm
/-- an entry: key, value, stamp -/
abbrev Ez := Int × Int × Nat
abbrev st3 (e : Ez) : Nat := e.2.2
abbrev ky3 (e : Ez) : El := e.1
def entZ (es : List Ez) : List (Value × Value × Nat) := es.map fun e => (iv e.1, iv e.2.1, e.2.2)
/-- a map of numbers -/
def MapZ (h : Heap) (mv : Option Nat) (es : List Ez) : Prop := match mv with
  | none => es = []
  | some M => M < h.next ∧ ∃ c, h.get M = some (.map (entZ es) c) ∧ (∀ e ∈ es, e.2.2 < c) ∧ es.Pairwise (fun a b => a.2.2 ≠ b.2.2)
theorem MapZ.keeps {h h' : Heap} {mv : Option Nat} {es : List Ez} (m : MapZ h mv es) (k : Keeps h h') : MapZ h' mv es := by
  cases mv with
  | none => exact m
  | some M =>
    obtain ⟨h1, c, h2, h3⟩ := m
    exact ⟨Nat.lt_of_lt_of_le h1 k.next, c, (k.get _ h1).trans h2, h3⟩
set_option maxHeartbeats 1000000 in
theorem w_keys1 {h0 h : Heap} {a : Fr} {X L Kb e0 : Nat} {mv : Option Nat} {es : List Ez} (hm : MapZ h0 mv es) (hK : h0.get Kb = some (.cells e0 [.map mv] (.own false))) (hKb : Kb < h0.next) (ord : h0.next ≤ X ∧ X < L ∧ L + 1 = h.next) (fr : Sl [(2, .pointer (some ⟨X, 0, none⟩))] a) (keep : Keeps h0 h)
    (lp : h.get L = some (.loop 13 [7] k30_0.1 k30_0.2 a .ready none)) (hX : h.get X = some (.cells 22 [.slice none 0 0] (.own false))) (hlen : es.length ≤ 1000) (n : Nat) (hn : es.length + 5 ≤ n) :
    ResQ (callN Try.prog G0 n (.call 28 [.func (.yield L) #[] #[], .pointer (some ⟨Kb, 0, none⟩)]) h) (fun _ h' => ∃ acc : List El, acc.Perm (es.map ky3) ∧ Ct h0 a X L (L + 2) h' acc) := by
  obtain ⟨n, rfl⟩ : ∃ m, n = m + 1 := ⟨n - 1, by omega⟩
  refine res_enter rfl d28 rfl ?_; simp only [c28]
  refine gg ?_
  refine i_load1 (v := .map mv) (by exact sel_of rfl) ((load1_own ((keep.get _ hKb).trans hK)).trans (by rfl)) ?_
  obtain ⟨o1, o2, o3⟩ := ord
  cases mv with
  | none =>
    cases hm
    refine i_rangeNil (by exact sel_of rfl) ?_
    have gI : (h.new (.iter none 0 [] 0)).get h.next = some (.iter none 0 [] 0) := by rw [Heap.get_new, if_pos rfl]
    have kI : Keeps h (h.new (.iter none 0 [] 0)) := Keeps.new h _
    have nI : (h.new (.iter none 0 [] 0)).next = h.next + 1 := rfl
    generalize h.new (.iter none 0 [] 0) = h1 at *
    refine gg ?_
    refine o_while (fun _ f h' => h1 = h' ∧ Sl [(5, iterTo h.next)] f) 0 (by omega) ⟨rfl, sel_of rfl, trivial⟩ ?_
    rintro _ f _ ⟨rfl, hs⟩
    obtain ⟨f0, rfl⟩ := hs.puts
    simp only [c28_0]
    refine gg ?_
    refine i_nextNil (by exact sel_of rfl) gI ?_
    refine gg ?_
    exact ⟨[], List.Perm.refl _, ⟨o1, o2, by omega, by omega⟩, fr, keep.trans kI, (kI.get _ (by omega)).trans lp, none, (kI.get _ (by omega)).trans hX, Ap.nil _ _ _ _, fun q e => by cases e⟩
  | some M =>
    obtain ⟨hM, c, gM, hst, hpw⟩ := hm
    refine i_range (by exact sel_of rfl) ((keep.get _ hM).trans gM) ?_
    have gI : (h.new (.iter (some M) c [] c)).get h.next = some (.iter (some M) c [] c) := by rw [Heap.get_new, if_pos rfl]
    have kI : Keeps h (h.new (.iter (some M) c [] c)) := Keeps.new h _
    have nI : (h.new (.iter (some M) c [] c)).next = h.next + 1 := rfl
    generalize h.new (.iter (some M) c [] c) = h1 at *
    refine gg ?_
    have hpw2 : (entZ es).Pairwise (fun a b => a.2.2 ≠ b.2.2) := by unfold entZ; rw [List.pairwise_map]; exact hpw
    have ct0 : Ct h0 a X L (L + 2) h1 [] := ⟨⟨o1, o2, by omega, by omega⟩, fr, keep.trans kI, (kI.get _ (by omega)).trans lp, none, (kI.get _ (by omega)).trans hX, Ap.nil _ _ _ _, fun q e => by cases e⟩
    refine o_while (fun k f h' => ∃ ms : List Ez, (Ct h0 a X L (L + 2) h' (ms.map ky3) ∧ h'.get h.next = some (.iter (some M) c (ms.map st3) c) ∧ (∀ m ∈ ms, m ∈ es) ∧ (ms.map st3).Nodup ∧ (leftE (ms.map st3) (entZ es)).length = k ∧ ms.length + k ≤ es.length) ∧ Sl [(5, iterTo h.next), (0, .func (.yield L) #[] #[])] f) (leftE [] (entZ es)).length ?_ ⟨[], ⟨ct0, gI, (fun m hm => nomatch hm), List.nodup_nil, rfl, ?_⟩, sel_of rfl, sel_of rfl, trivial⟩ ?_
    · have : (leftE [] (entZ es)).length ≤ (entZ es).length := by
        generalize entZ es = l
        induction l with
        | nil => exact Nat.le_refl _
        | cons x l ih => exact Nat.succ_le_succ ih
      have : (entZ es).length = es.length := List.length_map ..
      omega
    · have : (leftE [] (entZ es)).length ≤ (entZ es).length := by
        generalize entZ es = l
        induction l with
        | nil => exact Nat.le_refl _
        | cons x l ih => exact Nat.succ_le_succ ih
      have : (entZ es).length = es.length := List.length_map ..
      simpa using by omega
    clear ct0 gI
    rintro k f h2 ⟨ms, ⟨ct, gi, hms, hnd, hk, hlk⟩, hs⟩
    obtain ⟨f0, rfl⟩ := hs.puts
    clear hs
    simp only [c28_0]
    refine gg ?_
    have hst2 : ∀ e ∈ entZ es, e.2.2 < c := fun e he => by
      obtain ⟨x, hx, rfl⟩ := List.mem_map.1 he
      exact hst x hx
    have gM2 := (ct.keep.get _ hM).trans gM
    refine i_next (by exact sel_of rfl) gi gM2 (stale_no hst2) (fun hnil => ?_) (fun e he => ⟨hst2 e (leftE_sub _ _ e he).1, ?_⟩)
    · refine gg ?_
      refine ⟨ms.map ky3, (met_all st3 hpw hms hnd fun e he => ?_).map _, ct⟩
      cases hh : hasN e.2.2 (ms.map st3) with
      | true => exact (hasN_iff _ _).1 hh
      | false =>
        have := leftE_mem _ (entZ es) (iv e.1, iv e.2.1, e.2.2) (List.mem_map.2 ⟨e, he, rfl⟩) hh
        rw [hnil] at this; cases this
    · obtain ⟨he1, he2⟩ := leftE_sub _ _ e he
      have hlt := leftE_lt _ (entZ es) e he
      obtain ⟨x, hx, rfl⟩ := List.mem_map.1 he1
      replace hlt : (leftE (ms.map st3 ++ [x.2.2]) (entZ es)).length < (leftE (ms.map st3) (entZ es)).length := hlt
      have hI : L < h.next := by omega
      have kB : KeepsB h.next h2 (h2.put h.next (.iter (some M) c (ms.map st3 ++ [x.2.2]) c)) := ⟨Nat.le_refl _, fun d hd hne => by rw [Heap.get_put, if_neg hne]⟩
      have ct := ct.next kB hI (by omega)
      have gi2 : (h2.put h.next (.iter (some M) c (ms.map st3 ++ [x.2.2]) c)).get h.next = some (.iter (some M) c (ms.map st3 ++ [x.2.2]) c) := by rw [Heap.get_put, if_pos rfl]
      generalize h2.put h.next (.iter (some M) c (ms.map st3 ++ [x.2.2]) c) = h3 at *
      have gM3 := (ct.keep.get _ hM).trans gM
      refine gg ?_
      refine i_entry (k := iv x.1) (v := iv x.2.1) (by exact sel_of rfl) gi2 (lastN_snoc _ _) gM3 (stampE_of hpw2 he1) ?_
      refine gg ?_
      refine i_yield1 (by exact sel_of rfl) (by exact sel_of rfl) (w_kround ct x.1 (by rw [List.length_map]; omega) n (by omega)) ?_
      rintro _ h4 ⟨rfl, ct4, n4, low⟩
      have gi4 := (low h.next (by omega) (by omega) (by omega)).trans gi2
      refine gg ?_
      refine rnd_n (leftE (ms.map st3 ++ [x.2.2]) (entZ es)).length (by omega) ⟨ms ++ [x], ⟨?_, ?_, ?_, ?_, ?_, ?_⟩, sel_of rfl, sel_of rfl, trivial⟩
      · rw [List.map_append]; exact ct4
      · rw [List.map_append]; exact gi4
      · intro m hm
        rcases List.mem_append.1 hm with hm | hm
        · exact hms m hm
        · simp only [List.mem_cons, List.not_mem_nil, or_false] at hm; rw [hm]; exact hx
      · rw [List.map_append]
        refine List.nodup_append.2 ⟨hnd, by simp, ?_⟩
        intro s hs t ht
        simp only [List.map_cons, List.map_nil, List.mem_cons, List.not_mem_nil, or_false] at ht
        subst ht
        intro e
        have : hasN x.2.2 (ms.map st3) = true := (hasN_iff _ _).2 (by rw [e] at hs; exact hs)
        have he2' : hasN x.2.2 (ms.map st3) = false := he2
        rw [this] at he2'; cases he2'
      · rw [List.map_append]; rfl
      · have hlt' : (leftE (ms.map st3 ++ [x.2.2]) (entZ es)).length < (leftE (ms.map st3) (entZ es)).length := hlt
        rw [List.length_append, List.length_cons, List.length_nil]
        omega
end Go.Proofs.Ytkbanhfdfmodkaa

