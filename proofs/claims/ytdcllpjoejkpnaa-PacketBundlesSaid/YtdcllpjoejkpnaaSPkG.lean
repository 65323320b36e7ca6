/- Part of a proof by an abstract run of the program's code: SPkG. No condition. -/
import Derived.Test.YtdcllpjoejkpnaaSDecA
import Derived.Test.YtdcllpjoejkpnaaSPkA
/-! Groups of chunks: what fits, and parts of rows. -/
set_option linter.unusedVariables false
namespace Vm
open Go
theorem i_yield1 {rec : Rec} {L : List (Nat × Value)} {f : Fr} {h : Heap} {K : Fr → Heap → Prop} {l : List ISem} {dt q : Nat} {c x1 : Sel} {v1 : Value} {R : Value → Heap → Prop} (hc : c.f (puts L f) = .func (.yield q) #[] #[]) (h1 : x1.f (puts L f) = v1) (hv : ResQ (rec (.yield q [v1]) h) R)
    (hq : ∀ v h', R v h' → ItQ (runItems rec l (puts ((dt, v) :: L) f) h') K) : ItQ (runItems rec (iOp (put dt) (.e (eCall c [x1])) :: l) (puts L f) h) K := by
  subst h1
  refine items_cons (it_e (ResQ.mono ?_ hq))
  simp only [eCall, hc]
  exact hv
end Vm
namespace Go.Proofs.Ytdcllpjoejkpnaa
open Go Vm
/-- does one chunk more fit? -/
def okG (l : List Chk) (n : Nat) : Prop := n < l.length ∧ n < 64 ∧ (encs (l.take (n + 1))).length ≤ 1188 ∧ ¬mixedC (l.take (n + 1))
instance (l : List Chk) (n : Nat) : Decidable (okG l n) := by unfold okG; infer_instance
def cutF (l : List Chk) : Nat → Nat → Nat
  | 0, n => n
  | f + 1, n => if okG l n then cutF l f (n + 1) else n
/-- how many chunks the first group has -/
def cutG (l : List Chk) : Nat := cutF l 63 1
def bunF : Nat → List Chk → List (List Chk)
  | 0, _ => []
  | f + 1, l => if l = [] then [] else l.take (cutG l) :: bunF f (l.drop (cutG l))
/-- chunks in groups that fit -/
def bun (l : List Chk) : List (List Chk) := bunF l.length l
theorem bunF_nil (f : Nat) : bunF f [] = [] := by cases f <;> simp [bunF]
theorem flat_take {sz : Nat} : ∀ (els : List (List Value)) (n : Nat), (∀ c ∈ els, c.length = sz) → els.flatten.take (n * sz) = (els.take n).flatten
  | [], n, _ => by simp
  | c :: r, 0, _ => by simp
  | c :: r, n + 1, hx => by
    have hc := hx c (by simp)
    have e : (n + 1) * sz = c.length + n * sz := by rw [hc, Nat.add_mul, Nat.one_mul, Nat.add_comm]
    rw [e, List.flatten_cons, List.take_length_add_append, flat_take r n (fun c hc => hx c (by simp [hc])), List.take_succ_cons, List.flatten_cons]
theorem flat_drop {sz : Nat} : ∀ (els : List (List Value)) (n : Nat), (∀ c ∈ els, c.length = sz) → els.flatten.drop (n * sz) = (els.drop n).flatten
  | [], n, _ => by simp
  | c :: r, 0, _ => by simp
  | c :: r, n + 1, hx => by
    have hc := hx c (by simp)
    have e : (n + 1) * sz = c.length + n * sz := by rw [hc, Nat.add_mul, Nat.one_mul, Nat.add_comm]
    rw [e, List.flatten_cons, List.drop_length_add_append, flat_drop r n (fun c hc => hx c (by simp [hc])), List.drop_succ_cons]
theorem ChE.take {h : Heap} {l : List Chk} {els : List (List Value)} (r : ChE h l els) (n : Nat) : ChE h (l.take n) (els.take n) := by
  refine ⟨by rw [List.length_take, List.length_take, r.1], fun c hc => r.2.1 c (List.mem_of_mem_take hc), fun i x v hx hv => ?_⟩
  rw [List.getElem?_take] at hx hv
  by_cases hi : i < n
  · rw [if_pos hi] at hx hv; exact r.2.2 i x v hx hv
  · rw [if_neg hi] at hx; cases hx
theorem ChE.drop {h : Heap} {l : List Chk} {els : List (List Value)} (r : ChE h l els) (n : Nat) : ChE h (l.drop n) (els.drop n) := by
  refine ⟨by rw [List.length_drop, List.length_drop, r.1], fun c hc => r.2.1 c (List.mem_of_mem_drop hc), fun i x v hx hv => ?_⟩
  rw [List.getElem?_drop] at hx hv
  exact r.2.2 _ x v hx hv
theorem w_csize {h : Heap} {x : Chk} {v : List Value} (hv : ChV h x v) (n : Nat) (hn : 100600 ≤ n) :
    ResQ (callN Try.prog G0 n (.call 16 [.agg v.toArray]) h) (fun u h' => u = .int .i64 (((encC x).1.length : Nat) : Int) ∧ Keeps h h') := by
  have lv := hv.len
  obtain ⟨n, rfl⟩ : ∃ m, n = m + 1 := ⟨n - 1, by omega⟩
  refine res_enter rfl d16 rfl ?_; simp only [c16]
  obtain ⟨a1, k1, n1⟩ := box_one h (.cells 33 v.toArray.toList (.own false))
  refine gg ?_
  generalize (h.new (.cells 33 v.toArray.toList (.own false))) = h1 at *
  refine i_loadN (by exact sel_of rfl) (loadN_all (by assumption) (by first | rfl | assumption)) ?_
  refine gg ?_
  refine i_call1 (by exact sel_of rfl) (w_cencodeG (hv.keeps k1) n (by omega)) ?_
  rintro _ h2 ⟨k2, oE, cE, rfl, rE, hcE⟩
  generalize encC x = E at *
  refine gg ?_
  exact ⟨rfl, k1.trans k2⟩
theorem w_bsize {h : Heap} {x : Chk} {v : List Value} (hv : ChV h x v) (n : Nat) (hn : 100601 ≤ n) :
    ResQ (callN Try.prog G0 n (.call 38 [.agg v.toArray]) h) (fun u h' => u = .bool (decide (1188 < (encC x).1.length)) ∧ Keeps h h') := by
  have lv := hv.len
  obtain ⟨n, rfl⟩ : ∃ m, n = m + 1 := ⟨n - 1, by omega⟩
  refine res_enter rfl d38 rfl ?_; simp only [c38]
  obtain ⟨a1, k1, n1⟩ := box_one h (.cells 33 v.toArray.toList (.own false))
  refine gg ?_
  generalize (h.new (.cells 33 v.toArray.toList (.own false))) = h1 at *
  refine i_loadN (by exact sel_of rfl) (loadN_all (by assumption) (by first | rfl | assumption)) ?_
  refine gg ?_
  refine i_call1 (by exact sel_of rfl) (w_csize (hv.keeps k1) n (by omega)) ?_
  rintro _ h2 ⟨rfl, k2⟩
  generalize (encC x).1.length = E at *
  refine gg ?_
  exact ⟨congrArg Value.bool (decide_eq_decide.2 (by omega)), k1.trans k2⟩
/-- a copy of chunks lies in a block of its own -/
theorem w_cloneC {h : Heap} {o : Option Addr} {m c : Nat} {cs : List Value} (hr : Row h 12 o m cs) (hl : m ≤ 1000000) (h0 : 0 < m) (n : Nat) (hn : 1 ≤ n) :
    ResQ (callN Try.prog G0 n (.call 62 [.slice o m c]) h) (fun v h' => Keeps h h' ∧ ∃ b, v = .slice (some ⟨b, 0, some 12⟩) m m ∧ h.next ≤ b ∧ Row h' 12 (some ⟨b, 0, some 12⟩) m cs) := by
  obtain ⟨n, rfl⟩ : ∃ m, n = m + 1 := ⟨n - 1, by omega⟩
  refine res_enter rfl d62 rfl ?_; simp only [c62]
  cases o with
  | none =>
    have : m = 0 := hr.2
    omega
  | some u =>
    refine gg ?_
    have k1 : Keeps h (h.new (.cells 33 [] (.own false))) := Keeps.new h _
    have n1 : (h.new (.cells 33 [] (.own false))).next = h.next + 1 := rfl
    have row1 : Row (h.new (.cells 33 [] (.own false))) 12 (some ⟨h.next, 0, none⟩) 0 [] := Row.new (by simp) rfl (.inl rfl)
    refine i_appF (t := m) (es := cs) (o := some ⟨h.next, 0, none⟩) (cs := []) h0 (B := h.next) (by show h.next ≤ h.next + 1; omega) (by exact sel_of rfl) ⟨rfl, row1, fun q e => .inl (by cases e; rfl)⟩ ((hr.keeps k1).src (c := c)) hr.1 (by omega) (Nat.zero_add _) (List.nil_append _) fun h1 nx1 fr1 a1 => ?_
    have nx1' : h1.next = h.next + 2 := by rw [nx1]; rfl
    refine gg ?_
    have kk : Keeps h h1 := ⟨by omega, fun d hd => (fr1 d (by show d < h.next + 1; omega) (fun q e => .inr (by cases e; rfl))).trans (k1.get d hd)⟩
    exact ⟨kk, _, rfl, by show h.next ≤ h.next + 1; omega, a1.row⟩
end Go.Proofs.Ytdcllpjoejkpnaa

/-! A round of the loop over groups, walked. -/
set_option linter.unusedVariables false
namespace Go.Proofs.Ytdcllpjoejkpnaa
open Go Vm
theorem row_lowG {h h' : Heap} {sz n : Nat} {o : Option Addr} {cs : List Value} (r : Row h sz o n cs) (hn : h.next ≤ h'.next) (hg : ∀ q, o = some q → h'.get q.block = h.get q.block) : Row h' sz o n cs := by
  obtain ⟨h1, h2⟩ := r
  refine ⟨h1, ?_⟩
  cases o with
  | none => exact h2
  | some q =>
    obtain ⟨h3, h4, h5⟩ := h2
    refine ⟨Nat.lt_of_lt_of_le h3 hn, h4, ?_⟩
    obtain ⟨e, l, st, g, hst, hlen, hcs⟩ := loadN_dead h5
    rw [loadN_of (q := q) (by rw [hg q rfl]; exact g) hst hlen, hcs]
abbrev GC := List Chk × List (List Value)
/-- each of a list is so with its fellow -/
def All2 {α β : Type} (Q : α → β → Prop) (l : List α) (m : List β) : Prop := l.length = m.length ∧ ∀ (i : Nat) x y, l[i]? = some x → m[i]? = some y → Q x y
theorem All2.nil {α β : Type} {Q : α → β → Prop} : All2 Q [] [] := ⟨rfl, fun i x y hx => by simp at hx⟩
theorem All2.imp {α β : Type} {Q Q' : α → β → Prop} {l : List α} {m : List β} (r : All2 Q l m) (hq : ∀ x y, y ∈ m → Q x y → Q' x y) : All2 Q' l m := ⟨r.1, fun i x y hx hy => hq x y (List.mem_of_getElem? hy) (r.2 i x y hx hy)⟩
theorem All2.snoc {α β : Type} {Q : α → β → Prop} {l : List α} {m : List β} {x : α} {y : β} (r : All2 Q l m) (hq : Q x y) : All2 Q (l ++ [x]) (m ++ [y]) := by
  refine ⟨by simp [r.1], fun i x' y' hx hy => ?_⟩
  rw [List.getElem?_append] at hx hy
  by_cases hi : i < l.length
  · rw [if_pos hi] at hx
    rw [if_pos (by rw [← r.1]; exact hi)] at hy
    exact r.2 i x' y' hx hy
  · rw [if_neg hi] at hx
    rw [if_neg (by rw [← r.1]; exact hi), ← r.1] at hy
    cases hj : i - l.length with
    | zero =>
      rw [hj] at hx hy
      simp at hx hy
      subst hx hy
      exact hq
    | succ j => rw [hj] at hx; simp at hx
/-- a group's cell -/
def Grp (h0 h : Heap) (L : Nat) (oa : Option Addr) (g : GC) (v : Value) : Prop := ∃ q, v = .slice (some q) g.1.length g.1.length ∧ Row h 12 (some q) g.1.length g.2.flatten ∧ ChE h0 g.1 g.2 ∧ L < q.block ∧ ∀ q', oa = some q' → q.block ≠ q'.block
/-- the state between two rounds -/
structure Sg (h0 : Heap) (a : Fr) (B X L : Nat) (h : Heap) (G : List GC) (l : List Chk) (els : List (List Value)) : Prop where
  ord : h0.next ≤ B ∧ B < X ∧ X < L ∧ L < h.next
  fr : Sl [(2, .pointer (some ⟨X, 0, none⟩))] a
  keep : Keeps h0 h
  cB : ∃ o c, h.get B = some (.cells 25 [.slice o l.length c] (.own false)) ∧ Row h0 12 o l.length els.flatten ∧ l.length ≤ c
  ch : ChE h0 l els
  lp : h.get L = some (.loop 13 [7] k60_0.1 k60_0.2 a .ready none)
  out : ∃ oa cs, h.get X = some (.cells 44 [.slice oa G.length G.length] (.own false)) ∧ Ap (L + 1) h 25 1 oa G.length G.length cs ∧ All2 (Grp h0 h L oa) G cs ∧ (∀ q, oa = some q → q.spot ≠ none)
theorem Sg.keeps {h0 : Heap} {a : Fr} {B X L : Nat} {h h' : Heap} {G : List GC} {l : List Chk} {els : List (List Value)} (s : Sg h0 a B X L h G l els) (k : Keeps h h') : Sg h0 a B X L h' G l els := by
  obtain ⟨⟨b1, b2, b3, b4⟩, fr, keep, ⟨o, c, cB, hr, hc⟩, ch, lp, oa, cs, cX, ap, al, sp⟩ := s
  exact ⟨⟨b1, b2, b3, Nat.lt_of_lt_of_le b4 k.next⟩, fr, keep.trans k, ⟨o, c, (k.get _ (by omega)).trans cB, hr, hc⟩, ch, (k.get _ b4).trans lp, oa, cs, (k.get _ (by omega)).trans cX, ap.keeps k, al.imp fun x y _ ⟨q, e, r, h1, h2, h3⟩ => ⟨q, e, r.keeps k, h1, h2, h3⟩, sp⟩
theorem Sg.arr {h0 : Heap} {a : Fr} {B X L : Nat} {h : Heap} {G : List GC} {l : List Chk} {els : List (List Value)} (s : Sg h0 a B X L h G l els) {o : Option Addr} {m c : Nat} (hg : h.get X = some (.cells 44 [.slice o m c] (.own false))) {q : Addr} (e : o = some q) : q.block < h.next := by
  obtain ⟨_, _, _, _, _, _, oa, cs, cX, ap, _, _⟩ := s
  rw [cX] at hg
  cases hg
  subst e
  exact ap.row.2.1
/-- the rest is put away -/
theorem Sg.setB {h0 : Heap} {a : Fr} {B X L : Nat} {h : Heap} {G : List GC} {l r : List Chk} {els rels : List (List Value)} (s : Sg h0 a B X L h G l els) {o : Option Addr} {c : Nat} (hr : Row h0 12 o r.length rels.flatten) (hc : r.length ≤ c) (hch : ChE h0 r rels) :
    Sg h0 a B X L (h.put B (.cells 25 [.slice o r.length c] (.own false))) G r rels := by
  obtain ⟨⟨b1, b2, b3, b4⟩, fr, keep, ⟨o1, c1, cB, hr1, hc1⟩, ch, lp, oa, cs, cX, ap, al, sp⟩ := s
  have e : ∀ d, d ≠ B → (h.put B (.cells 25 [.slice o r.length c] (.own false))).get d = h.get d := fun d hd => by rw [Heap.get_put, if_neg hd]
  have harr : ∀ q, oa = some q → q.block ≠ B ∧ L < q.block := fun q e => by
    subst e
    rcases ap.2.2 q rfl with e | ⟨k', e2, e3, _⟩
    · exact absurd e (sp q rfl)
    · rw [e2]; exact ⟨by show k' ≠ B; omega, e3⟩
  refine ⟨⟨b1, b2, b3, b4⟩, fr, keep.put b1 _, ⟨o, c, by rw [Heap.get_put, if_pos rfl], hr, hc⟩, hch, (e _ (by omega)).trans lp, oa, cs, (e _ (by omega)).trans cX, ⟨ap.1, row_lowG ap.row (Nat.le_refl _) (fun q e1 => e _ (harr q e1).1), fun q e1 => (ap.2.2 q e1).imp id fun ⟨k', h1, h2, h3⟩ => ⟨k', h1, h2, (e k' (by omega)).trans h3⟩⟩, al.imp fun x y _ ⟨q, e1, r1, h1, h2, h3⟩ => ⟨q, e1, row_lowG r1 (Nat.le_refl _) (fun q' e2 => by cases e2; exact e _ (by omega)), h1, h2, h3⟩, sp⟩
set_option maxHeartbeats 1000000 in
theorem w_ground {h0 : Heap} {a : Fr} {B X L : Nat} {h : Heap} {G : List GC} {l : List Chk} {els : List (List Value)} (s : Sg h0 a B X L h G l els) {g : GC} {q : Addr} (hq : Row h 12 (some q) g.1.length g.2.flatten) (hc : ChE h0 g.1 g.2) (hL : L < q.block) (hqa : ∀ oa m c, h.get X = some (.cells 44 [.slice oa m c] (.own false)) → ∀ q', oa = some q' → q.block ≠ q'.block) (hlen : G.length ≤ 1000) (n : Nat) (hn : 2 ≤ n) :
    ResQ (callN Try.prog G0 n (.yield L [.slice (some q) g.1.length g.1.length]) h) (fun v h' => v = .bool true ∧ Sg h0 a B X L h' (G ++ [g]) l els) := by
  obtain ⟨⟨b1, b2, b3, b4⟩, fr, keep, ⟨ob, cb, cB, hr, hcb⟩, ch, lp, oa, cs, cX, ap, al, sp⟩ := s
  have frs := fr
  obtain ⟨n, rfl⟩ : ∃ m, n = m + 1 := ⟨n - 1, by omega⟩
  refine res_yield lp rfl ea60_0 eb60_0 ?_
  obtain ⟨f0, hfa⟩ := fr.puts
  rw [show setAll [7] [.slice (some q) g.1.length g.1.length] a = puts [(7, .slice (some q) g.1.length g.1.length), (2, .pointer (some ⟨X, 0, none⟩))] f0 by rw [hfa]; rfl]
  simp only [a60_0]
  refine gg ?_
  have harr : ∀ q, oa = some q → L < q.block ∧ q.block < h.next := fun q e => by
    subst e
    rcases ap.2.2 q rfl with e | ⟨k', e2, e3, _⟩
    · exact absurd e (sp q rfl)
    · have := ap.row.2.1; rw [e2] at this ⊢; exact ⟨e3, this⟩
  refine YA.mk lp ?_
  simp only [b60_0]
  generalize hh : (h.put L (.loop 13 [7] k60_0.1 k60_0.2 a .busy none)) = h3
  have n3 : h3.next = h.next := by rw [← hh]; rfl
  have e3 : ∀ d, d ≠ L → h3.get d = h.get d := fun d hL => by rw [← hh, Heap.get_put, if_neg hL]
  have e3L : h3.get L = some (.loop 13 [7] k60_0.1 k60_0.2 a .busy none) := by rw [← hh, Heap.get_put, if_pos rfl]
  clear hh
  refine gg ?_
  refine i_load1 (v := .slice oa G.length G.length) (by exact sel_of rfl) (by rw [load1_own (b := X) ((e3 _ (by omega)).trans cX)]; rfl) ?_
  refine gg ?_
  have e4 : ∀ d, d < h3.next → (h3.new (.cells 25 [.slice (some q) g.1.length g.1.length] (.own false))).get d = h3.get d := fun d hd => by rw [Heap.get_new, if_neg (by omega)]
  have n4 : (h3.new (.cells 25 [.slice (some q) g.1.length g.1.length] (.own false))).next = h.next + 1 := by rw [Heap.next_new, n3]
  have src4 : srcCells (h3.new (.cells 25 [.slice (some q) g.1.length g.1.length] (.own false))).get 1 (.slice (some ⟨h3.next, 0, none⟩) 1 1) = some (1, [.slice (some q) g.1.length g.1.length]) := (Row.new (by simp) rfl (.inl rfl)).src (c := 1)
  show ItQ (runItems _ _ _ (h3.new (.cells 25 [.slice (some q) g.1.length g.1.length] (.own false)))) _
  generalize (h3.new (.cells 25 [.slice (some q) g.1.length g.1.length] (.own false))) = h4 at *
  have ap4 : Ap (L + 1) h4 25 1 oa G.length G.length cs := by
    refine ⟨ap.1, row_lowG ap.row (by omega) (fun q e => ?_), fun q e => (ap.2.2 q e).imp id fun ⟨k', e1, e2, e5⟩ => ⟨k', e1, e2, ?_⟩⟩
    · have := harr q e
      rw [e4 _ (by omega), e3 _ (by omega)]
    · have := harr q e
      rw [e1] at this
      have h1 : k' < h.next := this.2
      rw [e4 _ (by omega), e3 _ (by omega)]; exact e5
  refine i_appF (B := L + 1) (m := 1) (t := G.length + 1) (es := cs ++ [.slice (some q) g.1.length g.1.length]) (by decide) (by omega) (by exact sel_of rfl) ap4 src4 rfl (by omega) rfl rfl fun h5 n5 k5 a5 => ?_
  have e5 : ∀ d, d < h.next → d ≠ L → (∀ q, oa = some q → d ≠ q.block) → h5.get d = h.get d := fun d hd hL ho => by
    rw [k5 d (by omega) (fun q e => .inl (ho q e)), e4 d (by omega), e3 d hL]
  have hX5 : h5.get X = some (.cells 44 [.slice oa G.length G.length] (.own false)) := (e5 _ (by omega) (by omega) (fun q e => by have := harr q e; omega)).trans cX
  refine i_storeP (vs := [.slice (some ⟨h4.next, 0, some 1⟩) (G.length + 1) (G.length + 1)]) (by exact sel_of rfl) (by rfl) hX5 rfl rfl ?_
  refine gg ?_
  have e5L : h5.get L = some (.loop 13 [7] k60_0.1 k60_0.2 a .busy none) := by
    rw [k5 L (by omega) (fun q e => .inl (by have := harr q e; omega)), e4 L (by omega)]; exact e3L
  refine YB.go (by rw [Heap.get_put, if_neg (by omega)]; exact e5L) ⟨rfl, ?_⟩
  generalize hh : ((h5.put X (.cells 44 [.slice (some ⟨h4.next, 0, some 1⟩) (G.length + 1) (G.length + 1)] (.own false))).put L (.loop 13 [7] k60_0.1 k60_0.2 a .ready none)) = h6
  have n6 : h6.next = h.next + 2 := by rw [← hh, Heap.next_put, Heap.next_put]; omega
  have e65 : ∀ d, d ≠ L → d ≠ X → h6.get d = h5.get d := fun d h1 h2 => by rw [← hh, Heap.get_put, if_neg h1, Heap.get_put, if_neg h2]
  have e6 : ∀ d, d < h.next → d ≠ L → d ≠ X → (∀ q, oa = some q → d ≠ q.block) → h6.get d = h.get d := fun d hd h1 h2 ho => by rw [e65 d h1 h2, e5 d hd h1 ho]
  have low : ∀ d, d < L → d ≠ X → h6.get d = h.get d := fun d hd h2 => e6 d (by omega) (by omega) h2 (fun q e => by have := harr q e; omega)
  have hlen2 : (G ++ [g]).length = G.length + 1 := by simp
  have up : ∀ {x : GC} {u : Addr}, Row h 12 (some u) x.1.length x.2.flatten → L < u.block → (∀ q', oa = some q' → u.block ≠ q'.block) → Row h6 12 (some u) x.1.length x.2.flatten ∧ u.block ≠ h4.next := fun {x u} r h1 h2 => by
    have hb := r.2.1
    exact ⟨row_lowG r (by omega) (fun q' e => by cases e; exact e6 _ hb (by omega) (by omega) (fun q e => h2 q e)), by omega⟩
  refine ⟨⟨b1, b2, b3, by omega⟩, frs, ⟨by have := keep.next; omega, fun d hd => (low d (by omega) (by omega)).trans (keep.get d hd)⟩, ⟨ob, cb, (low _ (by omega) (by omega)).trans cB, hr, hcb⟩, ch, by rw [← hh, Heap.get_put, if_pos rfl], some ⟨h4.next, 0, some 1⟩, cs ++ [.slice (some q) g.1.length g.1.length], ?_, ?_, ?_, ?_⟩
  · rw [hlen2, ← hh, Heap.get_put, if_neg (by omega), Heap.get_put, if_pos rfl]
  · rw [hlen2]
    refine ⟨rfl, row_lowG a5.row (by omega) (fun q e => by cases e; exact e65 _ (by show h4.next ≠ L; omega) (by show h4.next ≠ X; omega)), fun q e => ?_⟩
    cases e
    rcases a5.2.2 _ rfl with e | ⟨k', e1, e2, e7⟩
    · cases e
    · cases e1
      exact .inr ⟨h4.next, rfl, by omega, (e65 _ (by omega) (by omega)).trans e7⟩
  · refine All2.snoc (al.imp fun x y _ ⟨u, e1, r1, h1, h2, h3⟩ => ⟨u, e1, (up r1 h2 h3).1, h1, h2, fun q' e => by cases e; exact (up r1 h2 h3).2⟩) ⟨q, rfl, (up hq hL (hqa _ _ _ cX)).1, hc, hL, fun q' e => by cases e; exact (up hq hL (hqa _ _ _ cX)).2⟩
  · intro q e; cases e; simp
end Go.Proofs.Ytdcllpjoejkpnaa

/-! The loop over groups, walked. -/
set_option linter.unusedVariables false
namespace Go.Proofs.Ytdcllpjoejkpnaa
open Go Vm
theorem cutF_ge (l : List Chk) : ∀ f n, n ≤ cutF l f n
  | 0, n => Nat.le_refl _
  | f + 1, n => by
    rw [cutF]
    split
    · exact Nat.le_trans (Nat.le_succ n) (cutF_ge l f (n + 1))
    · exact Nat.le_refl _
theorem cutF_le (l : List Chk) : ∀ f n, n ≤ l.length → cutF l f n ≤ l.length
  | 0, n, h => h
  | f + 1, n, h => by
    rw [cutF]
    split
    · rename_i ho; exact cutF_le l f (n + 1) ho.1
    · exact h
theorem encs_take {l : List Chk} {n : Nat} {x : Chk} (hx : l[n]? = some x) : (encs (l.take (n + 1))).length = (encs (l.take n)).length + (encC x).1.length := by
  rw [List.take_add_one, hx, Option.toList_some, encs_snoc, List.length_append]
theorem row_back {h h' : Heap} {sz n : Nat} {o : Option Addr} {cs : List Value} (r : Row h' sz o n cs) (k : Keeps h h') (hb : ∀ q, o = some q → q.block < h.next) : Row h sz o n cs := by
  obtain ⟨h1, h2⟩ := r
  refine ⟨h1, ?_⟩
  cases o with
  | none => exact h2
  | some q =>
    obtain ⟨h3, h4, h5⟩ := h2
    refine ⟨hb q rfl, h4, ?_⟩
    obtain ⟨e, l, st, g, hst, hlen, hcs⟩ := loadN_dead h5
    rw [loadN_of (q := q) (by rw [← k.get _ (hb q rfl)]; exact g) hst hlen, hcs]
set_option maxHeartbeats 4000000 in
theorem w_groups1 {h0 : Heap} {a : Fr} {B X L : Nat} {h : Heap} {l : List Chk} {els : List (List Value)} (s : Sg h0 a B X L h [] l els) (hsh : ∀ x ∈ l, x.shaped) (hlen : l.length ≤ 1000) (n : Nat) (hn : 102000 ≤ n) :
    ResQ (callN Try.prog G0 n (.call 61 [.func (.yield L) #[] #[], .pointer (some ⟨B, 0, none⟩)]) h) (fun v h' => ∃ G : List GC, Sg h0 a B X L h' G [] [] ∧ G.map Prod.fst = bun l) := by
  obtain ⟨n, rfl⟩ : ∃ m, n = m + 1 := ⟨n - 1, by omega⟩
  refine res_enter rfl d61 rfl ?_; simp only [c61]
  refine gg ?_
  refine o_up l.length (fun i f h' => ∃ (G : List GC) (r : List Chk) (rels : List (List Value)), Sl [(0, .func (.yield L) #[] #[]), (1, .pointer (some ⟨B, 0, none⟩))] f ∧ Sg h0 a B X L h' G r rels ∧ G.length = i ∧ G.map Prod.fst ++ bunF (l.length - i) r = bun l ∧ r.length ≤ l.length - i ∧ ∀ x ∈ r, x.shaped) (by omega) ?_ ?_
  · exact ⟨[], l, els, ⟨sel_of rfl, sel_of rfl, trivial⟩, s, rfl, rfl, Nat.le_refl _, hsh⟩
  rintro i f h' hi ⟨G, r, rels, hs, st, hG, hb, hrl, hshr⟩
  obtain ⟨f0, rfl⟩ := hs.puts
  obtain ⟨o, c, cB, hr0, hc⟩ := st.cB
  simp only [c61_1]
  refine o_seq ?_
  refine gg ?_
  refine i_load1 (v := .slice o r.length c) (by exact sel_of rfl) (by rw [load1_own cB]; rfl) ?_
  by_cases hr : r = []
  · subst hr
    obtain rfl : rels = [] := List.length_eq_zero_iff.1 st.ch.1
    refine gg ?_
    exact ⟨G, st, by rw [← hb, bunF_nil, List.append_nil]⟩
  have hpos : 0 < r.length := List.length_pos_iff.2 hr
  obtain ⟨x, hx⟩ : ∃ x, r[0]? = some x := ⟨_, List.getElem?_eq_getElem hpos⟩
  obtain ⟨w, hw, cv⟩ := (st.ch.keeps st.keep).at hx
  have rr := hr0.keeps st.keep
  have hxs := hshr x (List.mem_of_getElem? hx)
  obtain ⟨e3, e4, e5⟩ := encC_len hxs
  refine gg ?_
  refine i_load1 (v := .slice o r.length c) (by exact sel_of rfl) (by rw [load1_own cB]; rfl) ?_
  refine gg ?_
  refine i_idx (by exact sel_of rfl) rr (i := 0) (by first | exact sel_of rfl | exact const_of) (by omega) fun u hu => ?_
  subst hu
  refine i_loadN (v := w) (by exact sel_of rfl) (by rw [rr.cells (by omega) (some 0), flat_get rels 0 st.ch.2.1 hw]) ?_
  refine i_call1 (by exact sel_of rfl) (w_csize cv n (by omega)) ?_
  rintro _ h1 ⟨rfl, k1⟩
  have t1 : (encs (r.take 1)).length = (encC x).1.length := by rw [encs_take hx]; simp [encs]
  rw [← t1]
  have hB : ∀ j, (encs (r.take j)).length ≤ 42010 * j := fun j =>
    Nat.le_trans (encs_len (r.take j) (fun x hx => hshr x (List.mem_of_mem_take hx))) (Nat.mul_le_mul_left _ (List.length_take_le j r))
  refine gg ?_
  refine o_up 63 (fun j f h' => Sl [(3, .int .i64 ((j + 1 : Nat) : Int)), (4, .int .i64 (((encs (r.take (j + 1))).length : Nat) : Int)), (0, .func (.yield L) #[] #[]), (1, .pointer (some ⟨B, 0, none⟩))] f ∧ Keeps h1 h' ∧ cutG r = cutF r (63 - j) (j + 1) ∧ j + 1 ≤ r.length) (by omega) ?_ ?_
  · exact ⟨⟨sel_of rfl, sel_of rfl, sel_of rfl, sel_of rfl, trivial⟩, Keeps.refl _, rfl, by omega⟩
  rintro j f h2 hj ⟨hs, k2, hcut, hjr⟩
  obtain ⟨f1, rfl⟩ := hs.puts
  have st2 := st.keeps (k1.trans k2)
  have cB2 := ((k1.trans k2).get B (by have := st.ord; omega)).trans cB
  have rr2 := rr.keeps (k1.trans k2)
  have hBj := hB (j + 1)
  clear hs
  simp only [c61_0]
  refine o_seq (o_seq (o_reg ?_))
  refine i_cut 8 (fun a h' => h2 = h' ∧ ∃ b : Bool, Sl [(3, .int .i64 ((j + 1 : Nat) : Int)), (4, .int .i64 (((encs (r.take (j + 1))).length : Nat) : Int)), (0, .func (.yield L) #[] #[]), (1, .pointer (some ⟨B, 0, none⟩)), (19, .bool b)] a ∧ (b = true ↔ (j + 1 < r.length ∧ j + 1 < 64))) ?_ ?_
  · simp only [List.take_succ_cons, List.take_zero]
    refine gg ?_
    refine i_load1 (v := .slice (some u) r.length c) (by exact sel_of rfl) (by rw [load1_own cB2]; rfl) ?_
    by_cases h1 : j + 1 < r.length
    · refine gg ?_
      exact ⟨rfl, _, ⟨sel_of rfl, sel_of rfl, sel_of rfl, sel_of rfl, sel_of rfl, trivial⟩, by rw [decide_eq_true_iff]; omega⟩
    · refine gg ?_
      exact ⟨rfl, false, ⟨sel_of rfl, sel_of rfl, sel_of rfl, sel_of rfl, sel_of rfl, trivial⟩, by simp [h1]⟩
  simp only [List.drop_succ_cons, List.drop_zero]
  rintro a2 _ ⟨rfl, b, hs, hb1⟩
  obtain ⟨f2, rfl⟩ := hs.puts
  clear hs
  refine i_cut 10 (fun a h' => Keeps h2 h' ∧ ∃ b : Bool, Sl [(3, .int .i64 ((j + 1 : Nat) : Int)), (4, .int .i64 (((encs (r.take (j + 1))).length : Nat) : Int)), (0, .func (.yield L) #[] #[]), (1, .pointer (some ⟨B, 0, none⟩)), (29, .bool b)] a ∧ (b = true ↔ ((j + 1 < r.length ∧ j + 1 < 64) ∧ (encs (r.take (j + 2))).length ≤ 1188))) ?_ ?_
  · simp only [List.take_succ_cons, List.take_zero]
    cases b with
    | false =>
      refine gg ?_
      exact ⟨Keeps.refl _, false, ⟨sel_of rfl, sel_of rfl, sel_of rfl, sel_of rfl, sel_of rfl, trivial⟩, ⟨fun e => (by cases e), fun e => hb1.2 e.1⟩⟩
    | true =>
      obtain ⟨h1, h2'⟩ := hb1.1 rfl
      obtain ⟨y, hy⟩ : ∃ y, r[j + 1]? = some y := ⟨_, List.getElem?_eq_getElem h1⟩
      obtain ⟨wy, hwy, cvy⟩ := (st2.ch.keeps st2.keep).at hy
      have ht := encs_take hy
      obtain ⟨d3, d4, d5⟩ := encC_len (hshr y (List.mem_of_getElem? hy))
      refine gg ?_
      refine i_load1 (v := .slice (some u) r.length c) (by exact sel_of rfl) (by rw [load1_own cB2]; rfl) ?_
      refine gg ?_
      refine i_idx (by exact sel_of rfl) rr2 (i := j + 1) (by exact sel_of rfl) (by omega) fun u2 hu => ?_
      cases hu
      refine gg ?_
      refine i_loadN (v := wy) (by exact sel_of rfl) (by rw [rr2.cells (by omega) (some 0), flat_get rels (j + 1) st.ch.2.1 hwy]) ?_
      refine gg ?_
      refine i_call1 (by exact sel_of rfl) (w_csize cvy n (by omega)) ?_
      rintro _ h3 ⟨rfl, k3⟩
      generalize (encC y).1.length = E at *
      refine gg ?_
      refine ⟨k3, _, ⟨sel_of rfl, sel_of rfl, sel_of rfl, sel_of rfl, sel_of rfl, trivial⟩, ?_⟩
      rw [decide_eq_true_iff, show j + 2 = j + 1 + 1 from rfl, ht]
      omega
  simp only [List.drop_succ_cons, List.drop_zero]
  rintro a3 h3 ⟨k3, b2, hs, hb2⟩
  obtain ⟨f3, rfl⟩ := hs.puts
  clear hs hb1
  have cB3 := (k3.get B (by have := st2.ord; omega)).trans cB2
  have st3 := st2.keeps k3
  have rr3 := rr2.keeps k3
  refine i_cut 8 (fun a h' => Keeps h3 h' ∧ ∃ b : Bool, Sl [(3, .int .i64 ((j + 1 : Nat) : Int)), (4, .int .i64 (((encs (r.take (j + 1))).length : Nat) : Int)), (0, .func (.yield L) #[] #[]), (1, .pointer (some ⟨B, 0, none⟩)), (37, .bool b)] a ∧ (b = true ↔ okG r (j + 1))) ?_ ?_
  · simp only [List.take_succ_cons, List.take_zero]
    cases b2 with
    | false =>
      refine gg ?_
      exact ⟨Keeps.refl _, false, ⟨sel_of rfl, sel_of rfl, sel_of rfl, sel_of rfl, sel_of rfl, trivial⟩, ⟨fun e => (by cases e), fun e => hb2.2 ⟨⟨e.1, e.2.1⟩, e.2.2.1⟩⟩⟩
    | true =>
      obtain ⟨⟨h1, h2'⟩, h3'⟩ := hb2.1 rfl
      refine gg ?_
      refine i_load1 (v := .slice (some u) r.length c) (by exact sel_of rfl) (by rw [load1_own cB3]; rfl) ?_
      refine gg ?_
      refine i_sl_hi (i := j + 1 + 1) (by exact sel_of rfl) rr3 hc (by exact sel_of rfl) (by omega) fun rp => ?_
      rw [flat_take rels (j + 1 + 1) st.ch.2.1] at rp
      have hlt : (r.take (j + 1 + 1)).length = j + 1 + 1 := by rw [List.length_take]; omega
      have hmix := w_mixed (c := c) (by rw [hlt]; exact rp) ((st3.ch.keeps st3.keep).take (j + 1 + 1)) (by omega) n (by omega)
      rw [hlt] at hmix
      refine gg ?_
      refine i_call1 (by exact sel_of rfl) hmix ?_
      rintro _ h4 ⟨rfl, k4⟩
      refine gg ?_
      refine ⟨k4, _, ⟨sel_of rfl, sel_of rfl, sel_of rfl, sel_of rfl, sel_of rfl, trivial⟩, ?_⟩
      rw [Bool.not_eq_true', decide_eq_false_iff_not]
      exact ⟨fun e => ⟨h1, h2', h3', e⟩, fun e => e.2.2.2⟩
  simp only [List.drop_succ_cons, List.drop_zero]
  rintro a4 h4 ⟨k4, b3, hs, hb3⟩
  obtain ⟨f4, rfl⟩ := hs.puts
  clear hs hb2
  have k24 := k3.trans k4
  have cB4 := (k24.get B (by have := st2.ord; omega)).trans cB2
  have st4 := st2.keeps k24
  have rr4 := rr2.keeps k24
  cases b3 with
  | true =>
    have hok := hb3.1 rfl
    obtain ⟨h1, h2', h3', h4'⟩ := (show okG r (j + 1) from hok)
    have hok : okG r (j + 1) := ⟨h1, h2', h3', h4'⟩
    obtain ⟨y, hy⟩ : ∃ y, r[j + 1]? = some y := ⟨_, List.getElem?_eq_getElem h1⟩
    obtain ⟨wy, hwy, cvy⟩ := (st4.ch.keeps st4.keep).at hy
    have ht := encs_take hy
    obtain ⟨d3, d4, d5⟩ := encC_len (hshr y (List.mem_of_getElem? hy))
    refine gg ?_
    refine i_load1 (v := .slice (some u) r.length c) (by exact sel_of rfl) (by rw [load1_own cB4]; rfl) ?_
    refine gg ?_
    refine i_idx (by exact sel_of rfl) rr4 (i := j + 1) (by exact sel_of rfl) (by omega) fun u2 hu => ?_
    cases hu
    refine i_loadN (v := wy) (by exact sel_of rfl) (by rw [rr4.cells (by omega) (some 0), flat_get rels (j + 1) st.ch.2.1 hwy]) ?_
    refine i_call1 (by exact sel_of rfl) (w_csize cvy n (by omega)) ?_
    rintro _ h5 ⟨rfl, k5⟩
    generalize (encC y).1.length = E at *
    refine gg ?_
    have h63 : 63 - j = (63 - (j + 1)) + 1 := by omega
    rw [h63, cutF, if_pos hok] at hcut
    exact rnd_up (by omega) ⟨⟨sel_of rfl, sel_of (by rw [ht]; rfl), sel_of rfl, sel_of rfl, trivial⟩, k2.trans (k24.trans k5), hcut, by omega⟩
  | false =>
    have hno : ¬okG r (j + 1) := fun e => by have := hb3.2 e; cases this
    have hcut2 : cutG r = j + 1 := by
      rw [hcut]
      cases hh : 63 - j with
      | zero => rfl
      | succ f => rw [cutF, if_neg hno]
    clear hcut hb3
    refine gg ?_
    refine i_load1 (v := .slice (some u) r.length c) (by exact sel_of rfl) (by rw [load1_own cB4]; rfl) ?_
    refine gg ?_
    refine i_sl_hi (i := j + 1) (by exact sel_of rfl) rr4 hc (by exact sel_of rfl) (by omega) fun rp => ?_
    rw [flat_take rels (j + 1) st.ch.2.1] at rp
    refine gg ?_
    refine i_call1 (by exact sel_of rfl) (w_cloneC rp (by omega) (by omega) n (by omega)) ?_
    rintro _ h5 ⟨k5, bq, rfl, hbq, rq⟩
    have st5 := st4.keeps k5
    have hlt : (r.take (j + 1)).length = j + 1 := by rw [List.length_take]; omega
    have hdl : (r.drop (j + 1)).length = r.length - (j + 1) := List.length_drop
    have o4 := st4.ord
    have ygo : ResQ (callN Try.prog G0 n (.yield L [.slice (some ⟨bq, 0, some 12⟩) (j + 1) (j + 1)]) h5) (fun v h' => v = .bool true ∧ Sg h0 a B X L h' (G ++ [(r.take (j + 1), rels.take (j + 1))]) r rels) := by
      have := w_ground (g := (r.take (j + 1), rels.take (j + 1))) st5 (q := ⟨bq, 0, some 12⟩) (by show Row _ 12 _ (r.take (j + 1)).length _; rw [hlt]; exact rq) (st.ch.take (j + 1)) (by show L < bq; omega) (fun oa m c hg q' e => by
        have := st4.arr ((k5.get X (by omega)).symm.trans hg) e
        show bq ≠ q'.block
        omega) (by omega) n (by omega)
      rwa [show ((r.take (j + 1), rels.take (j + 1)) : GC).1.length = j + 1 from hlt] at this
    refine i_yield1 (by exact sel_of rfl) (by exact sel_of rfl) ygo ?_
    rintro _ h6 ⟨rfl, st6⟩
    obtain ⟨o6, c6, cB6, hr6, hc6⟩ := st6.cB
    refine gg ?_
    refine i_load1 (v := .slice o6 r.length c6) (by exact sel_of rfl) (by rw [load1_own cB6]; rfl) ?_
    refine gg ?_
    refine i_sl_lo (i := j + 1) (by exact sel_of rfl) (hr6.keeps st6.keep) hc6 (by exact sel_of rfl) (by omega) fun o7 hn7 r7 => ?_
    rw [flat_drop rels (j + 1) st.ch.2.1] at r7
    have r70 := row_back r7 st6.keep (fun q e => by
      obtain ⟨q0, e0, e1⟩ := hn7 q e
      subst e0
      rw [e1]; exact hr6.2.1)
    refine i_storeP (b := B) (s := none) (vs := [.slice o7 (r.length - (j + 1)) (c6 - (j + 1))]) (by exact sel_of rfl) (by rfl) cB6 rfl rfl ?_
    have st7 := st6.setB (r := r.drop (j + 1)) (rels := rels.drop (j + 1)) (o := o7) (c := c6 - (j + 1)) (by rw [hdl]; exact r70) (by omega) (st.ch.drop _)
    rw [hdl] at st7
    refine gg ?_
    have hi2 : l.length - i = (l.length - (i + 1)) + 1 := by omega
    rw [hi2, bunF, if_neg hr, hcut2] at hb
    refine rnd_up (by omega) ⟨G ++ [(r.take (j + 1), rels.take (j + 1))], r.drop (j + 1), rels.drop (j + 1), ⟨sel_of rfl, sel_of rfl, trivial⟩, st7, by simp [hG], ?_, by omega, fun x hx => hshr x (List.mem_of_mem_drop hx)⟩
    rw [← hb, List.map_append, List.append_assoc]
    rfl
end Go.Proofs.Ytdcllpjoejkpnaa

/-! packet.Bundle, walked. -/
set_option linter.unusedVariables false
namespace Go.Proofs.Ytdcllpjoejkpnaa
open Go Vm
theorem o_brangeG {P : Program} {rec : Rec} {n id nt : Nat} {f : Sel} {ps : List Tmp} {s b : Code} {a : Fr} {h : Heap} {g : FuncId} {cap : Array Value} {Q : Ex → Fr → Heap → Prop} (hf : f.f a = .func (.func g) #[] cap)
    (hc : ResQ (rec (.call g (Value.func (.yield h.next) #[] #[] :: cap.toList)) (h.new (.loop nt ps s b a .ready none))) (fun _ h' => RgQ h.next nt ps s b a (Blo id Q) h')) : OutQ ((sBlock id (sRangeFunc nt f ps s b)).f rec n a h) Q := out_block (out_range hf hc)
/-- a group's cell, at the end -/
def GrpF (h : Heap) (g : GC) (v : Value) : Prop := ∃ q, v = .slice (some q) g.1.length g.1.length ∧ Row h 12 (some q) g.1.length g.2.flatten ∧ ChE h g.1 g.2
def GrpsQ (h : Heap) (z : List (List Chk)) (oa : Option Addr) (m : Nat) : Prop := ∃ (G : List GC) (cs : List Value), Row h 1 oa G.length cs ∧ All2 (GrpF h) G cs ∧ G.map Prod.fst = z ∧ m = G.length
theorem GrpsQ.keeps {h h' : Heap} {z : List (List Chk)} {oa : Option Addr} {m : Nat} (r : GrpsQ h z oa m) (k : Keeps h h') : GrpsQ h' z oa m := by
  obtain ⟨G, cs, h1, h2, h3, h4⟩ := r
  exact ⟨G, cs, h1.keeps k, h2.imp fun x y _ ⟨q, e, r, c⟩ => ⟨q, e, r.keeps k, c.keeps k⟩, h3, h4⟩
theorem GrpsQ.nil (h : Heap) : GrpsQ h [] none 0 := ⟨[], [], Row.nil h 1, All2.nil, rfl, rfl⟩
set_option maxHeartbeats 1000000 in
theorem w_appseq {h0 h : Heap} {B : Nat} {o : Option Addr} {c : Nat} {l : List Chk} {els : List (List Value)} (hB : h.get B = some (.cells 25 [.slice o l.length c] (.own false))) (hb : h0.next ≤ B) (hbn : B < h.next) (k : Keeps h0 h) (hr : Row h0 12 o l.length els.flatten) (hc : l.length ≤ c) (ch : ChE h0 l els) (hsh : ∀ x ∈ l, x.shaped) (hlen : l.length ≤ 1000) (n : Nat) (hn : 102001 ≤ n) :
    ResQ (callN Try.prog G0 n (.call 60 [.slice none 0 0, .func (.func 61) #[] #[.pointer (some ⟨B, 0, none⟩)]]) h) (fun v h' => Keeps h0 h' ∧ ∃ oa m, v = .slice oa m m ∧ GrpsQ h' (bun l) oa m) := by
  obtain ⟨n, rfl⟩ : ∃ m, n = m + 1 := ⟨n - 1, by omega⟩
  refine res_enter rfl d60 rfl ?_; simp only [c60]
  obtain ⟨a1, k1, n1⟩ := box_one h (.cells 44 [.slice none 0 0] (.own false))
  refine gg ?_
  generalize (h.new (.cells 44 [.slice none 0 0] (.own false))) = h1 at *
  refine o_brangeG (P := Try.prog) (by exact sel_of rfl) ?_
  have st : ∀ a, Sl [(2, .pointer (some ⟨h.next, 0, none⟩))] a → Sg h0 a B h.next h1.next (h1.new (.loop 13 [7] k60_0.1 k60_0.2 a .ready none)) [] l els := fun a ha => by
    have k2 : Keeps h1 (h1.new (.loop 13 [7] k60_0.1 k60_0.2 a .ready none)) := Keeps.new _ _
    exact ⟨⟨hb, hbn, by omega, Nat.lt_succ_self _⟩, ha, k.trans (k1.trans k2), ⟨o, c, ((k1.trans k2).get _ hbn).trans hB, hr, hc⟩, ch, by rw [Heap.get_new, if_pos rfl], none, [], (k2.get _ (by omega)).trans a1, Ap.nil _ _ _ _, All2.nil, fun q e => by cases e⟩
  refine (w_groups1 (st _ ⟨sel_of rfl, trivial⟩) hsh hlen n (by omega)).mono ?_
  rintro v h4 ⟨G, s, hG⟩
  obtain ⟨⟨b1, b2, b3, b4⟩, fr, keep, _, _, lp, oa, cs, cX, ap, al, sp⟩ := s
  refine RgQ.none lp (blo_n ?_)
  refine gg ?_
  refine i_load1 (v := .slice oa G.length G.length) (by exact sel_of rfl) (by rw [load1_own (b := h.next) (by rw [Heap.get_put, if_neg (by omega)]; exact cX)]; rfl) ?_
  refine gg ?_
  have harr : ∀ q, oa = some q → h1.next < q.block := fun q e => by
    subst e
    rcases ap.2.2 q rfl with e | ⟨k', e2, e3, _⟩
    · exact absurd e (sp q rfl)
    · rw [e2]; exact e3
  have kk : ∀ v, Keeps h0 (h4.put h1.next v) := fun v => keep.put (by omega) v
  refine ⟨kk _, oa, G.length, rfl, G, cs, row_lowG ap.row (Nat.le_refl _) (fun q e => ?_), al.imp fun x y _ ⟨q, e, r, h5, h6, h7⟩ => ⟨q, e, row_lowG r (Nat.le_refl _) (fun q' e' => ?_), h5.keeps (kk _)⟩, hG, rfl⟩
  · have := harr q e
    rw [Heap.get_put, if_neg (by omega)]
  · cases e'
    rw [Heap.get_put, if_neg (by omega)]
theorem w_collect {h0 h : Heap} {B : Nat} {o : Option Addr} {c : Nat} {l : List Chk} {els : List (List Value)} (hB : h.get B = some (.cells 25 [.slice o l.length c] (.own false))) (hb : h0.next ≤ B) (hbn : B < h.next) (k : Keeps h0 h) (hr : Row h0 12 o l.length els.flatten) (hc : l.length ≤ c) (ch : ChE h0 l els) (hsh : ∀ x ∈ l, x.shaped) (hlen : l.length ≤ 1000) (n : Nat) (hn : 102002 ≤ n) :
    ResQ (callN Try.prog G0 n (.call 39 [.func (.func 61) #[] #[.pointer (some ⟨B, 0, none⟩)]]) h) (fun v h' => Keeps h0 h' ∧ ∃ oa m, v = .slice oa m m ∧ GrpsQ h' (bun l) oa m) := by
  obtain ⟨n, rfl⟩ : ∃ m, n = m + 1 := ⟨n - 1, by omega⟩
  refine res_enter rfl d39 rfl ?_; simp only [c39]
  refine gg ?_
  refine i_call2 (by first | exact sel_of rfl | exact const_of) (by exact sel_of rfl) (w_appseq hB hb hbn k hr hc ch hsh hlen n (by omega)) ?_
  rintro _ h3 ⟨k3, oa, m, rfl, gq⟩
  refine gg ?_
  exact ⟨k3, oa, m, rfl, gq⟩
theorem w_groups {h : Heap} {o : Option Addr} {m c : Nat} (n : Nat) (hn : 1 ≤ n) :
    ResQ (callN Try.prog G0 n (.call 40 [.slice o m c]) h) (fun v h' => v = .func (.func 61) #[] #[.pointer (some ⟨h.next, 0, none⟩)] ∧ h' = h.new (.cells 25 [.slice o m c] (.own false))) := by
  obtain ⟨n, rfl⟩ : ∃ m, n = m + 1 := ⟨n - 1, by omega⟩
  refine res_enter rfl d40 rfl ?_; simp only [c40]
  refine gg ?_
  exact ⟨rfl, rfl⟩
def bunE (l : List Chk) : Nat := if (l.any fun x => !decide x.shaped) = true then 1 else if (l.any fun x => decide (1188 < (encC x).1.length)) = true then 10 else 0
def bunL (l : List Chk) : List (List Chk) := if bunE l = 0 then bun l else []
def BundQ (h : Heap) (l : List Chk) (v : Value) (h' : Heap) : Prop := Keeps h h' ∧ ∃ oa m, v = .tuple #[.slice oa m m, .int .i64 ((bunE l : Nat) : Int)] ∧ GrpsQ h' (bunL l) oa m
theorem w_bundle {h : Heap} {o : Option Addr} {c : Nat} {l : List Chk} {els : List (List Value)} (hr : Row h 12 o l.length els.flatten) (he : ChE h l els) (hc : l.length ≤ c) (hlen : l.length ≤ 1000) (n : Nat) (hn : 103000 ≤ n) :
    ResQ (callN Try.prog G0 n (.call 20 [.slice o l.length c]) h) (BundQ h l) := by
  obtain ⟨n, rfl⟩ : ∃ m, n = m + 1 := ⟨n - 1, by omega⟩
  refine res_enter rfl d20 rfl ?_; simp only [c20]
  refine gg ?_
  refine i_call2 (by exact sel_of rfl) (by first | exact sel_of rfl | exact const_of) (w_hasC hr he (by omega) (P := fun x => !decide x.shaped) (cp := #[]) 100500 n (fun h' x v k hv n hn => w_unshaped hv n hn) (by omega)) ?_
  rintro _ h1 ⟨rfl, k1⟩
  cases hu : (l.any fun x => !decide x.shaped) with
  | true =>
    have e : bunE l = 1 := by rw [bunE, if_pos hu]
    refine gg ?_
    refine ⟨k1, none, 0, by rw [e]; rfl, ?_⟩
    rw [bunL, e]
    exact GrpsQ.nil _
  | false =>
  have hsh : ∀ x ∈ l, x.shaped := fun x hx => by
    have := List.any_eq_false.1 hu x hx
    simpa using this
  refine gg ?_
  refine i_call2 (by exact sel_of rfl) (by first | exact sel_of rfl | exact const_of) (w_hasC (hr.keeps k1) (he.keeps k1) (by omega) (P := fun x => decide (1188 < (encC x).1.length)) (cp := #[]) 100601 n (fun h' x v k hv n hn => w_bsize hv n hn) (by omega)) ?_
  rintro _ h2 ⟨rfl, k2⟩
  cases hz : (l.any fun x => decide (1188 < (encC x).1.length)) with
  | true =>
    have e : bunE l = 10 := by rw [bunE, if_neg (by rw [hu]; simp), if_pos hz]
    refine gg ?_
    refine ⟨k1.trans k2, none, 0, by rw [e]; rfl, ?_⟩
    rw [bunL, e]
    exact GrpsQ.nil _
  | false =>
  have e : bunE l = 0 := by rw [bunE, if_neg (by rw [hu]; simp), if_neg (by rw [hz]; simp)]
  have k12 := k1.trans k2
  refine gg ?_
  refine i_call1 (by exact sel_of rfl) (w_groups n (by omega)) ?_
  rintro _ h3 ⟨rfl, e3⟩
  obtain ⟨a3, k3, n3⟩ := box_one h2 (.cells 25 [.slice o l.length c] (.own false))
  rw [← e3] at a3 k3 n3
  clear e3
  refine gg ?_
  refine i_call1 (by exact sel_of rfl) (w_collect a3 k12.next (by omega) (k12.trans k3) hr hc he hsh hlen n (by omega)) ?_
  rintro _ h4 ⟨k4, oa, m, rfl, gq⟩
  refine gg ?_
  refine ⟨k4, oa, m, by rw [e]; rfl, ?_⟩
  rw [bunL, if_pos e]
  exact gq
end Go.Proofs.Ytdcllpjoejkpnaa

/-! What groups of chunks are, in plain terms. -/
set_option linter.unusedVariables false
namespace Go.Proofs.Ytdcllpjoejkpnaa
open Go Vm
/-- a group fits a packet -/
def fitG (z : List Chk) : Prop := z ≠ [] ∧ z.length ≤ 64 ∧ (encs z).length ≤ 1188 ∧ ¬mixedC z
/-- a group is one chunk too long -/
def overG (z : List Chk) : Prop := 64 < z.length ∨ 1188 < (encs z).length ∨ mixedC z
theorem cutF_fit (l : List Chk) : ∀ f n, n ≤ l.length → fitG (l.take n) → fitG (l.take (cutF l f n))
  | 0, n, _, h => h
  | f + 1, n, hn, h => by
    rw [cutF]
    split
    · rename_i ho
      obtain ⟨h1, h2, h3, h4⟩ := (show okG l n from ho)
      exact cutF_fit l f (n + 1) h1 ⟨fun e => by have := congrArg List.length e; rw [List.length_take, List.length_nil] at this; omega, by rw [List.length_take]; omega, h3, h4⟩
    · exact h
theorem cutF_stop (l : List Chk) : ∀ f n, n + f = 64 → ¬okG l (cutF l f n)
  | 0, n, h, ho => by
    have := ho.2.1
    rw [cutF] at this
    omega
  | f + 1, n, h, ho => by
    rw [cutF] at ho
    split at ho
    · exact cutF_stop l f (n + 1) (by omega) ho
    · rename_i hn; exact hn ho
theorem take_one {x : Chk} {r : List Chk} : (x :: r).take 1 = [x] := rfl
theorem cutG_fit {l : List Chk} (h0 : l ≠ []) (hs : ∀ x ∈ l, (encC x).1.length ≤ 1188) : fitG (l.take (cutG l)) := by
  refine cutF_fit l 63 1 (List.length_pos_iff.2 h0) ?_
  cases l with
  | nil => exact absurd rfl h0
  | cons x r =>
    rw [take_one]
    refine ⟨by simp, by show 1 ≤ 64; decide, ?_, fun h => Nat.lt_irrefl 1 h.1⟩
    have := hs x (by simp)
    simpa [encs] using this
theorem cutG_pos (l : List Chk) : 1 ≤ cutG l := cutF_ge l 63 1
theorem bunF_fit : ∀ (f : Nat) (l : List Chk), (∀ x ∈ l, (encC x).1.length ≤ 1188) → ∀ g ∈ bunF f l, fitG g
  | 0, l, _, g, hg => by cases hg
  | f + 1, l, hs, g, hg => by
    rw [bunF] at hg
    split at hg
    · cases hg
    · rename_i h0
      rcases List.mem_cons.1 hg with e | hg
      · rw [e]; exact cutG_fit h0 hs
      · exact bunF_fit f _ (fun x hx => hs x (List.mem_of_mem_drop hx)) g hg
theorem bunF_join : ∀ (f : Nat) (l : List Chk), l.length ≤ f → (bunF f l).flatten = l
  | 0, l, h => by
    have : l = [] := List.length_eq_zero_iff.1 (by omega)
    rw [this]; rfl
  | f + 1, l, h => by
    rw [bunF]
    split
    · rename_i h0; rw [h0]; rfl
    · rename_i h0
      have hp := cutG_pos l
      have hl := List.length_pos_iff.2 h0
      rw [List.flatten_cons, bunF_join f _ (by rw [List.length_drop]; omega), List.take_append_drop]
theorem bunF_head {f : Nat} {l : List Chk} {x : Chk} {r : List Chk} (h : (bunF f l)[0]? = some (x :: r)) : ∃ r', l = x :: r' := by
  cases f with
  | zero => simp [bunF] at h
  | succ f =>
    rw [bunF] at h
    split at h
    · simp at h
    · rename_i h0
      simp at h
      cases l with
      | nil => exact absurd rfl h0
      | cons y r' =>
        have hp := cutG_pos (y :: r')
        obtain ⟨m, hm⟩ : ∃ m, cutG (y :: r') = m + 1 := ⟨cutG (y :: r') - 1, by omega⟩
        rw [hm, List.take_succ_cons] at h
        cases h
        exact ⟨r', rfl⟩
theorem bunF_over : ∀ (f : Nat) (l : List Chk) (i : Nat) (g : List Chk) (x : Chk) (r : List Chk), (bunF f l)[i]? = some g → (bunF f l)[i + 1]? = some (x :: r) → overG (g ++ [x])
  | 0, l, i, g, x, r, h, _ => by simp [bunF] at h
  | f + 1, l, i, g, x, r, h, h2 => by
    rw [bunF] at h h2
    split at h
    · simp at h
    · rename_i h0
      rw [if_neg h0] at h2
      rw [List.getElem?_cons_succ] at h2
      cases i with
      | succ i =>
        rw [List.getElem?_cons_succ] at h
        exact bunF_over f _ i g x r h h2
      | zero =>
        rw [List.getElem?_cons_zero] at h
        cases h
        obtain ⟨r', hd⟩ := bunF_head h2
        have hlt : cutG l < l.length := by
          have := congrArg List.length hd
          rw [List.length_drop, List.length_cons] at this
          omega
        have hx : l[cutG l]? = some x := by
          have := congrArg (fun z => z[0]?) hd
          simpa using this
        have ht : l.take (cutG l) ++ [x] = l.take (cutG l + 1) := by rw [List.take_add_one, hx]; rfl
        have hst := cutF_stop l 63 1 rfl
        have hn : ¬okG l (cutG l) := hst
        rw [ht]
        rcases Nat.lt_or_ge 64 (l.take (cutG l + 1)).length with h1 | h1
        · exact .inl h1
        rcases Nat.lt_or_ge 1188 (encs (l.take (cutG l + 1))).length with h2 | h2
        · exact .inr (.inl h2)
        by_cases hm : mixedC (l.take (cutG l + 1))
        · exact .inr (.inr hm)
        · exact absurd ⟨hlt, by rw [List.length_take] at h1; omega, h2, hm⟩ hn
end Go.Proofs.Ytdcllpjoejkpnaa

