/- Part of a proof by an abstract run of the program's code: TmL. No condition. -/
import Derived.Test.YtkbanhfdfmodkaaTmA
import Derived.Test.YtkbanhfdfmodkaaMD
/-! What the laws of timers share: rows of numbers, sameness, two sets side by side. -/
set_option linter.unusedVariables false
namespace Vm
open Go
theorem ints_of : ∀ (els : List (List Value)) {h : Heap}, (∀ c ∈ els, Rep h (.int .i64) c) → ∃ l : List Int, els.flatten = l.map (fun z => Value.int .i64 z) ∧ l.length = els.length
  | [], _, _ => ⟨[], rfl, rfl⟩
  | x :: els, h, hx => by
    obtain ⟨l, hl, hn⟩ := ints_of els (fun c hc => hx c (by simp [hc]))
    cases hx x (by simp) with
    | @int k n hw => exact ⟨n :: l, by rw [List.flatten_cons, hl]; rfl, by rw [List.length_cons, List.length_cons, hn]⟩
/-- numbers -/
theorem RepV.ints {h : Heap} {v : Value} (r : RepV h (.slice (.int .i64)) v) : ∃ (o : Option Addr) (c : Nat) (l : List Int), v = .slice o l.length c ∧ Row h 1 o l.length (l.map fun z => Value.int .i64 z) ∧ l.length ≤ c := by
  obtain ⟨o, m, c, els, h1, h2, h3, h4, h5, h6, h7⟩ := Rep.row r
  obtain ⟨l, hl, hn⟩ := ints_of els h5
  have : m = l.length := by rw [hn, h3]
  subst this
  exact ⟨o, c, l, h1, by rw [← hl]; exact h2, h6⟩
end Vm
namespace Go.Proofs.Ytkbanhfdfmodkaa
open Go Vm
theorem w_awake (h : Heap) (n : Nat) (hn : 1 ≤ n) : ResQ (callN Try.prog G0 n (.call 8 []) h) (fun v h' => v = .bool true ∧ h = h') := by
  obtain ⟨n, rfl⟩ : ∃ m, n = m + 1 := ⟨n - 1, by omega⟩
  exact .mk _ _ rfl ⟨rfl, rfl⟩
theorem Ts.new (h : Heap) (e : Nat) : Ts (h.new (.cells e [.map none] (.own false))) h.next none [] :=
  ⟨Srt.nil, Nat.lt_succ_self _, ⟨e, by rw [Heap.get_new, if_pos rfl]⟩, [], rfl, List.Perm.refl _⟩
section
variable {rec : Rec} {L : List (Nat × Value)} {f : Fr} {dt : Nat} {h : Heap} {K : Fr → Heap → Prop} {l : List ISem} {rd : Bool} {x y : Sel} {c : Nat} {o : Option Addr} {z : Int} {d : List Int}
/-- a number of a row -/
theorem i_atR (i : Nat) {t2 : Nat} {rd2 : Bool} (hr : Row h 1 o d.length (d.map fun z => iv z)) (hx : x.f (puts L f) = .slice o d.length c) (hy : y.f (puts L f) = .int .i64 z) (hz : z = (i : Int)) (hi : i < d.length)
    (hq : ∀ u : Addr, ItQ (runItems rec l (puts ((t2, iv d[i]) :: (dt, .pointer (some u)) :: L) f) h) K) (ht : dt < 512 := by decide) : ItQ (runItems rec (iOp (put dt) (.v rd (oIndexAddrS 1 x y)) :: iOp (put t2) (.v rd2 (oLoad1 (sel dt))) :: l) (puts L f) h) K := by
  subst hz
  refine i_idx hx hr hy hi fun u hu => ?_
  subst hu
  refine i_load1 (v := iv d[i]) (u := ⟨u.block, u.off + i * 1, some 0⟩) (sel_self dt _ _) ((hr.cell (i := i * 1) (by omega) _).trans ?_) (hq _)
  simp [hi]
theorem i_atG (i : Nat) (hr : Row h 1 o d.length (d.map fun z => iv z)) (hx : x.f (puts L f) = .slice o d.length c) (hy : y.f (puts L f) = .int .i64 z) (hz : z = (i : Int)) (hi : i < d.length)
    (hq : ∀ u : Addr, load1 h.get u = some (iv d[i]) → ItQ (runItems rec l (puts ((dt, .pointer (some u)) :: L) f) h) K) : ItQ (runItems rec (iOp (put dt) (.v rd (oIndexAddrS 1 x y)) :: l) (puts L f) h) K := by
  subst hz
  refine i_idx hx hr hy hi fun u hu => ?_
  subst hu
  refine hq _ ((hr.cell (i := i * 1) (by omega) _).trans ?_)
  simp [hi]
end
theorem w_same {h : Heap} {o1 o2 : Option Addr} {c1 c2 n : Nat} {l1 l2 : List Int} (h1 : Row h 1 o1 l1.length (l1.map fun z => iv z)) (h2 : Row h 1 o2 l2.length (l2.map fun z => iv z)) (hb : l1.length ≤ 1000000) (hn : l1.length + 2 ≤ n) :
    ResQ (callN Try.prog G0 n (.call 11 [.slice o1 l1.length c1, .slice o2 l2.length c2]) h) (fun v h' => v = .bool (decide (l1 = l2)) ∧ h = h') := by
  obtain ⟨n, rfl⟩ : ∃ m, n = m + 1 := ⟨n - 1, by omega⟩
  refine res_enter rfl d11 rfl ?_; simp only [c11]
  refine gg ?_
  refine out_if (by exact sel_of rfl) (fun hif => ?_) (fun hif => ?_)
  · refine gg ?_
    exact ⟨by rw [decide_eq_false]; intro e; exact hif (by rw [e]), rfl⟩
  · have hl : l1.length = l2.length := by omega
    refine gg ?_
    refine o_up l1.length (fun i f h' => (h = h' ∧ l1.take i = l2.take i) ∧ Sl [(5, .int .i64 (i : Int)), (0, .slice o1 l1.length c1), (1, .slice o2 l2.length c2)] f) (by omega) ⟨⟨rfl, rfl⟩, sel_of rfl, sel_of rfl, sel_of rfl, trivial⟩ ?_
    rintro i f _ hi ⟨⟨rfl, he⟩, hs⟩
    obtain ⟨f0, rfl⟩ := hs.puts
    clear hs
    simp only [c11_0]
    refine gg ?_
    refine out_if (by exact sel_of rfl) (fun hif => ?_) (fun hif => ?_)
    · have hi1 : i < l1.length := by omega
      have hi2 : i < l2.length := by omega
      refine gg ?_
      refine i_atG i h1 (by exact sel_of rfl) (by exact sel_of rfl) rfl hi1 fun u hu => ?_
      refine i_load1 (by exact sel_of rfl) hu ?_
      refine gg ?_
      refine i_atG i h2 (by exact sel_of rfl) (by exact sel_of rfl) rfl hi2 fun u2 hu2 => ?_
      refine i_load1 (by exact sel_of rfl) hu2 ?_
      refine gg ?_
      refine out_if (by exact sel_of rfl) (fun hif => ?_) (fun hif => ?_)
      · refine gg ?_
        refine ⟨by rw [decide_eq_false]; intro e; subst e; exact hif rfl, rfl⟩
      · have hnn : l1[i] = l2[i] := Classical.not_not.1 hif
        refine gg ?_
        refine rnd_up (by omega) ⟨⟨rfl, ?_⟩, (sel_z rfl (by omega)), sel_of rfl, sel_of rfl, trivial⟩
        rw [List.take_succ_eq_append_getElem hi1, List.take_succ_eq_append_getElem hi2, he, hnn]
    · refine gg ?_
      refine ⟨by rw [decide_eq_true]; have e1 : i = l1.length := by omega
                 rw [e1, List.take_length, hl, List.take_length] at he; exact he, rfl⟩
/-- a set beside another -/
structure Apart (S : Nat) (mv : Option Nat) (S' : Nat) (mv' : Option Nat) : Prop where
  ss : S ≠ S'
  sm : mv' ≠ some S
  ms : mv ≠ some S'
  mm : ∀ M, mv = some M → mv' ≠ some M
theorem Apart.symm {S S' : Nat} {mv mv' : Option Nat} (a : Apart S mv S' mv') : Apart S' mv' S mv := ⟨fun e => a.ss e.symm, a.ms, a.sm, fun M e h => a.mm M h e⟩
theorem Ts.lt {h : Heap} {S : Nat} {mv : Option Nat} {m : List En} (t : Ts h S mv m) : S < h.next ∧ ∀ M, mv = some M → M < h.next :=
  ⟨t.2.1, fun M e => by subst e; obtain ⟨_, _, _, es, gm, _⟩ := t; exact gm.1⟩
theorem Ts.keepsT {h h' : Heap} {S S' : Nat} {mv mv' : Option Nat} {m : List En} (t : Ts h S mv m) (k : KeepsT S' mv' h h') (a : Apart S mv S' mv') : Ts h' S mv m := by
  obtain ⟨h1, h2, ⟨e, h3⟩, es, h4, h5⟩ := t
  refine ⟨h1, Nat.lt_of_lt_of_le h2 k.next, ⟨e, (k.get _ h2 a.ss a.sm).trans h3⟩, es, ?_, h5⟩
  cases mv with
  | none => exact h4
  | some M =>
    obtain ⟨g1, c, g2, g3⟩ := h4
    exact ⟨Nat.lt_of_lt_of_le g1 k.next, c, (k.get _ g1 (fun e => a.ms (by rw [e])) (a.mm M rfl)).trans g2, g3⟩
theorem Apart.nx {h : Heap} {S S' : Nat} {mv mv1 mv' : Option Nat} {m m' : List En} (a : Apart S mv S' mv') (t : Ts h S mv m) (t' : Ts h S' mv' m') (hx : Nx mv mv1 h.next) : Apart S mv1 S' mv' := by
  rcases hx with rfl | ⟨M, rfl, hM⟩
  · exact a
  · have := t'.lt
    refine ⟨a.ss, a.sm, fun e => ?_, fun M' e e' => ?_⟩
    · cases e; omega
    · cases e; have := this.2 _ e'; omega
theorem Row.keepsT {h h' : Heap} {S sz n : Nat} {mv : Option Nat} {o : Option Addr} {cs : List Value} (r : Row h sz o n cs) (k : KeepsT S mv h h') (ho : ∀ q, o = some q → q.block ≠ S ∧ mv ≠ some q.block) : Row h' sz o n cs := by
  refine row_lowG r k.next fun q e => ?_
  subst e
  exact k.get _ r.2.1 (ho q rfl).1 (ho q rfl).2
/-- due in two steps -/
theorem due_two {a b : Int} (hab : a ≤ b) : ∀ m : List En, Srt m → dueI a m ++ dueI b (dueR a m) = dueI b m ∧ dueR b (dueR a m) = dueR b m
  | [], _ => ⟨rfl, rfl⟩
  | p :: m, s => by
    have s' : Srt m := ⟨(List.pairwise_cons.1 s.so).2, (List.nodup_cons.1 s.nd).2⟩
    obtain ⟨e1, e2⟩ := due_two hab m s'
    unfold dueI dueR at *
    by_cases hp : p.2 ≤ a
    · simp only [List.takeWhile_cons, List.dropWhile_cons, decide_eq_true hp, if_true, decide_eq_true (Int.le_trans hp hab), List.cons_append]
      rw [e1, e2]
      exact ⟨rfl, rfl⟩
    · simp only [List.takeWhile_cons, List.dropWhile_cons, decide_eq_false hp, Bool.false_eq_true, if_false, List.nil_append, and_self]
theorem dueI_mem {a : Int} {m : List En} {e : En} (h : e ∈ dueI a m) : e ∈ m := (List.takeWhile_sublist _).subset h
end Go.Proofs.Ytkbanhfdfmodkaa

