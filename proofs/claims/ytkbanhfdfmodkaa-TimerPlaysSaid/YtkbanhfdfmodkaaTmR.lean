/- Part of a proof by an abstract run of the program's code: TmR. No condition. -/
import Derived.Test.YtkbanhfdfmodkaaTmL
import Derived.Test.YtkbanhfdfmodkaaTmO
/-! The document's timers (bollardref05), walked. -/
set_option linter.unusedVariables false
namespace Go.Proofs.Ytkbanhfdfmodkaa
open Go Vm
def encE (m : List En) : List Value := m.flatMap fun e => [iv e.1, iv e.2]
theorem encE_length : ∀ m : List En, (encE m).length = m.length * 2
  | [] => rfl
  | e :: m => by
    have := encE_length m
    simp only [encE, List.flatMap_cons, List.length_append, List.length_cons, List.length_nil] at this ⊢
    omega
theorem encE_append (a b : List En) : encE (a ++ b) = encE a ++ encE b := List.flatMap_append ..
theorem encE_take : ∀ (m : List En) (i : Nat), (encE m).take (i * 2) = encE (m.take i)
  | m, 0 => by simp [encE]
  | [], i + 1 => by simp [encE]
  | e :: m, i + 1 => by
    rw [show (i + 1) * 2 = i * 2 + 1 + 1 by omega]
    show iv e.1 :: iv e.2 :: (encE m).take (i * 2) = _
    rw [encE_take m i]; rfl
theorem encE_drop : ∀ (m : List En) (i : Nat), (encE m).drop (i * 2) = encE (m.drop i)
  | m, 0 => by simp [encE]
  | [], i + 1 => by simp [encE]
  | e :: m, i + 1 => by
    rw [show (i + 1) * 2 = i * 2 + 1 + 1 by omega]
    show (encE m).drop (i * 2) = _
    rw [encE_drop m i]; rfl
theorem encE_at : ∀ (m : List En) (i : Nat) (h : i < m.length), (encE m)[i * 2 + 0]? = some (iv m[i].1) ∧ (encE m)[i * 2 + 1]? = some (iv m[i].2)
  | e :: m, 0, _ => ⟨rfl, rfl⟩
  | e :: m, i + 1, h => by
    obtain ⟨a, b⟩ := encE_at m i (by simpa using h)
    rw [show (i + 1) * 2 + 0 = i * 2 + 0 + 1 + 1 by omega, show (i + 1) * 2 + 1 = i * 2 + 1 + 1 + 1 by omega]
    exact ⟨a, b⟩
section
variable {rec : Rec} {L : List (Nat × Value)} {f : Fr} {dt : Nat} {h : Heap} {K : Fr → Heap → Prop} {l : List ISem} {rd : Bool} {x y : Sel} {c : Nat} {o : Option Addr} {z : Int} {m : List En}
/-- an entry's place -/
theorem i_atE (i : Nat) (hr : Row h 2 o m.length (encE m)) (hx : x.f (puts L f) = .slice o m.length c) (hy : y.f (puts L f) = .int .i64 z) (hz : z = (i : Int)) (hi : i < m.length)
    (hq : ∀ u : Addr, load1 h.get ⟨u.block, u.off + 0, u.spot⟩ = some (iv m[i].1) → load1 h.get ⟨u.block, u.off + 1, u.spot⟩ = some (iv m[i].2) → loadN h.get u 2 = some [iv m[i].1, iv m[i].2] → ItQ (runItems rec l (puts ((dt, .pointer (some u)) :: L) f) h) K) : ItQ (runItems rec (iOp (put dt) (.v rd (oIndexAddrS 2 x y)) :: l) (puts L f) h) K := by
  subst hz
  refine i_idx hx hr hy hi fun u hu => ?_
  subst hu
  obtain ⟨h1, h2⟩ := encE_at m i hi
  refine hq _ ?_ ?_ ?_
  · exact (by rw [Nat.add_assoc]; exact (hr.cell (i := i * 2 + 0) (by omega) _).trans h1)
  · exact (by rw [Nat.add_assoc]; exact (hr.cell (i := i * 2 + 1) (by omega) _).trans h2)
  · rw [hr.cells (i := i * 2) (m := 2) (by omega), encE_drop, List.drop_eq_getElem_cons hi]
    rfl
end
section
variable {h : Heap} {o : Option Addr} {c n : Nat} {m : List En} {x v now : Int}
theorem w_rstop (hr : Row h 2 o m.length (encE m)) (hbig : m.length ≤ 1000) (hn : m.length + 2 ≤ n) :
    ResQ (callN Try.prog G0 n (.call 15 [.slice o m.length c, iv x]) h) (fun u h' => ∃ o' : Option Addr, u = .slice o' (stopP x m).length (stopP x m).length ∧ Row h' 2 o' (stopP x m).length (encE (stopP x m)) ∧ Keeps h h' ∧ ∀ q, o' = some q → h.next ≤ q.block) := by
  obtain ⟨n, rfl⟩ : ∃ m, n = m + 1 := ⟨n - 1, by omega⟩
  refine res_enter rfl d15 rfl ?_; simp only [c15]
  refine gg ?_
  refine o_up m.length (fun i f h' => ∃ oo : Option Addr, (Ap h.next h' 49 2 oo (stopP x (m.take i)).length (stopP x (m.take i)).length (encE (stopP x (m.take i))) ∧ (∀ q, oo = some q → h.next ≤ q.block) ∧ Keeps h h') ∧ Sl [(5, .slice oo (stopP x (m.take i)).length (stopP x (m.take i)).length), (6, .int .i64 (i : Int)), (0, .slice o m.length c), (1, iv x)] f) (by omega) ⟨none, ⟨Ap.nil _ _ _ _, (fun q e => nomatch e), Keeps.refl h⟩, sel_of rfl, sel_of rfl, sel_of rfl, sel_of rfl, trivial⟩ ?_
  rintro i f h1 hi ⟨oo, ⟨ap, ho, k⟩, hs⟩
  obtain ⟨f0, rfl⟩ := hs.puts
  clear hs
  simp only [c15_0]
  refine gg ?_
  refine out_if (by exact sel_of rfl) (fun hif => ?_) (fun hif => ?_)
  · have hi1 : i < m.length := by omega
    have e1 : stopP x (m.take (i + 1)) = stopP x (m.take i) ++ (if m[i].1 != x then [m[i]] else []) := by
      rw [List.take_succ_eq_append_getElem hi1]
      simp only [stopP, List.filter_append, List.filter_cons, List.filter_nil]
    have hsl : (stopP x (m.take i)).length ≤ m.length := by
      have h1 : (stopP x (m.take i)).length ≤ (m.take i).length := List.length_filter_le ..
      have h2 : (m.take i).length ≤ m.length := List.length_take_le' ..
      omega
    refine gg ?_
    refine i_atE i (hr.keeps k) (by exact sel_of rfl) (by exact sel_of rfl) rfl hi1 (fun u l0 l1 lN => ?_)
    refine gg ?_
    refine i_load1 (by exact sel_of rfl) l0 ?_
    refine gg ?_
    refine out_if (by exact sel_of rfl) (fun hif => ?_) (fun hif => ?_)
    · have e2 : stopP x (m.take (i + 1)) = stopP x (m.take i) ++ [m[i]] := by rw [e1, if_pos (by simpa using hif)]
      refine gg ?_
      refine i_atE i (hr.keeps k) (by exact sel_of rfl) (by exact sel_of rfl) rfl hi1 (fun u l0 l1 lN => ?_)
      refine i_loadN (by exact sel_of rfl) lN ?_
      refine i_bslice (cs := [iv m[i].1, iv m[i].2]) (by rfl) ?_
      have src4 : srcCells (h1.new (.cells 49 [iv m[i].1, iv m[i].2] (.own false))).get 2 (.slice (some ⟨h1.next, 0, none⟩) 1 1) = some (1, [iv m[i].1, iv m[i].2]) := (Row.new (by simp) rfl (.inl rfl)).src (c := 1)
      have k2 := Keeps.new h1 (.cells 49 [iv m[i].1, iv m[i].2] (.own false))
      generalize h1.new (.cells 49 [iv m[i].1, iv m[i].2] (.own false)) = h2 at *
      refine i_app (h0 := h) (t := (stopP x (m.take (i + 1))).length) (es := encE (stopP x (m.take (i + 1)))) (k.trans k2) (by decide) (by exact sel_of rfl) (ap.keeps k2) src4 rfl (by omega) (by rw [e2, List.length_append]; rfl) (by rw [e2, encE_append]; rfl) fun o' h3 k3 ap3 hoo => ?_
      refine gg ?_
      refine rnd_up hi1 ⟨o', ⟨ap3, fun q e => ?_, k3⟩, sel_of rfl, (sel_z rfl (by omega)), sel_of rfl, sel_of rfl, trivial⟩
      rcases hoo with rfl | hoo
      · exact ho q e
      · exact hoo q e
    · have e2 : stopP x (m.take (i + 1)) = stopP x (m.take i) := by rw [e1, if_neg (by simpa using hif), List.append_nil]
      refine gg ?_
      refine rnd_up hi1 ⟨oo, ⟨by rw [e2]; exact ap, ho, k⟩, ?_⟩
      rw [e2]
      exact ⟨sel_of rfl, (sel_z rfl (by omega)), sel_of rfl, sel_of rfl, trivial⟩
  · have he : i = m.length := by omega
    subst he
    rw [List.take_length] at *
    refine gg ?_
    exact ⟨oo, rfl, ap.row, k, ho⟩
/-- where one comes -/
theorem ins_at {p : En} : ∀ (i : Nat) (m : List En), (∀ e ∈ m.take i, bf e p = true) → (m.drop i = [] ∨ ∃ q r, m.drop i = q :: r ∧ bf q p = false) → insP p m = m.take i ++ p :: m.drop i
  | 0, [], _, _ => rfl
  | 0, q :: m, _, h => by
    rcases h with h | ⟨q', r, h, hn⟩
    · cases h
    · cases h
      rw [insP, if_neg (by rw [hn]; simp)]
      rfl
  | i + 1, [], _, _ => rfl
  | i + 1, q :: m, h1, h2 => by
    have hq : bf q p = true := h1 q (List.mem_cons_self ..)
    rw [insP, if_pos hq, ins_at i m (fun e he => h1 e (List.mem_cons_of_mem _ he)) h2]
    rfl
set_option maxHeartbeats 1000000 in
theorem w_rstart (hr : Row h 2 o m.length (encE m)) (hbig : m.length ≤ 1000) (hn : m.length + 4 ≤ n) :
    ResQ (callN Try.prog G0 n (.call 13 [.slice o m.length c, iv x, iv v]) h) (fun u h' => ∃ o' : Option Addr, u = .slice o' (startP x v m).length (startP x v m).length ∧ Row h' 2 o' (startP x v m).length (encE (startP x v m)) ∧ Keeps h h' ∧ ∀ q, o' = some q → h.next ≤ q.block) := by
  have hsl : (stopP x m).length ≤ m.length := List.length_filter_le ..
  obtain ⟨n, rfl⟩ : ∃ m, n = m + 1 := ⟨n - 1, by omega⟩
  refine res_enter rfl d13 rfl ?_; simp only [c13]
  refine gg ?_
  refine i_call2 (by exact sel_of rfl) (by exact sel_of rfl) (w_rstop hr hbig (by omega)) ?_
  rintro _ h1 ⟨o1, rfl, r1, k1, ho1⟩
  unfold startP
  generalize stopP x m = m1 at *
  refine gg ?_
  refine o_cutT (fun f h' => ∃ i : Nat, (h1 = h' ∧ i ≤ m1.length ∧ insP (x, v) m1 = m1.take i ++ (x, v) :: m1.drop i) ∧ Sl [(7, .int .i64 (i : Int)), (0, .slice o1 m1.length m1.length), (1, iv x), (2, iv v)] f) ?_ ?_
  · refine o_up m1.length (fun i f h' => (h1 = h' ∧ ∀ e ∈ m1.take i, bf e (x, v) = true) ∧ Sl [(7, .int .i64 (i : Int)), (0, .slice o1 m1.length m1.length), (1, iv x), (2, iv v)] f) (by omega) ⟨⟨rfl, fun e he => nomatch he⟩, sel_of rfl, sel_of rfl, sel_of rfl, sel_of rfl, trivial⟩ ?_
    rintro i f _ hi ⟨⟨rfl, hb⟩, hs⟩
    obtain ⟨f0, rfl⟩ := hs.puts
    clear hs
    simp only [c13_0]
    refine gg ?_
    by_cases hil : i < m1.length
    · have hdr : m1.drop i = m1[i] :: m1.drop (i + 1) := List.drop_eq_getElem_cons hil
      have next : bf m1[i] (x, v) = true → ∀ e ∈ m1.take (i + 1), bf e (x, v) = true := fun hy e he => by
        rw [List.take_succ_eq_append_getElem hil, List.mem_append] at he
        rcases he with he | he
        · exact hb e he
        · simp only [List.mem_cons, List.not_mem_nil, or_false] at he; rw [he]; exact hy
      have stop : bf m1[i] (x, v) = false → insP (x, v) m1 = m1.take i ++ (x, v) :: m1.drop i := fun hy => ins_at i m1 hb (.inr ⟨_, _, hdr, hy⟩)
      refine gg ?_
      refine i_atE i r1 (by exact sel_of rfl) (by exact sel_of rfl) rfl hil (fun u l0 l1 lN => ?_)
      refine gg ?_
      refine i_load1 (by exact sel_of rfl) l1 ?_
      refine gg ?_
      by_cases c1 : m1[i].2 < v
      · refine gg ?_
        exact rnd_up hil ⟨⟨rfl, next (by simp only [bf, decide_eq_true_eq]; exact .inl c1)⟩, (sel_z rfl (by omega)), sel_of rfl, sel_of rfl, sel_of rfl, trivial⟩
      · refine gg ?_
        refine i_atE i r1 (by exact sel_of rfl) (by exact sel_of rfl) rfl hil (fun u l0 l1 lN => ?_)
        refine gg ?_
        refine i_load1 (by exact sel_of rfl) l1 ?_
        refine gg ?_
        by_cases c2 : m1[i].2 = v
        · refine gg ?_
          refine i_atE i r1 (by exact sel_of rfl) (by exact sel_of rfl) rfl hil (fun u l0 l1 lN => ?_)
          refine gg ?_
          refine i_load1 (by exact sel_of rfl) l0 ?_
          refine gg ?_
          by_cases c3 : m1[i].1 < x
          · refine gg ?_
            exact rnd_up hil ⟨⟨rfl, next (by simp only [bf, decide_eq_true_eq]; exact .inr ⟨c2, c3⟩)⟩, (sel_z rfl (by omega)), sel_of rfl, sel_of rfl, sel_of rfl, trivial⟩
          · refine gg ?_
            exact ⟨rfl, i, ⟨rfl, hi, stop (by simp only [bf, decide_eq_false_iff_not]; omega)⟩, sel_of rfl, sel_of rfl, sel_of rfl, sel_of rfl, trivial⟩
        · refine gg ?_
          exact ⟨rfl, i, ⟨rfl, hi, stop (by simp only [bf, decide_eq_false_iff_not]; omega)⟩, sel_of rfl, sel_of rfl, sel_of rfl, sel_of rfl, trivial⟩
    · refine gg ?_
      exact ⟨rfl, i, ⟨rfl, hi, ins_at i m1 hb (.inl (List.drop_eq_nil_of_le (by omega)))⟩, sel_of rfl, sel_of rfl, sel_of rfl, sel_of rfl, trivial⟩
  rintro f _ ⟨i, ⟨rfl, hi, he⟩, hs⟩
  obtain ⟨f0, rfl⟩ := hs.puts
  clear hs
  have hlt : (m1.take i).length = i := by rw [List.length_take]; omega
  have hld : (m1.drop i).length = m1.length - i := List.length_drop ..
  refine gg ?_
  refine i_sl_hi (i := i) (by exact sel_of rfl) r1 (Nat.le_refl _) (by exact sel_of rfl) hi fun r2 => ?_
  rw [encE_take] at r2
  refine i_app (h0 := h1) (t := i) (es := encE (m1.take i)) (Keeps.refl h1) (by decide) (by exact sel_of rfl) (Ap.nil _ _ _ _) (by rw [sel_of rfl]; exact r2.src (c := m1.length)) (by rw [encE_length, hlt]) (by omega) (by omega) (by rfl) fun o3 h3 k3 ap3 hoo3 => ?_
  refine gg ?_
  refine i_bslice (cs := [iv x, iv v]) (by rfl) ?_
  have src4 : srcCells (h3.new (.cells 49 [iv x, iv v] (.own false))).get 2 (.slice (some ⟨h3.next, 0, none⟩) 1 1) = some (1, [iv x, iv v]) := (Row.new (by simp) rfl (.inl rfl)).src (c := 1)
  have k4 := Keeps.new h3 (.cells 49 [iv x, iv v] (.own false))
  generalize h3.new (.cells 49 [iv x, iv v] (.own false)) = h4 at *
  refine i_app (h0 := h1) (t := i + 1) (es := encE (m1.take i ++ [(x, v)])) (k3.trans k4) (by decide) (by exact sel_of rfl) (ap3.keeps k4) src4 rfl (by omega) rfl (by rw [encE_append]; rfl) fun o5 h5 k5 ap5 hoo5 => ?_
  refine gg ?_
  refine i_sl_lo (i := i) (by exact sel_of rfl) (r1.keeps k5) (Nat.le_refl _) (by exact sel_of rfl) hi fun o6 ho6 r6 => ?_
  rw [encE_drop] at r6
  have hl7 : (insP (x, v) m1).length = i + 1 + (m1.length - i) := by
    rw [he, List.length_append, List.length_cons, hlt, hld]; omega
  refine i_app (h0 := h1) (t := (insP (x, v) m1).length) (es := encE (insP (x, v) m1)) k5 (by decide) (by exact sel_of rfl) ap5 (by rw [sel_of rfl]; exact r6.src (c := m1.length - i)) (by rw [encE_length, hld]) (by omega) hl7.symm (by rw [he, ← encE_append, List.append_assoc]; rfl) fun o7 h7 k7 ap7 hoo7 => ?_
  refine gg ?_
  refine ⟨o7, rfl, ap7.row, k1.trans k7, fun q e => ?_⟩
  have n1 := k1.next
  have g3 : ∀ q, o3 = some q → h1.next ≤ q.block := by
    rcases hoo3 with rfl | hoo3
    · intro q e; cases e
    · exact hoo3
  have g5 : ∀ q, o5 = some q → h1.next ≤ q.block := by
    rcases hoo5 with rfl | hoo5
    · exact g3
    · exact hoo5
  rcases hoo7 with rfl | hoo7
  · have := g5 q e; omega
  · have := hoo7 q e; omega
end
end Go.Proofs.Ytkbanhfdfmodkaa

/-! The document's Due and At, walked. -/
set_option linter.unusedVariables false
namespace Go.Proofs.Ytkbanhfdfmodkaa
open Go Vm
theorem row_at {h h' : Heap} {sz n : Nat} {o : Option Addr} {cs : List Value} (r : Row h sz o n cs) (hg : ∀ q, o = some q → q.block < h'.next ∧ h'.get q.block = h.get q.block) : Row h' sz o n cs := by
  obtain ⟨h1, h2⟩ := r
  refine ⟨h1, ?_⟩
  cases o with
  | none => exact h2
  | some q =>
    obtain ⟨h3, h4, h5⟩ := h2
    refine ⟨(hg q rfl).1, h4, ?_⟩
    obtain ⟨e, l, st, g, hst, hlen, hcs⟩ := loadN_dead h5
    rw [loadN_of (q := q) (by rw [(hg q rfl).2]; exact g) hst hlen, hcs]
theorem at_find {x : Int} : ∀ (i : Nat) (m : List En), (∀ e ∈ m.take i, e.1 ≠ x) → (m.drop i = [] → atP m x = none) ∧ ∀ p r, m.drop i = p :: r → p.1 = x → atP m x = some p.2
  | 0, [], _ => ⟨fun _ => rfl, fun p r h => (nomatch h)⟩
  | 0, q :: m, _ => ⟨fun h => (nomatch h), fun p r h hp => by cases h; simp [atP, hp]⟩
  | i + 1, [], _ => ⟨fun _ => rfl, fun p r h => (nomatch h)⟩
  | i + 1, q :: m, h => by
    have hq : (q.1 == x) = false := by simpa using h q (List.mem_cons_self ..)
    have e : atP (q :: m) x = atP m x := by unfold atP; rw [List.find?_cons]; simp only [hq]
    rw [e]
    exact at_find i m (fun e he => h e (List.mem_cons_of_mem _ he))
section
variable {h : Heap} {o : Option Addr} {c n : Nat} {m : List En} {x v now : Int}
theorem w_rat (hr : Row h 2 o m.length (encE m)) (hbig : m.length ≤ 1000) (hn : m.length + 2 ≤ n) :
    ResQ (callN Try.prog G0 n (.call 18 [.slice o m.length c, iv x]) h) (fun u h' => u = .tuple #[iv ((atP m x).getD 0), .bool (atP m x).isSome] ∧ h = h') := by
  obtain ⟨n, rfl⟩ : ∃ m, n = m + 1 := ⟨n - 1, by omega⟩
  refine res_enter rfl d18 rfl ?_; simp only [c18]
  refine gg ?_
  refine o_up m.length (fun i f h' => (h = h' ∧ ∀ e ∈ m.take i, e.1 ≠ x) ∧ Sl [(6, .int .i64 (i : Int)), (0, .slice o m.length c), (1, iv x)] f) (by omega) ⟨⟨rfl, fun e he => nomatch he⟩, sel_of rfl, sel_of rfl, sel_of rfl, trivial⟩ ?_
  rintro i f _ hi ⟨⟨rfl, hb⟩, hs⟩
  obtain ⟨f0, rfl⟩ := hs.puts
  clear hs
  simp only [c18_0]
  refine gg ?_
  refine out_if (by exact sel_of rfl) (fun hif => ?_) (fun hif => ?_)
  · have hil : i < m.length := by omega
    have hdr : m.drop i = m[i] :: m.drop (i + 1) := List.drop_eq_getElem_cons hil
    refine gg ?_
    refine i_atE i hr (by exact sel_of rfl) (by exact sel_of rfl) rfl hil (fun u l0 l1 lN => ?_)
    refine gg ?_
    refine i_load1 (by exact sel_of rfl) l0 ?_
    refine gg ?_
    refine out_if (by exact sel_of rfl) (fun hif => ?_) (fun hif => ?_)
    · have e := (at_find i m hb).2 _ _ hdr (by omega)
      refine gg ?_
      refine i_atE i hr (by exact sel_of rfl) (by exact sel_of rfl) rfl hil (fun u l0 l1 lN => ?_)
      refine gg ?_
      refine i_load1 (by exact sel_of rfl) l1 ?_
      refine gg ?_
      rw [e]
      exact ⟨rfl, rfl⟩
    · refine gg ?_
      refine rnd_up hil ⟨⟨rfl, fun e he => ?_⟩, (sel_z rfl (by omega)), sel_of rfl, sel_of rfl, trivial⟩
      rw [List.take_succ_eq_append_getElem hil, List.mem_append] at he
      rcases he with he | he
      · exact hb e he
      · simp only [List.mem_cons, List.not_mem_nil, or_false] at he; rw [he]; exact hif
  · have e := (at_find i m hb).1 (List.drop_eq_nil_of_le (by omega))
    refine gg ?_
    rw [e]
    exact ⟨rfl, rfl⟩
set_option maxHeartbeats 1000000 in
theorem w_rdue (hr : Row h 2 o m.length (encE m)) (hc : m.length ≤ c) (hbig : m.length ≤ 1000) (hn : m.length + 2 ≤ n) :
    ResQ (callN Try.prog G0 n (.call 16 [.slice o m.length c, iv now]) h) (fun u h' => ∃ (o1 o2 : Option Addr) (c2 : Nat), u = .tuple #[.slice o1 (dueI now m).length (dueI now m).length, .slice o2 (dueR now m).length c2] ∧ Row h' 1 o1 (dueI now m).length ((dueI now m).map fun e => iv e.1) ∧ Row h' 2 o2 (dueR now m).length (encE (dueR now m)) ∧ (dueR now m).length ≤ c2 ∧ Keeps h h' ∧ (∀ q, o1 = some q → h.next ≤ q.block) ∧ ∀ q, o2 = some q → ∃ q0, o = some q0 ∧ q.block = q0.block) := by
  obtain ⟨n, rfl⟩ : ∃ m, n = m + 1 := ⟨n - 1, by omega⟩
  refine res_enter rfl d16 rfl ?_; simp only [c16]
  refine gg ?_
  have fin : ∀ {i : Nat} {h' : Heap} {oo ol : Option Addr} {cl : Nat}, i ≤ m.length → Ap h.next h' 3 1 oo i i ((m.take i).map fun e => iv e.1) → (∀ q, oo = some q → h.next ≤ q.block) → Keeps h h' → (∀ e ∈ m.take i, e.2 ≤ now) → Row h' 2 ol (m.drop i).length (encE (m.drop i)) → (m.drop i).length ≤ cl → (∀ q, ol = some q → ∃ q0, o = some q0 ∧ q.block = q0.block) → (m.drop i = [] ∨ ∃ p r, m.drop i = p :: r ∧ ¬ p.2 ≤ now) →
      ∃ (o1 o2 : Option Addr) (c2 : Nat), Value.tuple #[.slice oo i i, .slice ol (m.drop i).length cl] = .tuple #[.slice o1 (dueI now m).length (dueI now m).length, .slice o2 (dueR now m).length c2] ∧ Row h' 1 o1 (dueI now m).length ((dueI now m).map fun e => iv e.1) ∧ Row h' 2 o2 (dueR now m).length (encE (dueR now m)) ∧ (dueR now m).length ≤ c2 ∧ Keeps h h' ∧ (∀ q, o1 = some q → h.next ≤ q.block) ∧ ∀ q, o2 = some q → ∃ q0, o = some q0 ∧ q.block = q0.block := by
    intro i h' oo ol cl hi ap ho k hle rl hcl hol hend
    obtain ⟨e1, e2⟩ := due_at i m hle hend
    have e3 : dueI now m = m.take i := e1
    have e4 : dueR now m = m.drop i := e2
    rw [e3, e4]
    have hli : (m.take i).length = i := by rw [List.length_take]; omega
    rw [hli]
    exact ⟨oo, ol, cl, rfl, ap.row, rl, hcl, k, ho, hol⟩
  refine o_up m.length (fun i f h' => ∃ (oo ol : Option Addr) (cl : Nat), (Ap h.next h' 3 1 oo i i ((m.take i).map fun e => iv e.1) ∧ (∀ q, oo = some q → h.next ≤ q.block) ∧ Keeps h h' ∧ (∀ e ∈ m.take i, e.2 ≤ now) ∧ Row h' 2 ol (m.drop i).length (encE (m.drop i)) ∧ (m.drop i).length ≤ cl ∧ (∀ q, ol = some q → ∃ q0, o = some q0 ∧ q.block = q0.block)) ∧ Sl [(6, .slice oo i i), (0, .slice ol (m.drop i).length cl), (1, iv now)] f) (by omega) ⟨none, o, c, ⟨Ap.nil _ _ _ _, (fun q e => nomatch e), Keeps.refl h, (fun e he => nomatch he), hr, hc, fun q e => ⟨q, e, rfl⟩⟩, sel_of rfl, sel_of rfl, sel_of rfl, trivial⟩ ?_
  rintro i f h1 hi ⟨oo, ol, cl, ⟨ap, ho, k, hle, rl, hcl, hol⟩, hs⟩
  obtain ⟨f0, rfl⟩ := hs.puts
  clear hs
  simp only [c16_0]
  have hld : (m.drop i).length = m.length - i := List.length_drop ..
  refine gg ?_
  by_cases hil : i < m.length
  · have hdr : m.drop i = m[i] :: m.drop (i + 1) := List.drop_eq_getElem_cons hil
    have h0 : 0 < (m.drop i).length := by omega
    have g0 : (m.drop i)[0] = m[i] := by simp
    refine gg ?_
    refine i_atE 0 rl (by exact sel_of rfl) (by exact const_of) rfl h0 (fun u l0 l1 lN => ?_)
    rw [g0] at l1
    refine gg ?_
    refine i_load1 (by exact sel_of rfl) l1 ?_
    refine gg ?_
    refine out_if (by exact sel_of rfl) (fun hif => ?_) (fun hif => ?_)
    · refine gg ?_
      refine i_atE 0 rl (by exact sel_of rfl) (by exact const_of) rfl h0 (fun u l0 l1 lN => ?_)
      rw [g0] at l0
      refine gg ?_
      refine i_load1 (by exact sel_of rfl) l0 ?_
      have src4 : srcCells (h1.new (.cells 3 [iv m[i].1] (.own false))).get 1 (.slice (some ⟨h1.next, 0, none⟩) 1 1) = some (1, [iv m[i].1]) := (Row.new (by simp) rfl (.inl rfl)).src (c := 1)
      have k2 := Keeps.new h1 (.cells 3 [iv m[i].1] (.own false))
      refine gg ?_
      show ItQ (runItems _ _ _ (h1.new (.cells 3 [iv m[i].1] (.own false)))) _
      have r2 := rl.keeps k2
      have ap2 := ap.keeps k2
      have k02 := k.trans k2
      have ho2 : ∀ q, oo = some q → q.block < h1.next := fun q e => by subst e; exact ap.row.2.1
      generalize h1.new (.cells 3 [iv m[i].1] (.own false)) = h2 at *
      refine i_app (h0 := h) (t := i + 1) (es := (m.take (i + 1)).map fun e => iv e.1) k02 (by decide) (by exact sel_of rfl) ap2 src4 rfl (by omega) rfl (by rw [List.take_succ_eq_append_getElem hil, List.map_append]; rfl) fun o' h3 k3 ap3 hoo => ?_
      refine gg ?_
      have r3 : Row h3 2 ol (m.drop i).length (encE (m.drop i)) := row_at r2 fun q e => by
        obtain ⟨q0, e0, eb⟩ := hol q e
        subst e0
        have : q0.block < h.next := hr.2.1
        rw [eb]
        exact ⟨by have := k3.next; omega, (k3.get _ this).trans (k02.get _ this).symm⟩
      refine i_sl_lo (i := 1) (by exact sel_of rfl) r3 hcl (by exact const_of) (by omega) fun o6 ho6 r6 => ?_
      have e7 : (m.drop i).length - 1 = (m.drop (i + 1)).length := by rw [List.length_drop, List.length_drop]; omega
      rw [encE_drop, List.drop_drop, e7] at r6
      rw [e7]
      refine gg ?_
      refine rnd_up hil ⟨o', o6, cl - 1, ⟨ap3, fun q e => ?_, k3, fun e he => ?_, r6, by omega, fun q e => ?_⟩, sel_of rfl, sel_of rfl, sel_of rfl, trivial⟩
      · rcases hoo with rfl | hoo
        · exact ho q e
        · exact hoo q e
      · rw [List.take_succ_eq_append_getElem hil, List.mem_append] at he
        rcases he with he | he
        · exact hle e he
        · simp only [List.mem_cons, List.not_mem_nil, or_false] at he; subst he; exact hif
      · obtain ⟨q1, e1, eb1⟩ := ho6 q e
        obtain ⟨q0, e0, eb0⟩ := hol q1 e1
        exact ⟨q0, e0, by rw [eb1, eb0]⟩
    · refine gg ?_
      exact fin hi ap ho k hle rl hcl hol (.inr ⟨_, _, hdr, hif⟩)
  · have he : m.drop i = [] := List.drop_eq_nil_of_le (by omega)
    refine gg ?_
    exact fin hi ap ho k hle rl hcl hol (.inl he)
end
end Go.Proofs.Ytkbanhfdfmodkaa

