/- Part of a proof by an abstract run of the program's code: TmU. No condition. -/
import Derived.Test.YtkbanhfdfmodkaaTmO
/-! The law TimerOnce. -/
set_option linter.unusedVariables false
namespace Go.Proofs.Ytkbanhfdfmodkaa
open Go Vm
theorem due_mem {x : Int} : ∀ {m : List En}, Srt m → ∀ e : En, (e ∈ dueI x m ↔ e ∈ m ∧ e.2 ≤ x) ∧ (e ∈ dueR x m ↔ e ∈ m ∧ ¬ e.2 ≤ x)
  | [], _, e => ⟨⟨fun h => (nomatch h), fun h => (nomatch h.1)⟩, ⟨fun h => (nomatch h), fun h => (nomatch h.1)⟩⟩
  | p :: m, s, e => by
    have s' : Srt m := ⟨(List.pairwise_cons.1 s.so).2, (List.nodup_cons.1 s.nd).2⟩
    obtain ⟨i1, i2⟩ := due_mem (x := x) s' e
    unfold dueI dueR at *
    by_cases hp : p.2 ≤ x
    · simp only [List.takeWhile_cons, List.dropWhile_cons, decide_eq_true hp, if_true, List.mem_cons]
      rw [i1, i2]
      constructor
      · constructor
        · rintro (rfl | h)
          · exact ⟨.inl rfl, hp⟩
          · exact ⟨.inr h.1, h.2⟩
        · rintro ⟨rfl | h, h2⟩
          · exact .inl rfl
          · exact .inr ⟨h, h2⟩
      · constructor
        · rintro h; exact ⟨.inr h.1, h.2⟩
        · rintro ⟨rfl | h, h2⟩
          · exact absurd hp h2
          · exact ⟨h, h2⟩
    · simp only [List.takeWhile_cons, List.dropWhile_cons, decide_eq_false hp, Bool.false_eq_true, if_false, List.not_mem_nil, false_iff]
      have hall : ∀ e ∈ p :: m, ¬ e.2 ≤ x := fun e he => by
        rcases List.mem_cons.1 he with rfl | he
        · exact hp
        · have := (List.pairwise_cons.1 s.so).1 e he
          simp only [bf, decide_eq_true_eq] at this
          omega
      exact ⟨fun h => hall e h.1 h.2, ⟨fun h => ⟨h, hall e h⟩, fun h => h.1⟩⟩
theorem key_fresh {E : List En} (nd : (E.map keyP).Nodup) {j : Nat} (hj : j < E.length) : (E[j]).1 ∉ (E.take j).map keyP := by
  intro h
  obtain ⟨e, he, hk⟩ := List.mem_map.1 h
  obtain ⟨i, hi, rfl⟩ := List.getElem_of_mem he
  rw [List.length_take] at hi
  rw [List.getElem_take] at hk
  rw [List.Nodup, List.pairwise_map] at nd
  exact List.pairwise_iff_getElem.1 nd i j (by omega) hj (by omega) hk
theorem rep_bool (n : Nat) : rep n [Value.bool false] = (List.replicate n false).map Value.bool := by
  induction n with
  | zero => rfl
  | succ n ih =>
    show Value.bool false :: rep n [Value.bool false] = _
    rw [ih]; rfl
section
variable {rec : Rec} {L : List (Nat × Value)} {f : Fr} {dt : Nat} {h : Heap} {K : Fr → Heap → Prop} {l : List ISem} {rd : Bool} {x y : Sel} {c : Nat} {o : Option Addr} {z : Int} {X : Nat} {mt : List Bool}
theorem i_neb {a b : Bool} (hx : x.f (puts L f) = .bool a) (hy : y.f (puts L f) = .bool b) (hq : ItQ (runItems rec l (puts ((dt, .bool (a != b)) :: L) f) h) K) : ItQ (runItems rec (iOp (put dt) (.v rd (oNe (.one 0) x y)) :: l) (puts L f) h) K := by
  refine i_v ?_ hq
  simp only [oNe, hx, hy]
  cases a <;> cases b <;> rfl
/-- cut behind the region and the branch that it feeds -/
theorem i_cutE {n : Nat} {a : Fr} {C R : Vm.Sem} {Q : Ex → Fr → Heap → Prop} (Mid : Fr → Heap → Prop) (h1 : ItQ (runItems rec l a h) (Nrm (Then C rec n (fun e a h => (e = .normal ∧ Mid a h) ∨ (e ≠ .normal ∧ Q e a h))))) (h2 : ∀ a h, Mid a h → OutQ (R.f rec n a h) Q) : ItQ (runItems rec l a h) (Nrm (Then C rec n (Then R rec n Q))) :=
  h1.mono fun a h (hk : OutQ (C.f rec n a h) _) => show OutQ (C.f rec n a h) _ from hk.mono fun e a h hk => by
    rcases hk with ⟨rfl, hm⟩ | ⟨hne, hq⟩
    · exact h2 a h hm
    · cases e <;> first | exact absurd rfl hne | exact hq
/-- a truth of a row -/
theorem i_atB (i : Nat) {N : Nat} (hg : h.get X = some (.cells c (mt.map Value.bool) (.own false))) (hx : x.f (puts L f) = .slice (some ⟨X, 0, none⟩) N N) (hy : y.f (puts L f) = .int .i64 z) (hz : z = (i : Int)) (hi : i < N) (hm : mt.length = N)
    (hq : load1 h.get ⟨X, i, some 0⟩ = some (.bool mt[i]!) → ItQ (runItems rec l (puts ((dt, .pointer (some ⟨X, i, some 0⟩)) :: L) f) h) K) : ItQ (runItems rec (iOp (put dt) (.v rd (oIndexAddrS 1 x y)) :: l) (puts L f) h) K := by
  subst hz
  refine i_v ?_ (hq ?_)
  · simp only [oIndexAddrS, hx, hy, idx_nat hi, Nat.zero_add, Nat.mul_one]
  · rw [load1_own hg]
    simp [show i < mt.length by omega]
theorem set_get (l : List Bool) (p k : Nat) (hk : k < l.length) : (l.set p true)[k]! = if p = k then true else l[k]! := by
  simp [hk, List.getElem_set]
theorem Ts.keepsB {h h' : Heap} {S X : Nat} {mv : Option Nat} {m : List En} (t : Ts h S mv m) (k : KeepsB X h h') (hS : S ≠ X) (hM : ∀ M, mv = some M → M ≠ X) : Ts h' S mv m := by
  obtain ⟨h1, h2, ⟨e, h3⟩, es, h4, h5⟩ := t
  refine ⟨h1, Nat.lt_of_lt_of_le h2 k.next, ⟨e, (k.get _ h2 hS).trans h3⟩, es, ?_, h5⟩
  cases mv with
  | none => exact h4
  | some M =>
    obtain ⟨g1, c, g2, g3⟩ := h4
    exact ⟨Nat.lt_of_lt_of_le g1 k.next, c, (k.get _ g1 (hM M rfl)).trans g2, g3⟩
end
set_option maxHeartbeats 4000000 in
theorem w_lonce {ts qs : List Int} {h : Heap} {o oa : Option Addr} {c ca : Nat} (hr : Row h 1 o ts.length (ts.map fun z => iv z)) (hra : Row h 1 oa qs.length (qs.map fun z => iv z)) (n : Nat) (hn : 1000 ≤ n) :
    ResQ (callN Try.prog G0 n (.call 3 [.slice o ts.length c, .slice oa qs.length ca]) h) (fun v h' => v = .bool true) := by
  obtain ⟨n, rfl⟩ : ∃ m, n = m + 1 := ⟨n - 1, by omega⟩
  refine res_enter rfl d3 rfl ?_; simp only [c3]
  refine gg ?_
  refine i_call0 (w_awake h n (by omega)) ?_
  rintro _ _ ⟨rfl, rfl⟩
  refine gg ?_
  by_cases hbig : 50 < ts.length
  · refine gg ?_
    rfl
  by_cases hbig2 : 50 < qs.length
  · refine gg ?_
    rfl
  refine gg ?_
  obtain ⟨a1, k1, n1⟩ := box_one h (.cells 27 #[Value.map none].toList (.own false))
  have t1 : Ts (h.new (.cells 27 #[Value.map none].toList (.own false))) h.next none [] := Ts.new h 27
  generalize h.new (.cells 27 #[Value.map none].toList (.own false)) = h1 at *
  refine o_cutT (fun f h' => ∃ ms, (Ts h' h.next ms (bld ts ts.length) ∧ (∀ M, ms = some M → h.next ≤ M) ∧ Keeps h h') ∧ Sl [(0, .slice o ts.length c), (1, .slice oa qs.length ca), (5, .bool true), (6, .pointer (some ⟨h.next, 0, none⟩))] f) ?_ ?_
  · refine o_up ts.length (fun i f h' => ∃ ms, (Ts h' h.next ms (bld ts i) ∧ (∀ M, ms = some M → h.next ≤ M) ∧ Keeps h h') ∧ Sl [(7, .int .i64 (i : Int)), (0, .slice o ts.length c), (1, .slice oa qs.length ca), (5, .bool true), (6, .pointer (some ⟨h.next, 0, none⟩))] f) (by omega) ⟨none, ⟨t1, (fun M e => nomatch e), k1⟩, sel_of rfl, sel_of rfl, sel_of rfl, sel_of rfl, sel_of rfl, trivial⟩ ?_
    clear t1 a1
    rintro i f h3 hi ⟨ms, ⟨t1, hms, k3⟩, hs⟩
    obtain ⟨f0, rfl⟩ := hs.puts
    clear hs
    simp only [c3_0]
    refine gg ?_
    refine out_if (by exact sel_of rfl) (fun hif => ?_) (fun hif => ?_)
    · have hi1 : i < ts.length := by omega
      have hti : ts[i] = ts[i]! := by simp [hi1]
      refine gg ?_
      refine i_atR i (hr.keeps k3) (by exact sel_of rfl) (by exact sel_of rfl) rfl hi1 (fun u => ?_)
      rw [hti]
      refine i_call3 (by exact sel_of rfl) (by exact sel_of rfl) (by exact sel_of rfl) (w_start t1 (by omega)) ?_
      rintro _ h4 ⟨ms', t1', kT1, nx1⟩
      have k4 := Keeps.stepT k3 kT1 (Nat.le_refl _) hms
      have hms' := nx1.ge hms k3.next
      refine gg ?_
      exact rnd_up hi1 ⟨ms', ⟨t1', hms', k4⟩, (sel_z rfl (by omega)), sel_of rfl, sel_of rfl, sel_of rfl, sel_of rfl, trivial⟩
    · have he : i = ts.length := by omega
      subst he
      refine gg ?_
      exact ⟨rfl, ms, ⟨t1, hms, k3⟩, sel_of rfl, sel_of rfl, sel_of rfl, sel_of rfl, trivial⟩
  clear t1 a1
  rintro f h3 ⟨ms, ⟨t1, hms, k3⟩, hs⟩
  obtain ⟨f0, rfl⟩ := hs.puts
  clear hs
  have hml := bld_len ts ts.length
  have hmem := bld_mem ts ts.length
  generalize bld ts ts.length = m at *
  have hlt1 := t1.lt
  refine gg ?_
  refine i_a (mk_slice (l := ts.length) (c := ts.length) (by exact sel_of rfl) (by exact sel_of rfl) (Nat.le_refl _) (by omega) (by omega)) ?_
  rw [rep_bool]
  obtain ⟨gX, kX, nX⟩ := box_one h3 (.cells 4 ((List.replicate ts.length false).map Value.bool) (.own false))
  generalize h3.new (.cells 4 ((List.replicate ts.length false).map Value.bool) (.own false)) = h4 at *
  have hSX : h.next < h3.next := hlt1.1
  have t4 := t1.keeps kX
  refine gg ?_
  refine o_cutE (fun f h' => ∃ mt : List Bool, (h'.get h3.next = some (.cells 4 (mt.map Value.bool) (.own false)) ∧ h3.next < h'.next ∧ mt.length = ts.length ∧ (∀ k, k < ts.length → mt[k]! = (decide (0 < qs.length) && decide (ts[k]! ≤ qs[qs.length - 1]!))) ∧ Keeps h h') ∧ Sl [(8, .slice (some ⟨h3.next, 0, none⟩) ts.length ts.length), (0, .slice o ts.length c), (1, .slice oa qs.length ca), (5, .bool true)] f) ?_ ?_
  · refine o_up qs.length (fun i f h' => ∃ (m : List En) (mt : List Bool), (Ts h' h.next ms m ∧ m.length ≤ ts.length ∧ (∀ e, e ∈ m ↔ ∃ k : Nat, k < ts.length ∧ e = ((k : Int), ts[k]!) ∧ (i = 0 ∨ qs[i - 1]! < ts[k]!)) ∧ h'.get h3.next = some (.cells 4 (mt.map Value.bool) (.own false)) ∧ h3.next < h'.next ∧ mt.length = ts.length ∧ (∀ k, k < ts.length → mt[k]! = (decide (0 < i) && decide (ts[k]! ≤ qs[i - 1]!))) ∧ Keeps h h') ∧ Sl [(9, .int .i64 (i : Int)), (8, .slice (some ⟨h3.next, 0, none⟩) ts.length ts.length), (6, .pointer (some ⟨h.next, 0, none⟩)), (0, .slice o ts.length c), (1, .slice oa qs.length ca), (5, .bool true)] f) (by omega) ⟨m, List.replicate ts.length false, ⟨t4, hml, fun e => ?_, gX, by omega, List.length_replicate, fun k hk => by simp [hk], k3.trans kX⟩, sel_of rfl, sel_of rfl, sel_of rfl, sel_of rfl, sel_of rfl, sel_of rfl, trivial⟩ ?_
    · rw [hmem e]
      constructor
      · rintro ⟨k, hk, rfl⟩; exact ⟨k, hk, rfl, .inl rfl⟩
      · rintro ⟨k, hk, rfl, _⟩; exact ⟨k, hk, rfl⟩
    clear t4 gX hmem hml t1
    rintro i f h5 hi ⟨m, mt, ⟨t5, hml, hmem, gX, lX, hmt, hmv, k5⟩, hs⟩
    obtain ⟨f0, rfl⟩ := hs.puts
    clear hs
    simp only [c3_2]
    refine gg ?_
    by_cases hlt : i < qs.length
    · have hqi : qs[i] = qs[i]! := by simp [hlt]
      refine gg ?_
      refine i_cutE (fun f h' => (h5 = h' ∧ (i = 0 ∨ qs[i - 1]! ≤ qs[i]!)) ∧ Sl [(9, .int .i64 (i : Int)), (8, .slice (some ⟨h3.next, 0, none⟩) ts.length ts.length), (6, .pointer (some ⟨h.next, 0, none⟩)), (0, .slice o ts.length c), (1, .slice oa qs.length ca), (5, .bool true)] f) ?_ ?_
      · by_cases h0 : 0 < i
        · have hqp : qs[i - 1] = qs[i - 1]! := by simp [show i - 1 < qs.length by omega]
          refine gg ?_
          refine i_atG i (hra.keeps k5) (by exact sel_of rfl) (by exact sel_of rfl) rfl hlt (fun u hu => ?_)
          refine gg ?_
          refine i_load1 (by exact sel_of rfl) hu ?_
          refine gg ?_
          refine i_atG (i - 1) (hra.keeps k5) (by exact sel_of rfl) (by exact sel_of rfl) (by omega) (by omega) (fun u hu => ?_)
          refine gg ?_
          refine i_load1 (by exact sel_of rfl) hu ?_
          refine gg ?_
          refine out_if (by exact sel_of rfl) (fun hif => ?_) (fun hif => ?_)
          · refine gg ?_
            refine .inr ⟨by simp, ?_⟩
            refine gg ?_
            refine .inr ⟨by simp, ?_⟩
            refine gg ?_
            rfl
          · refine gg ?_
            exact .inl ⟨rfl, ⟨rfl, .inr (by omega)⟩, sel_of rfl, sel_of rfl, sel_of rfl, sel_of rfl, sel_of rfl, sel_of rfl, trivial⟩
        · refine gg ?_
          exact .inl ⟨rfl, ⟨rfl, .inl (by omega)⟩, sel_of rfl, sel_of rfl, sel_of rfl, sel_of rfl, sel_of rfl, sel_of rfl, trivial⟩
      rintro f _ ⟨⟨rfl, hup⟩, hs⟩
      obtain ⟨f0, rfl⟩ := hs.puts
      clear hs
      refine gg ?_
      refine i_atR i (hra.keeps k5) (by exact sel_of rfl) (by exact sel_of rfl) rfl hlt (fun u => ?_)
      rw [hqi]
      refine i_call2 (by exact sel_of rfl) (by exact sel_of rfl) (w_due t5 (by omega) (by omega)) ?_
      rintro _ h6 ⟨o1, rfl, ap1, t6, kT, ho1⟩
      have hX6 := (kT.get h3.next lX (by omega) (fun e => by have := hlt1.2 _ e; omega)).trans gX
      have k6 := Keeps.stepT k5 kT (Nat.le_refl _) hms
      have lX6 : h3.next < h6.next := Nat.lt_of_lt_of_le lX kT.next
      have hE : ∀ e ∈ dueI qs[i]! m, ∃ k : Nat, k < ts.length ∧ e = ((k : Int), ts[k]!) ∧ (i = 0 ∨ qs[i - 1]! < ts[k]!) ∧ ts[k]! ≤ qs[i]! := fun e he => by
        obtain ⟨h1, h2⟩ := (due_mem t5.1 e).1.1 he
        obtain ⟨k, hk, rfl, h3⟩ := (hmem e).1 h1
        exact ⟨k, hk, rfl, h3, h2⟩
      have hnd : ((dueI qs[i]! m).map keyP).Nodup := t5.1.nd.sublist ((List.takeWhile_sublist _).map _)
      have hKl : ((dueI qs[i]! m).map keyP).length = (dueI qs[i]! m).length := List.length_map ..
      have rK : Row h6 1 o1 ((dueI qs[i]! m).map keyP).length (((dueI qs[i]! m).map keyP).map fun z => iv z) := by
        rw [List.length_map, List.map_map]; exact ap1.row
      have hdl : (dueI qs[i]! m).length ≤ m.length := (List.takeWhile_sublist _).length_le
      have hrl : (dueR qs[i]! m).length ≤ m.length := (List.dropWhile_sublist _).length_le
      have hKE : ∀ k : Nat, k < ts.length → ((k : Int) ∈ (dueI qs[i]! m).map keyP ↔ (i = 0 ∨ qs[i - 1]! < ts[k]!) ∧ ts[k]! ≤ qs[i]!) := fun k hk => by
        constructor
        · intro hm
          obtain ⟨e, he, hx⟩ := List.mem_map.1 hm
          obtain ⟨k', hk', rfl, h1, h2⟩ := hE e he
          have : (k' : Int) = (k : Int) := hx
          have : k' = k := by omega
          subst this
          exact ⟨h1, h2⟩
        · rintro ⟨h1, h2⟩
          exact List.mem_map.2 ⟨_, (due_mem t5.1 _).1.2 ⟨(hmem _).2 ⟨k, hk, rfl, h1⟩, h2⟩, rfl⟩
      have hR : ∀ e, e ∈ dueR qs[i]! m ↔ ∃ k : Nat, k < ts.length ∧ e = ((k : Int), ts[k]!) ∧ (i + 1 = 0 ∨ qs[i + 1 - 1]! < ts[k]!) := fun e => by
        rw [(due_mem t5.1 e).2, hmem e, Nat.add_sub_cancel]
        constructor
        · rintro ⟨⟨k, hk, rfl, h1⟩, h2⟩
          exact ⟨k, hk, rfl, .inr (Int.not_le.1 h2)⟩
        · rintro ⟨k, hk, rfl, h1 | h1⟩
          · omega
          · exact ⟨⟨k, hk, rfl, hup.imp id fun h => Int.lt_of_le_of_lt h h1⟩, Int.not_le.2 h1⟩
      have hao : ∀ q, o = some q → q.block ≠ h3.next := fun q e => by subst e; have := hr.2.1; omega
      have hqo : ∀ q, oa = some q → q.block ≠ h3.next := fun q e => by subst e; have := hra.2.1; omega
      have hlo : ∀ q, o1 = some q → q.block ≠ h3.next := fun q e => by have := (ho1 q e).2; omega
      rw [← hKl]
      rw [← hKl] at hdl
      clear ap1 gX kT
      generalize (dueI qs[i]! m) = E at *
      refine gg ?_
      refine o_up (E.map keyP).length (fun j f h' => ∃ mt' : List Bool, (h'.get h3.next = some (.cells 4 (mt'.map Value.bool) (.own false)) ∧ KeepsB h3.next h6 h' ∧ mt'.length = ts.length ∧ ∀ k, k < ts.length → mt'[k]! = (mt[k]! || decide ((k : Int) ∈ (E.take j).map keyP))) ∧ Sl [(11, .int .i64 (j : Int)), (10, .slice o1 (E.map keyP).length (E.map keyP).length), (9, .int .i64 (i : Int)), (8, .slice (some ⟨h3.next, 0, none⟩) ts.length ts.length), (6, .pointer (some ⟨h.next, 0, none⟩)), (0, .slice o ts.length c), (1, .slice oa qs.length ca), (5, .bool true)] f) (by omega) ⟨mt, ⟨hX6, KeepsB.refl _ _, hmt, fun k hk => by simp⟩, sel_of rfl, sel_of rfl, sel_of rfl, sel_of rfl, sel_of rfl, sel_of rfl, sel_of rfl, sel_of rfl, trivial⟩ ?_
      rintro j f h7 hj ⟨mt', ⟨gX7, kB, hmt', hmv'⟩, hs⟩
      obtain ⟨f0, rfl⟩ := hs.puts
      clear hs
      simp only [c3_1]
      refine gg ?_
      have lX7 : h3.next < h7.next := Nat.lt_of_lt_of_le lX6 kB.next
      by_cases hjl : j < (E.map keyP).length
      · have hjE : j < E.length := by omega
        obtain ⟨p, hp, ep, hpo, hpq⟩ := hE _ (List.getElem_mem hjE)
        have hkp : (E.map keyP)[j] = (p : Int) := by rw [List.getElem_map, ep]
        have hfr := key_fresh hnd hjE
        rw [ep] at hfr
        have htp : ts[p] = ts[p]! := by simp [hp]
        have rK7 := rK.keepsB kB hlo
        have rT7 := (hr.keeps k6).keepsB kB hao
        have rQ7 := (hra.keeps k6).keepsB kB hqo
        have hold : mt[p]! = false := by
          rw [hmv p hp]
          rcases hpo with h | h
          · rw [h]; rfl
          · rw [decide_eq_false (p := ts[p]! ≤ qs[i - 1]!) (by omega), Bool.and_false]
        have hmp : mt'[p]! = false := by
          rw [hmv' p hp, hold, decide_eq_false hfr]; rfl
        refine gg ?_
        refine i_atG j rK7 (by exact sel_of rfl) (by exact sel_of rfl) rfl hjl (fun u hu => ?_)
        refine i_load1 (by exact sel_of rfl) hu ?_
        rw [hkp]
        refine gg ?_
        refine i_atG j rK7 (by exact sel_of rfl) (by exact sel_of rfl) rfl hjl (fun u hu => ?_)
        refine gg ?_
        refine i_load1 (by exact sel_of rfl) hu ?_
        rw [hkp]
        refine gg ?_
        refine i_atG j rK7 (by exact sel_of rfl) (by exact sel_of rfl) rfl hjl (fun u hu => ?_)
        refine gg ?_
        refine i_load1 (by exact sel_of rfl) hu ?_
        rw [hkp]
        refine gg ?_
        refine i_atB p gX7 (by exact sel_of rfl) (by exact sel_of rfl) rfl hp hmt' (fun hu => ?_)
        refine gg ?_
        refine i_load1 (by exact sel_of rfl) hu ?_
        rw [hmp]
        refine gg ?_
        refine i_atG j rK7 (by exact sel_of rfl) (by exact sel_of rfl) rfl hjl (fun u hu => ?_)
        refine gg ?_
        refine i_load1 (by exact sel_of rfl) hu ?_
        rw [hkp]
        refine gg ?_
        refine i_atG p rT7 (by exact sel_of rfl) (by exact sel_of rfl) rfl hp (fun u hu => ?_)
        refine gg ?_
        refine i_load1 (by exact sel_of rfl) hu ?_
        refine gg ?_
        refine i_atG i rQ7 (by exact sel_of rfl) (by exact sel_of rfl) rfl hlt (fun u hu => ?_)
        refine gg ?_
        refine i_load1 (by exact sel_of rfl) hu ?_
        rw [htp, hqi]
        refine gg ?_
        have hset : ∀ k, k < ts.length → (mt'.set p true)[k]! = (mt[k]! || decide ((k : Int) ∈ (E.take (j + 1)).map keyP)) := fun k hk => by
          rw [set_get _ _ _ (by omega), List.take_succ_eq_append_getElem hjE, List.map_append, ep]
          by_cases hpk : p = k
          · subst hpk
            rw [if_pos rfl, decide_eq_true (by simp), Bool.or_true]
          · rw [if_neg hpk, hmv' k hk]
            congr 1
            apply decide_eq_decide.2
            simp only [List.mem_append, List.map_cons, List.map_nil, List.mem_cons, List.not_mem_nil, or_false]
            constructor
            · exact .inl
            · rintro (h | h)
              · exact h
              · have : (k : Int) = (p : Int) := h
                omega
        by_cases h0 : 0 < i
        · have hqp : qs[i - 1] = qs[i - 1]! := by simp [show i - 1 < qs.length by omega]
          have hpo' : qs[i - 1]! < ts[p]! := hpo.resolve_left (by omega)
          refine gg ?_
          refine i_atG j rK7 (by exact sel_of rfl) (by exact sel_of rfl) rfl hjl (fun u hu => ?_)
          refine gg ?_
          refine i_load1 (by exact sel_of rfl) hu ?_
          rw [hkp]
          refine gg ?_
          refine i_atG p rT7 (by exact sel_of rfl) (by exact sel_of rfl) rfl hp (fun u hu => ?_)
          refine gg ?_
          refine i_load1 (by exact sel_of rfl) hu ?_
          refine gg ?_
          refine i_atG (i - 1) rQ7 (by exact sel_of rfl) (by exact sel_of rfl) (by omega) (by omega) (fun u hu => ?_)
          refine gg ?_
          refine i_load1 (by exact sel_of rfl) hu ?_
          rw [htp, hqp]
          refine gg ?_
          refine i_atR j rK7 (by exact sel_of rfl) (by exact sel_of rfl) rfl hjl (fun u => ?_)
          rw [hkp]
          refine i_atB p gX7 (by exact sel_of rfl) (by exact sel_of rfl) rfl hp hmt' (fun hu => ?_)
          refine i_stB (v := .bool true) (by exact sel_of rfl) (by rfl) gX7 (by rw [List.length_map]; omega) fun h8 k8 n8 g8 => ?_
          rw [show Value.bool true = Value.bool (true : Bool) from rfl, ← List.map_set] at g8
          refine gg ?_
          exact rnd_up hjl ⟨mt'.set p true, ⟨g8, kB.trans k8, by rw [List.length_set]; exact hmt', hset⟩, (sel_z rfl (by omega)), sel_of rfl, sel_of rfl, sel_of rfl, sel_of rfl, sel_of rfl, sel_of rfl, sel_of rfl, trivial⟩
        · refine gg ?_
          refine i_atR j rK7 (by exact sel_of rfl) (by exact sel_of rfl) rfl hjl (fun u => ?_)
          rw [hkp]
          refine i_atB p gX7 (by exact sel_of rfl) (by exact sel_of rfl) rfl hp hmt' (fun hu => ?_)
          refine i_stB (v := .bool true) (by exact sel_of rfl) (by rfl) gX7 (by rw [List.length_map]; omega) fun h8 k8 n8 g8 => ?_
          rw [show Value.bool true = Value.bool (true : Bool) from rfl, ← List.map_set] at g8
          refine gg ?_
          exact rnd_up hjl ⟨mt'.set p true, ⟨g8, kB.trans k8, by rw [List.length_set]; exact hmt', hset⟩, (sel_z rfl (by omega)), sel_of rfl, sel_of rfl, sel_of rfl, sel_of rfl, sel_of rfl, sel_of rfl, sel_of rfl, trivial⟩
      · have hje : j = (E.map keyP).length := by omega
        refine gg ?_
        refine rnd_up hlt ⟨dueR qs[i]! m, mt', ⟨t6.keepsB kB (by omega) (fun M e => by have := hlt1.2 M e; omega), by omega, hR, gX7, lX7, hmt', fun k hk => ?_, ⟨Nat.le_trans k6.next kB.next, fun d hd => (kB.get d (by have := k6.next; omega) (by omega)).trans (k6.get d hd)⟩⟩, (sel_z rfl (by omega)), sel_of rfl, sel_of rfl, sel_of rfl, sel_of rfl, sel_of rfl, trivial⟩
        have h1 := hmv' k hk
        rw [hje, List.take_of_length_le (by rw [hKl]; exact Nat.le_refl _), hmv k hk] at h1
        rw [h1, Nat.add_sub_cancel, Bool.eq_iff_iff]
        simp only [Bool.or_eq_true, Bool.and_eq_true, decide_eq_true_eq]
        rw [hKE k hk]
        omega
    · have he : i = qs.length := by omega
      rw [he] at hmv
      refine gg ?_
      exact .inl ⟨rfl, mt, ⟨gX, lX, hmt, hmv, k5⟩, sel_of rfl, sel_of rfl, sel_of rfl, sel_of rfl, trivial⟩
  rintro f h5 ⟨mt, ⟨gX, lX, hmt, hmv, k5⟩, hs⟩
  obtain ⟨f0, rfl⟩ := hs.puts
  clear hs
  refine gg ?_
  refine o_up ts.length (fun i f h' => h5 = h' ∧ Sl [(12, .int .i64 (i : Int)), (8, .slice (some ⟨h3.next, 0, none⟩) ts.length ts.length), (0, .slice o ts.length c), (1, .slice oa qs.length ca), (5, .bool true)] f) (by omega) ⟨rfl, sel_of rfl, sel_of rfl, sel_of rfl, sel_of rfl, sel_of rfl, trivial⟩ ?_
  rintro i f _ hi ⟨rfl, hs⟩
  obtain ⟨f0, rfl⟩ := hs.puts
  clear hs
  simp only [c3_3]
  refine gg ?_
  by_cases hil : i < ts.length
  · by_cases hq0 : 0 < qs.length
    · have hti : ts[i] = ts[i]! := by simp [hil]
      have hql : qs[qs.length - 1] = qs[qs.length - 1]! := by simp [show qs.length - 1 < qs.length by omega]
      refine gg ?_
      refine i_atB i gX (by exact sel_of rfl) (by exact sel_of rfl) rfl hil hmt (fun hu => ?_)
      refine i_load1 (by exact sel_of rfl) hu ?_
      refine gg ?_
      refine i_atR i (hr.keeps k5) (by exact sel_of rfl) (by exact sel_of rfl) rfl hil (fun u => ?_)
      refine gg ?_
      refine i_atR (qs.length - 1) (hra.keeps k5) (by exact sel_of rfl) (by exact sel_of rfl) (by omega) (by omega) (fun u => ?_)
      rw [hti, hql, hmv i hil, decide_eq_true hq0, Bool.true_and]
      refine gg ?_
      refine i_neb (by exact sel_of rfl) (by exact sel_of rfl) ?_
      rw [bne_self_eq_false]
      refine gg ?_
      exact rnd_up hil ⟨rfl, (sel_z rfl (by omega)), sel_of rfl, sel_of rfl, sel_of rfl, sel_of rfl, trivial⟩
    · refine gg ?_
      rfl
  · refine gg ?_
    rfl
end Go.Proofs.Ytkbanhfdfmodkaa

