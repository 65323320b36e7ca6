/- Part of a proof by an abstract run of the program's code: TmO. No condition. -/
import Derived.Test.YtkbanhfdfmodkaaTmL
/-! The law TimerOrder. -/
set_option linter.unusedVariables false
namespace Vm
open Go
section
variable {rec : Rec} {a : Fr} {h h0 : Heap} {K : Fr → Heap → Prop} {L : List (Nat × Value)} {f : Fr} {dt : Nat} {x y : Sel} {l : List ISem} {sz m n c e by_ B : Nat} {o : Option Addr} {cs ds : List Value}
/-- append, whether there is something to append or not -/
theorem i_appG {t : Nat} {es : List Value} (hB : B ≤ h.next) (hx : x.f (puts L f) = .slice o n c) (hp : Ap B h e sz o n c cs) (hsp : ∀ q, o = some q → q.spot ≠ none) (hy : srcCells h.get sz (y.f (puts L f)) = some (m, ds)) (hd : ds.length = m * sz) (hbig : (n + m) * by_ ≤ 140737488355328)
    (ht : n + m = t) (he : cs ++ ds = es)
    (hq : ∀ (o' : Option Addr) h', h.next ≤ h'.next → (∀ d, d < h.next → (∀ q, o = some q → d ≠ q.block) → h'.get d = h.get d) → Ap B h' e sz o' t t es → (∀ q, o' = some q → q.spot ≠ none) → ItQ (runItems rec l (puts ((dt, (.slice o' t t)) :: L) f) h') K) : ItQ (runItems rec (iOp (put dt) (.e (eAppend e sz by_ x y)) :: l) (puts L f) h) K := by
  cases m with
  | zero =>
    subst ht
    subst he
    obtain ⟨rfl, hr, ho⟩ := hp
    have hds : ds = [] := List.length_eq_zero_iff.1 (by simpa using hd)
    subst hds
    have hb1 : Nat.ble ((c + 0) * by_) 140737488355328 = true := Nat.ble_eq_true_of_le hbig
    have hb2 : Nat.ble (c + 0) c = true := Nat.ble_eq_true_of_le (by omega)
    refine i_e (.mk (.slice o (c + 0) (c + 0)) h (?_) (hq o h (Nat.le_refl _) (fun _ _ _ => rfl) ?_ hsp))
    · simp only [eAppend, hx, hy, hb1, hb2, cond_true]
      cases o <;> rfl
    · rw [List.append_nil]
      exact ⟨rfl, hr, ho⟩
  | succ m =>
    exact i_appF (Nat.succ_pos m) hB hx hp hy hd hbig ht he fun h' n' k' a' => hq _ h' (by omega) (fun d hd2 hne => k' d hd2 (fun q e => .inl (hne q e))) a' (fun q e => by cases e; simp)
end
end Vm
namespace Go.Proofs.Ytkbanhfdfmodkaa
open Go Vm
theorem Keeps.stepT {h0 h h' : Heap} {S : Nat} {mv : Option Nat} (k : Keeps h0 h) (k' : KeepsT S mv h h') (hS : h0.next ≤ S) (hm : ∀ M, mv = some M → h0.next ≤ M) : Keeps h0 h' :=
  ⟨Nat.le_trans k.next k'.next, fun d hd => (k'.get d (Nat.lt_of_lt_of_le hd k.next) (by omega) (fun e => by have := hm d e; omega)).trans (k.get d hd)⟩
theorem Nx.ge {mv mv' : Option Nat} {N N0 : Nat} (x : Nx mv mv' N) (hm : ∀ M, mv = some M → N0 ≤ M) (hN : N0 ≤ N) : ∀ M, mv' = some M → N0 ≤ M := by
  rcases x with rfl | ⟨M, rfl, hM⟩
  · exact hm
  · intro M' e; cases e; omega
theorem Ap.keepsT {h h' : Heap} {S B e sz n c : Nat} {mv : Option Nat} {o : Option Addr} {cs : List Value} (p : Ap B h e sz o n c cs) (k : KeepsT S mv h h') (ho : ∀ q, o = some q → q.block ≠ S ∧ mv ≠ some q.block) : Ap B h' e sz o n c cs :=
  ⟨p.1, Row.keepsT p.row k ho, fun q e => (p.2.2 q e).imp id fun ⟨k', h1, h2, h3⟩ => ⟨k', h1, h2, by
    have hb := ho q e
    subst e
    have := p.row.2.1
    rw [h1] at hb this
    rw [k.get k' this hb.1 hb.2]; exact h3⟩⟩
/-- each its time -/
def bld (ts : List Int) : Nat → List En
  | 0 => []
  | k + 1 => startP (k : Int) ts[k]! (bld ts k)
theorem bld_mem (ts : List Int) : ∀ (k : Nat) (e : En), e ∈ bld ts k ↔ ∃ i : Nat, i < k ∧ e = ((i : Int), ts[i]!)
  | 0, e => ⟨fun h => (nomatch h), fun ⟨i, h, _⟩ => absurd h (by omega)⟩
  | k + 1, e => by
    have hk : (k : Int) ∉ (bld ts k).map keyP := fun h => by
      obtain ⟨e, he, hx⟩ := List.mem_map.1 h
      obtain ⟨i, hi, rfl⟩ := (bld_mem ts k e).1 he
      have : (i : Int) = (k : Int) := hx
      omega
    rw [bld, startP, stopP_skip hk, (insP_perm _ _).mem_iff, List.mem_cons, bld_mem ts k e]
    constructor
    · rintro (rfl | ⟨i, hi, rfl⟩)
      · exact ⟨k, by omega, rfl⟩
      · exact ⟨i, by omega, rfl⟩
    · rintro ⟨i, hi, rfl⟩
      by_cases h : i = k
      · subst h; exact .inl rfl
      · exact .inr ⟨i, by omega, rfl⟩
theorem bld_len (ts : List Int) : ∀ k : Nat, (bld ts k).length ≤ k
  | 0 => Nat.le_refl _
  | k + 1 => by
    rw [bld, startP, (insP_perm _ _).length_eq, List.length_cons]
    have : (stopP (k : Int) (bld ts k)).length ≤ (bld ts k).length := List.length_filter_le ..
    have := bld_len ts k
    omega
theorem bld_srt (ts : List Int) : ∀ k : Nat, Srt (bld ts k)
  | 0 => Srt.nil
  | k + 1 => (bld_srt ts k).start _ _
theorem Ts.low {h h' : Heap} {S N : Nat} {mv : Option Nat} {m : List En} (t : Ts h S mv m) (hn : h.next ≤ h'.next) (k : ∀ d, d < N → h'.get d = h.get d) (hS : S < N) (hM : ∀ M, mv = some M → M < N) : Ts h' S mv m := by
  obtain ⟨h1, h2, ⟨e, h3⟩, es, h4, h5⟩ := t
  refine ⟨h1, Nat.lt_of_lt_of_le h2 hn, ⟨e, (k _ hS).trans h3⟩, es, ?_, h5⟩
  cases mv with
  | none => exact h4
  | some M =>
    obtain ⟨g1, c, g2, g3⟩ := h4
    exact ⟨Nat.lt_of_lt_of_le g1 hn, c, (k _ (hM M rfl)).trans g2, g3⟩
set_option maxHeartbeats 4000000 in
theorem w_lorder {ts : List Int} {a b : Int} {h : Heap} {o : Option Addr} {c : Nat} (hr : Row h 1 o ts.length (ts.map fun z => iv z)) (n : Nat) (hn : 1000 ≤ n) :
    ResQ (callN Try.prog G0 n (.call 4 [.slice o ts.length c, iv a, iv b]) h) (fun v h' => v = .bool true) := by
  obtain ⟨n, rfl⟩ : ∃ m, n = m + 1 := ⟨n - 1, by omega⟩
  refine res_enter rfl d4 rfl ?_; simp only [c4]
  refine gg ?_
  refine i_call0 (w_awake h n (by omega)) ?_
  rintro _ _ ⟨rfl, rfl⟩
  refine gg ?_
  by_cases hbig : 60 < ts.length
  · refine gg ?_
    rfl
  by_cases hab : b < a
  · refine gg ?_
    rfl
  refine gg ?_
  obtain ⟨a1, k1, n1⟩ := box_one h (.cells 27 #[Value.map none].toList (.own false))
  have t1 : Ts (h.new (.cells 27 #[Value.map none].toList (.own false))) h.next none [] := Ts.new h 27
  generalize h.new (.cells 27 #[Value.map none].toList (.own false)) = h1 at *
  obtain ⟨a2, k2, n2⟩ := box_one h1 (.cells 27 #[Value.map none].toList (.own false))
  have t2 : Ts (h1.new (.cells 27 #[Value.map none].toList (.own false))) h1.next none [] := Ts.new h1 27
  have t1 := t1.keeps k2
  generalize h1.new (.cells 27 #[Value.map none].toList (.own false)) = h2 at *
  have k12 := k1.trans k2
  refine o_cutT (fun f h' => ∃ ms mt, (Ts h' h.next ms (bld ts ts.length) ∧ Ts h' h1.next mt (bld ts ts.length) ∧ Apart h.next ms h1.next mt ∧ (∀ M, ms = some M → h.next ≤ M) ∧ (∀ M, mt = some M → h.next ≤ M) ∧ Keeps h h') ∧ Sl [(0, .slice o ts.length c), (1, iv a), (2, iv b), (7, .bool true), (8, .pointer (some ⟨h.next, 0, none⟩)), (9, .pointer (some ⟨h1.next, 0, none⟩))] f) ?_ ?_
  · refine o_up ts.length (fun i f h' => ∃ ms mt, (Ts h' h.next ms (bld ts i) ∧ Ts h' h1.next mt (bld ts i) ∧ Apart h.next ms h1.next mt ∧ (∀ M, ms = some M → h.next ≤ M) ∧ (∀ M, mt = some M → h.next ≤ M) ∧ Keeps h h') ∧ Sl [(10, .int .i64 (i : Int)), (0, .slice o ts.length c), (1, iv a), (2, iv b), (7, .bool true), (8, .pointer (some ⟨h.next, 0, none⟩)), (9, .pointer (some ⟨h1.next, 0, none⟩))] f) (by omega) ⟨none, none, ⟨t1, t2, ⟨by omega, nofun, nofun, fun M e => nomatch e⟩, (fun M e => nomatch e), (fun M e => nomatch e), k12⟩, sel_of rfl, sel_of rfl, sel_of rfl, sel_of rfl, sel_of rfl, sel_of rfl, sel_of rfl, trivial⟩ ?_
    clear t1 t2 a1 a2
    rintro i f h3 hi ⟨ms, mt, ⟨t1, t2, ap, hms, hmt, k3⟩, hs⟩
    obtain ⟨f0, rfl⟩ := hs.puts
    clear hs
    simp only [c4_0]
    refine gg ?_
    refine out_if (by exact sel_of rfl) (fun hif => ?_) (fun hif => ?_)
    · have hi1 : i < ts.length := by omega
      have hti : ts[i] = ts[i]! := by simp [hi1]
      refine gg ?_
      refine i_atR i (hr.keeps k3) (by exact sel_of rfl) (by exact sel_of rfl) rfl hi1 (fun u => ?_)
      rw [hti]
      refine i_call3 (by exact sel_of rfl) (by exact sel_of rfl) (by exact sel_of rfl) (w_start t1 (by omega)) ?_
      rintro _ h4 ⟨ms', t1', kT1, nx1⟩
      have ap1 := ap.nx t1 t2 nx1
      have t2' := t2.keepsT kT1 ap.symm
      have k4 := Keeps.stepT k3 kT1 (Nat.le_refl _) hms
      have hms' := nx1.ge hms k3.next
      refine gg ?_
      refine i_atR i (hr.keeps k4) (by exact sel_of rfl) (by exact sel_of rfl) rfl hi1 (fun u => ?_)
      rw [hti]
      refine i_call3 (by exact sel_of rfl) (by exact sel_of rfl) (by exact sel_of rfl) (w_start t2' (by omega)) ?_
      rintro _ h5 ⟨mt', t2'', kT2, nx2⟩
      have ap2 := (ap1.symm.nx t2' t1' nx2).symm
      have t1'' := t1'.keepsT kT2 ap1
      have k5 := Keeps.stepT k4 kT2 (by omega) hmt
      have hmt' := nx2.ge hmt k4.next
      refine gg ?_
      exact rnd_up hi1 ⟨ms', mt', ⟨t1'', t2'', ap2, hms', hmt', k5⟩, (sel_z rfl (by omega)), sel_of rfl, sel_of rfl, sel_of rfl, sel_of rfl, sel_of rfl, sel_of rfl, trivial⟩
    · have he : i = ts.length := by omega
      subst he
      refine gg ?_
      exact ⟨rfl, ms, mt, ⟨t1, t2, ap, hms, hmt, k3⟩, sel_of rfl, sel_of rfl, sel_of rfl, sel_of rfl, sel_of rfl, sel_of rfl, trivial⟩
  clear t1 t2 a1 a2
  rintro f h3 ⟨ms, mt, ⟨t1, t2, ap, hms, hmt, k3⟩, hs⟩
  obtain ⟨f0, rfl⟩ := hs.puts
  clear hs
  have hml := bld_len ts ts.length
  have hmem := bld_mem ts ts.length
  generalize bld ts ts.length = m at *
  have hdl : ∀ (x : Int) (m : List En), (dueI x m).length ≤ m.length := fun x m => (List.takeWhile_sublist _).length_le
  have hrl : ∀ (x : Int) (m : List En), (dueR x m).length ≤ m.length := fun x m => (List.dropWhile_sublist _).length_le
  have hlt1 := t1.lt
  have hlt2 := t2.lt
  refine gg ?_
  refine i_call2 (by exact sel_of rfl) (by exact sel_of rfl) (w_due t1 (by omega) (by omega)) ?_
  rintro _ h4 ⟨o1, rfl, ap1, t1', kT1, ho1⟩
  have t2' := t2.keepsT kT1 ap.symm
  have k4 := Keeps.stepT k3 kT1 (Nat.le_refl _) hms
  have := hrl a m
  have := hdl a m
  have := hdl b (dueR a m)
  refine gg ?_
  refine i_call2 (by exact sel_of rfl) (by exact sel_of rfl) (w_due t1' (by omega) (by omega)) ?_
  rintro _ h5 ⟨o2, rfl, ap2, t1'', kT2, ho2⟩
  have t2'' := t2'.keepsT kT2 ap.symm
  have k5 := Keeps.stepT k4 kT2 (Nat.le_refl _) hms
  have ap1' := Ap.keepsT ap1 kT2 (fun q e => ⟨by have := (ho1 q e).2; omega, fun e' => by have := (ho1 q e).2; have := hlt1.2 _ e'; omega⟩)
  obtain ⟨d1, d2⟩ := due_two (show a ≤ b by omega) m t1.1
  have hK : (dueI a m).length + (dueI b (dueR a m)).length = (dueI b m).length := by rw [← d1, List.length_append]
  refine i_appG (B := h3.next) (by have := kT1.next; have := kT2.next; omega) (by exact sel_of rfl) ap1' (fun q e => (ho1 q e).1) (by rw [sel_of rfl]; exact ap2.row.src (c := (dueI b (dueR a m)).length)) (by rw [List.length_map]; omega) (by omega) hK (es := (dueI b m).map fun e => iv e.1) (by rw [← d1, List.map_append]) fun o3 h6 n6 k6 ap3 ho3 => ?_
  have low : ∀ d, d < h3.next → h6.get d = h5.get d := fun d hd => k6 d (by have := kT1.next; have := kT2.next; omega) (fun q e => by have := (ho1 q e).2; omega)
  have t1s := Ts.low t1'' n6 low hlt1.1 hlt1.2
  have t2s := Ts.low t2'' n6 low hlt2.1 hlt2.2
  have k6h : Keeps h h6 := ⟨Nat.le_trans k5.next n6, fun d hd => (low d (by have := k3.next; omega)).trans (k5.get d hd)⟩
  have n36 : h3.next ≤ h6.next := by have := kT1.next; have := kT2.next; omega
  have ho3' : ∀ q, o3 = some q → h3.next ≤ q.block := fun q e => by
    rcases ap3.2.2 q e with e' | ⟨k', e2, e3, e4⟩
    · exact absurd e' (ho3 q e)
    · rw [e2]; exact e3
  have hso : Srt (dueI b m) := ⟨t1.1.so.sublist (List.takeWhile_sublist _), t1.1.nd.sublist ((List.takeWhile_sublist _).map _)⟩
  have hmE : ∀ e ∈ dueI b m, ∃ i : Nat, i < ts.length ∧ e = ((i : Int), ts[i]!) := fun e he => (hmem e).1 (dueI_mem he)
  have rK : Row h6 1 o3 ((dueI b m).map keyP).length (((dueI b m).map keyP).map fun z => iv z) := by
    rw [List.length_map, List.map_map]; exact ap3.row
  have rT := hr.keeps k6h
  have hKl : ((dueI b m).map keyP).length = (dueI b m).length := List.length_map ..
  have hdb := hdl b m
  clear t1' t2' t1'' t2'' ap1 ap1' ap2 kT1 kT2 k6 k4 k5
  rw [← hKl]
  rw [← hKl] at hdb
  refine gg ?_
  refine o_cutT (fun f h' => h6 = h' ∧ Sl [(11, .slice o3 ((dueI b m).map keyP).length ((dueI b m).map keyP).length), (0, .slice o ts.length c), (2, iv b), (7, .bool true), (8, .pointer (some ⟨h.next, 0, none⟩)), (9, .pointer (some ⟨h1.next, 0, none⟩))] f) ?_ ?_
  · refine o_while (fun mm f h' => ∃ i : Nat, (h6 = h' ∧ 1 ≤ i ∧ ((dueI b m).map keyP).length + 1 - i = mm) ∧ Sl [(12, .int .i64 (i : Int)), (11, .slice o3 ((dueI b m).map keyP).length ((dueI b m).map keyP).length), (0, .slice o ts.length c), (2, iv b), (7, .bool true), (8, .pointer (some ⟨h.next, 0, none⟩)), (9, .pointer (some ⟨h1.next, 0, none⟩))] f) ((dueI b m).map keyP).length (by omega) ⟨1, ⟨rfl, Nat.le_refl _, by omega⟩, sel_of rfl, sel_of rfl, sel_of rfl, sel_of rfl, sel_of rfl, sel_of rfl, sel_of rfl, trivial⟩ ?_
    rintro mm f _ ⟨i, ⟨rfl, hi1, hmm⟩, hs⟩
    obtain ⟨f0, rfl⟩ := hs.puts
    clear hs
    simp only [c4_1]
    refine gg ?_
    refine out_if (by exact sel_of rfl) (fun hif => ?_) (fun hif => ?_)
    · have hiK : i < ((dueI b m).map keyP).length := by omega
      have hiE : i < (dueI b m).length := by omega
      obtain ⟨p, hp, ep⟩ := hmE _ (List.getElem_mem (show i - 1 < (dueI b m).length by omega))
      obtain ⟨q, hq, eq⟩ := hmE _ (List.getElem_mem hiE)
      have hbf : bf (dueI b m)[i - 1] (dueI b m)[i] = true := List.pairwise_iff_getElem.1 hso.so (i - 1) i (by omega) hiE (by omega)
      rw [ep, eq] at hbf
      simp only [bf, decide_eq_true_eq] at hbf
      have hkp : ((dueI b m).map keyP)[i - 1] = (p : Int) := by rw [List.getElem_map, ep]
      have hkq : ((dueI b m).map keyP)[i] = (q : Int) := by rw [List.getElem_map, eq]
      have htp : ts[p] = ts[p]! := by simp [hp]
      have htq : ts[q] = ts[q]! := by simp [hq]
      rw [← htp, ← htq] at hbf
      refine gg ?_
      refine i_atG (i - 1) rK (by exact sel_of rfl) (by exact sel_of rfl) (by omega) (by omega) (fun u hu => ?_)
      refine i_load1 (by exact sel_of rfl) hu ?_
      rw [hkp]
      refine gg ?_
      refine i_atG i rK (by exact sel_of rfl) (by exact sel_of rfl) rfl hiK (fun u hu => ?_)
      refine i_load1 (by exact sel_of rfl) hu ?_
      rw [hkq]
      refine gg ?_
      refine i_atG p rT (by exact sel_of rfl) (by exact sel_of rfl) rfl hp (fun u hu => ?_)
      refine gg ?_
      refine i_load1 (by exact sel_of rfl) hu ?_
      refine gg ?_
      refine i_atG q rT (by exact sel_of rfl) (by exact sel_of rfl) rfl hq (fun u hu => ?_)
      refine gg ?_
      refine i_load1 (by exact sel_of rfl) hu ?_
      refine gg ?_
      refine i_atG p rT (by exact sel_of rfl) (by exact sel_of rfl) rfl hp (fun u hu => ?_)
      refine gg ?_
      refine i_load1 (by exact sel_of rfl) hu ?_
      refine gg ?_
      refine i_atG q rT (by exact sel_of rfl) (by exact sel_of rfl) rfl hq (fun u hu => ?_)
      refine gg ?_
      refine i_load1 (by exact sel_of rfl) hu ?_
      by_cases hpq : ts[p] = ts[q]
      · refine gg ?_
        exact rnd_n (((dueI b m).map keyP).length + 1 - (i + 1)) (by omega) ⟨i + 1, ⟨rfl, by omega, rfl⟩, (sel_z rfl (by omega)), sel_of rfl, sel_of rfl, sel_of rfl, sel_of rfl, sel_of rfl, sel_of rfl, trivial⟩
      · refine gg ?_
        exact rnd_n (((dueI b m).map keyP).length + 1 - (i + 1)) (by omega) ⟨i + 1, ⟨rfl, by omega, rfl⟩, (sel_z rfl (by omega)), sel_of rfl, sel_of rfl, sel_of rfl, sel_of rfl, sel_of rfl, sel_of rfl, trivial⟩
    · refine gg ?_
      exact ⟨rfl, rfl, sel_of rfl, sel_of rfl, sel_of rfl, sel_of rfl, sel_of rfl, sel_of rfl, trivial⟩
  rintro f _ ⟨rfl, hs⟩
  obtain ⟨f0, rfl⟩ := hs.puts
  clear hs
  refine gg ?_
  refine i_call2 (by exact sel_of rfl) (by exact sel_of rfl) (w_due t2s (by omega) (by omega)) ?_
  rintro _ h7 ⟨o4, rfl, ap4, t2e, kT3, ho4⟩
  have t1e := t1s.keepsT kT3 ap
  have rK7 := Row.keepsT rK kT3 (fun q e => ⟨by have := ho3' q e; omega, fun e' => by have := ho3' q e; have := hlt2.2 _ e'; omega⟩)
  have rL7 : Row h7 1 o4 ((dueI b m).map keyP).length (((dueI b m).map keyP).map fun z => iv z) := by
    rw [List.length_map, List.map_map]; exact ap4.row
  rw [← hKl]
  refine gg ?_
  refine i_call2 (by exact sel_of rfl) (by exact sel_of rfl) (w_same rK7 rL7 (by omega) (by omega)) ?_
  rintro _ _ ⟨rfl, rfl⟩
  rw [decide_eq_true rfl]
  refine gg ?_
  refine i_call1 (by exact sel_of rfl) (w_tlen t1e (by omega)) ?_
  rintro _ _ ⟨rfl, rfl⟩
  refine gg ?_
  refine i_call1 (by exact sel_of rfl) (w_tlen t2e (by omega)) ?_
  rintro _ _ ⟨rfl, rfl⟩
  rw [d2]
  refine gg ?_
  exact congrArg Value.bool (decide_eq_true rfl)
end Go.Proofs.Ytkbanhfdfmodkaa

