/- Part of a proof by an abstract run of the program's code: RT. No condition. -/
import Derived.Test.YtmlagbknnngjjaaGreatRS
/-! The law XferFirst, walked. -/
set_option linter.unusedVariables false
namespace Go.Proofs.YtmlagbknnngjjaaGreat
open Go Vm
set_option maxHeartbeats 8000000 in
theorem w_lfirst {h0 : Heap} {a : Nat} {o : Option Addr} {l : List Int} {c : Nat} {mtu now : Int} (ha : a < 4294967296) (hr : Row h0 1 o l.length (l.map fun z => Value.int .i64 z)) (n : Nat) (hn : 5000 ≤ n) :
    ResQ (callN Tryz.prog G0 n (.call 5 [.int .u32 (a : Int), .slice o l.length c, .int .i64 mtu, .int .i64 now]) h0) (fun u h' => u = .bool true) := by
  obtain ⟨n, rfl⟩ : ∃ m, n = m + 1 := ⟨n - 1, by omega⟩
  refine res_enter rfl d5 rfl ?_; simp only [c5]
  refine gg ?_
  refine i_call0 (w_awakeX _ _ (by omega)) ?_
  rintro _ _ ⟨rfl, rfl⟩
  refine gg ?_
  by_cases hl : 60 < l.length
  · refine gg ?_
    rfl
  have hl2 : l.length ≤ 60 := by omega
  refine gg ?_
  refine i_andM (M := 1023) (by exact sel_of rfl) (by exact const_of) (by decide) fun z hz => ?_
  refine gg ?_
  obtain ⟨k, hk⟩ : ∃ k : Nat, k = 100 + z := ⟨_, rfl⟩
  have hkv : Value.int .i64 (100 + (z : Int)) = nv k := congrArg (Value.int .i64) (by omega)
  refine i_call3 (by exact sel_of rfl) (by exact const_of) ((sel_of (v := .int .i64 (100 + (z : Int))) rfl).trans hkv) (w_pair (a := a) (b := 5) (mt := k) ha (by decide) (by omega) (by omega) (by omega)) ?_
  rintro _ h2 ⟨X, Q, sb, S, M, N, X2, Q2, sb2, S2, M2, N2, h1, rfl, W, W2⟩
  have k2 := W2.keep
  have T0 : LS h0 h2 X Q sb S (N + 3) k 65536 a [] [0, 0, 0, 0] := ⟨W.keep.trans k2, (k2.get _ W.xl.1).trans W.gX, ⟨Nat.lt_of_lt_of_le W.xl.1 k2.next, W.xl.2, Nat.lt_of_lt_of_le W.sbl.1 k2.next, W.sbl.2, W.ql⟩, ⟨none, by rw [List.length_nil, Nat.add_zero, Nat.mod_eq_of_lt ha]; exact W.que.keeps k2, (fun q hq => nomatch hq)⟩, (k2.get _ W.sbl.1).trans W.gsb, (fun z hz => by simp only [List.mem_cons, List.not_mem_nil, or_false] at hz; omega), (fun e he => nomatch he), rfl⟩
  have hmo : mostN k = k - 28 := by unfold mostN; omega
  have hm1 : 1 ≤ mostN k := by omega
  refine gg ?_
  refine o_up l.length (fun i f h' => ∃ es sl, (LS h0 h' X Q sb S (N + 3) k 65536 a es sl ∧ sl.length = 4 ∧ i ≤ es.length ∧ es.length ≤ 8 * i ∧ (i = 0 → es = []) ∧ (es.map Ent.sz).sum ≤ 512 * i ∧ ∀ e ∈ es, e.sz ≤ k - 28) ∧ Sl [(13, nv i), (1, .slice o l.length c), (3, .int .i64 now), (11, pt X), (9, .bool true), (0, .int .u32 (a : Int)), (10, nv k)] f) (by omega) ⟨[], [0, 0, 0, 0], ⟨T0, rfl, Nat.le_refl _, Nat.le_refl _, (fun _ => rfl), Nat.le_refl _, (fun e he => nomatch he)⟩, sel_of rfl, sel_of rfl, sel_of rfl, sel_of rfl, sel_of rfl, sel_of rfl, (by exact (sel_of (v := .int .i64 (100 + (z : Int))) rfl).trans hkv), trivial⟩ ?_
  clear T0 W W2
  rintro i f g hi ⟨es, sl, ⟨T, hsl, hes1, hes8, hes0, hsum, hsz⟩, hs⟩
  obtain ⟨f0, rfl⟩ := hs.puts
  clear hs
  simp only [c5_0]
  refine gg ?_
  by_cases hi2 : i < l.length
  · refine gg ?_
    have hrg := hr.keeps T.keep
    refine i_idx (by exact sel_of rfl) hrg (i := i) (by exact sel_of rfl) hi2 fun q hq => ?_
    subst hq
    refine i_load1 (v := .int .i64 (l[i])) (by exact sel_of rfl) (by rw [Nat.mul_one, hrg.cell (i := i) (by omega)]; simp [hi2]) ?_
    refine i_andM (M := 511) (by exact sel_of rfl) (by exact const_of) (by decide) fun y hy => ?_
    refine gg ?_
    refine items_cons (it_a (mk_slice (l := 1 + y) (c := 1 + y) ((sel_of (v := .int .i64 (1 + (y : Int))) rfl).trans (congrArg (Value.int .i64) (by show (1 : Int) + (y : Int) = ((1 + y : Nat) : Int); omega))) ((sel_of (v := .int .i64 (1 + (y : Int))) rfl).trans (congrArg (Value.int .i64) (by show (1 : Int) + (y : Int) = ((1 + y : Nat) : Int); omega))) (Nat.le_refl _) (by omega) (by omega)) ?_)
    show ItQ (runItems _ _ (puts ((46, .slice (some ⟨g.next, 0, none⟩) (1 + y) (1 + y)) :: _) _) (g.new (.cells 5 (rep (1 + y) [.int .u8 0]) (.own false)))) _
    obtain ⟨d1, k1, n1⟩ := box_one g (.cells 5 (rep (1 + y) [.int .u8 0]) (.own false))
    rw [rep_zero] at d1 k1 n1 ⊢
    generalize (g.new (.cells 5 (u8s (List.replicate (1 + y) 0)) (.own false))) = g1 at *
    have hdl : (List.replicate (1 + y) (0 : UInt8)).length = 1 + y := List.length_replicate
    obtain ⟨keep, gX, ⟨x1, x2, x3, x4, x5⟩, ⟨oq, que, hoq⟩, gsb, sll, new, num⟩ := T
    have T1 : LS h0 g1 X Q sb S (N + 3) k 65536 a es sl := ⟨keep.trans k1, (k1.get _ x1).trans gX, ⟨by omega, x2, by omega, x4, x5⟩, ⟨oq, que.keeps k1, hoq⟩, (k1.get _ x3).trans gsb, sll, new, num⟩
    have hrd : Row g1 1 (some ⟨g.next, 0, none⟩) (List.replicate (1 + y) (0 : UInt8)).length (u8s (List.replicate (1 + y) 0)) := ⟨by rw [u8s_length]; omega, by show g.next < g1.next; omega, .inl rfl, loadN_all d1 (by rw [u8s_length]; omega)⟩
    have hd0 : List.replicate (1 + y) (0 : UInt8) ≠ [] := fun e => by have := congrArg List.length e; rw [hdl, List.length_nil] at this; omega
    have hpl : (pcs (mostN k) (List.replicate (1 + y) (0 : UInt8))).length ≤ 8 := by
      have := pcs_few hm1 8 (List.replicate (1 + y) (0 : UInt8)) (by rw [hdl, hmo]; omega)
      exact this
    have hpp := pcs_pos hm1 hd0
    refine gg ?_
    refine i_call5 (by exact sel_of rfl) ((sel_of (v := .agg #[.int .u16 ((0 : Nat) : Int), .bool false, .int .u32 ((0 : Nat) : Int), .slice (some ⟨g.next, 0, none⟩) (1 + y) (1 + y)]) rfl).trans (by rw [hdl])) (by exact const_of) (by exact const_of) (by exact sel_of rfl) (T1.send (dc := (List.replicate (1 + y) (0 : UInt8)).length) (str := 0) (pp := 0) (by omega) (by decide) (by decide) (by omega) hrd (Nat.le_refl _) hd0 (by omega) (by omega) (by omega) (by omega)) ?_
    rintro _ g2 ⟨rfl, en, T2, hen, _⟩
    refine gg ?_
    have henl : en.length = (pcs (mostN k) (List.replicate (1 + y) (0 : UInt8))).length := by have := congrArg List.length hen; rwa [List.length_map] at this
    have hens : (en.map Ent.sz).sum = 1 + y := by
      have h5 : en.map Ent.sz = (en.map fun e => e.c.dt).map List.length := by rw [List.map_map]; rfl
      rw [h5, hen, pcs_sum hm1 _ _ (Nat.le_refl _), hdl]
    refine rnd_up hi2 ⟨es ++ en, _, ⟨T2, by rw [List.length_set]; exact hsl, by rw [List.length_append]; omega, by rw [List.length_append]; omega, (fun h => by omega), by rw [List.map_append, List.sum_append]; omega, fun e he => ?_⟩, sel_of rfl, sel_of rfl, sel_of rfl, sel_of rfl, sel_of rfl, sel_of rfl, sel_of rfl, trivial⟩
    rcases List.mem_append.1 he with he | he
    · exact hsz e he
    · have h5 : e.c.dt ∈ en.map fun e => e.c.dt := List.mem_map.2 ⟨e, he, rfl⟩
      rw [hen] at h5
      have := (pcs_mem hm1 _ _ (Nat.le_refl _) _ h5).2
      show e.c.dt.length ≤ _
      omega
  · have hil : i = l.length := by omega
    obtain ⟨keep, gX, ⟨x1, x2, x3, x4, x5⟩, ⟨oq, que, hoq⟩, gsb, sll, new, num⟩ := T
    have ho1 : octs [1] es = 0 := octs_none _ fun x hx => by rw [(new x hx).1]; decide
    rw [hsl] at gX
    refine gg ?_
    refine i_call2 (by exact sel_of rfl) (by exact sel_of rfl) (w_tell que gX x1 (endv_sd ..) rfl (fun y hy => by rw [(new y hy).1]; decide) (fun y hy => by rw [(new y hy).2.1]; decide) (by decide) (by omega) (by omega) (by omega) (by omega) ⟨by decide, by decide⟩ (by omega)) ?_
    rintro _ g3 ⟨ov, ks, rfl, F⟩
    rw [ho1] at F
    rw [show roomN (3 * k) k 0 (((65536 : Nat) : Int).toNat - 0) = 3 * k by unfold roomN; rw [if_pos rfl]; show max (min (3 * k - 0) (65536 - 0)) k = 3 * k; omega] at F
    obtain ⟨f1, f2, f3, f4, f5, f6, f7⟩ := F
    obtain ⟨j, j1, j2, j3⟩ := takeF_pre (tmI now) es (3 * k) fun e he => (new e he).1
    have hkm : ks.length ≤ es.length := by
      have := congrArg List.length f2
      rw [List.length_map, List.length_map] at this
      have := (takeF_len (tmI now) es (3 * k)).2
      omega
    have hke : 0 < ks.length ↔ 0 < l.length := by
      have hkl : ks.length = (takeF (tmI now) (3 * k) es).2.length := by have := congrArg List.length f2; rwa [List.length_map, List.length_map, eq_comm] at this
      cases es with
      | nil => rw [List.length_nil] at hkm hes1; omega
      | cons e es =>
        have h5 := takeF_some (tmI now) (es := es) (r := 3 * k) (new e (List.mem_cons_self ..)).1 (by have := hsz e (List.mem_cons_self ..); omega)
        have h6 : 0 < ks.length := by rw [hkl]; exact List.length_pos_iff.2 h5
        have h7 : 0 < l.length := by
          rcases Nat.eq_zero_or_pos l.length with h8 | h8
          · have := hes0 (by omega); cases this
          · exact h8
        omega
    have hru : decide (0 < ks.length ∨ 0 < octs [1] (takeF (tmI now) (3 * k) es).1) = decide (0 < ks.length) := by
      rw [decide_eq_decide]
      refine ⟨fun h => ?_, .inl⟩
      rcases h with h | h
      · exact h
      · rcases Nat.eq_zero_or_pos ks.length with h8 | h8
        · have h9 : (takeF (tmI now) (3 * k) es).2 = [] := by
            have := congrArg List.length f2
            rw [List.length_map, List.length_map, h8] at this
            exact List.length_eq_zero_iff.1 this
          rw [j1] at h9
          have h10 : octs [1] (takeF (tmI now) (3 * k) es).1 = 0 := by
            rw [j2, h9]
            show octs [1] (es.drop j) = 0
            exact octs_none _ fun x hx => by rw [(new x (List.mem_of_mem_drop hx)).1]; decide
          omega
        · exact h8
    rw [hru] at f7
    have hck : ∀ (i : Nat) (y : Nat × Ck), ks[i]? = some y → y.2.A = (a + i) % 4294967296 ∧ y.2.dt.length ≤ k - 28 := by
      intro i y hy
      have h5 : (ks.map (·.2))[i]? = some y.2 := by rw [List.getElem?_map, hy]; rfl
      rw [← f2, j1, List.getElem?_map] at h5
      cases h6 : (es.take j)[i]? with
      | none => rw [h6] at h5; cases h5
      | some e =>
        rw [h6] at h5
        have h7 : e.c = y.2 := Option.some.inj h5
        have h8 : es[i]? = some e := by
          rw [List.getElem?_take] at h6
          split at h6
          · exact h6
          · cases h6
        have h9 : (es.map fun e => e.c.A)[i]? = some y.2.A := by rw [List.getElem?_map, h8, ← h7]; rfl
        have hil : i < es.length := (List.getElem?_eq_some_iff.1 h8).1
        rw [num, List.getElem?_map, List.getElem?_range hil] at h9
        refine ⟨(Option.some.inj h9).symm, ?_⟩
        have := hsz e (List.mem_of_getElem? h8)
        rw [← h7]; exact this
    have hks : (ks.map fun y => y.2.dt.length).sum ≤ 3 * k := by
      have h5 : ks.map (fun y => y.2.dt.length) = (ks.map (·.2)).map fun c => c.dt.length := by rw [List.map_map]; rfl
      rw [h5, ← f2, List.map_map]
      exact j3
    refine gg ?_
    have hn3 := keep.next
    refine o_up ks.length (fun i f h' => g3 = h' ∧ Sl [(16, nv i), (15, nv ((ks.take i).map fun y => y.2.dt.length).sum), (14, .slice ov ks.length ks.length), (1, .slice o l.length c), (11, pt X), (9, .bool true), (0, .int .u32 (a : Int)), (10, nv k)] f) (by omega) ⟨rfl, sel_of rfl, sel_of rfl, sel_of rfl, sel_of rfl, sel_of rfl, sel_of rfl, sel_of rfl, sel_of rfl, trivial⟩ ?_
    rintro i f _ hi' ⟨rfl, hs⟩
    obtain ⟨f1', rfl⟩ := hs.puts
    clear hs
    have hsumi : ∀ i, ((ks.take i).map fun y => y.2.dt.length).sum ≤ 3 * k := fun i => by
      have h5 : (ks.map fun y => y.2.dt.length).sum = ((ks.take i).map fun y => y.2.dt.length).sum + ((ks.drop i).map fun y => y.2.dt.length).sum := by
        rw [← List.sum_append, ← List.map_append, List.take_append_drop]
      omega
    simp only [c5_1]
    refine gg ?_
    by_cases hik : i < ks.length
    · refine gg ?_
      rcases f6.2 with ⟨hz, _⟩ | ⟨kb, rfl, b1, b2, b3⟩
      · omega
      have row : Row g3 12 (some ⟨kb, 0, some 12⟩) ks.length (cksv ks) := ⟨cksv_length ks, b2, .inr rfl, loadN_all b3 (cksv_length ks)⟩
      have hy : ks[i]? = some ks[i] := List.getElem?_eq_getElem hik
      obtain ⟨hA, hD⟩ := hck i _ hy
      refine i_idx (i := i) (by exact sel_of rfl) row (by exact sel_of rfl) hik fun q hq => ?_
      cases hq
      refine gg ?_
      refine i_load1 (v := .int .u32 (((ks[i]).2.A : Nat) : Int)) (by exact sel_of rfl) ((load1_own (off := 0 + i * 12 + 2) b3).trans (by rw [Nat.zero_add, cksv_cell ks i 2 _ hy (by decide)]; rfl)) ?_
      refine gg ?_
      refine i_addW (q := ((i : Nat) : Int)) (r := (((a + i) % 4294967296 : Nat) : Int)) (by exact sel_of rfl) (by exact sel_of rfl) (add32 a i) ?_
      refine gg ?_
      rw [decide_eq_false (show ¬ (((ks[i]).2.A : Nat) : Int) ≠ (((a + i) % 4294967296 : Nat) : Int) by rw [hA]; exact fun h => h rfl)]
      refine gg ?_
      refine i_idx (i := i) (by exact sel_of rfl) row (by exact sel_of rfl) hik fun q hq => ?_
      cases hq
      refine gg ?_
      have ld : load1 g3.get ⟨kb, 0 + i * 12 + 11, some 0⟩ = some (.slice (some ⟨(ks[i]).1, 0, some 1⟩) (ks[i]).2.dt.length (ks[i]).2.dt.length) := (load1_own b3).trans (by rw [Nat.zero_add, cksv_cell ks i 11 _ hy (by decide)]; rfl)
      refine i_load1 (v := .slice (some ⟨(ks[i]).1, 0, some 1⟩) (ks[i]).2.dt.length (ks[i]).2.dt.length) (by exact sel_of rfl) ld ?_
      refine gg ?_
      refine i_idx (i := i) (by exact sel_of rfl) row (by exact sel_of rfl) hik fun q hq => ?_
      cases hq
      refine gg ?_
      refine i_load1 (v := .slice (some ⟨(ks[i]).1, 0, some 1⟩) (ks[i]).2.dt.length (ks[i]).2.dt.length) (by exact sel_of rfl) ld ?_
      have := hsumi i
      refine gg ?_
      refine rnd_up hik ⟨rfl, sel_of rfl, (by exact (sel_of rfl).trans (congrArg (Value.int .i64) (by rw [List.take_add_one, hy, List.map_append, List.sum_append]; show _ = ((_ + ((ks[i]).2.dt.length + 0) : Nat) : Int); omega))), sel_of rfl, sel_of rfl, sel_of rfl, sel_of rfl, sel_of rfl, sel_of rfl, trivial⟩
    · have hik2 : i = ks.length := by omega
      subst hik2
      refine gg ?_
      have h14 : (alarmed (endv Q k 65536 ⟨sb, 0, none⟩ 4 S (N + 3)) (decide (0 < ks.length)) false (tmI now) 3000)[13]? = some (.bool (decide (0 < ks.length))) ∧ (∃ al : Int, (alarmed (endv Q k 65536 ⟨sb, 0, none⟩ 4 S (N + 3)) (decide (0 < ks.length)) false (tmI now) 3000)[14]? = some (.int .i64 al)) ∧ (alarmed (endv Q k 65536 ⟨sb, 0, none⟩ 4 S (N + 3)) (decide (0 < ks.length)) false (tmI now) 3000)[0]? = some (pt Q) := by
        by_cases hp : 0 < ks.length
        · rw [decide_eq_true hp]; exact ⟨rfl, ⟨_, rfl⟩, rfl⟩
        · rw [decide_eq_false hp]; exact ⟨rfl, ⟨_, rfl⟩, rfl⟩
      obtain ⟨c13, ⟨al, c14⟩, c0⟩ := h14
      refine i_call1 (by exact sel_of rfl) (w_due f7 c13 c14 (by omega)) ?_
      rintro _ _ ⟨⟨w, rfl⟩, rfl⟩
      have hs3 := hsumi ks.length
      refine gg ?_
      refine i_mul64 (p := 3) (q := (k : Int)) (by exact const_of) (by exact sel_of rfl) (by omega) (by omega) ?_
      refine gg ?_
      by_cases hp : 0 < ks.length
      · refine i_eqbs (b := true) (by exact (sel_of rfl).trans (congrArg Value.bool (decide_eq_true (by omega)))) (by exact (sel_of rfl).trans (congrArg Value.bool (decide_eq_true (by omega)))) ?_
        refine gg ?_
        refine i_eqbs (b := true) (by exact (sel_of rfl).trans (congrArg Value.bool (decide_eq_true (by omega)))) (by exact (sel_of rfl).trans (congrArg Value.bool (decide_eq_true (by omega)))) ?_
        refine gg ?_
        refine i_call1 (by exact sel_of rfl) (w_xnext f1 f7 c0 (by omega)) ?_
        rintro _ _ ⟨rfl, rfl⟩
        refine gg ?_
        refine i_call2 (by exact sel_of rfl) (by exact sel_of rfl) (w_dist ha (by omega)) ?_
        rintro _ _ ⟨rfl, rfl⟩
        refine gg ?_
        exact congrArg Value.bool (decide_eq_true (by omega))
      · refine i_eqbs (b := false) (by exact (sel_of rfl).trans (congrArg Value.bool (decide_eq_false (by omega)))) (by exact (sel_of rfl).trans (congrArg Value.bool (decide_eq_false (by omega)))) ?_
        refine gg ?_
        refine i_eqbs (b := false) (by exact (sel_of rfl).trans (congrArg Value.bool (decide_eq_false (by omega)))) (by exact (sel_of rfl).trans (congrArg Value.bool (decide_eq_false (by omega)))) ?_
        refine gg ?_
        refine i_call1 (by exact sel_of rfl) (w_xnext f1 f7 c0 (by omega)) ?_
        rintro _ _ ⟨rfl, rfl⟩
        refine gg ?_
        refine i_call2 (by exact sel_of rfl) (by exact sel_of rfl) (w_dist ha (by omega)) ?_
        rintro _ _ ⟨rfl, rfl⟩
        refine gg ?_
        exact congrArg Value.bool (decide_eq_true (by omega))
end Go.Proofs.YtmlagbknnngjjaaGreat

