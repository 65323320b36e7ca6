/- Part of a proof by an abstract run of the program's code: RI. No condition. -/
import Derived.Test.YtmlagbknnngjjaaGreatRH
/-! The law XferRoom, walked. -/
set_option linter.unusedVariables false
namespace Go.Proofs.YtmlagbknnngjjaaGreat
open Go Vm
theorem pcs_one {most : Nat} {d : List UInt8} (h1 : 1 ≤ most) (hd : d ≠ []) (hl : d.length ≤ most) : pcs most d = [d] := by
  rw [pcs_cons h1 hd, List.take_of_length_le hl, List.drop_eq_nil_of_le hl, pcs_nil]
set_option maxHeartbeats 4000000 in
theorem w_lroom {h0 : Heap} {a : Nat} {o : Option Addr} {l : List Int} {c : Nat} {now : Int} (ha : a < 4294967296) (hr : Row h0 1 o l.length (l.map fun z => Value.int .i64 z)) (n : Nat) (hn : 2000 ≤ n) :
    ResQ (callN Tryz.prog G0 n (.call 3 [.int .u32 (a : Int), .slice o l.length c, .int .i64 now]) h0) (fun u h' => u = .bool true) := by
  obtain ⟨n, rfl⟩ : ∃ m, n = m + 1 := ⟨n - 1, by omega⟩
  refine res_enter rfl d3 rfl ?_; simp only [c3]
  refine gg ?_
  refine i_call0 (w_awakeX _ _ (by omega)) ?_
  rintro _ _ ⟨rfl, rfl⟩
  refine gg ?_
  by_cases hl : l.length = 0 ∨ 40 < l.length
  · by_cases hl0 : l.length = 0
    · refine gg ?_
      rfl
    · refine gg ?_
      rfl
  have hl1 : 0 < l.length := by omega
  have hl2 : l.length ≤ 40 := by omega
  refine gg ?_
  refine i_call1 (by exact sel_of rfl) (w_xnew (first := a) (pf := 1) (pe := 0) (ns := 1) (ni := 1) (mt := 600) (by decide) (by decide) (by decide) (by decide) (by decide) (by decide) ha (by decide) (by decide) (by omega)) ?_
  rintro _ h1 ⟨X, Q, sb, S, M, N, rfl, W⟩
  have T0 : LS h0 h1 X Q sb S (N + 3) 600 0 a [] [0] := ⟨W.keep, W.gX, ⟨W.xl.1, W.xl.2, W.sbl.1, W.sbl.2, W.ql⟩, ⟨none, by rw [List.length_nil, Nat.add_zero, Nat.mod_eq_of_lt ha]; exact W.que, (fun q hq => nomatch hq)⟩, W.gsb, (fun z hz => by simp only [List.mem_cons, List.not_mem_nil, or_false] at hz; omega), (fun e he => nomatch he), rfl⟩
  refine gg ?_
  refine o_up l.length (fun i f h' => ∃ es sl, (LS h0 h' X Q sb S (N + 3) 600 0 a es sl ∧ sl.length = 1 ∧ es.length = i ∧ ∀ e ∈ es, 400 ≤ e.sz ∧ e.sz ≤ 527) ∧ Sl [(9, nv i), (1, .slice o l.length c), (2, .int .i64 now), (8, pt X), (7, .bool true), (0, .int .u32 (a : Int))] f) (by omega) ⟨[], [0], ⟨T0, rfl, rfl, (fun e he => nomatch he)⟩, sel_of rfl, sel_of rfl, sel_of rfl, sel_of rfl, sel_of rfl, sel_of rfl, trivial⟩ ?_
  clear T0 W
  rintro i f g hi ⟨es, sl, ⟨T, hsl, hes, hsz⟩, hs⟩
  obtain ⟨f0, rfl⟩ := hs.puts
  clear hs
  have hsum : (es.map Ent.sz).sum ≤ 527 * es.length := by
    clear hes T
    induction es with
    | nil => exact Nat.zero_le _
    | cons e es ih =>
      have := ih fun x hx => hsz x (List.mem_cons_of_mem _ hx)
      have := (hsz e (List.mem_cons_self ..)).2
      rw [List.map_cons, List.sum_cons, List.length_cons]; omega
  simp only [c3_0]
  refine gg ?_
  by_cases hi2 : i < l.length
  · refine gg ?_
    have hrg := hr.keeps T.keep
    refine i_idx (by exact sel_of rfl) hrg (i := i) (by exact sel_of rfl) hi2 fun q hq => ?_
    subst hq
    refine i_load1 (v := .int .i64 (l[i])) (by exact sel_of rfl) (by rw [Nat.mul_one, hrg.cell (i := i) (by omega)]; simp [hi2]) ?_
    refine i_andM (M := 127) (by exact sel_of rfl) (by exact const_of) (by decide) fun z hz => ?_
    refine gg ?_
    refine items_cons (it_a (mk_slice (l := 400 + z) (c := 400 + z) ((sel_of (v := .int .i64 (400 + (z : Int))) rfl).trans (congrArg (Value.int .i64) (by show (400 : Int) + (z : Int) = ((400 + z : Nat) : Int); omega))) ((sel_of (v := .int .i64 (400 + (z : Int))) rfl).trans (congrArg (Value.int .i64) (by show (400 : Int) + (z : Int) = ((400 + z : Nat) : Int); omega))) (Nat.le_refl _) (by omega) (by omega)) ?_)
    show ItQ (runItems _ _ (puts ((38, .slice (some ⟨g.next, 0, none⟩) (400 + z) (400 + z)) :: _) _) (g.new (.cells 5 (rep (400 + z) [.int .u8 0]) (.own false)))) _
    obtain ⟨d1, k1, n1⟩ := box_one g (.cells 5 (rep (400 + z) [.int .u8 0]) (.own false))
    rw [rep_zero] at d1 k1 n1 ⊢
    generalize (g.new (.cells 5 (u8s (List.replicate (400 + z) 0)) (.own false))) = g1 at *
    have hdl : (List.replicate (400 + z) (0 : UInt8)).length = 400 + z := List.length_replicate
    obtain ⟨keep, gX, ⟨x1, x2, x3, x4, x5⟩, ⟨oq, que, hoq⟩, gsb, sll, new, num⟩ := T
    have T1 : LS h0 g1 X Q sb S (N + 3) 600 0 a es sl := ⟨keep.trans k1, (k1.get _ x1).trans gX, ⟨by omega, x2, by omega, x4, x5⟩, ⟨oq, que.keeps k1, hoq⟩, (k1.get _ x3).trans gsb, sll, new, num⟩
    have hrd : Row g1 1 (some ⟨g.next, 0, none⟩) (List.replicate (400 + z) (0 : UInt8)).length (u8s (List.replicate (400 + z) 0)) := ⟨by rw [u8s_length]; omega, by show g.next < g1.next; omega, .inl rfl, loadN_all d1 (by rw [u8s_length]; omega)⟩
    have hmo : mostN 600 = 572 := by decide
    have hpc : pcs (mostN 600) (List.replicate (400 + z) (0 : UInt8)) = [List.replicate (400 + z) 0] := pcs_one (by rw [hmo]; decide) (fun e => by have := congrArg List.length e; rw [hdl, List.length_nil] at this; omega) (by rw [hdl, hmo]; omega)
    refine gg ?_
    refine i_call5 (by exact sel_of rfl) ((sel_of (v := .agg #[.int .u16 ((0 : Nat) : Int), .bool false, .int .u32 ((0 : Nat) : Int), .slice (some ⟨g.next, 0, none⟩) (400 + z) (400 + z)]) rfl).trans (by rw [hdl])) (by exact const_of) (by exact const_of) (by exact sel_of rfl) (T1.send (dc := (List.replicate (400 + z) (0 : UInt8)).length) (str := 0) (pp := 0) (by omega) (by decide) (by decide) (by decide) hrd (Nat.le_refl _) (fun e => by have := congrArg List.length e; rw [hdl, List.length_nil] at this; omega) (by omega) (by omega) (by rw [hpc]; show es.length + 1 ≤ 1024; omega) (by omega)) ?_
    rintro _ g2 ⟨rfl, en, T2, hen, _⟩
    refine gg ?_
    rw [hpc] at hen
    have henl : en.length = 1 := by have := congrArg List.length hen; rwa [List.length_map] at this
    refine rnd_up hi2 ⟨es ++ en, _, ⟨T2, by rw [List.length_set]; exact hsl, by rw [List.length_append, henl, hes], fun e he => ?_⟩, sel_of rfl, sel_of rfl, sel_of rfl, sel_of rfl, sel_of rfl, sel_of rfl, trivial⟩
    rcases List.mem_append.1 he with he | he
    · exact hsz e he
    · have h5 : e.c.dt ∈ en.map fun e => e.c.dt := List.mem_map.2 ⟨e, he, rfl⟩
      rw [hen] at h5
      simp only [List.mem_cons, List.not_mem_nil, or_false] at h5
      have h6 : e.sz = 400 + z := by show e.c.dt.length = _; rw [h5, hdl]
      omega
  · have hil : i = l.length := by omega
    obtain ⟨keep, gX, ⟨x1, x2, x3, x4, x5⟩, ⟨oq, que, hoq⟩, gsb, sll, new, num⟩ := T
    cases es with
    | nil => rw [List.length_nil] at hes; omega
    | cons e es =>
      have he0 : e.st = 0 := (new e (List.mem_cons_self ..)).1
      have hez := hsz e (List.mem_cons_self ..)
      have ho1 : octs [1] (e :: es) = 0 := octs_none _ fun x hx => by rw [(new x hx).1]; decide
      have htk : takeF (tmI now) 600 (e :: es) = (fly (tmI now) e :: es, [e]) := by
        unfold takeF
        rw [if_pos he0, if_neg (by omega)]
        cases es with
        | nil => rfl
        | cons y es =>
          have hy0 : y.st = 0 := (new y (by simp)).1
          have hyz := hsz y (by simp)
          unfold takeF
          rw [if_pos hy0, if_pos (by omega)]
      have hA : e.c.A = a := by
        rw [List.map_cons, List.length_cons, List.range_succ_eq_map, List.map_cons] at num
        have := (List.cons.inj num).1
        rw [this]; omega
      rw [hsl] at gX
      have hlen : es.length + 1 = l.length := by rw [← hil, ← hes]; rfl
      refine gg ?_
      refine i_call2 (by exact sel_of rfl) (by exact sel_of rfl) (w_tell que gX x1 (endv_sd ..) rfl (fun y hy => by rw [(new y hy).1]; decide) (fun y hy => by rw [(new y hy).2.1]; decide) (by decide) (by decide) (by decide) (by decide) (by decide) ⟨by decide, by decide⟩ (by rw [List.length_cons]; omega)) ?_
      rintro _ g3 ⟨ov, ks, rfl, F⟩
      rw [ho1] at F
      rw [show roomN (3 * 600) 600 0 (((0 : Nat) : Int).toNat - 0) = 600 by decide] at F
      obtain ⟨f1, f2, f3, f4, f5, f6, f7⟩ := F
      rw [htk] at f1 f2 f7
      have hk1 : ks.length = 1 := by have := congrArg List.length f2; rw [List.length_map, List.length_map] at this; exact this.symm
      obtain ⟨y, rfl⟩ : ∃ y, ks = [y] := by
        cases ks with
        | nil => cases hk1
        | cons y ks => cases ks with
          | nil => exact ⟨y, rfl⟩
          | cons z ks => simp at hk1
      have hyc : y.2 = e.c := by
        have : [e.c] = [y.2] := f2
        exact (List.cons.inj this).1.symm
      have hal : decide (0 < [y].length ∨ 0 < octs [1] (fly (tmI now) e :: es)) = true := decide_eq_true (.inl Nat.one_pos)
      rw [hal] at f7
      have gX3 : g3.get X = some (.cells 79 (putAt (endv Q 600 0 ⟨sb, 0, none⟩ 1 S (N + 3)) 13 [.bool true, .int .i64 (tmI now + (3000 : Nat))]) (.own false)) := f7
      have v3 : SdV (putAt (endv Q 600 0 ⟨sb, 0, none⟩ 1 S (N + 3)) 13 [.bool true, .int .i64 (tmI now + (3000 : Nat))]) Q (3 * 600) 600 3000 ((0 : Nat) : Int) true true := ⟨rfl, rfl, rfl, rfl, rfl, rfl⟩
      have ho2 : octs [1] (fly (tmI now) e :: es) = e.sz := by
        unfold octs
        rw [List.map_cons, List.sum_cons]
        have := octs_none (ss := [1]) es fun x hx => by rw [(new x (List.mem_cons_of_mem _ hx)).1]; decide
        unfold octs at this
        rw [this]
        rfl
      refine gg ?_
      refine i_call2 (by exact sel_of rfl) (by exact sel_of rfl) (w_tell f1 gX3 (by omega) v3 rfl (fun z hz => by
        rcases List.mem_cons.1 hz with rfl | hz
        · show 1 < 2; decide
        · rw [(new z (List.mem_cons_of_mem _ hz)).1]; decide) (fun z hz => by
        rcases List.mem_cons.1 hz with rfl | hz
        · show e.sent + 1 ≤ 1000; rw [(new e (List.mem_cons_self ..)).2.1]; decide
        · rw [(new z (List.mem_cons_of_mem _ hz)).2.1]; decide) (by decide) (by decide) (by decide) (by decide) (by decide) ⟨by decide, by decide⟩ (by rw [List.length_cons]; omega)) ?_
      rintro _ g4 ⟨ov2, ks2, rfl, F2⟩
      rw [ho2] at F2
      have hrm : roomN (3 * 600) 600 e.sz (((0 : Nat) : Int).toNat - e.sz) = 0 := by
        unfold roomN
        rw [if_neg (by omega)]
        show min _ (0 - e.sz) = 0
        omega
      rw [hrm] at F2
      have htk2 : takeF (tmI now) 0 (fly (tmI now) e :: es) = (fly (tmI now) e :: es, []) := by
        unfold takeF
        rw [if_neg (show ¬ (fly (tmI now) e).st = 0 from fun h => by cases h)]
        cases es with
        | nil => rfl
        | cons y es =>
          have hy0 : y.st = 0 := (new y (by simp)).1
          have hyz := hsz y (by simp)
          unfold takeF
          rw [if_pos hy0, if_pos (by omega)]
      obtain ⟨p1, p2, p3, p4, p5, p6, p7⟩ := F2
      rw [htk2] at p2
      have hk2 : ks2 = [] := by
        have : [] = ks2.map (·.2) := p2
        exact List.map_eq_nil_iff.1 this.symm
      subst hk2
      rcases f6.2 with ⟨hz, _⟩ | ⟨kb, rfl, b1, b2, b3⟩
      · cases hz
      have gk4 : g4.get kb = some (.cells 42 (cksv [y]) (.own true)) := (p4 kb b2 (fun hm => by
        obtain ⟨z, hz, hzk⟩ := List.mem_map.1 hm
        have := (f1.en z hz).hb
        rw [hzk, b3] at this; cases this) (fun e => by rw [e, gX3] at b3; cases b3)).trans b3
      have row4 : Row g4 12 (some ⟨kb, 0, some 12⟩) 1 (cksv [y]) := ⟨rfl, by show kb < g4.next; omega, .inr rfl, loadN_all gk4 rfl⟩
      refine gg ?_
      refine i_idx (i := 0) (by exact sel_of rfl) row4 (by exact const_of) (by decide) fun q hq => ?_
      cases hq
      refine gg ?_
      refine i_load1 (v := .int .u32 ((y.2.A : Nat) : Int)) (by exact sel_of rfl) ((load1_own gk4).trans (by rfl)) ?_
      refine gg ?_
      rw [decide_eq_true (show ((y.2.A : Nat) : Int) = (a : Int) by rw [hyc, hA])]
      refine gg ?_
      rfl
end Go.Proofs.YtmlagbknnngjjaaGreat

