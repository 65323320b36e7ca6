/- Part of a proof by an abstract run of the program's code: SRef. No condition. -/
import Derived.Test.YtdcllpjoejkpnaaSFewA
/-! The document's Same of chunks, walked; the law ChunkSame. -/
set_option linter.unusedVariables false
namespace Go.Proofs.Ytdcllpjoejkpnaa
open Go Vm
set_option maxHeartbeats 8000000 in
theorem w_rsame7 {h : Heap} {x y : Chk} {v w : List Value} (hv : ChV h x v) (hw : ChV h y w) (hf : x.Few) (n : Nat) (hn : 1000 ≤ n) :
    ResQ (callN Try.prog G0 n (.call 42 [.agg v.toArray, .agg w.toArray]) h) (fun u h' => u = .bool (decide (x = y)) ∧ Keeps h h') := by
  have f1 := hf.bl
  have f2 := hf.du
  have f3 := hf.sk
  have f4 := hf.pa
  have f5 := hf.da
  obtain ⟨n, rfl⟩ : ∃ m, n = m + 1 := ⟨n - 1, by omega⟩
  refine res_enter rfl d42 rfl ?_; simp only [c42]
  obtain ⟨g1, g2, k1, n1⟩ := box_two h (.cells 33 v.toArray.toList (.own false)) (.cells 33 w.toArray.toList (.own false))
  refine o_cut (fun a h' => h' = (h.new (.cells 33 v.toArray.toList (.own false))).new (.cells 33 w.toArray.toList (.own false)) ∧ Sl [(2, .pointer (some ⟨h.next, 0, none⟩)), (3, .pointer (some ⟨h.next + 1, 0, none⟩))] a) ?_ ?_
  · refine gg ?_
    exact ⟨rfl, rfl, sel_of rfl, sel_of rfl, trivial⟩
  rintro a h1 ⟨hh, hs⟩
  rw [← hh] at g1 g2 k1 n1
  clear hh
  obtain ⟨o1, c1, o2, c2, o3, c3, o4, c4, o5, c5, ps, rfl, r1, r2, r3, ⟨r4, p4⟩, r5, _⟩ := hv.keeps k1
  obtain ⟨o1', c1', o2', c2', o3', c3', o4', c4', o5', c5', ps', rfl, r1', r2', r3', ⟨r4', p4'⟩, r5', _⟩ := hw.keeps k1
  obtain ⟨f0, rfl⟩ := hs.puts
  refine o_seq (o_seq (o_reg ?_))
  refine i_cut 6 (fun a h' => h1 = h' ∧ ∃ b : Bool, Sl [(2, .pointer (some ⟨h.next, 0, none⟩)), (3, .pointer (some ⟨h.next + 1, 0, none⟩)), (13, .bool b)] a ∧ (b = true ↔ ¬(x.k = y.k))) ?_ ?_
  · simp only [List.take_succ_cons, List.take_zero]
    refine gg ?_; repeat (refine i_ldown (by exact sel_of rfl) (by assumption) (by rfl) ?_; refine gg ?_)
    exact ⟨rfl, _, ⟨sel_of rfl, sel_of rfl, sel_of rfl, trivial⟩, dec_ne _ _⟩
  simp only [List.drop_succ_cons, List.drop_zero]
  rintro a _ ⟨rfl, b, hs, hb⟩
  obtain ⟨f0, rfl⟩ := hs.puts
  refine i_cut 7 (fun a h' => h1 = h' ∧ ∃ b : Bool, Sl [(2, .pointer (some ⟨h.next, 0, none⟩)), (3, .pointer (some ⟨h.next + 1, 0, none⟩)), (20, .bool b)] a ∧ (b = true ↔ ¬((x.k = y.k) ∧ x.fl = y.fl))) ?_ ?_
  · simp only [List.take_succ_cons, List.take_zero]
    cases b with
    | true =>
      refine gg ?_; repeat (refine i_ldown (by exact sel_of rfl) (by assumption) (by rfl) ?_; refine gg ?_)
      exact ⟨rfl, _, ⟨sel_of rfl, sel_of rfl, sel_of rfl, trivial⟩, st_t hb⟩
    | false =>
      refine gg ?_; repeat (refine i_ldown (by exact sel_of rfl) (by assumption) (by rfl) ?_; refine gg ?_)
      exact ⟨rfl, _, ⟨sel_of rfl, sel_of rfl, sel_of rfl, trivial⟩, st_f hb (dec_ne _ _)⟩
  simp only [List.drop_succ_cons, List.drop_zero]
  rintro a _ ⟨rfl, b, hs, hb⟩
  obtain ⟨f0, rfl⟩ := hs.puts
  refine i_cut 7 (fun a h' => h1 = h' ∧ ∃ b : Bool, Sl [(2, .pointer (some ⟨h.next, 0, none⟩)), (3, .pointer (some ⟨h.next + 1, 0, none⟩)), (27, .bool b)] a ∧ (b = true ↔ ¬(((x.k = y.k) ∧ x.fl = y.fl) ∧ x.a = y.a))) ?_ ?_
  · simp only [List.take_succ_cons, List.take_zero]
    cases b with
    | true =>
      refine gg ?_; repeat (refine i_ldown (by exact sel_of rfl) (by assumption) (by rfl) ?_; refine gg ?_)
      exact ⟨rfl, _, ⟨sel_of rfl, sel_of rfl, sel_of rfl, trivial⟩, st_t hb⟩
    | false =>
      refine gg ?_; repeat (refine i_ldown (by exact sel_of rfl) (by assumption) (by rfl) ?_; refine gg ?_)
      exact ⟨rfl, _, ⟨sel_of rfl, sel_of rfl, sel_of rfl, trivial⟩, st_f hb (dec_ne _ _)⟩
  simp only [List.drop_succ_cons, List.drop_zero]
  rintro a _ ⟨rfl, b, hs, hb⟩
  obtain ⟨f0, rfl⟩ := hs.puts
  refine i_cut 7 (fun a h' => h1 = h' ∧ ∃ b : Bool, Sl [(2, .pointer (some ⟨h.next, 0, none⟩)), (3, .pointer (some ⟨h.next + 1, 0, none⟩)), (34, .bool b)] a ∧ (b = true ↔ ¬((((x.k = y.k) ∧ x.fl = y.fl) ∧ x.a = y.a) ∧ x.b = y.b))) ?_ ?_
  · simp only [List.take_succ_cons, List.take_zero]
    cases b with
    | true =>
      refine gg ?_; repeat (refine i_ldown (by exact sel_of rfl) (by assumption) (by rfl) ?_; refine gg ?_)
      exact ⟨rfl, _, ⟨sel_of rfl, sel_of rfl, sel_of rfl, trivial⟩, st_t hb⟩
    | false =>
      refine gg ?_; repeat (refine i_ldown (by exact sel_of rfl) (by assumption) (by rfl) ?_; refine gg ?_)
      exact ⟨rfl, _, ⟨sel_of rfl, sel_of rfl, sel_of rfl, trivial⟩, st_f hb (dec_ne _ _)⟩
  simp only [List.drop_succ_cons, List.drop_zero]
  rintro a _ ⟨rfl, b, hs, hb⟩
  obtain ⟨f0, rfl⟩ := hs.puts
  refine i_cut 7 (fun a h' => h1 = h' ∧ ∃ b : Bool, Sl [(2, .pointer (some ⟨h.next, 0, none⟩)), (3, .pointer (some ⟨h.next + 1, 0, none⟩)), (41, .bool b)] a ∧ (b = true ↔ ¬(((((x.k = y.k) ∧ x.fl = y.fl) ∧ x.a = y.a) ∧ x.b = y.b) ∧ x.o = y.o))) ?_ ?_
  · simp only [List.take_succ_cons, List.take_zero]
    cases b with
    | true =>
      refine gg ?_; repeat (refine i_ldown (by exact sel_of rfl) (by assumption) (by rfl) ?_; refine gg ?_)
      exact ⟨rfl, _, ⟨sel_of rfl, sel_of rfl, sel_of rfl, trivial⟩, st_t hb⟩
    | false =>
      refine gg ?_; repeat (refine i_ldown (by exact sel_of rfl) (by assumption) (by rfl) ?_; refine gg ?_)
      exact ⟨rfl, _, ⟨sel_of rfl, sel_of rfl, sel_of rfl, trivial⟩, st_f hb (dec_ne _ _)⟩
  simp only [List.drop_succ_cons, List.drop_zero]
  rintro a _ ⟨rfl, b, hs, hb⟩
  obtain ⟨f0, rfl⟩ := hs.puts
  refine i_cut 7 (fun a h' => h1 = h' ∧ ∃ b : Bool, Sl [(2, .pointer (some ⟨h.next, 0, none⟩)), (3, .pointer (some ⟨h.next + 1, 0, none⟩)), (48, .bool b)] a ∧ (b = true ↔ ¬((((((x.k = y.k) ∧ x.fl = y.fl) ∧ x.a = y.a) ∧ x.b = y.b) ∧ x.o = y.o) ∧ x.i = y.i))) ?_ ?_
  · simp only [List.take_succ_cons, List.take_zero]
    cases b with
    | true =>
      refine gg ?_; repeat (refine i_ldown (by exact sel_of rfl) (by assumption) (by rfl) ?_; refine gg ?_)
      exact ⟨rfl, _, ⟨sel_of rfl, sel_of rfl, sel_of rfl, trivial⟩, st_t hb⟩
    | false =>
      refine gg ?_; repeat (refine i_ldown (by exact sel_of rfl) (by assumption) (by rfl) ?_; refine gg ?_)
      exact ⟨rfl, _, ⟨sel_of rfl, sel_of rfl, sel_of rfl, trivial⟩, st_f hb (dec_ne _ _)⟩
  simp only [List.drop_succ_cons, List.drop_zero]
  rintro a _ ⟨rfl, b, hs, hb⟩
  obtain ⟨f0, rfl⟩ := hs.puts
  refine i_cut 7 (fun a h' => h1 = h' ∧ ∃ b : Bool, Sl [(2, .pointer (some ⟨h.next, 0, none⟩)), (3, .pointer (some ⟨h.next + 1, 0, none⟩)), (55, .bool b)] a ∧ (b = true ↔ ¬(((((((x.k = y.k) ∧ x.fl = y.fl) ∧ x.a = y.a) ∧ x.b = y.b) ∧ x.o = y.o) ∧ x.i = y.i) ∧ x.p = y.p))) ?_ ?_
  · simp only [List.take_succ_cons, List.take_zero]
    cases b with
    | true =>
      refine gg ?_; repeat (refine i_ldown (by exact sel_of rfl) (by assumption) (by rfl) ?_; refine gg ?_)
      exact ⟨rfl, _, ⟨sel_of rfl, sel_of rfl, sel_of rfl, trivial⟩, st_t hb⟩
    | false =>
      refine gg ?_; repeat (refine i_ldown (by exact sel_of rfl) (by assumption) (by rfl) ?_; refine gg ?_)
      exact ⟨rfl, _, ⟨sel_of rfl, sel_of rfl, sel_of rfl, trivial⟩, st_f hb (dec_ne _ _)⟩
  simp only [List.drop_succ_cons, List.drop_zero]
  rintro a _ ⟨rfl, b, hs, hb⟩
  obtain ⟨f0, rfl⟩ := hs.puts
  refine i_cut 9 (fun a h' => h1 = h' ∧ ∃ b : Bool, Sl [(2, .pointer (some ⟨h.next, 0, none⟩)), (3, .pointer (some ⟨h.next + 1, 0, none⟩)), (64, .bool b)] a ∧ (b = true ↔ ¬((((((((x.k = y.k) ∧ x.fl = y.fl) ∧ x.a = y.a) ∧ x.b = y.b) ∧ x.o = y.o) ∧ x.i = y.i) ∧ x.p = y.p) ∧ x.da = y.da))) ?_ ?_
  · simp only [List.take_succ_cons, List.take_zero]
    cases b with
    | true =>
      refine gg ?_; repeat (refine i_ldown (by exact sel_of rfl) (by assumption) (by rfl) ?_; refine gg ?_)
      exact ⟨rfl, _, ⟨sel_of rfl, sel_of rfl, sel_of rfl, trivial⟩, st_t hb⟩
    | false =>
      refine gg ?_; repeat (refine i_ldown (by exact sel_of rfl) (by assumption) (by rfl) ?_; refine gg ?_)
      refine i_v (r5.str (by exact sel_of rfl)) ?_
      refine gg ?_; repeat (refine i_ldown (by exact sel_of rfl) (by assumption) (by rfl) ?_; refine gg ?_)
      refine i_v (r5'.str (by exact sel_of rfl)) ?_
      refine gg ?_; repeat (refine i_ldown (by exact sel_of rfl) (by assumption) (by rfl) ?_; refine gg ?_)
      refine i_net (by exact sel_of rfl) (by exact sel_of rfl) ?_
      refine gg ?_; repeat (refine i_ldown (by exact sel_of rfl) (by assumption) (by rfl) ?_; refine gg ?_)
      exact ⟨rfl, _, ⟨sel_of rfl, sel_of rfl, sel_of rfl, trivial⟩, st_f hb (dec_ne' _ _)⟩
  simp only [List.drop_succ_cons, List.drop_zero]
  rintro a _ ⟨rfl, b, hs, hb⟩
  obtain ⟨f0, rfl⟩ := hs.puts
  refine i_cut 8 (fun a h' => h1 = h' ∧ ∃ b : Bool, Sl [(2, .pointer (some ⟨h.next, 0, none⟩)), (3, .pointer (some ⟨h.next + 1, 0, none⟩)), (72, .bool b)] a ∧ (b = true ↔ ¬(((((((((x.k = y.k) ∧ x.fl = y.fl) ∧ x.a = y.a) ∧ x.b = y.b) ∧ x.o = y.o) ∧ x.i = y.i) ∧ x.p = y.p) ∧ x.da = y.da) ∧ x.pa = y.pa))) ?_ ?_
  · simp only [List.take_succ_cons, List.take_zero]
    cases b with
    | true =>
      refine gg ?_; repeat (refine i_ldown (by exact sel_of rfl) (by assumption) (by rfl) ?_; refine gg ?_)
      exact ⟨rfl, _, ⟨sel_of rfl, sel_of rfl, sel_of rfl, trivial⟩, st_t hb⟩
    | false =>
      refine gg ?_; repeat (refine i_ldown (by exact sel_of rfl) (by assumption) (by rfl) ?_; refine gg ?_)
      refine i_call2 (by exact sel_of rfl) (by exact sel_of rfl) (w_rsame6 r4 p4 r4' p4' (by omega) n (by omega)) ?_
      rintro _ _ ⟨rfl, rfl⟩
      refine gg ?_; repeat (refine i_ldown (by exact sel_of rfl) (by assumption) (by rfl) ?_; refine gg ?_)
      exact ⟨rfl, _, ⟨sel_of rfl, sel_of rfl, sel_of rfl, trivial⟩, st_f hb dec_not⟩
  simp only [List.drop_succ_cons, List.drop_zero]
  rintro a _ ⟨rfl, b, hs, hb⟩
  obtain ⟨f0, rfl⟩ := hs.puts
  refine i_cut 9 (fun a h' => h1 = h' ∧ ∃ b : Bool, Sl [(2, .pointer (some ⟨h.next, 0, none⟩)), (3, .pointer (some ⟨h.next + 1, 0, none⟩)), (81, .bool b)] a ∧ (b = true ↔ ¬((((((((((x.k = y.k) ∧ x.fl = y.fl) ∧ x.a = y.a) ∧ x.b = y.b) ∧ x.o = y.o) ∧ x.i = y.i) ∧ x.p = y.p) ∧ x.da = y.da) ∧ x.pa = y.pa) ∧ x.bl.length = y.bl.length))) ?_ ?_
  · simp only [List.take_succ_cons, List.take_zero]
    cases b with
    | true =>
      refine gg ?_; repeat (refine i_ldown (by exact sel_of rfl) (by assumption) (by rfl) ?_; refine gg ?_)
      exact ⟨rfl, _, ⟨sel_of rfl, sel_of rfl, sel_of rfl, trivial⟩, st_t hb⟩
    | false =>
      refine gg ?_; repeat (refine i_ldown (by exact sel_of rfl) (by assumption) (by rfl) ?_; refine gg ?_)
      exact ⟨rfl, _, ⟨sel_of rfl, sel_of rfl, sel_of rfl, trivial⟩, st_f hb (dec_ne _ _)⟩
  simp only [List.drop_succ_cons, List.drop_zero]
  rintro a _ ⟨rfl, b, hs, hb⟩
  obtain ⟨f0, rfl⟩ := hs.puts
  refine i_cut 9 (fun a h' => h1 = h' ∧ ∃ b : Bool, Sl [(2, .pointer (some ⟨h.next, 0, none⟩)), (3, .pointer (some ⟨h.next + 1, 0, none⟩)), (90, .bool b)] a ∧ (b = true ↔ ¬(((((((((((x.k = y.k) ∧ x.fl = y.fl) ∧ x.a = y.a) ∧ x.b = y.b) ∧ x.o = y.o) ∧ x.i = y.i) ∧ x.p = y.p) ∧ x.da = y.da) ∧ x.pa = y.pa) ∧ x.bl.length = y.bl.length) ∧ x.du.length = y.du.length))) ?_ ?_
  · simp only [List.take_succ_cons, List.take_zero]
    cases b with
    | true =>
      refine gg ?_; repeat (refine i_ldown (by exact sel_of rfl) (by assumption) (by rfl) ?_; refine gg ?_)
      exact ⟨rfl, _, ⟨sel_of rfl, sel_of rfl, sel_of rfl, trivial⟩, st_t hb⟩
    | false =>
      refine gg ?_; repeat (refine i_ldown (by exact sel_of rfl) (by assumption) (by rfl) ?_; refine gg ?_)
      exact ⟨rfl, _, ⟨sel_of rfl, sel_of rfl, sel_of rfl, trivial⟩, st_f hb (dec_ne _ _)⟩
  simp only [List.drop_succ_cons, List.drop_zero]
  rintro a _ ⟨rfl, b, hs, hb⟩
  obtain ⟨f0, rfl⟩ := hs.puts
  refine i_cut 8 (fun a h' => h1 = h' ∧ ∃ b : Bool, Sl [(2, .pointer (some ⟨h.next, 0, none⟩)), (3, .pointer (some ⟨h.next + 1, 0, none⟩)), (98, .bool b)] a ∧ (b = true ↔ ¬((((((((((((x.k = y.k) ∧ x.fl = y.fl) ∧ x.a = y.a) ∧ x.b = y.b) ∧ x.o = y.o) ∧ x.i = y.i) ∧ x.p = y.p) ∧ x.da = y.da) ∧ x.pa = y.pa) ∧ x.bl.length = y.bl.length) ∧ x.du.length = y.du.length) ∧ x.sk.length = y.sk.length))) ?_ ?_
  · simp only [List.take_succ_cons, List.take_zero]
    cases b with
    | true =>
      refine gg ?_; repeat (refine i_ldown (by exact sel_of rfl) (by assumption) (by rfl) ?_; refine gg ?_)
      exact ⟨rfl, _, ⟨sel_of rfl, sel_of rfl, sel_of rfl, trivial⟩, st_t hb⟩
    | false =>
      refine gg ?_; repeat (refine i_ldown (by exact sel_of rfl) (by assumption) (by rfl) ?_; refine gg ?_)
      exact ⟨rfl, _, ⟨sel_of rfl, sel_of rfl, sel_of rfl, trivial⟩, st_f hb (dec_ne _ _)⟩
  simp only [List.drop_succ_cons, List.drop_zero]
  rintro a _ ⟨rfl, b, hs, hb⟩
  obtain ⟨f0, rfl⟩ := hs.puts
  cases b with
  | true =>
    refine gg ?_; repeat (refine i_ldown (by exact sel_of rfl) (by assumption) (by rfl) ?_; refine gg ?_)
    exact ⟨(bool_false (fun e => by subst e; exact hb.1 rfl ⟨⟨⟨⟨⟨⟨⟨⟨⟨⟨⟨rfl, rfl⟩, rfl⟩, rfl⟩, rfl⟩, rfl⟩, rfl⟩, rfl⟩, rfl⟩, rfl⟩, rfl⟩, rfl⟩)).symm, k1⟩
  | false =>
  obtain ⟨⟨⟨⟨⟨⟨⟨⟨⟨⟨⟨e0, e1⟩, e2⟩, e3⟩, e4⟩, e5⟩, e6⟩, e7⟩, e8⟩, e9⟩, e10⟩, e11⟩ := Classical.byContradiction fun hn => absurd (hb.2 hn) (by decide)
  refine gg ?_; repeat (refine i_ldown (by exact sel_of rfl) (by assumption) (by rfl) ?_; refine gg ?_)
  refine o_up x.bl.length (fun i f h' => Sl [(5, .int .i64 (i : Int)), (2, .pointer (some ⟨h.next, 0, none⟩)), (3, .pointer (some ⟨h.next + 1, 0, none⟩))] f ∧ h1 = h' ∧ x.bl.take i = y.bl.take i) (by omega) ?_ ?_
  · exact ⟨⟨sel_of rfl, sel_of rfl, sel_of rfl, trivial⟩, rfl, rfl⟩
  rintro i f h' hi ⟨hs, rfl, htk⟩
  obtain ⟨f0, rfl⟩ := hs.puts
  simp only [c42_0]
  refine gg ?_; repeat (refine i_ldown (by exact sel_of rfl) (by assumption) (by rfl) ?_; refine gg ?_)
  refine out_if (by exact sel_of rfl) (fun hif => ?_) (fun hif => ?_)
  · obtain ⟨p, hp⟩ : ∃ p, x.bl[i]? = some p := ⟨_, List.getElem?_eq_getElem (by omega)⟩
    obtain ⟨q, hq⟩ : ∃ p, y.bl[i]? = some p := ⟨_, List.getElem?_eq_getElem (by omega)⟩
    refine gg ?_; repeat (refine i_ldown (by exact sel_of rfl) (by assumption) (by rfl) ?_; refine gg ?_)
    refine i_idx (by exact sel_of rfl) r1 (i := i) (by exact sel_of rfl) (by omega) fun u1 hu => ?_
    cases hu
    refine gg ?_; repeat (refine i_ldown (by exact sel_of rfl) (by assumption) (by rfl) ?_; refine gg ?_)
    refine i_load1 (v := .int .u16 (p.1 : Int)) (by exact sel_of rfl) (by rw [← pr16_at0 hp, ← r1.cell (by omega)]; rfl) ?_
    refine gg ?_; repeat (refine i_ldown (by exact sel_of rfl) (by assumption) (by rfl) ?_; refine gg ?_)
    refine i_idx (by exact sel_of rfl) r1' (i := i) (by exact sel_of rfl) (by omega) fun u2 hu => ?_
    cases hu
    refine gg ?_; repeat (refine i_ldown (by exact sel_of rfl) (by assumption) (by rfl) ?_; refine gg ?_)
    refine i_load1 (v := .int .u16 (q.1 : Int)) (by exact sel_of rfl) (by rw [← pr16_at0 hq, ← r1'.cell (by omega)]; rfl) ?_
    refine gg ?_; repeat (refine i_ldown (by exact sel_of rfl) (by assumption) (by rfl) ?_; refine gg ?_)
    by_cases d1 : p.1 = q.1
    case neg =>
      rw [decide_eq_true (p := ((p.1 : Nat) : Int) ≠ (q.1 : Nat)) (by omega)]
      refine gg ?_; repeat (refine i_ldown (by exact sel_of rfl) (by assumption) (by rfl) ?_; refine gg ?_)
      exact ⟨(bool_false (fun e => take_ne hp hq (fun e => d1 (by rw [e])) (by rw [e]))).symm, k1⟩
    rw [decide_eq_false (p := ((p.1 : Nat) : Int) ≠ (q.1 : Nat)) (by omega)]
    refine gg ?_; repeat (refine i_ldown (by exact sel_of rfl) (by assumption) (by rfl) ?_; refine gg ?_)
    refine i_idx (by exact sel_of rfl) r1 (i := i) (by exact sel_of rfl) (by omega) fun u3 hu => ?_
    cases hu
    refine gg ?_; repeat (refine i_ldown (by exact sel_of rfl) (by assumption) (by rfl) ?_; refine gg ?_)
    refine i_load1 (v := .int .u16 (p.2 : Int)) (by exact sel_of rfl) (by rw [← pr16_at1 hp, ← r1.cell (by omega)]; rfl) ?_
    refine gg ?_; repeat (refine i_ldown (by exact sel_of rfl) (by assumption) (by rfl) ?_; refine gg ?_)
    refine i_idx (by exact sel_of rfl) r1' (i := i) (by exact sel_of rfl) (by omega) fun u4 hu => ?_
    cases hu
    refine gg ?_; repeat (refine i_ldown (by exact sel_of rfl) (by assumption) (by rfl) ?_; refine gg ?_)
    refine i_load1 (v := .int .u16 (q.2 : Int)) (by exact sel_of rfl) (by rw [← pr16_at1 hq, ← r1'.cell (by omega)]; rfl) ?_
    refine gg ?_; repeat (refine i_ldown (by exact sel_of rfl) (by assumption) (by rfl) ?_; refine gg ?_)
    by_cases d2 : p.2 = q.2
    case neg =>
      rw [decide_eq_true (p := ((p.2 : Nat) : Int) ≠ (q.2 : Nat)) (by omega)]
      refine gg ?_; repeat (refine i_ldown (by exact sel_of rfl) (by assumption) (by rfl) ?_; refine gg ?_)
      exact ⟨(bool_false (fun e => take_ne hp hq (fun e => d2 (by rw [e])) (by rw [e]))).symm, k1⟩
    rw [decide_eq_false (p := ((p.2 : Nat) : Int) ≠ (q.2 : Nat)) (by omega)]
    refine gg ?_; repeat (refine i_ldown (by exact sel_of rfl) (by assumption) (by rfl) ?_; refine gg ?_)
    exact rnd_up (by omega) ⟨⟨sel_of rfl, sel_of rfl, sel_of rfl, trivial⟩, rfl, take_snoc htk hp (hq.trans (congrArg some (Prod.ext d1 d2).symm))⟩
  rw [List.take_of_length_le (by omega), List.take_of_length_le (by omega)] at htk
  have t0 := htk
  clear htk
  refine gg ?_; repeat (refine i_ldown (by exact sel_of rfl) (by assumption) (by rfl) ?_; refine gg ?_)
  refine o_up x.du.length (fun i f h' => Sl [(6, .int .i64 (i : Int)), (2, .pointer (some ⟨h.next, 0, none⟩)), (3, .pointer (some ⟨h.next + 1, 0, none⟩))] f ∧ h1 = h' ∧ x.du.take i = y.du.take i) (by omega) ?_ ?_
  · exact ⟨⟨sel_of rfl, sel_of rfl, sel_of rfl, trivial⟩, rfl, rfl⟩
  rintro i f h' hi ⟨hs, rfl, htk⟩
  obtain ⟨f0, rfl⟩ := hs.puts
  simp only [c42_1]
  refine gg ?_; repeat (refine i_ldown (by exact sel_of rfl) (by assumption) (by rfl) ?_; refine gg ?_)
  refine out_if (by exact sel_of rfl) (fun hif => ?_) (fun hif => ?_)
  · obtain ⟨p, hp⟩ : ∃ p, x.du[i]? = some p := ⟨_, List.getElem?_eq_getElem (by omega)⟩
    obtain ⟨q, hq⟩ : ∃ p, y.du[i]? = some p := ⟨_, List.getElem?_eq_getElem (by omega)⟩
    refine gg ?_; repeat (refine i_ldown (by exact sel_of rfl) (by assumption) (by rfl) ?_; refine gg ?_)
    refine i_idx (by exact sel_of rfl) r2 (i := i) (by exact sel_of rfl) (by omega) fun u1 hu => ?_
    cases hu
    refine gg ?_; repeat (refine i_ldown (by exact sel_of rfl) (by assumption) (by rfl) ?_; refine gg ?_)
    refine i_load1 (v := .int .u32 (p : Int)) (by exact sel_of rfl) (by rw [← n32_at hp, ← r2.cell (by omega), Nat.mul_one]) ?_
    refine gg ?_; repeat (refine i_ldown (by exact sel_of rfl) (by assumption) (by rfl) ?_; refine gg ?_)
    refine i_idx (by exact sel_of rfl) r2' (i := i) (by exact sel_of rfl) (by omega) fun u2 hu => ?_
    cases hu
    refine gg ?_; repeat (refine i_ldown (by exact sel_of rfl) (by assumption) (by rfl) ?_; refine gg ?_)
    refine i_load1 (v := .int .u32 (q : Int)) (by exact sel_of rfl) (by rw [← n32_at hq, ← r2'.cell (by omega), Nat.mul_one]) ?_
    refine gg ?_; repeat (refine i_ldown (by exact sel_of rfl) (by assumption) (by rfl) ?_; refine gg ?_)
    by_cases d1 : p = q
    case neg =>
      rw [decide_eq_true (p := ((p : Nat) : Int) ≠ (q : Nat)) (by omega)]
      refine gg ?_; repeat (refine i_ldown (by exact sel_of rfl) (by assumption) (by rfl) ?_; refine gg ?_)
      exact ⟨(bool_false (fun e => take_ne hp hq d1 (by rw [e]))).symm, k1⟩
    rw [decide_eq_false (p := ((p : Nat) : Int) ≠ (q : Nat)) (by omega)]
    refine gg ?_; repeat (refine i_ldown (by exact sel_of rfl) (by assumption) (by rfl) ?_; refine gg ?_)
    exact rnd_up (by omega) ⟨⟨sel_of rfl, sel_of rfl, sel_of rfl, trivial⟩, rfl, take_snoc htk hp (hq.trans (congrArg some d1.symm))⟩
  rw [List.take_of_length_le (by omega), List.take_of_length_le (by omega)] at htk
  have t1 := htk
  clear htk
  refine gg ?_; repeat (refine i_ldown (by exact sel_of rfl) (by assumption) (by rfl) ?_; refine gg ?_)
  refine o_up x.sk.length (fun i f h' => Sl [(7, .int .i64 (i : Int)), (2, .pointer (some ⟨h.next, 0, none⟩)), (3, .pointer (some ⟨h.next + 1, 0, none⟩))] f ∧ h1 = h' ∧ x.sk.take i = y.sk.take i) (by omega) ?_ ?_
  · exact ⟨⟨sel_of rfl, sel_of rfl, sel_of rfl, trivial⟩, rfl, rfl⟩
  rintro i f h' hi ⟨hs, rfl, htk⟩
  obtain ⟨f0, rfl⟩ := hs.puts
  simp only [c42_2]
  refine gg ?_; repeat (refine i_ldown (by exact sel_of rfl) (by assumption) (by rfl) ?_; refine gg ?_)
  refine out_if (by exact sel_of rfl) (fun hif => ?_) (fun hif => ?_)
  · obtain ⟨p, hp⟩ : ∃ p, x.sk[i]? = some p := ⟨_, List.getElem?_eq_getElem (by omega)⟩
    obtain ⟨q, hq⟩ : ∃ p, y.sk[i]? = some p := ⟨_, List.getElem?_eq_getElem (by omega)⟩
    refine gg ?_; repeat (refine i_ldown (by exact sel_of rfl) (by assumption) (by rfl) ?_; refine gg ?_)
    refine i_idx (by exact sel_of rfl) r3 (i := i) (by exact sel_of rfl) (by omega) fun u1 hu => ?_
    cases hu
    refine gg ?_; repeat (refine i_ldown (by exact sel_of rfl) (by assumption) (by rfl) ?_; refine gg ?_)
    refine i_load1 (v := .int .u16 (p.1 : Int)) (by exact sel_of rfl) (by rw [← pr16_at0 hp, ← r3.cell (by omega)]; rfl) ?_
    refine gg ?_; repeat (refine i_ldown (by exact sel_of rfl) (by assumption) (by rfl) ?_; refine gg ?_)
    refine i_idx (by exact sel_of rfl) r3' (i := i) (by exact sel_of rfl) (by omega) fun u2 hu => ?_
    cases hu
    refine gg ?_; repeat (refine i_ldown (by exact sel_of rfl) (by assumption) (by rfl) ?_; refine gg ?_)
    refine i_load1 (v := .int .u16 (q.1 : Int)) (by exact sel_of rfl) (by rw [← pr16_at0 hq, ← r3'.cell (by omega)]; rfl) ?_
    refine gg ?_; repeat (refine i_ldown (by exact sel_of rfl) (by assumption) (by rfl) ?_; refine gg ?_)
    by_cases d1 : p.1 = q.1
    case neg =>
      rw [decide_eq_true (p := ((p.1 : Nat) : Int) ≠ (q.1 : Nat)) (by omega)]
      refine gg ?_; repeat (refine i_ldown (by exact sel_of rfl) (by assumption) (by rfl) ?_; refine gg ?_)
      exact ⟨(bool_false (fun e => take_ne hp hq (fun e => d1 (by rw [e])) (by rw [e]))).symm, k1⟩
    rw [decide_eq_false (p := ((p.1 : Nat) : Int) ≠ (q.1 : Nat)) (by omega)]
    refine gg ?_; repeat (refine i_ldown (by exact sel_of rfl) (by assumption) (by rfl) ?_; refine gg ?_)
    refine i_idx (by exact sel_of rfl) r3 (i := i) (by exact sel_of rfl) (by omega) fun u3 hu => ?_
    cases hu
    refine gg ?_; repeat (refine i_ldown (by exact sel_of rfl) (by assumption) (by rfl) ?_; refine gg ?_)
    refine i_load1 (v := .int .u16 (p.2 : Int)) (by exact sel_of rfl) (by rw [← pr16_at1 hp, ← r3.cell (by omega)]; rfl) ?_
    refine gg ?_; repeat (refine i_ldown (by exact sel_of rfl) (by assumption) (by rfl) ?_; refine gg ?_)
    refine i_idx (by exact sel_of rfl) r3' (i := i) (by exact sel_of rfl) (by omega) fun u4 hu => ?_
    cases hu
    refine gg ?_; repeat (refine i_ldown (by exact sel_of rfl) (by assumption) (by rfl) ?_; refine gg ?_)
    refine i_load1 (v := .int .u16 (q.2 : Int)) (by exact sel_of rfl) (by rw [← pr16_at1 hq, ← r3'.cell (by omega)]; rfl) ?_
    refine gg ?_; repeat (refine i_ldown (by exact sel_of rfl) (by assumption) (by rfl) ?_; refine gg ?_)
    by_cases d2 : p.2 = q.2
    case neg =>
      rw [decide_eq_true (p := ((p.2 : Nat) : Int) ≠ (q.2 : Nat)) (by omega)]
      refine gg ?_; repeat (refine i_ldown (by exact sel_of rfl) (by assumption) (by rfl) ?_; refine gg ?_)
      exact ⟨(bool_false (fun e => take_ne hp hq (fun e => d2 (by rw [e])) (by rw [e]))).symm, k1⟩
    rw [decide_eq_false (p := ((p.2 : Nat) : Int) ≠ (q.2 : Nat)) (by omega)]
    refine gg ?_; repeat (refine i_ldown (by exact sel_of rfl) (by assumption) (by rfl) ?_; refine gg ?_)
    exact rnd_up (by omega) ⟨⟨sel_of rfl, sel_of rfl, sel_of rfl, trivial⟩, rfl, take_snoc htk hp (hq.trans (congrArg some (Prod.ext d1 d2).symm))⟩
  rw [List.take_of_length_le (by omega), List.take_of_length_le (by omega)] at htk
  have t2 := htk
  clear htk
  refine gg ?_; repeat (refine i_ldown (by exact sel_of rfl) (by assumption) (by rfl) ?_; refine gg ?_)
  exact ⟨(bool_true (Chk.ext' e0 e1 e2 e3 e4 e5 e6 t0 t1 t2 e8 e7)).symm, k1⟩
end Go.Proofs.Ytdcllpjoejkpnaa

