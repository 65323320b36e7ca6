/- Part of a proof by an abstract run of the program's code: SPkS. No condition. -/
import Derived.Test.YtdcllpjoejkpnaaSFewA
import Derived.Test.YtdcllpjoejkpnaaSPkA
import Derived.Test.YtdcllpjoejkpnaaSPkB
import Derived.Test.YtdcllpjoejkpnaaSPkC
import Derived.Test.YtdcllpjoejkpnaaSRef
/-! The law's bounds on a packet, walked. -/
set_option linter.unusedVariables false
namespace Go.Proofs.Ytdcllpjoejkpnaa
open Go Vm
def fewL (l : List Chk) : Prop := l.length ≤ 80 ∧ ∀ x ∈ l, x.few
instance (l : List Chk) : Decidable (fewL l) := by unfold fewL; infer_instance
theorem w_pfew {h : Heap} {o : Option Addr} {c : Nat} {l : List Chk} {els : List (List Value)} (hr : Row h 12 o l.length els.flatten) (he : ChE h l els) (n : Nat) (hn : 200 ≤ n) :
    ResQ (callN Try.prog G0 n (.call 11 [.slice o l.length c]) h) (fun v h' => v = .bool (decide (fewL l)) ∧ Keeps h h') := by
  obtain ⟨n, rfl⟩ : ∃ m, n = m + 1 := ⟨n - 1, by omega⟩
  refine res_enter rfl d11 rfl ?_; simp only [c11]
  refine gg ?_
  refine out_if (by exact sel_of rfl) (fun hif => ?_) (fun hif => ?_)
  · refine gg ?_
    exact ⟨(bool_false (fun hf => by have := hf.1; omega)).symm, Keeps.refl h⟩
  refine gg ?_
  refine o_up l.length (fun i f h' => Sl [(3, .int .i64 (i : Int)), (0, .slice o l.length c)] f ∧ Keeps h h' ∧ ∀ x ∈ l.take i, x.few) (by omega) ?_ ?_
  · exact ⟨⟨sel_of rfl, sel_of rfl, trivial⟩, Keeps.refl h, fun p hp => by simp at hp⟩
  rintro i f h' hi ⟨hs, k, hall⟩
  obtain ⟨f0, rfl⟩ := hs.puts
  simp only [c11_0]
  refine gg ?_
  refine out_if (by exact sel_of rfl) (fun hif => ?_) (fun hif => ?_)
  · obtain ⟨x, hx⟩ : ∃ x, l[i]? = some x := ⟨_, List.getElem?_eq_getElem (by omega)⟩
    obtain ⟨v, hv, cv⟩ := he.at hx
    have rr := hr.keeps k
    refine gg ?_
    refine i_idx (by exact sel_of rfl) rr (i := i) (by exact sel_of rfl) (by omega) fun u hu => ?_
    subst hu
    refine i_loadN (v := v) (by exact sel_of rfl) (by rw [rr.cells (by omega) (some 0), flat_get els i he.2.1 hv]) ?_
    refine i_call1 (by exact sel_of rfl) (w_few7 (cv.keeps k) n (by omega)) ?_
    rintro _ h2 ⟨rfl, k2⟩
    by_cases hf : x.few
    · rw [decide_eq_true hf]
      refine gg ?_
      refine rnd_up (by omega) ⟨⟨sel_of rfl, sel_of rfl, trivial⟩, k.trans k2, fun y hy => ?_⟩
      rw [List.take_add_one, hx] at hy
      rcases List.mem_append.1 hy with hy | hy
      · exact hall y hy
      · simp at hy; subst hy; exact hf
    · rw [decide_eq_false hf]
      refine gg ?_
      exact ⟨(bool_false (fun hl => hf (hl.2 x (List.mem_of_getElem? hx)))).symm, k.trans k2⟩
  · rw [List.take_of_length_le (by omega)] at hall
    refine gg ?_
    exact ⟨(bool_true ⟨by omega, hall⟩).symm, k⟩
end Go.Proofs.Ytdcllpjoejkpnaa

/-! The law PacketEncodes, walked. -/
set_option linter.unusedVariables false
namespace Go.Proofs.Ytdcllpjoejkpnaa
open Go Vm
theorem w_size {h : Heap} {x : Chk} {v : List Value} (hv : ChV h x v) (n : Nat) (hn : 100600 ≤ n) :
    ResQ (callN Try.prog G0 n (.call 16 [.agg v.toArray]) h) (fun u h' => u = .int .i64 (((encC x).1.length : Nat) : Int) ∧ Keeps h h') := by
  have lv := hv.len
  obtain ⟨n, rfl⟩ : ∃ m, n = m + 1 := ⟨n - 1, by omega⟩
  refine res_enter rfl d16 rfl ?_; simp only [c16]
  obtain ⟨a1, k1, n1⟩ := box_one h (.cells 33 v.toArray.toList (.own false))
  refine gg ?_
  generalize (h.new (.cells 33 v.toArray.toList (.own false))) = h1 at *
  refine i_loadN (by exact sel_of rfl) (loadN_all (by assumption) (by first | rfl | assumption)) ?_
  refine gg ?_
  refine i_call1 (by exact sel_of rfl) (w_cencodeG (hv.keeps k1) n (by omega)) ?_
  rintro _ h2 ⟨k2, oE, cE, rfl, rE, hcE⟩
  generalize encC x = E at *
  refine gg ?_
  exact ⟨rfl, k1.trans k2⟩
theorem w_rsize {h : Heap} {x : Chk} {v : List Value} (hv : ChV h x v) (ho : x.Ok) (hf : x.few) (n : Nat) (hn : 100600 ≤ n) :
    ResQ (callN Try.prog G0 n (.call 17 [.agg v.toArray]) h) (fun u h' => u = .int .i64 (((encC x).1.length : Nat) : Int) ∧ Keeps h h') := by
  have lv := hv.len
  obtain ⟨n, rfl⟩ : ∃ m, n = m + 1 := ⟨n - 1, by omega⟩
  refine res_enter rfl d17 rfl ?_; simp only [c17]
  obtain ⟨a1, k1, n1⟩ := box_one h (.cells 33 v.toArray.toList (.own false))
  refine gg ?_
  generalize (h.new (.cells 33 v.toArray.toList (.own false))) = h1 at *
  refine i_loadN (by exact sel_of rfl) (loadN_all (by assumption) (by first | rfl | assumption)) ?_
  refine gg ?_
  refine i_call1 (by exact sel_of rfl) (w_rencode (hv.keeps k1) ho hf n (by omega)) ?_
  rintro _ h2 ⟨k2, oE, cE, rfl, rE, hcE⟩
  generalize encC x = E at *
  refine gg ?_
  exact ⟨rfl, k1.trans k2⟩
set_option maxHeartbeats 8000000 in
theorem w_lpenc {h : Heap} {ot : Option Addr} {ct : Nat} {t : List Nat} {p : Pk} {pv : List Value} {x : Chk} {v : List Value} (ht : Row h 1 ot t.length (n32 t)) (hb : ∀ v ∈ t, v < 4294967296) (hpv : PkV h p pv) (hpb : p.from_ < 65536 ∧ p.to_ < 65536) (hall : ∀ y ∈ p.l, y.Ok) (hv : ChV h x v) (ho : x.Ok) (n : Nat) (hn : 102000 ≤ n) :
    ResQ (callN Try.prog G0 n (.call 3 [.slice ot t.length ct, .agg pv.toArray, .agg v.toArray]) h) (fun u h' => u = .bool true) := by
  have hpv0 := hpv
  have hv0 := hv
  have lp := hpv.len
  have sv := hv.sv
  obtain ⟨n, rfl⟩ : ∃ m, n = m + 1 := ⟨n - 1, by omega⟩
  refine res_enter rfl d3 rfl ?_; simp only [c3]
  obtain ⟨g1, g2, k1, n1⟩ := box_two h (.cells 27 pv.toArray.toList (.own false)) (.cells 33 v.toArray.toList (.own false))
  refine o_cut (fun a h' => h' = (h.new (.cells 27 pv.toArray.toList (.own false))).new (.cells 33 v.toArray.toList (.own false)) ∧ Sl [(4, .pointer (some ⟨h.next, 0, none⟩)), (5, .pointer (some ⟨h.next + 1, 0, none⟩)), (0, .slice ot t.length ct)] a) ?_ ?_
  · refine gg ?_
    exact ⟨rfl, rfl, sel_of rfl, sel_of rfl, sel_of rfl, trivial⟩
  rintro a h1 ⟨hh, hs⟩
  rw [← hh] at g1 g2 k1 n1
  clear hh
  obtain ⟨ol, cl, els, rfl, rl, el, hcl⟩ := hpv
  obtain ⟨o1, c1, o2, c2, o3, c3, o4, c4, o5, c5, ps, rfl, _⟩ := hv
  obtain ⟨f0, rfl⟩ := hs.puts
  have b1 : h.next < h1.next := by omega
  have b2 : h.next + 1 < h1.next := by omega
  refine gg ?_
  refine i_call0 (w_awake h1 n (by omega)) ?_
  rintro _ _ ⟨rfl, rfl⟩
  refine gg ?_; repeat (refine i_ldown (by exact sel_of rfl) (by assumption) (by rfl) ?_; refine gg ?_)
  refine i_call1 (by exact sel_of rfl) (w_pfew (rl.keeps k1) (el.keeps k1) n (by omega)) ?_
  rintro _ h2 ⟨rfl, k2⟩
  by_cases hf : fewL p.l
  case neg =>
    rw [decide_eq_false hf]
    refine gg ?_
    rfl
  rw [decide_eq_true hf]
  have d1 := (k2.get _ b1).trans g1
  have d2 := (k2.get _ b2).trans g2
  have b1 := Nat.lt_of_lt_of_le b1 k2.next
  have b2 := Nat.lt_of_lt_of_le b2 k2.next
  have k12 := k1.trans k2
  refine gg ?_
  refine i_loadN (by exact sel_of rfl) (loadN_all (by assumption) (by first | rfl | assumption)) ?_
  refine gg ?_
  refine i_call1 (by exact sel_of rfl) (w_few7 (hv0.keeps k12) n (by omega)) ?_
  rintro _ h3 ⟨rfl, k3⟩
  by_cases hfx : x.few
  case neg =>
    rw [decide_eq_false hfx]
    refine gg ?_
    rfl
  rw [decide_eq_true hfx]
  refine gg ?_
  by_cases h1000 : 1000 < t.length
  · rw [decide_eq_true (p := (1000 : Int) < ((t.length : Nat) : Int)) (by omega)]
    refine gg ?_
    rfl
  rw [decide_eq_false (p := (1000 : Int) < ((t.length : Nat) : Int)) (by omega)]
  have e1 := (k3.get _ b1).trans d1
  have e2 := (k3.get _ b2).trans d2
  have b1 := Nat.lt_of_lt_of_le b1 k3.next
  have b2 := Nat.lt_of_lt_of_le b2 k3.next
  have k13 := k12.trans k3
  refine gg ?_
  refine i_loadN (by exact sel_of rfl) (loadN_all e1 rfl) ?_
  refine gg ?_
  refine i_call2 (by exact sel_of rfl) (by exact sel_of rfl) (w_pencode (ht.keeps k13) hb (hpv0.keeps k13) hf.1 n (by omega)) ?_
  rintro _ h4 ⟨k4, oE, cE, rfl, rE, hcE⟩
  have q1 := (k4.get _ b1).trans e1
  have q2 := (k4.get _ b2).trans e2
  have b1 := Nat.lt_of_lt_of_le b1 k4.next
  have b2 := Nat.lt_of_lt_of_le b2 k4.next
  have k14 := k13.trans k4
  refine gg ?_
  refine i_loadN (by exact sel_of rfl) (loadN_all q1 rfl) ?_
  refine gg ?_
  refine i_call2 (by exact sel_of rfl) (by exact sel_of rfl) (w_rpencode (ht.keeps k14) hb (hpv0.keeps k14) hpb hf.1 (fun y hy => ⟨hall y hy, hf.2 y hy⟩) n (by omega)) ?_
  rintro _ h5 ⟨k5, oR, cR, rfl, rR, hcR⟩
  have r2 := (k5.get _ b2).trans q2
  have b2 := Nat.lt_of_lt_of_le b2 k5.next
  have k15 := k14.trans k5
  have rE := rE.keeps k5
  generalize encPk t p = E at *
  refine gg ?_
  refine i_call2 (by exact sel_of rfl) (by exact sel_of rfl) (w_same rE rR n (by omega)) ?_
  rintro _ _ ⟨rfl, rfl⟩
  rw [decide_eq_true (rfl : E.1 = E.1)]
  refine gg ?_
  refine i_loadN (by exact sel_of rfl) (loadN_all r2 rfl) ?_
  refine gg ?_
  refine i_call1 (by exact sel_of rfl) (w_size (hv0.keeps k15) n (by omega)) ?_
  rintro _ h6 ⟨rfl, k6⟩
  have s2 := (k6.get _ b2).trans r2
  have b2 := Nat.lt_of_lt_of_le b2 k6.next
  have k16 := k15.trans k6
  refine gg ?_
  refine i_loadN (by exact sel_of rfl) (loadN_all s2 rfl) ?_
  refine gg ?_
  refine i_call1 (by exact sel_of rfl) (w_rsize (hv0.keeps k16) ho hfx n (by omega)) ?_
  rintro _ h7 ⟨rfl, k7⟩
  have t2 := (k7.get _ b2).trans s2
  generalize encC x = X at *
  refine gg ?_; repeat (refine i_ldown (by exact sel_of rfl) (by assumption) (by rfl) ?_; refine gg ?_)
  refine i_call1 (by exact sel_of rfl) (w_alone x.k n (by omega)) ?_
  rintro _ _ ⟨rfl, rfl⟩
  refine gg ?_; repeat (refine i_ldown (by exact sel_of rfl) (by assumption) (by rfl) ?_; refine gg ?_)
  refine i_call1 (by exact sel_of rfl) (w_ralone x.k n (by omega)) ?_
  rintro _ _ ⟨rfl, rfl⟩
  refine gg ?_; repeat (refine i_ldown (by exact sel_of rfl) (by assumption) (by rfl) ?_; refine gg ?_)
  refine ⟨chk_live rfl (ldN (by exact sel_of rfl) (loadN_all (by assumption) (by rfl))) (by exact sv) (fun m hm => by
    simp only [List.mem_cons, List.not_mem_nil, or_false] at hm
    rcases hm with rfl | rfl <;> exact ⟨_, _, rfl, ldN (by exact sel_of rfl) (loadN_all (by assumption) (by rfl))⟩) (chk_live rfl (ldO (by exact sel_of rfl) (by assumption) (by rfl)) (sv_int _ _) (fun m hm => by
    simp only [List.mem_cons, List.not_mem_nil, or_false] at hm
    rcases hm with rfl | rfl <;> exact ⟨_, _, rfl, ldO (by exact sel_of rfl) (by assumption) (by rfl)⟩) chk_nil), ?_⟩
  refine gg ?_
  rfl
end Go.Proofs.Ytdcllpjoejkpnaa

/-! The document's Same of packets, walked. -/
set_option linter.unusedVariables false
namespace Go.Proofs.Ytdcllpjoejkpnaa
open Go Vm
theorem w_schunks {h : Heap} {o o' : Option Addr} {c c' : Nat} {l m : List Chk} {els els' : List (List Value)} (hr : Row h 12 o l.length els.flatten) (he : ChE h l els) (hr' : Row h 12 o' m.length els'.flatten) (he' : ChE h m els') (hf : ∀ x ∈ l, x.few) (hlen : l.length ≤ 1000) (n : Nat) (hn : 2100 ≤ n) :
    ResQ (callN Try.prog G0 n (.call 22 [.slice o l.length c, .slice o' m.length c']) h) (fun v h' => v = .bool (decide (l = m)) ∧ Keeps h h') := by
  obtain ⟨n, rfl⟩ : ∃ m, n = m + 1 := ⟨n - 1, by omega⟩
  refine res_enter rfl d22 rfl ?_; simp only [c22]
  refine gg ?_
  by_cases hlm : l.length = m.length
  case neg =>
    rw [decide_eq_true (p := ((l.length : Nat) : Int) ≠ ((m.length : Nat) : Int)) (by omega)]
    refine gg ?_
    exact ⟨(bool_false (fun e => hlm (by rw [e]))).symm, Keeps.refl h⟩
  rw [decide_eq_false (p := ((l.length : Nat) : Int) ≠ ((m.length : Nat) : Int)) (by omega)]
  refine gg ?_
  refine o_up l.length (fun i f h' => Sl [(5, .int .i64 (i : Int)), (0, .slice o l.length c), (1, .slice o' m.length c')] f ∧ Keeps h h' ∧ l.take i = m.take i) (by omega) ?_ ?_
  · exact ⟨⟨sel_of rfl, sel_of rfl, sel_of rfl, trivial⟩, Keeps.refl h, rfl⟩
  rintro i f h' hi ⟨hs, k, heq⟩
  obtain ⟨f0, rfl⟩ := hs.puts
  simp only [c22_0]
  refine gg ?_
  refine out_if (by exact sel_of rfl) (fun hif => ?_) (fun hif => ?_)
  · obtain ⟨x, hx⟩ : ∃ x, l[i]? = some x := ⟨_, List.getElem?_eq_getElem (by omega)⟩
    obtain ⟨y, hy⟩ : ∃ y, m[i]? = some y := ⟨_, List.getElem?_eq_getElem (by omega)⟩
    obtain ⟨v, hv, cv⟩ := he.at hx
    obtain ⟨w, hw, cw⟩ := he'.at hy
    have rr := hr.keeps k
    have rr' := hr'.keeps k
    refine gg ?_
    refine i_idx (by exact sel_of rfl) rr (i := i) (by exact sel_of rfl) (by omega) fun u hu => ?_
    subst hu
    refine i_loadN (v := v) (by exact sel_of rfl) (by rw [rr.cells (by omega) (some 0), flat_get els i he.2.1 hv]) ?_
    refine gg ?_
    refine i_idx (by exact sel_of rfl) rr' (i := i) (by exact sel_of rfl) (by omega) fun u' hu => ?_
    subst hu
    refine i_loadN (v := w) (by exact sel_of rfl) (by rw [rr'.cells (by omega) (some 0), flat_get els' i he'.2.1 hw]) ?_
    refine i_call2 (by exact sel_of rfl) (by exact sel_of rfl) (w_rsame7 (cv.keeps k) (cw.keeps k) (few_Few (hf x (List.mem_of_getElem? hx))) n (by omega)) ?_
    rintro _ h2 ⟨rfl, k2⟩
    by_cases hxy : x = y
    · rw [decide_eq_true hxy]
      refine gg ?_
      refine rnd_up (by omega) ⟨⟨sel_of rfl, sel_of rfl, sel_of rfl, trivial⟩, k.trans k2, ?_⟩
      rw [List.take_add_one, List.take_add_one, hx, hy, heq, hxy]
    · rw [decide_eq_false hxy]
      refine gg ?_
      exact ⟨(bool_false (fun e => hxy (by rw [e, hy] at hx; cases hx; rfl))).symm, k.trans k2⟩
  · rw [List.take_of_length_le (by omega), List.take_of_length_le (by omega)] at heq
    refine gg ?_
    exact ⟨(bool_true heq).symm, k⟩
set_option maxHeartbeats 1000000 in
theorem w_psame {h : Heap} {p : Pk} {v w : List Value} (hv : PkV h p v) (hw : PkV h p w) (hf : fewL p.l) (n : Nat) (hn : 2200 ≤ n) :
    ResQ (callN Try.prog G0 n (.call 25 [.agg v.toArray, .agg w.toArray]) h) (fun u h' => u = .bool true ∧ Keeps h h') := by
  obtain ⟨n, rfl⟩ : ∃ m, n = m + 1 := ⟨n - 1, by omega⟩
  refine res_enter rfl d25 rfl ?_; simp only [c25]
  obtain ⟨g1, g2, k1, n1⟩ := box_two h (.cells 27 v.toArray.toList (.own false)) (.cells 27 w.toArray.toList (.own false))
  refine o_cut (fun a h' => h' = (h.new (.cells 27 v.toArray.toList (.own false))).new (.cells 27 w.toArray.toList (.own false)) ∧ Sl [(2, .pointer (some ⟨h.next, 0, none⟩)), (3, .pointer (some ⟨h.next + 1, 0, none⟩))] a) ?_ ?_
  · refine gg ?_
    exact ⟨rfl, rfl, sel_of rfl, sel_of rfl, trivial⟩
  rintro a h1 ⟨hh, hs⟩
  rw [← hh] at g1 g2 k1 n1
  clear hh
  obtain ⟨ol, cl, els, rfl, rl, el, _⟩ := hv.keeps k1
  obtain ⟨ol', cl', els', rfl, rl', el', _⟩ := hw.keeps k1
  obtain ⟨f0, rfl⟩ := hs.puts
  clear hs hv hw
  have sc := w_schunks (c := cl) (c' := cl') rl el rl' el' hf.2 (by have := hf.1; omega) n (by omega)
  obtain ⟨pf, pt, pg, pl⟩ := p
  simp only at *
  refine gg ?_; repeat (refine i_ldown (by exact sel_of rfl) (by assumption) (by rfl) ?_; refine gg ?_)
  refine i_call2 (by exact sel_of rfl) (by exact sel_of rfl) sc ?_
  rintro _ h2 ⟨rfl, k2⟩
  refine gg ?_
  exact ⟨by first | exact bool_true trivial | exact bool_true rfl | rfl, k1.trans k2⟩
end Go.Proofs.Ytdcllpjoejkpnaa

