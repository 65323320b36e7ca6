/- Part of a proof by an abstract run of the program's code: UFewA. No condition. -/
import Derived.Test.YtdcllpjoejkpnaaUChkA
/-! Whether chunks are few of parts, and the document's Same, walked. -/
set_option linter.unusedVariables false
namespace Go.Proofs.Ytdcllpjoejkpnaa
open Go Vm
/-- few parts, as the document has it -/
def Chk.few (c : Chk) : Prop := (c.bl.length ≤ 100 ∧ c.du.length ≤ 100 ∧ c.sk.length ≤ 100 ∧ c.pa.length ≤ 40 ∧ c.da.length ≤ 2000) ∧ ∀ p ∈ c.pa, p.2.length ≤ 1300
instance (c : Chk) : Decidable c.few := by unfold Chk.few; infer_instance
set_option maxHeartbeats 4000000 in
theorem w_few7 {h : Heap} {x : Chk} {v : List Value} (hv : ChV h x v) (n : Nat) (hn : 100 ≤ n) :
    ResQ (callN Try.prog G0 n (.call 12 [.agg v.toArray]) h) (fun u h' => u = .bool (decide x.few) ∧ Keeps h h') := by
  obtain ⟨n, rfl⟩ : ∃ m, n = m + 1 := ⟨n - 1, by omega⟩
  refine res_enter rfl d12 rfl ?_; simp only [c12]
  obtain ⟨g1, k1, n1⟩ := box_one h (.cells 33 v.toArray.toList (.own false))
  refine o_cut (fun a h' => h' = (h.new (.cells 33 v.toArray.toList (.own false))) ∧ Sl [(1, .pointer (some ⟨h.next, 0, none⟩))] a) ?_ ?_
  · refine gg ?_
    exact ⟨rfl, rfl, sel_of rfl, trivial⟩
  rintro a h1 ⟨hh, hs⟩
  rw [← hh] at g1 k1 n1
  clear hh
  obtain ⟨o1, c1, o2, c2, o3, c3, o4, c4, o5, c5, ps, rfl, r1, r2, r3, ⟨r4, p4⟩, r5, _⟩ := hv.keeps k1
  obtain ⟨f0, rfl⟩ := hs.puts
  refine gg ?_; repeat (refine i_ldown (by exact sel_of rfl) (by assumption) (by rfl) ?_; refine gg ?_)
  by_cases e0 : 100 < x.bl.length
  case pos =>
    rw [decide_eq_true (p := (100 : Int) < (x.bl.length : Nat)) (by omega)]
    refine gg ?_; repeat (refine i_ldown (by exact sel_of rfl) (by assumption) (by rfl) ?_; refine gg ?_)
    exact ⟨(bool_false (fun e => by have := e.1; omega)).symm, k1⟩
  rw [decide_eq_false (p := (100 : Int) < (x.bl.length : Nat)) (by omega)]
  refine gg ?_; repeat (refine i_ldown (by exact sel_of rfl) (by assumption) (by rfl) ?_; refine gg ?_)
  by_cases e1 : 100 < x.du.length
  case pos =>
    rw [decide_eq_true (p := (100 : Int) < (x.du.length : Nat)) (by omega)]
    refine gg ?_; repeat (refine i_ldown (by exact sel_of rfl) (by assumption) (by rfl) ?_; refine gg ?_)
    exact ⟨(bool_false (fun e => by have := e.1; omega)).symm, k1⟩
  rw [decide_eq_false (p := (100 : Int) < (x.du.length : Nat)) (by omega)]
  refine gg ?_; repeat (refine i_ldown (by exact sel_of rfl) (by assumption) (by rfl) ?_; refine gg ?_)
  by_cases e2 : 100 < x.sk.length
  case pos =>
    rw [decide_eq_true (p := (100 : Int) < (x.sk.length : Nat)) (by omega)]
    refine gg ?_; repeat (refine i_ldown (by exact sel_of rfl) (by assumption) (by rfl) ?_; refine gg ?_)
    exact ⟨(bool_false (fun e => by have := e.1; omega)).symm, k1⟩
  rw [decide_eq_false (p := (100 : Int) < (x.sk.length : Nat)) (by omega)]
  refine gg ?_; repeat (refine i_ldown (by exact sel_of rfl) (by assumption) (by rfl) ?_; refine gg ?_)
  by_cases e3 : 40 < x.pa.length
  case pos =>
    rw [decide_eq_true (p := (40 : Int) < (x.pa.length : Nat)) (by omega)]
    refine gg ?_; repeat (refine i_ldown (by exact sel_of rfl) (by assumption) (by rfl) ?_; refine gg ?_)
    exact ⟨(bool_false (fun e => by have := e.1; omega)).symm, k1⟩
  rw [decide_eq_false (p := (40 : Int) < (x.pa.length : Nat)) (by omega)]
  refine gg ?_; repeat (refine i_ldown (by exact sel_of rfl) (by assumption) (by rfl) ?_; refine gg ?_)
  by_cases e4 : 2000 < x.da.length
  case pos =>
    rw [decide_eq_true (p := (2000 : Int) < (x.da.length : Nat)) (by omega)]
    refine gg ?_; repeat (refine i_ldown (by exact sel_of rfl) (by assumption) (by rfl) ?_; refine gg ?_)
    exact ⟨(bool_false (fun e => by have := e.1; omega)).symm, k1⟩
  rw [decide_eq_false (p := (2000 : Int) < (x.da.length : Nat)) (by omega)]
  refine gg ?_; repeat (refine i_ldown (by exact sel_of rfl) (by assumption) (by rfl) ?_; refine gg ?_)
  refine o_up x.pa.length (fun i f h' => Sl [(3, .int .i64 (i : Int)), (1, .pointer (some ⟨h.next, 0, none⟩))] f ∧ h1 = h' ∧ ∀ p ∈ x.pa.take i, p.2.length ≤ 1300) (by omega) ?_ ?_
  · exact ⟨⟨sel_of rfl, sel_of rfl, trivial⟩, rfl, fun p hp => by simp at hp⟩
  rintro i f h' hi ⟨hs, rfl, hall⟩
  obtain ⟨f0, rfl⟩ := hs.puts
  simp only [c12_0]
  refine gg ?_; repeat (refine i_ldown (by exact sel_of rfl) (by assumption) (by rfl) ?_; refine gg ?_)
  refine out_if (by exact sel_of rfl) (fun hif => ?_) (fun hif => ?_)
  · obtain ⟨p, hpi⟩ : ∃ p, x.pa[i]? = some p := ⟨_, List.getElem?_eq_getElem (by omega)⟩
    obtain ⟨x', y, e1, e2, hx, hx', o6, m1, c6, rfl, hrow, hc1⟩ := p4.at hpi
    have hlen : p.2.length = m1 := by simpa [u8s_length] using hrow.1
    refine gg ?_; repeat (refine i_ldown (by exact sel_of rfl) (by assumption) (by rfl) ?_; refine gg ?_)
    refine i_idx (by exact sel_of rfl) r4 (i := i) (by exact sel_of rfl) (by omega) fun u hu => ?_
    subst hu
    refine gg ?_
    refine i_load1 (v := .slice o6 m1 c6) (by exact sel_of rfl) (by rw [← e2, ← r4.cell (by omega)]; rfl) ?_
    refine gg ?_
    refine out_if (by exact sel_of rfl) (fun hif => ?_) (fun hif => ?_)
    · refine gg ?_
      exact ⟨(bool_false (fun hf => by have := hf.2 p (List.mem_of_getElem? hpi); omega)).symm, k1⟩
    · refine gg ?_
      refine rnd_up (by omega) ⟨⟨sel_of rfl, sel_of rfl, trivial⟩, rfl, fun q hq => ?_⟩
      rw [List.take_add_one, hpi] at hq
      rcases List.mem_append.1 hq with hq | hq
      · exact hall q hq
      · simp at hq; subst hq; omega
  · refine gg ?_
    refine ⟨(bool_true ⟨⟨by omega, by omega, by omega, by omega, by omega⟩, fun p hp => hall p ?_⟩).symm, k1⟩
    rw [List.take_of_length_le (by omega)]; exact hp
theorem i_net {rec : Rec} {L : List (Nat × Value)} {f : Fr} {dt : Nat} {h : Heap} {K : Fr → Heap → Prop} {rd : Bool} {x y : Sel} {l : List ISem} {s t : List UInt8} (hx : x.f (puts L f) = .string ⟨s.toArray⟩) (hy : y.f (puts L f) = .string ⟨t.toArray⟩) (hq : ItQ (runItems rec l (puts ((dt, (.bool (decide (s ≠ t)))) :: L) f) h) K) : ItQ (runItems rec (iOp (put dt) (.v rd (oNe (.one 2) x y)) :: l) (puts L f) h) K := i_v (by
  simp only [oNe, hx, hy]
  show some (Value.bool (!eqB s t)) = _
  rw [eqB_eq]
  by_cases e : s = t <;> simp [e]) hq
set_option maxHeartbeats 2000000 in
theorem w_rsame6 {h : Heap} {o o' : Option Addr} {c c' : Nat} {la lb : List Prm} {cs cs' : List Value} (ha : Row h 2 o la.length cs) (pa : PrL h la cs) (hb : Row h 2 o' lb.length cs') (pb : PrL h lb cs') (hbig : la.length ≤ 100000) (n : Nat) (hn : 3 + la.length ≤ n) :
    ResQ (callN Try.prog G0 n (.call 64 [.slice o la.length c, .slice o' lb.length c']) h) (fun v h' => v = .bool (decide (la = lb)) ∧ h = h') := by
  obtain ⟨n, rfl⟩ : ∃ m, n = m + 1 := ⟨n - 1, by omega⟩
  refine res_enter rfl d64 rfl ?_; simp only [c64]
  refine gg ?_
  refine out_if (by exact sel_of rfl) (fun hif => ?_) (fun hif => ?_)
  · refine gg ?_
    exact ⟨(bool_false (fun e => hif (by rw [e]))).symm, rfl⟩
  have hlen : la.length = lb.length := by omega
  refine gg ?_
  refine o_up la.length (fun i f h' => Sl [(5, .int .i64 (i : Int)), (0, .slice o la.length c), (1, .slice o' lb.length c')] f ∧ h = h' ∧ la.take i = lb.take i) (by omega) ?_ ?_
  · exact ⟨⟨sel_of rfl, sel_of rfl, sel_of rfl, trivial⟩, rfl, rfl⟩
  rintro i f h' hi ⟨hs, rfl, htk⟩
  obtain ⟨f0, rfl⟩ := hs.puts
  simp only [c64_0]
  refine gg ?_
  refine out_if (by exact sel_of rfl) (fun hif => ?_) (fun hif => ?_)
  · obtain ⟨p, hpi⟩ : ∃ p, la[i]? = some p := ⟨_, List.getElem?_eq_getElem (by omega)⟩
    obtain ⟨q, hqi⟩ : ∃ p, lb[i]? = some p := ⟨_, List.getElem?_eq_getElem (by omega)⟩
    obtain ⟨x, y, e1, e2, rfl, hx', o1, m1, c1, rfl, hrow, hc1⟩ := pa.at hpi
    obtain ⟨x, y, e1', e2', rfl, _, o1', m1', c1', rfl, hrow', hc1'⟩ := pb.at hqi
    refine gg ?_
    refine i_idx (by exact sel_of rfl) ha (i := i) (by exact sel_of rfl) (by omega) fun u hu => ?_
    subst hu
    refine gg ?_
    refine i_load1 (v := .int .u16 (p.1 : Int)) (by exact sel_of rfl) (by rw [← e1, ← ha.cell (by omega)]; rfl) ?_
    refine gg ?_
    refine i_idx (by exact sel_of rfl) hb (i := i) (by exact sel_of rfl) (by omega) fun u' hu => ?_
    subst hu
    refine gg ?_
    refine i_load1 (v := .int .u16 (q.1 : Int)) (by exact sel_of rfl) (by rw [← e1', ← hb.cell (by omega)]; rfl) ?_
    refine gg ?_
    by_cases hk : p.1 = q.1
    case neg =>
      rw [decide_eq_true (p := ((p.1 : Nat) : Int) ≠ (q.1 : Nat)) (by omega)]
      refine gg ?_
      exact ⟨(bool_false (take_ne hpi hqi (fun e => hk (by rw [e])))).symm, rfl⟩
    rw [decide_eq_false (p := ((p.1 : Nat) : Int) ≠ (q.1 : Nat)) (by omega)]
    refine gg ?_
    refine i_idx (by exact sel_of rfl) ha (i := i) (by exact sel_of rfl) (by omega) fun u2 hu => ?_
    cases hu
    refine gg ?_
    refine i_load1 (v := .slice o1 m1 c1) (by exact sel_of rfl) (by rw [← e2, ← ha.cell (by omega)]; rfl) ?_
    refine gg ?_
    refine i_v (hrow.str (by exact sel_of rfl)) ?_
    refine gg ?_
    refine i_idx (by exact sel_of rfl) hb (i := i) (by exact sel_of rfl) (by omega) fun u2 hu => ?_
    cases hu
    refine gg ?_
    refine i_load1 (v := .slice o1' m1' c1') (by exact sel_of rfl) (by rw [← e2', ← hb.cell (by omega)]; rfl) ?_
    refine gg ?_
    refine i_v (hrow'.str (by exact sel_of rfl)) ?_
    refine gg ?_
    refine i_net (by exact sel_of rfl) (by exact sel_of rfl) ?_
    by_cases hv : p.2 = q.2
    case neg =>
      rw [decide_eq_true (p := p.2 ≠ q.2) hv]
      refine gg ?_
      exact ⟨(bool_false (take_ne hpi hqi (fun e => hv (by rw [e])))).symm, rfl⟩
    rw [decide_eq_false (p := p.2 ≠ q.2) (fun hn => hn hv)]
    refine gg ?_
    exact rnd_up (by omega) ⟨⟨sel_of rfl, sel_of rfl, sel_of rfl, trivial⟩, rfl, take_snoc htk hpi (hqi.trans (congrArg some (Prod.ext hk hv).symm))⟩
  · refine gg ?_
    refine ⟨(bool_true ?_).symm, rfl⟩
    rw [List.take_of_length_le (by omega), List.take_of_length_le (by omega)] at htk
    exact htk
end Go.Proofs.Ytdcllpjoejkpnaa

