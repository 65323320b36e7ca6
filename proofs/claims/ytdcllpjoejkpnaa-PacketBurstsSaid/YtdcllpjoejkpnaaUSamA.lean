/- Part of a proof by an abstract run of the program's code: USamA. No condition. -/
import Derived.Test.YtdcllpjoejkpnaaUChkA
/-! Whether two chunks are the same, walked. -/
set_option linter.unusedVariables false
namespace Go.Proofs.Ytdcllpjoejkpnaa
open Go Vm
theorem w_sameParam {h : Heap} {x y x' y' : Value} {p q : Prm} (hp : Pr h p x y) (hq : Pr h q x' y') (hbig : p.2.length ≤ 1000000) (n : Nat) (hn : 10 + p.2.length ≤ n) :
    ResQ (callN Try.prog G0 n (.call 86 [.agg #[x, y], .agg #[x', y']]) h) (fun v h' => v = .bool (decide (p = q)) ∧ Keeps h h') := by
  obtain ⟨n, rfl⟩ : ∃ m, n = m + 1 := ⟨n - 1, by omega⟩
  refine res_enter rfl d86 rfl ?_; simp only [c86]
  refine gg ?_
  obtain ⟨g1, g2, k1, n1⟩ := box_two h (.cells 58 #[x, y].toList (.own false)) (.cells 58 #[x', y'].toList (.own false))
  generalize ((h.new (.cells 58 #[x, y].toList (.own false))).new (.cells 58 #[x', y'].toList (.own false))) = h1 at *
  obtain ⟨rfl, hx, o1, m1, c1, rfl, hrow, hc1⟩ := hp
  obtain ⟨rfl, hx', o2, m2, c2, rfl, hrow', hc2⟩ := hq
  have hm1 : p.2.length = m1 := by simpa [u8s_length] using hrow.1
  have hm2 : q.2.length = m2 := by simpa [u8s_length] using hrow'.1
  subst hm1 hm2
  refine gg ?_; repeat (refine i_ldown (by exact sel_of rfl) (by assumption) (by rfl) ?_; refine gg ?_)
  by_cases e1 : p.1 = q.1
  · refine gg ?_; repeat (refine i_ldown (by exact sel_of rfl) (by assumption) (by rfl) ?_; refine gg ?_)
    refine i_call2 (by exact sel_of rfl) (by exact sel_of rfl) (w_eqDa (hrow.keeps k1) (hrow'.keeps k1) hbig n (by omega)) ?_
    rintro _ _ ⟨rfl, rfl⟩
    refine gg ?_
    refine ⟨congrArg Value.bool ?_, k1⟩
    rw [decide_eq_decide]
    exact ⟨fun e => Prod.ext e1 e, fun e => by rw [e]⟩
  · refine gg ?_; repeat (refine i_ldown (by exact sel_of rfl) (by assumption) (by rfl) ?_; refine gg ?_)
    exact ⟨(bool_false (fun e => e1 (by rw [e]))).symm, k1⟩
set_option maxHeartbeats 1000000 in
theorem w_eqPa {h : Heap} {o o' : Option Addr} {c c' : Nat} {la lb : List Prm} {cs cs' : List Value} (ha : Row h 2 o la.length cs) (pa : PrL h la cs) (hb : Row h 2 o' lb.length cs') (pb : PrL h lb cs') (hbig : la.length ≤ 1000000) (hall : ∀ p ∈ la, p.2.length ≤ 100000) (n : Nat) (hn : 100100 + la.length ≤ n) :
    ResQ (callN Try.prog G0 n (.call 85 [.slice o la.length c, .slice o' lb.length c', .func (.func 86) #[] #[]]) h) (fun v h' => v = .bool (decide (la = lb)) ∧ Keeps h h') := by
  obtain ⟨n, rfl⟩ : ∃ m, n = m + 1 := ⟨n - 1, by omega⟩
  refine res_enter rfl d85 rfl ?_; simp only [c85]
  refine gg ?_
  refine out_if (by exact sel_of rfl) (fun hif => ?_) (fun hif => ?_)
  · refine gg ?_
    exact ⟨(bool_false (fun e => hif (by rw [e]))).symm, Keeps.refl h⟩
  have hlen : la.length = lb.length := by omega
  refine gg ?_
  refine o_up la.length (fun i f h' => Sl [(17, .int .i64 (i : Int)), (16, .int .i64 (la.length : Int)), (15, .slice o la.length c), (1, .slice o' lb.length c'), (2, .func (.func 86) #[] #[])] f ∧ Keeps h h' ∧ la.take i = lb.take i) (by omega) ?_ ?_
  · exact ⟨⟨sel_of rfl, sel_of rfl, sel_of rfl, sel_of rfl, sel_of rfl, trivial⟩, Keeps.refl h, rfl⟩
  rintro i f h' hi ⟨hs, k, htk⟩
  obtain ⟨f0, rfl⟩ := hs.puts
  simp only [c85_0]
  refine gg ?_
  refine out_if (by exact sel_of rfl) (fun hif => ?_) (fun hif => ?_)
  · obtain ⟨p, hpi⟩ : ∃ p, la[i]? = some p := ⟨_, List.getElem?_eq_getElem (by omega)⟩
    obtain ⟨q, hqi⟩ : ∃ p, lb[i]? = some p := ⟨_, List.getElem?_eq_getElem (by omega)⟩
    obtain ⟨x, y, e1, hxy⟩ := (pa.keeps k).pair hpi
    obtain ⟨x', y', e2, hxy'⟩ := (pb.keeps k).pair hqi
    have hpl := hall p (List.mem_of_getElem? hpi)
    refine gg ?_
    refine i_idx (by exact sel_of rfl) (ha.keeps k) (i := i) (by exact sel_of rfl) (by omega) fun u hu => ?_
    subst hu
    refine i_loadN (v := [x, y]) (by exact sel_of rfl) (by rw [← e1]; exact (ha.keeps k).cells (by omega) (some 0)) ?_
    refine gg ?_
    have ev : Value.int .u16 (p.1 : Int) = x := hxy.1.symm
    refine i_storeF (vs := [x, y]) (Keeps.new h' _) (Nat.le_refl _) (by exact sel_of rfl) (by rw [sel_of rfl]; rfl) (by rw [Heap.get_new, if_pos rfl]) rfl rfl (Nat.lt_succ_self _) fun h2 k2 g2 lt2 => ?_
    refine gg ?_
    refine i_idx (by exact sel_of rfl) (hb.keeps (k.trans k2)) (i := i) (by exact sel_of rfl) (by omega) fun u hu => ?_
    subst hu
    refine i_loadN (v := [x', y']) (by exact sel_of rfl) (by rw [← e2]; exact (hb.keeps (k.trans k2)).cells (by omega) (some 0)) ?_
    refine gg ?_
    refine i_storeF (vs := [x', y']) (Keeps.new h2 _) (Nat.le_refl _) (by exact sel_of rfl) (by rw [sel_of rfl]; rfl) (by rw [Heap.get_new, if_pos rfl]) rfl rfl (Nat.lt_succ_self _) fun h3 k3 g3 lt3 => ?_
    have g2' := (k3.get _ lt2).trans g2
    refine gg ?_
    refine i_loadN (v := [x, y]) (by exact sel_of rfl) (by rw [loadN_of (q := ⟨h'.next, 0, none⟩) g2' (by simp) (by simp)]; rfl) ?_
    refine i_loadN (v := [x', y']) (by exact sel_of rfl) (by rw [loadN_of (q := ⟨h2.next, 0, none⟩) g3 (by simp) (by simp)]; rfl) ?_
    refine i_callv2 (by exact sel_of rfl) (by exact sel_of rfl) (by exact sel_of rfl) (w_sameParam (hxy.keeps (k2.trans k3)) (hxy'.keeps (k2.trans k3)) (by omega) n (by omega)) ?_
    rintro _ h4 ⟨rfl, k4⟩
    refine gg ?_
    by_cases hpq : p = q
    · rw [decide_eq_true hpq]
      refine gg ?_
      subst hpq
      refine rnd_up (by omega) ⟨⟨sel_of rfl, sel_of rfl, sel_of rfl, sel_of rfl, sel_of rfl, trivial⟩, k.trans (k2.trans (k3.trans k4)), take_snoc htk hpi hqi⟩
    · rw [decide_eq_false hpq]
      refine gg ?_
      exact ⟨(bool_false (take_ne hpi hqi hpq)).symm, k.trans (k2.trans (k3.trans k4))⟩
  · refine gg ?_
    refine ⟨(bool_true ?_).symm, k⟩
    rw [List.take_of_length_le (by omega), List.take_of_length_le (by omega)] at htk
    exact htk
set_option maxHeartbeats 4000000 in
theorem w_csame {h : Heap} {x y : Chk} {v w : List Value} (hv : ChV h x v) (hw : ChV h y w) (hf : x.Few) (n : Nat) (hn : 100300 ≤ n) :
    ResQ (callN Try.prog G0 n (.call 70 [.agg v.toArray, .agg w.toArray]) h) (fun u h' => u = .bool (decide (x = y)) ∧ Keeps h h') := by
  have f1 := hf.bl
  have f2 := hf.du
  have f3 := hf.sk
  have f4 := hf.pa
  have f5 := hf.da
  obtain ⟨n, rfl⟩ : ∃ m, n = m + 1 := ⟨n - 1, by omega⟩
  refine res_enter rfl d70 rfl ?_; simp only [c70]
  obtain ⟨g1, g2, k1, n1⟩ := box_two h (.cells 33 v.toArray.toList (.own false)) (.cells 33 w.toArray.toList (.own false))
  refine o_cut (fun a h' => h' = (h.new (.cells 33 v.toArray.toList (.own false))).new (.cells 33 w.toArray.toList (.own false)) ∧ Sl [(2, .pointer (some ⟨h.next, 0, none⟩)), (3, .pointer (some ⟨h.next + 1, 0, none⟩))] a) ?_ ?_
  · refine gg ?_
    exact ⟨rfl, rfl, sel_of rfl, sel_of rfl, trivial⟩
  rintro a h1 ⟨hh, hs⟩
  rw [← hh] at g1 g2 k1 n1
  clear hh
  obtain ⟨o1, c1, o2, c2, o3, c3, o4, c4, o5, c5, ps, rfl, r1, r2, r3, ⟨r4, p4⟩, r5, _⟩ := hv.keeps k1
  obtain ⟨o1', c1', o2', c2', o3', c3', o4', c4', o5', c5', ps', rfl, r1', r2', r3', ⟨r4', p4'⟩, r5', _⟩ := hw.keeps k1
  obtain ⟨f0, rfl⟩ := hs.puts
  refine o_cut (fun a h' => h1 = h' ∧ ∃ b : Bool, Sl [(2, .pointer (some ⟨h.next, 0, none⟩)), (3, .pointer (some ⟨h.next + 1, 0, none⟩)), (5, .bool b)] a ∧ (b = true ↔ x.k = y.k ∧ x.fl = y.fl ∧ x.a = y.a ∧ x.b = y.b ∧ x.o = y.o ∧ x.i = y.i ∧ x.p = y.p)) ?_ ?_
  · refine gg ?_; repeat (refine i_ldown (by exact sel_of rfl) (by assumption) (by rfl) ?_; refine gg ?_)
    by_cases e0 : x.k = y.k
    case neg =>
      rw [decide_eq_false (p := ((x.k : Nat) : Int) = (y.k : Nat)) (fun e => e0 (Int.ofNat_inj.1 e))]
      refine gg ?_; repeat (refine i_ldown (by exact sel_of rfl) (by assumption) (by rfl) ?_; refine gg ?_)
      exact ⟨rfl, rfl, _, ⟨sel_of rfl, sel_of rfl, sel_of rfl, trivial⟩, ⟨fun h => by simp at h <;> omega, fun h => by first | omega | (simp; omega)⟩⟩
    rw [decide_eq_true (p := ((x.k : Nat) : Int) = (y.k : Nat)) (congrArg Int.ofNat e0)]
    refine gg ?_; repeat (refine i_ldown (by exact sel_of rfl) (by assumption) (by rfl) ?_; refine gg ?_)
    by_cases e1 : x.fl = y.fl
    case neg =>
      rw [decide_eq_false (p := ((x.fl : Nat) : Int) = (y.fl : Nat)) (fun e => e1 (Int.ofNat_inj.1 e))]
      refine gg ?_; repeat (refine i_ldown (by exact sel_of rfl) (by assumption) (by rfl) ?_; refine gg ?_)
      exact ⟨rfl, rfl, _, ⟨sel_of rfl, sel_of rfl, sel_of rfl, trivial⟩, ⟨fun h => by simp at h <;> omega, fun h => by first | omega | (simp; omega)⟩⟩
    rw [decide_eq_true (p := ((x.fl : Nat) : Int) = (y.fl : Nat)) (congrArg Int.ofNat e1)]
    refine gg ?_; repeat (refine i_ldown (by exact sel_of rfl) (by assumption) (by rfl) ?_; refine gg ?_)
    by_cases e2 : x.a = y.a
    case neg =>
      rw [decide_eq_false (p := ((x.a : Nat) : Int) = (y.a : Nat)) (fun e => e2 (Int.ofNat_inj.1 e))]
      refine gg ?_; repeat (refine i_ldown (by exact sel_of rfl) (by assumption) (by rfl) ?_; refine gg ?_)
      exact ⟨rfl, rfl, _, ⟨sel_of rfl, sel_of rfl, sel_of rfl, trivial⟩, ⟨fun h => by simp at h <;> omega, fun h => by first | omega | (simp; omega)⟩⟩
    rw [decide_eq_true (p := ((x.a : Nat) : Int) = (y.a : Nat)) (congrArg Int.ofNat e2)]
    refine gg ?_; repeat (refine i_ldown (by exact sel_of rfl) (by assumption) (by rfl) ?_; refine gg ?_)
    by_cases e3 : x.b = y.b
    case neg =>
      rw [decide_eq_false (p := ((x.b : Nat) : Int) = (y.b : Nat)) (fun e => e3 (Int.ofNat_inj.1 e))]
      refine gg ?_; repeat (refine i_ldown (by exact sel_of rfl) (by assumption) (by rfl) ?_; refine gg ?_)
      exact ⟨rfl, rfl, _, ⟨sel_of rfl, sel_of rfl, sel_of rfl, trivial⟩, ⟨fun h => by simp at h <;> omega, fun h => by first | omega | (simp; omega)⟩⟩
    rw [decide_eq_true (p := ((x.b : Nat) : Int) = (y.b : Nat)) (congrArg Int.ofNat e3)]
    refine gg ?_; repeat (refine i_ldown (by exact sel_of rfl) (by assumption) (by rfl) ?_; refine gg ?_)
    by_cases e4 : x.o = y.o
    case neg =>
      rw [decide_eq_false (p := ((x.o : Nat) : Int) = (y.o : Nat)) (fun e => e4 (Int.ofNat_inj.1 e))]
      refine gg ?_; repeat (refine i_ldown (by exact sel_of rfl) (by assumption) (by rfl) ?_; refine gg ?_)
      exact ⟨rfl, rfl, _, ⟨sel_of rfl, sel_of rfl, sel_of rfl, trivial⟩, ⟨fun h => by simp at h <;> omega, fun h => by first | omega | (simp; omega)⟩⟩
    rw [decide_eq_true (p := ((x.o : Nat) : Int) = (y.o : Nat)) (congrArg Int.ofNat e4)]
    refine gg ?_; repeat (refine i_ldown (by exact sel_of rfl) (by assumption) (by rfl) ?_; refine gg ?_)
    by_cases e5 : x.i = y.i
    case neg =>
      rw [decide_eq_false (p := ((x.i : Nat) : Int) = (y.i : Nat)) (fun e => e5 (Int.ofNat_inj.1 e))]
      refine gg ?_; repeat (refine i_ldown (by exact sel_of rfl) (by assumption) (by rfl) ?_; refine gg ?_)
      exact ⟨rfl, rfl, _, ⟨sel_of rfl, sel_of rfl, sel_of rfl, trivial⟩, ⟨fun h => by simp at h <;> omega, fun h => by first | omega | (simp; omega)⟩⟩
    rw [decide_eq_true (p := ((x.i : Nat) : Int) = (y.i : Nat)) (congrArg Int.ofNat e5)]
    refine gg ?_; repeat (refine i_ldown (by exact sel_of rfl) (by assumption) (by rfl) ?_; refine gg ?_)
    exact ⟨rfl, rfl, _, ⟨sel_of rfl, sel_of rfl, sel_of rfl, trivial⟩, ⟨fun h => by simp at h <;> omega, fun h => by first | omega | (simp; omega)⟩⟩
  rintro a _ ⟨rfl, b, hs, hb⟩
  obtain ⟨f0, rfl⟩ := hs.puts
  refine o_cut (fun a h' => h1 = h' ∧ ∃ b2 : Bool, Sl [(2, .pointer (some ⟨h.next, 0, none⟩)), (3, .pointer (some ⟨h.next + 1, 0, none⟩)), (5, .bool b), (6, .bool b2)] a ∧ (b2 = true ↔ x.bl = y.bl ∧ x.du = y.du ∧ x.sk = y.sk)) ?_ ?_
  · refine gg ?_; repeat (refine i_ldown (by exact sel_of rfl) (by assumption) (by rfl) ?_; refine gg ?_)
    refine i_call2 (by exact sel_of rfl) (by exact sel_of rfl) (w_eqBl r1 r1' (by omega) n (by omega)) ?_
    rintro _ _ ⟨rfl, rfl⟩
    refine gg ?_; repeat (refine i_ldown (by exact sel_of rfl) (by assumption) (by rfl) ?_; refine gg ?_)
    by_cases e1 : x.bl = y.bl
    case neg =>
      rw [decide_eq_false e1]
      refine gg ?_; repeat (refine i_ldown (by exact sel_of rfl) (by assumption) (by rfl) ?_; refine gg ?_)
      exact ⟨rfl, rfl, _, ⟨sel_of rfl, sel_of rfl, sel_of rfl, sel_of rfl, trivial⟩, ⟨fun h => absurd h (by decide), fun h => absurd h.1 e1⟩⟩
    rw [decide_eq_true e1]
    refine gg ?_; repeat (refine i_ldown (by exact sel_of rfl) (by assumption) (by rfl) ?_; refine gg ?_)
    refine i_call2 (by exact sel_of rfl) (by exact sel_of rfl) (w_eqDu r2 r2' (by omega) n (by omega)) ?_
    rintro _ _ ⟨rfl, rfl⟩
    refine gg ?_; repeat (refine i_ldown (by exact sel_of rfl) (by assumption) (by rfl) ?_; refine gg ?_)
    by_cases e2 : x.du = y.du
    case neg =>
      rw [decide_eq_false e2]
      refine gg ?_; repeat (refine i_ldown (by exact sel_of rfl) (by assumption) (by rfl) ?_; refine gg ?_)
      exact ⟨rfl, rfl, _, ⟨sel_of rfl, sel_of rfl, sel_of rfl, sel_of rfl, trivial⟩, ⟨fun h => absurd h (by decide), fun h => absurd h.2.1 e2⟩⟩
    rw [decide_eq_true e2]
    refine gg ?_; repeat (refine i_ldown (by exact sel_of rfl) (by assumption) (by rfl) ?_; refine gg ?_)
    refine i_call2 (by exact sel_of rfl) (by exact sel_of rfl) (w_eqSk r3 r3' (by omega) n (by omega)) ?_
    rintro _ _ ⟨rfl, rfl⟩
    refine gg ?_; repeat (refine i_ldown (by exact sel_of rfl) (by assumption) (by rfl) ?_; refine gg ?_)
    exact ⟨rfl, rfl, _, ⟨sel_of rfl, sel_of rfl, sel_of rfl, sel_of rfl, trivial⟩, ⟨fun h => ⟨e1, e2, of_decide_eq_true h⟩, fun h => decide_eq_true h.2.2⟩⟩
  rintro a _ ⟨rfl, b2, hs, hb2⟩
  obtain ⟨f0, rfl⟩ := hs.puts
  cases b with
  | false =>
    refine gg ?_; repeat (refine i_ldown (by exact sel_of rfl) (by assumption) (by rfl) ?_; refine gg ?_)
    exact ⟨(bool_false (fun e => by subst e; exact absurd (hb.2 ⟨rfl, rfl, rfl, rfl, rfl, rfl, rfl⟩) (by decide))).symm, k1⟩
  | true =>
  obtain ⟨d1, d2, d3, d4, d5, d6, d7⟩ := hb.1 rfl
  cases b2 with
  | false =>
    refine gg ?_; repeat (refine i_ldown (by exact sel_of rfl) (by assumption) (by rfl) ?_; refine gg ?_)
    exact ⟨(bool_false (fun e => by subst e; exact absurd (hb2.2 ⟨rfl, rfl, rfl⟩) (by decide))).symm, k1⟩
  | true =>
  obtain ⟨d8, d9, d10⟩ := hb2.1 rfl
  refine gg ?_; repeat (refine i_ldown (by exact sel_of rfl) (by assumption) (by rfl) ?_; refine gg ?_)
  refine i_call2 (by exact sel_of rfl) (by exact sel_of rfl) (w_eqDa r5 r5' (by omega) n (by omega)) ?_
  rintro _ _ ⟨rfl, rfl⟩
  refine gg ?_; repeat (refine i_ldown (by exact sel_of rfl) (by assumption) (by rfl) ?_; refine gg ?_)
  by_cases e2 : x.da = y.da
  case neg =>
    rw [decide_eq_false e2]
    refine gg ?_; repeat (refine i_ldown (by exact sel_of rfl) (by assumption) (by rfl) ?_; refine gg ?_)
    exact ⟨(bool_false (fun e => e2 (by rw [e]))).symm, k1⟩
  rw [decide_eq_true e2]
  refine gg ?_; repeat (refine i_ldown (by exact sel_of rfl) (by assumption) (by rfl) ?_; refine gg ?_)
  refine i_call3 (by exact sel_of rfl) (by exact sel_of rfl) (by first | exact sel_of rfl | exact const_of) (w_eqPa r4 p4 r4' p4' (by omega) hf.al n (by omega)) ?_
  rintro _ h2 ⟨rfl, k2⟩
  refine gg ?_; repeat (refine i_ldown (by exact sel_of rfl) (by assumption) (by rfl) ?_; refine gg ?_)
  refine ⟨congrArg Value.bool ?_, k1.trans k2⟩
  rw [decide_eq_decide]
  exact ⟨fun e => Chk.ext' d1 d2 d3 d4 d5 d6 d7 d8 d9 d10 e e2, fun e => by rw [e]⟩
end Go.Proofs.Ytdcllpjoejkpnaa

