/- Part of a proof by an abstract run of the program's code: RRdB. No condition. -/
import Derived.Test.YtdcllpjoejkpnaaRDecC
import Derived.Test.YtdcllpjoejkpnaaRRdA
/-! Parameters of a chunk, read. -/
set_option linter.unusedVariables false
namespace Go.Proofs.Ytdcllpjoejkpnaa
open Go Vm
def DecQF (h : Heap) (l : List UInt8) (v : Value) (h' : Heap) : Prop := Keeps h h' ∧ ∃ o c cs, v = .tuple #[.slice o (decL l).2.length c, .int .i64 ((decL l).1 : Int)] ∧ Row h' 2 o (decL l).2.length cs ∧ PrL h' (decL l).2 cs ∧ (decL l).2.length ≤ c ∧ (∀ q, o = some q → h.next ≤ q.block) ∧ ∀ q m c, Value.slice (some q) m c ∈ cs → h.next ≤ q.block
set_option maxHeartbeats 1000000 in
theorem w_decodeF {h : Heap} {o : Option Addr} {m c : Nat} {l : List UInt8} (hr : Row h 1 o m (u8s l)) (hlen : l.length ≤ 1000000) (n : Nat) (hn : 100 ≤ n) :
    ResQ (callN Try.prog G0 n (.call 99 [.slice o m c]) h) (DecQF h l) := by
  obtain ⟨n, rfl⟩ : ∃ m, n = m + 1 := ⟨n - 1, by omega⟩
  refine res_enter rfl d99 rfl ?_; simp only [c99]
  refine gg ?_
  generalize hh : ((h.new (.cells 30 [.slice none 0 0] (.own false))).new (.cells 37 [.int .i64 0] (.own false))).new (.cells 30 [.slice none 0 0] (.own false)) = h1
  have n1 : h1.next = h.next + 3 := by rw [← hh]; rfl
  have k1 : Keeps h h1 := by rw [← hh]; exact (Keeps.new h _).trans ((Keeps.new _ _).trans (Keeps.new _ _))
  have g2 : h1.get h.next = some (.cells 30 [.slice none 0 0] (.own false)) := by
    rw [← hh, Heap.get_new, if_neg (by simp only [Heap.next_new]; omega), Heap.get_new, if_neg (by simp only [Heap.next_new]; omega), Heap.get_new, if_pos rfl]
  have g3 : h1.get (h.next + 1) = some (.cells 37 [.int .i64 0] (.own false)) := by
    rw [← hh, Heap.get_new, if_neg (by simp only [Heap.next_new]; omega), Heap.get_new, if_pos (by simp only [Heap.next_new])]
  have g4 : h1.get (h.next + 2) = some (.cells 30 [.slice none 0 0] (.own false)) := by
    rw [← hh, Heap.get_new, if_pos (by simp only [Heap.next_new])]
  clear hh
  refine i_call1 (by exact sel_of rfl) (w_new (hr.keeps k1) hlen n (by omega)) ?_
  rintro _ h2 ⟨k2, b, hb, rfl, rd⟩
  have hbn : b < h2.next := by obtain ⟨e, o, c, hb, _⟩ := rd; exact hb
  refine i_call1 (by exact sel_of rfl) (w_all n (by omega)) ?_
  rintro _ h3 ⟨rfl, hh3⟩
  have k3 : Keeps h2 h3 := by rw [hh3]; exact Keeps.new _ _
  have n3 : h3.next = h2.next + 1 := by rw [hh3]; rfl
  have gx : h3.get h2.next = some (.cells 75 [.pointer (some ⟨b, 0, none⟩)] (.own false)) := by rw [hh3, Heap.get_new, if_pos rfl]
  clear hh3
  have n2 := k2.next
  have n12 := k1.next
  refine gg ?_
  refine o_brange (P := Try.prog) (by exact sel_of rfl) ?_
  have st : ∀ a, Sl [(2, .pointer (some ⟨h.next, 0, none⟩)), (3, .pointer (some ⟨h.next + 1, 0, none⟩)), (4, .pointer (some ⟨h.next + 2, 0, none⟩))] a → St h a h.next b h2.next h3.next (h3.new (.loop 20 [10, 11] k99_0.1 k99_0.2 a .ready none)) [] l := fun a ha => by
    have k13 : Keeps h1 (h3.new (.loop 20 [10, 11] k99_0.1 k99_0.2 a .ready none)) := k2.trans (k3.trans (Keeps.new _ _))
    exact ⟨⟨Nat.le_refl _, by omega, hbn, by omega, Nat.lt_succ_self _⟩, ha, k1.trans k13, (k13.get _ (by omega)).trans g2, (k13.get _ (by omega)).trans g3, rd.keeps (k3.trans (Keeps.new _ _)), ((Keeps.new h3 _).get _ (by omega)).trans gx, by rw [Heap.get_new, if_pos rfl], none, [], (k13.get _ (by omega)).trans g4, Ap.nil _ _ _ _, trivial, fun q m c hm => by simp at hm, fun q e => by cases e⟩
  refine (w_all1 (st _ ⟨sel_of rfl, sel_of rfl, sel_of rfl, trivial⟩) hlen n (by omega)).mono ?_
  rintro v h4 (⟨s, e0⟩ | ⟨e0, enil, bad⟩)
  · obtain ⟨⟨b1, b2, b3, b4, b5⟩, fr, keep, c2, c3, rd', bx, lp, o4, cs, c4, ap, prl, apart, spot⟩ := s
    refine RgQ.none lp (blo_n ?_)
    refine gg ?_
    refine i_load1 (u := ⟨h.next + 2, 0, none⟩) (v := .slice o4 (decL l).2.length (decL l).2.length) (by exact sel_of rfl) (by rw [load1_own (b := h.next + 2) (by rw [Heap.get_put, if_neg (by omega)]; exact c4)]; rfl) ?_
    refine i_storeP (b := h.next) (s := none) (vs := [.slice o4 (decL l).2.length (decL l).2.length]) (by exact sel_of rfl) (by rfl) (by rw [Heap.get_put, if_neg (by omega)]; exact c2) rfl rfl ?_
    refine i_storeP (b := h.next + 1) (s := none) (vs := [.int .i64 0]) (by exact sel_of rfl) (by rfl) (by rw [Heap.get_put, if_neg (by omega), Heap.get_put, if_neg (by omega)]; exact c3) rfl rfl ?_
    refine gg ?_
    refine finO2 (u1 := ⟨h.next, 0, none⟩) (v1 := .slice o4 (decL l).2.length (decL l).2.length) (u2 := ⟨h.next + 1, 0, none⟩) (v2 := .int .i64 0) (by exact sel_of rfl) (by rw [load1_own (b := h.next) (by rw [Heap.get_put, if_neg (by omega), Heap.get_put, if_pos rfl])]; rfl) (by exact sel_of rfl) (by rw [load1_own (b := h.next + 1) (by rw [Heap.get_put, if_pos rfl])]; rfl) ?_
    have harr : ∀ q, o4 = some q → h3.next < q.block := fun q e => by
      subst e
      rcases ap.2.2 q rfl with e | ⟨k', e2, e3, _⟩
      · exact absurd e (spot q rfl)
      · rw [e2]; exact e3
    refine ⟨⟨by have := keep.next; simp only [Heap.next_put]; omega, fun d hd => ?_⟩, o4, (decL l).2.length, cs, by rw [e0]; rfl, row_low ap.row (by simp only [Heap.next_put]; omega) (fun q e => ?_), prl_low (by simp only [Heap.next_put]; omega) prl (fun q m c hm hlt => ?_), Nat.le_refl _, fun q e => by have := harr q e; omega, fun q m c hm => by have := (apart q m c hm).1; omega⟩
    · rw [Heap.get_put, if_neg (by omega), Heap.get_put, if_neg (by omega), Heap.get_put, if_neg (by omega)]; exact keep.get d hd
    · have := harr q e
      rw [Heap.get_put, if_neg (by omega), Heap.get_put, if_neg (by omega), Heap.get_put, if_neg (by omega)]
    · have := (apart q m c hm).1
      rw [Heap.get_put, if_neg (by omega), Heap.get_put, if_neg (by omega), Heap.get_put, if_neg (by omega)]
  · obtain ⟨keep, c2, c3, lp, x1, x2, x3⟩ := bad
    refine RgQ.ret lp (blo_r ?_)
    refine gg ?_
    refine finO2 (u1 := ⟨h.next, 0, none⟩) (v1 := .slice none 0 0) (u2 := ⟨h.next + 1, 0, none⟩) (v2 := .int .i64 ((decL l).1 : Int)) (by exact sel_of rfl) (by rw [load1_own (b := h.next) (by rw [Heap.get_put, if_neg (by omega)]; exact c2)]; rfl) (by exact sel_of rfl) (by rw [load1_own (b := h.next + 1) (by rw [Heap.get_put, if_neg (by omega)]; exact c3)]; rfl) ?_
    rw [DecQF, enil]
    exact ⟨⟨by have := keep.next; simp only [Heap.next_put]; omega, fun d hd => by rw [Heap.get_put, if_neg (by omega)]; exact keep.get d hd⟩, none, 0, [], rfl, Row.nil _ _, trivial, Nat.le_refl _, (fun q e => by cases e), fun q m c hm => by cases hm⟩
theorem set_same {v : List Value} {k : Nat} {x : Value} (h : v[k]? = some x) : v.set k x = v := by
  refine List.ext_getElem? fun i => ?_
  rw [List.getElem?_set]
  split
  · rename_i hi; subst hi
    rw [if_pos (List.getElem?_eq_some_iff.1 h).1, h]
  · rfl
set_option maxHeartbeats 2000000 in
theorem w_params {F : Nat} {h : Heap} {R b C : Nat} {s : RS} {v : List Value} (r : Rr F h R b s) (a : At F h R b C v) (h10 : v[10]? = some (.slice none 0 0)) (hlen : s.1.length ≤ 1000000) (n : Nat) (hn : 110 ≤ n) :
    ResQ (callN Try.prog G0 n (.call 91 [.pointer (some ⟨R, 0, none⟩), .pointer (some ⟨C, 0, none⟩)]) h) (fun _ h' => KeepsP (P3 R b C) h h' ∧ Rr F h' R b (rdPa s).2 ∧
      ∃ o c ps, At F h' R b C (v.set 10 (.slice o (rdPa s).1.length c)) ∧ (Row h' 2 o (rdPa s).1.length ps ∧ PrL h' (rdPa s).1 ps) ∧ (rdPa s).1.length ≤ c ∧ (∀ q, o = some q → h.next ≤ q.block) ∧ ∀ q m c, Value.slice (some q) m c ∈ ps → h.next ≤ q.block) := by
  have g := r.g
  obtain ⟨n, rfl⟩ : ∃ m, n = m + 1 := ⟨n - 1, by omega⟩
  refine res_enter rfl d91 rfl ?_; simp only [c91]
  refine gg ?_; repeat (refine i_ldown (by exact sel_of rfl) (by assumption) (by rfl) ?_; refine gg ?_)
  by_cases hs : s.2 = 0
  case neg =>
    rw [decide_eq_true (p := ((s.2 : Nat) : Int) ≠ 0) (by omega)]
    refine gg ?_; repeat (refine i_ldown (by exact sel_of rfl) (by assumption) (by rfl) ?_; refine gg ?_)
    rw [rdPa, if_neg hs]
    exact ⟨KeepsP.refl _ _, r, none, 0, [], by rw [show v.set 10 (.slice none ([] : List Prm).length 0) = v from set_same h10]; exact a, ⟨Row.nil _ _, trivial⟩, Nat.le_refl _, (fun q e => by cases e), fun q m c hm => by cases hm⟩
  rw [decide_eq_false (p := ((s.2 : Nat) : Int) ≠ 0) (by omega)]
  refine gg ?_; repeat (refine i_ldown (by exact sel_of rfl) (by assumption) (by rfl) ?_; refine gg ?_)
  refine i_call1 (by exact sel_of rfl) (w_rest r hlen n (by omega)) ?_
  rintro _ h1 ⟨k1, r1, o1, rfl, row1, fr1⟩
  have a1 := a.keep k1
  refine gg ?_; repeat (refine i_ldown (by exact sel_of rfl) (by assumption) (by rfl) ?_; refine gg ?_)
  refine i_call1 (by exact sel_of rfl) (w_decodeF row1 hlen n (by omega)) ?_
  rintro _ h2 ⟨k2, o2, c2, ps, rfl, row2, prl2, hc2, fr2, frp⟩
  have a2 := a1.new k2
  have r2 := r1.keeps k2
  refine gg ?_; repeat (refine i_ldown (by exact sel_of rfl) (by assumption) (by rfl) ?_; refine gg ?_)
  refine i_stB (by exact sel_of rfl) (by rfl) a2.g (by rw [a2.len]; exact (by decide : 10 < 12)) fun h3 kb3 nx3 g3 => ?_
  have a3 := a2.set kb3 nx3 g3
  have r3 := r2.keepC kb3 a.nR a.nb a.nF
  refine gg ?_; repeat (refine i_ldown (by exact sel_of rfl) (by assumption) (by rfl) ?_; refine gg ?_)
  refine i_call2 (by exact sel_of rfl) (by exact sel_of rfl) (w_see r3 (decL s.1).1 n (by omega)) ?_
  rintro _ h4 ⟨k4, nx4, r4, rfl⟩
  refine gg ?_; repeat (refine i_ldown (by exact sel_of rfl) (by assumption) (by rfl) ?_; refine gg ?_)
  have a4 := a3.keep (k4.toP (p := P2 R b) (.inl rfl))
  have e1 : see (decL s.1).1 ([], s.2) = ([], (decL s.1).1) := by rw [see, if_pos hs]
  rw [e1] at r4
  rw [rdPa, if_pos hs]
  have n1 := k1.next
  have n2 := k2.next
  have hC := a.lt
  have hR := r.lt
  have kk : KeepsP (P3 R b C) h2 h4 := (kb3.toP (.inr (.inr rfl))).trans (k4.toP (.inl rfl))
  have hb := r.ltb
  have out : ∀ d, h1.next ≤ d → ¬P3 R b C d := fun d hd hp => by unfold P3 at hp; omega
  refine ⟨((k1.mono fun d => P2.P3).trans (k2.toP _)).trans kk, r4, o2, c2, ps, a4, ⟨kk.row row2 (fun q e => out _ (fr2 q e)), prl_low kk.next prl2 (fun q m c hm hlt => kk.get _ hlt (out _ (frp q m c hm)))⟩, hc2, fun q e => by have := fr2 q e; omega, fun q m c hm => by have := frp q m c hm; omega⟩
end Go.Proofs.Ytdcllpjoejkpnaa

/-! A Sack's lists and a Forward's, read. -/
set_option linter.unusedVariables false
namespace Go.Proofs.Ytdcllpjoejkpnaa
open Go Vm
theorem rn_lt2 (s : RS) : (rn 2 s).1 < 65536 := by
  unfold rn
  split
  · unfold getR
    split
    · show 0 < 65536
      decide
    · exact num_two _
  · show 0 < 65536
    decide
theorem At.low {F : Nat} {h h' : Heap} {R b C : Nat} {v : List Value} (a : At F h R b C v) {p : Nat → Prop} (k : KeepsP p h h') (hp : ¬p C) : At F h' R b C v :=
  ⟨Nat.lt_of_lt_of_le a.lt k.next, (k.get C a.lt hp).trans a.g, a.len, a.nR, a.nb, a.nF⟩
theorem set_get {v : List Value} {k : Nat} {x : Value} (h : k < v.length) : (v.set k x)[k]? = some x := by
  rw [List.getElem?_set, if_pos rfl, if_pos h]
theorem set_oth {v : List Value} {k j : Nat} {x : Value} (h : k ≠ j) : (v.set k x)[j]? = v[j]? := by
  rw [List.getElem?_set, if_neg h]
theorem rdSk_stop (j : Nat) {s : RS} (h : ¬(s.2 = 0 ∧ s.1 ≠ [])) : rdSk j s = ([], s) := by
  cases j <;> unfold rdSk <;> rw [if_neg h]
theorem rdSk_short (j : Nat) {s : RS} (h : s.2 = 0 ∧ s.1 ≠ []) (h4 : s.1.length < 4) : rdSk j s = ([], (s.1, 3)) := by
  cases j <;> unfold rdSk <;> rw [if_pos h, if_pos h4]
theorem rdSk_full {s : RS} (h : s.2 = 0 ∧ s.1 ≠ []) (h4 : ¬s.1.length < 4) : rdSk 0 s = ([], (s.1, 10)) := by
  unfold rdSk; rw [if_pos h, if_neg h4]
theorem rdSk_step (j : Nat) {s : RS} (h : s.2 = 0 ∧ s.1 ≠ []) (h4 : ¬s.1.length < 4) : rdSk (j + 1) s = (((rn 2 s).1, (rn 2 (rn 2 s).2).1) :: (rdSk j (rn 2 (rn 2 s).2).2).1, (rdSk j (rn 2 (rn 2 s).2).2).2) := by
  rw [rdSk, if_pos h, if_neg h4]
set_option maxHeartbeats 8000000 in
theorem w_rsack {F : Nat} {h : Heap} {R b C : Nat} {s : RS} {v : List Value} (r : Rr F h R b s) (a : At F h R b C v) (h7 : v[7]? = some (.slice none 0 0)) (h8 : v[8]? = some (.slice none 0 0)) (n : Nat) (hn : 100 ≤ n) :
    ResQ (callN Try.prog G0 n (.call 92 [.pointer (some ⟨R, 0, none⟩), .pointer (some ⟨C, 0, none⟩)]) h) (fun _ h' => KeepsP (P3 R b C) h h' ∧ Rr F h' R b (rdSa s).2 ∧
      ∃ o1 o2, At F h' R b C ((v.set 7 (.slice o1 (rdSa s).1.1.length (rdSa s).1.1.length)).set 8 (.slice o2 (rdSa s).1.2.length (rdSa s).1.2.length)) ∧ Row h' 2 o1 (rdSa s).1.1.length (pr16 (rdSa s).1.1) ∧ Row h' 1 o2 (rdSa s).1.2.length (n32 (rdSa s).1.2) ∧ (∀ q, o1 = some q → h.next ≤ q.block) ∧ ∀ q, o2 = some q → h.next ≤ q.block) := by
  have hxl := rn_lt2 s
  have hml := rn_lt2 (rn 2 s).2
  have hR := r.lt
  have hC := a.lt
  have hbC := a.nb
  have hbn := r.ltb
  have vl := a.len
  obtain ⟨n, rfl⟩ : ∃ m, n = m + 1 := ⟨n - 1, by omega⟩
  refine res_enter rfl d92 rfl ?_; simp only [c92]
  refine gg ?_
  refine i_call1 (by exact sel_of rfl) (w_half r n (by omega)) ?_
  rintro _ h1 ⟨k1, nx1, r1, rfl⟩
  refine gg ?_
  refine i_call1 (by exact sel_of rfl) (w_half r1 n (by omega)) ?_
  rintro _ h2 ⟨k2, nx2, r2, rfl⟩
  have a2 := (a.keep k1).keep k2
  have k12 := k1.trans k2
  have e0 : rdSa s = if (need ((rn 2 s).1 ≤ 64 ∧ (rn 2 (rn 2 s).2).1 ≤ 64) 10 (rn 2 (rn 2 s).2).2).2 = 0 then
    (((rdBl (rn 2 s).1 (rn 2 (rn 2 s).2).2).1, (rdDu (rn 2 (rn 2 s).2).1 (rdBl (rn 2 s).1 (rn 2 (rn 2 s).2).2).2).1), (rdDu (rn 2 (rn 2 s).2).1 (rdBl (rn 2 s).1 (rn 2 (rn 2 s).2).2).2).2)
    else (([], []), need ((rn 2 s).1 ≤ 64 ∧ (rn 2 (rn 2 s).2).1 ≤ 64) 10 (rn 2 (rn 2 s).2).2) := rfl
  refine gg ?_
  generalize (rn 2 s).1 = x at *
  generalize (rn 2 (rn 2 s).2).1 = m at *
  generalize (rn 2 (rn 2 s).2).2 = s2 at *
  have bad : ∀ h', KeepsP (P3 R b C) h h' → At F h' R b C v → (need (x ≤ 64 ∧ m ≤ 64) 10 s2).2 ≠ 0 → Rr F h' R b (need (x ≤ 64 ∧ m ≤ 64) 10 s2) → (KeepsP (P3 R b C) h h' ∧ Rr F h' R b (rdSa s).2 ∧
      ∃ o1 o2, At F h' R b C ((v.set 7 (.slice o1 (rdSa s).1.1.length (rdSa s).1.1.length)).set 8 (.slice o2 (rdSa s).1.2.length (rdSa s).1.2.length)) ∧ Row h' 2 o1 (rdSa s).1.1.length (pr16 (rdSa s).1.1) ∧ Row h' 1 o2 (rdSa s).1.2.length (n32 (rdSa s).1.2) ∧ (∀ q, o1 = some q → h.next ≤ q.block) ∧ ∀ q, o2 = some q → h.next ≤ q.block) := by
    intro h' k' a' hz r'
    rw [e0, if_neg hz]
    refine ⟨k', r', none, none, ?_, Row.nil _ _, Row.nil _ _, (fun q e => by cases e), fun q e => by cases e⟩
    show At F h' R b C ((v.set 7 (.slice none 0 0)).set 8 (.slice none 0 0))
    rw [set_same h7, set_same h8]; exact a'
  by_cases h64 : x ≤ 64 ∧ m ≤ 64
  case neg =>
    have hz : (need (x ≤ 64 ∧ m ≤ 64) 10 s2).2 ≠ 0 := by
      unfold need
      by_cases hs2 : s2.2 = 0
      · rw [if_pos ⟨hs2, h64⟩]; exact fun e => by cases e
      · rw [if_neg (fun e => hs2 e.1)]; exact hs2
    by_cases hx : x ≤ 64
    · rw [decide_eq_true (p := ((x : Nat) : Int) ≤ 64) (by omega)]
      refine gg ?_
      refine i_call3 (by exact sel_of rfl) (by exact sel_of rfl) (by first | exact sel_of rfl | exact const_of) (w_need (φ := ((m : Nat) : Int) ≤ 64) r2 10 n (by omega)) ?_
      rintro _ h3 ⟨k3, nx3, r3, rfl⟩
      have e1 : need (((m : Nat) : Int) ≤ 64) 10 s2 = need (x ≤ 64 ∧ m ≤ 64) 10 s2 := by
        unfold need
        by_cases hs2 : s2.2 = 0
        · rw [if_pos ⟨hs2, by omega⟩, if_pos ⟨hs2, h64⟩]
        · rw [if_neg (fun e => hs2 e.1), if_neg (fun e => hs2 e.1)]
      rw [e1] at r3 ⊢
      rw [decide_eq_false hz]
      refine gg ?_
      exact bad _ ((k12.mono fun d => P2.P3).trans (k3.toP (.inl rfl))) (a2.keep (k3.toP (.inl rfl))) hz r3
    · rw [decide_eq_false (p := ((x : Nat) : Int) ≤ 64) (by omega)]
      refine gg ?_
      refine i_call3 (by exact sel_of rfl) (by exact sel_of rfl) (by first | exact sel_of rfl | exact const_of) (w_need (φ := False) r2 10 n (by omega)) ?_
      rintro _ h3 ⟨k3, nx3, r3, rfl⟩
      have e1 : need False 10 s2 = need (x ≤ 64 ∧ m ≤ 64) 10 s2 := by
        unfold need
        by_cases hs2 : s2.2 = 0
        · rw [if_pos ⟨hs2, id⟩, if_pos ⟨hs2, h64⟩]
        · rw [if_neg (fun e => hs2 e.1), if_neg (fun e => hs2 e.1)]
      rw [e1] at r3 ⊢
      rw [decide_eq_false hz]
      refine gg ?_
      exact bad _ ((k12.mono fun d => P2.P3).trans (k3.toP (.inl rfl))) (a2.keep (k3.toP (.inl rfl))) hz r3
  rw [decide_eq_true (p := ((x : Nat) : Int) ≤ 64) (by omega)]
  refine gg ?_
  refine i_call3 (by exact sel_of rfl) (by exact sel_of rfl) (by first | exact sel_of rfl | exact const_of) (w_need (φ := ((m : Nat) : Int) ≤ 64) r2 10 n (by omega)) ?_
  rintro _ h3 ⟨k3, nx3, r3, rfl⟩
  rw [need_ok (φ := ((m : Nat) : Int) ≤ 64) _ _ (by omega)] at r3 ⊢
  rw [need_ok _ _ h64] at bad e0
  have k13 := (k12.mono fun d => P2.P3 (C := C)).trans (k3.toP (p := P3 R b C) (.inl rfl))
  have a3 := a2.keep (k3.toP (p := P2 R b) (.inl rfl))
  by_cases hs2 : s2.2 = 0
  case neg =>
    rw [decide_eq_false hs2]
    refine gg ?_
    exact bad _ k13 a3 hs2 r3
  rw [decide_eq_true hs2]
  rw [if_pos hs2] at e0
  clear bad
  refine gg ?_
  have n3 : h3.next = h.next := by omega
  refine o_up x (fun i f h' => ∃ (acc : List (Nat × Nat)) (s' : RS) (o : Option Addr), Sl [(23, .int .i64 (i : Int)), (22, .int .i64 (x : Int)), (5, .int .i64 (m : Int)), (0, .pointer (some ⟨R, 0, none⟩)), (1, .pointer (some ⟨C, 0, none⟩))] f ∧ KeepsP (P3 R b C) h3 h' ∧ Rr F h' R b s' ∧ At F h' R b C (v.set 7 (.slice o acc.length acc.length)) ∧ Ap h3.next h' 88 2 o acc.length acc.length (pr16 acc) ∧ (∀ q, o = some q → h3.next ≤ q.block) ∧ acc.length = i ∧ rdBl x s2 = (acc ++ (rdBl (x - i) s').1, (rdBl (x - i) s').2)) (by omega) ?_ ?_
  · exact ⟨[], s2, none, ⟨sel_of rfl, sel_of rfl, sel_of rfl, sel_of rfl, sel_of rfl, trivial⟩, KeepsP.refl _ _, r3, by rw [show v.set 7 (.slice none ([] : List (Nat × Nat)).length ([] : List (Nat × Nat)).length) = v from set_same h7]; exact a3, Ap.nil _ _ _ _, (fun q e => by cases e), rfl, rfl⟩
  rintro i f h' hi ⟨acc, s', o, hs, k, r', a', ap, fr, hlen, hrd⟩
  obtain ⟨f0, rfl⟩ := hs.puts
  have kn := k.next
  simp only [c92_0]
  refine gg ?_
  refine out_if (by exact sel_of rfl) (fun hif => ?_) (fun hif => ?_)
  · refine gg ?_
    refine i_call1 (by exact sel_of rfl) (w_half r' n (by omega)) ?_
    rintro _ h5 ⟨k5, nx5, r5, rfl⟩
    have a5 := a'.keep k5
    have ap5 := k5.ap ap (fun q e => by have := fr q e; unfold P2; omega)
    refine gg ?_
    refine i_ldown (by exact sel_of rfl) a5.g (set_get (by rw [vl]; exact (by decide : 7 < 12))) ?_
    refine gg ?_
    refine i_call1 (by exact sel_of rfl) (w_half r5 n (by omega)) ?_
    rintro _ h6 ⟨k6, nx6, r6, rfl⟩
    have a6 := a5.keep k6
    have ap6 := k6.ap ap5 (fun q e => by have := fr q e; unfold P2; omega)
    refine gg ?_
    refine i_bslice (cs := [.int .u16 ((rn 2 s').1 : Int), .int .u16 ((rn 2 (rn 2 s').2).1 : Int)]) (by rfl) ?_
    have k7 : Keeps h6 (h6.new (.cells 88 [.int .u16 ((rn 2 s').1 : Int), .int .u16 ((rn 2 (rn 2 s').2).1 : Int)] (.own false))) := Keeps.new h6 _
    have row7 : Row (h6.new (.cells 88 [.int .u16 ((rn 2 s').1 : Int), .int .u16 ((rn 2 (rn 2 s').2).1 : Int)] (.own false))) 2 (some ⟨h6.next, 0, none⟩) 1 [.int .u16 ((rn 2 s').1 : Int), .int .u16 ((rn 2 (rn 2 s').2).1 : Int)] := Row.new (by simp) rfl (.inl rfl)
    have nx7 : (h6.new (.cells 88 [.int .u16 ((rn 2 s').1 : Int), .int .u16 ((rn 2 (rn 2 s').2).1 : Int)] (.own false))).next = h6.next + 1 := rfl
    generalize h6.new (.cells 88 [.int .u16 ((rn 2 s').1 : Int), .int .u16 ((rn 2 (rn 2 s').2).1 : Int)] (.own false)) = h7 at *
    refine gg ?_
    refine i_appF (t := (acc ++ [((rn 2 s').1, (rn 2 (rn 2 s').2).1)]).length) (es := pr16 (acc ++ [((rn 2 s').1, (rn 2 (rn 2 s').2).1)])) (by decide) (B := h3.next) (by omega) (by exact sel_of rfl) (ap6.keeps k7) (row7.src) rfl (by omega) (by simp) (by rw [pr16_app]; rfl) fun h8 nx8 fr8 ap8 => ?_
    have kq : KeepsP (fun d => h3.next ≤ d) h6 h8 := ⟨by omega, fun d hd hp => (fr8 d (by omega) (fun q e => .inl (by have := fr q e; omega))).trans (k7.get d hd)⟩
    have a8 := a6.low kq (by omega)
    have r8 := r6.low kq (by omega) (by omega) (fun d _ hd => by omega)
    refine gg ?_
    refine i_stB (by exact sel_of rfl) (by rfl) a8.g (by rw [a8.len]; exact (by decide : 7 < 12)) fun h9 kb9 nx9 g9 => ?_
    have a9 := a8.set kb9 nx9 g9
    have r9 := r8.keepC kb9 a.nR a.nb a.nF
    rw [List.set_set] at a9
    refine gg ?_
    refine ⟨chk_cons rfl (ldO (by exact sel_of rfl) a5.g (set_get (by rw [vl]; exact (by decide : 7 < 12)))) (sv_slice _ _ _) (fun m hm => by
      simp only [List.mem_cons, List.not_mem_nil, or_false] at hm
      rcases hm with rfl | rfl
      · exact ⟨_, _, rfl, ldO (by exact sel_of rfl) a5.g (set_get (by rw [vl]; exact (by decide : 7 < 12)))⟩
      · exact ⟨_, _, rfl, ldO (by exact sel_of rfl) a6.g (set_get (by rw [vl]; exact (by decide : 7 < 12)))⟩) chk_nil, ?_⟩
    refine gg ?_
    have kk : KeepsP (P3 R b C) h3 h9 := ⟨by have := k.next; omega, fun d hd hp => by
      have e1 := k.get d hd hp
      have e2 := k5.get d (by have := k.next; omega) (fun e => hp e.P3)
      have e3 := k6.get d (by have := k.next; omega) (fun e => hp e.P3)
      have e4 := kq.get d (by have := k.next; omega) (by omega)
      have e5 := kb9.get d (by have := k.next; omega) (fun e => hp (.inr (.inr e)))
      rw [e5, e4, e3, e2, e1]⟩
    have ap9 := (kb9.toP (p := fun d => d = C) rfl).ap ap8 (fun q e => by cases e; show ¬h7.next = C; omega)
    refine rnd_up (by omega) ⟨acc ++ [((rn 2 s').1, (rn 2 (rn 2 s').2).1)], (rn 2 (rn 2 s').2).2, _, ⟨sel_of rfl, sel_of rfl, sel_of rfl, sel_of rfl, sel_of rfl, trivial⟩, kk, r9, a9, ap9, (fun q e => by cases e; show h3.next ≤ h7.next; omega), by simp [hlen], ?_⟩
    rw [hrd, show x - i = (x - (i + 1)) + 1 by omega, rdBl]
    simp only [List.append_assoc, List.singleton_append]
  obtain rfl : i = x := by omega
  rw [Nat.sub_self] at hrd
  have hrd : rdBl i s2 = (acc, s') := by rw [hrd]; simp [rdBl]
  rw [hrd] at e0
  have row1 := ap.row
  clear ap hrd hlen hif
  refine gg ?_
  have hk1 := k13.trans k
  have v1l : (v.set 7 (.slice o acc.length acc.length)).length = 12 := by rw [List.length_set]; exact vl
  have g8 : (v.set 7 (.slice o acc.length acc.length))[8]? = some (.slice none 0 0) := by rw [set_oth (by decide)]; exact h8
  generalize hv1 : v.set 7 (.slice o acc.length acc.length) = v1 at *
  refine o_up m (fun i f h'' => ∃ (acc : List Nat) (s'' : RS) (o : Option Addr), Sl [(42, .int .i64 (i : Int)), (41, .int .i64 (m : Int)), (0, .pointer (some ⟨R, 0, none⟩)), (1, .pointer (some ⟨C, 0, none⟩))] f ∧ KeepsP (P3 R b C) h' h'' ∧ Rr F h'' R b s'' ∧ At F h'' R b C (v1.set 8 (.slice o acc.length acc.length)) ∧ Ap h'.next h'' 24 1 o acc.length acc.length (n32 acc) ∧ (∀ q, o = some q → h'.next ≤ q.block) ∧ acc.length = i ∧ rdDu m s' = (acc ++ (rdDu (m - i) s'').1, (rdDu (m - i) s'').2)) (by omega) ?_ ?_
  · exact ⟨[], s', none, ⟨sel_of rfl, sel_of rfl, sel_of rfl, sel_of rfl, trivial⟩, KeepsP.refl _ _, r', by rw [show v1.set 8 (.slice none ([] : List Nat).length ([] : List Nat).length) = v1 from set_same g8]; exact a', Ap.nil _ _ _ _, (fun q e => by cases e), rfl, rfl⟩
  rintro j f h'' hj ⟨acc2, s'', o2, hs, k4, r4, a4, ap4, fr4, hlen, hrd⟩
  obtain ⟨f0, rfl⟩ := hs.puts
  have kn4 := k4.next
  simp only [c92_1]
  refine gg ?_
  refine out_if (by exact sel_of rfl) (fun hif => ?_) (fun hif => ?_)
  · refine gg ?_
    refine out_block ?_
    refine gg ?_
    refine i_ldown (by exact sel_of rfl) a4.g (set_get (by rw [v1l]; exact (by decide : 8 < 12))) ?_
    refine gg ?_
    refine i_call1 (by exact sel_of rfl) (w_number r4 n (by omega)) ?_
    rintro _ h6 ⟨k6, nx6, r6, rfl⟩
    have a6 := a4.keep k6
    have ap6 := k6.ap ap4 (fun q e => by have := fr4 q e; unfold P2; omega)
    refine gg ?_
    have k7 : Keeps h6 (h6.new (.cells 24 [.int .u32 ((rn 4 s'').1 : Int)] (.own false))) := Keeps.new h6 _
    have row7 : Row (h6.new (.cells 24 [.int .u32 ((rn 4 s'').1 : Int)] (.own false))) 1 (some ⟨h6.next, 0, none⟩) 1 [.int .u32 ((rn 4 s'').1 : Int)] := Row.new (by simp) rfl (.inl rfl)
    have nx7 : (h6.new (.cells 24 [.int .u32 ((rn 4 s'').1 : Int)] (.own false))).next = h6.next + 1 := rfl
    show ItQ (runItems _ _ _ (h6.new (.cells 24 [.int .u32 ((rn 4 s'').1 : Int)] (.own false)))) _
    generalize h6.new (.cells 24 [.int .u32 ((rn 4 s'').1 : Int)] (.own false)) = h7 at *
    refine i_appF (t := (acc2 ++ [(rn 4 s'').1]).length) (es := n32 (acc2 ++ [(rn 4 s'').1])) (by decide) (B := h'.next) (by omega) (by exact sel_of rfl) (ap6.keeps k7) (row7.src) rfl (by omega) (by simp) (by rw [n32_app]; rfl) fun h8 nx8 fr8 ap8 => ?_
    have kq : KeepsP (fun d => h'.next ≤ d) h6 h8 := ⟨by omega, fun d hd hp => (fr8 d (by omega) (fun q e => .inl (by have := fr4 q e; omega))).trans (k7.get d hd)⟩
    have a8 := a6.low kq (by omega)
    have r8 := r6.low kq (by omega) (by omega) (fun d _ hd => by omega)
    refine gg ?_
    refine i_stB (by exact sel_of rfl) (by rfl) a8.g (by rw [a8.len]; exact (by decide : 8 < 12)) fun h9 kb9 nx9 g9 => ?_
    have a9 := a8.set kb9 nx9 g9
    have r9 := r8.keepC kb9 a.nR a.nb a.nF
    rw [List.set_set] at a9
    refine gg ?_
    refine ⟨chk_cons rfl (ldO (by exact sel_of rfl) a4.g (set_get (by rw [v1l]; exact (by decide : 8 < 12)))) (sv_slice _ _ _) (fun m hm => by
      simp only [List.mem_cons, List.not_mem_nil, or_false] at hm
      rcases hm with rfl | rfl
      · exact ⟨_, _, rfl, ldO (by exact sel_of rfl) a4.g (set_get (by rw [v1l]; exact (by decide : 8 < 12)))⟩
      · exact ⟨_, _, rfl, ldO (by exact sel_of rfl) a6.g (set_get (by rw [v1l]; exact (by decide : 8 < 12)))⟩) chk_nil, ?_⟩
    refine gg ?_
    have kk : KeepsP (P3 R b C) h' h9 := ⟨by omega, fun d hd hp => by
      have e1 := k4.get d hd hp
      have e3 := k6.get d (by omega) (fun e => hp e.P3)
      have e4 := kq.get d (by omega) (by omega)
      have e5 := kb9.get d (by omega) (fun e => hp (.inr (.inr e)))
      rw [e5, e4, e3, e1]⟩
    have ap9 := (kb9.toP (p := fun d => d = C) rfl).ap ap8 (fun q e => by cases e; show ¬h7.next = C; omega)
    refine rnd_up (by omega) ⟨acc2 ++ [(rn 4 s'').1], (rn 4 s'').2, _, ⟨sel_of rfl, sel_of rfl, sel_of rfl, sel_of rfl, trivial⟩, kk, r9, a9, ap9, (fun q e => by cases e; show h'.next ≤ h7.next; omega), by simp [hlen], ?_⟩
    rw [hrd, show m - j = (m - (j + 1)) + 1 by omega, rdDu]
    simp only [List.append_assoc, List.singleton_append]
  obtain rfl : j = m := by omega
  rw [Nat.sub_self] at hrd
  have hrd : rdDu j s' = (acc2, s'') := by rw [hrd]; simp [rdDu]
  rw [hrd] at e0
  refine gg ?_
  rw [e0]
  refine ⟨hk1.trans k4, r4, o, o2, by rw [hv1]; exact a4, k4.row row1 (fun q e he => by have := fr q e; unfold P3 at he; omega), ap4.row, fun q e => by have := fr q e; omega, fun q e => by have := fr4 q e; omega⟩
set_option maxHeartbeats 8000000 in
theorem w_skips {F : Nat} {h : Heap} {R b C : Nat} {s : RS} {v : List Value} (r : Rr F h R b s) (a : At F h R b C v) (h9 : v[9]? = some (.slice none 0 0)) (n : Nat) (hn : 100 ≤ n) :
    ResQ (callN Try.prog G0 n (.call 93 [.pointer (some ⟨R, 0, none⟩), .pointer (some ⟨C, 0, none⟩)]) h) (fun _ h' => KeepsP (P3 R b C) h h' ∧ Rr F h' R b (rdSk 64 s).2 ∧
      ∃ o, At F h' R b C (v.set 9 (.slice o (rdSk 64 s).1.length (rdSk 64 s).1.length)) ∧ Row h' 2 o (rdSk 64 s).1.length (pr16 (rdSk 64 s).1) ∧ ∀ q, o = some q → h.next ≤ q.block) := by
  have hR := r.lt
  have hC := a.lt
  have hbC := a.nb
  have hbn := r.ltb
  have vl := a.len
  obtain ⟨n, rfl⟩ : ∃ m, n = m + 1 := ⟨n - 1, by omega⟩
  refine res_enter rfl d93 rfl ?_; simp only [c93]
  refine o_up 64 (fun i f h' => ∃ (acc : List (Nat × Nat)) (s' : RS) (o : Option Addr), Sl [(0, .pointer (some ⟨R, 0, none⟩)), (1, .pointer (some ⟨C, 0, none⟩))] f ∧ KeepsP (P3 R b C) h h' ∧ Rr F h' R b s' ∧ At F h' R b C (v.set 9 (.slice o acc.length acc.length)) ∧ Ap h.next h' 90 2 o acc.length acc.length (pr16 acc) ∧ (∀ q, o = some q → h.next ≤ q.block) ∧ acc.length = i ∧ rdSk 64 s = (acc ++ (rdSk (64 - i) s').1, (rdSk (64 - i) s').2)) (by omega) ?_ ?_
  · exact ⟨[], s, none, ⟨sel_of rfl, sel_of rfl, trivial⟩, KeepsP.refl _ _, r, by rw [show v.set 9 (.slice none ([] : List (Nat × Nat)).length ([] : List (Nat × Nat)).length) = v from set_same h9]; exact a, Ap.nil _ _ _ _, (fun q e => by cases e), rfl, rfl⟩
  rintro i f h' hi ⟨acc, s', o, hs, k, r', a', ap, fr, hlen, hrd⟩
  obtain ⟨f0, rfl⟩ := hs.puts
  have kn := k.next
  have g := r'.g
  have stop : rdSk (64 - i) s' = ([], s') → (KeepsP (P3 R b C) h h' ∧ Rr F h' R b (rdSk 64 s).2 ∧ ∃ o, At F h' R b C (v.set 9 (.slice o (rdSk 64 s).1.length (rdSk 64 s).1.length)) ∧ Row h' 2 o (rdSk 64 s).1.length (pr16 (rdSk 64 s).1) ∧ ∀ q, o = some q → h.next ≤ q.block) := by
    intro e
    rw [e, List.append_nil] at hrd
    rw [hrd]
    exact ⟨k, r', o, a', ap.row, fr⟩
  have bad : ∀ h2 (e : Nat), KeepsB R h' h2 → Rr F h2 R b (s'.1, e) → rdSk (64 - i) s' = ([], (s'.1, e)) → (KeepsP (P3 R b C) h h2 ∧ Rr F h2 R b (rdSk 64 s).2 ∧ ∃ o, At F h2 R b C (v.set 9 (.slice o (rdSk 64 s).1.length (rdSk 64 s).1.length)) ∧ Row h2 2 o (rdSk 64 s).1.length (pr16 (rdSk 64 s).1) ∧ ∀ q, o = some q → h.next ≤ q.block) := by
    intro h2 e kb r2 e2
    rw [e2, List.append_nil] at hrd
    rw [hrd]
    have kp : KeepsP (P2 R b) h' h2 := kb.toP (.inl rfl)
    exact ⟨k.trans (kp.mono fun d => P2.P3), r2, o, a'.keep kp, kp.row ap.row (fun q e he => by have := fr q e; unfold P2 at he; omega), fr⟩
  simp only [c93_0]
  refine gg ?_; repeat (refine i_ldown (by exact sel_of rfl) (by assumption) (by rfl) ?_; refine gg ?_)
  by_cases hs2 : s'.2 = 0
  case neg =>
    rw [decide_eq_false (p := ((s'.2 : Nat) : Int) = 0) (by omega)]
    refine gg ?_; repeat (refine i_ldown (by exact sel_of rfl) (by assumption) (by rfl) ?_; refine gg ?_)
    exact stop (rdSk_stop _ (fun e => hs2 e.1))
  rw [decide_eq_true (p := ((s'.2 : Nat) : Int) = 0) (by omega)]
  refine gg ?_; repeat (refine i_ldown (by exact sel_of rfl) (by assumption) (by rfl) ?_; refine gg ?_)
  refine i_call1 (by exact sel_of rfl) (w_leftF r'.rd n (by omega)) ?_
  rintro _ _ ⟨rfl, rfl⟩
  refine gg ?_; repeat (refine i_ldown (by exact sel_of rfl) (by assumption) (by rfl) ?_; refine gg ?_)
  by_cases hl : s'.1 = []
  · have hl0 : s'.1.length = 0 := by rw [hl]; rfl
    refine gg ?_; repeat (refine i_ldown (by exact sel_of rfl) (by assumption) (by rfl) ?_; refine gg ?_)
    exact stop (rdSk_stop _ (fun e => e.2 hl))
  have hpos : 0 < s'.1.length := List.length_pos_iff.2 hl
  refine gg ?_; repeat (refine i_ldown (by exact sel_of rfl) (by assumption) (by rfl) ?_; refine gg ?_)
  refine i_call1 (by exact sel_of rfl) (w_leftF r'.rd n (by omega)) ?_
  rintro _ _ ⟨rfl, rfl⟩
  refine gg ?_; repeat (refine i_ldown (by exact sel_of rfl) (by assumption) (by rfl) ?_; refine gg ?_)
  refine i_call3 (by exact sel_of rfl) (by exact sel_of rfl) (by first | exact sel_of rfl | exact const_of) (w_need (φ := (4 : Int) ≤ ((s'.1.length : Nat) : Int)) r' 3 n (by omega)) ?_
  rintro _ h2 ⟨k2, nx2, r2, rfl⟩
  by_cases h4 : s'.1.length < 4
  · have e1 : need ((4 : Int) ≤ ((s'.1.length : Nat) : Int)) 3 s' = (s'.1, 3) := by unfold need; rw [if_pos ⟨hs2, by omega⟩]
    rw [e1] at r2 ⊢
    rw [decide_eq_false (show ¬((s'.1, 3) : RS).2 = 0 from fun e => by cases e)]
    refine gg ?_; repeat (refine i_ldown (by exact sel_of rfl) (by assumption) (by rfl) ?_; refine gg ?_)
    exact bad _ _ k2 r2 (rdSk_short _ ⟨hs2, hl⟩ h4)
  have e1 : need ((4 : Int) ≤ ((s'.1.length : Nat) : Int)) 3 s' = s' := need_ok _ _ (by omega)
  rw [e1] at r2 ⊢
  rw [decide_eq_true hs2]
  have a2 := a'.keep (k2.toP (p := P2 R b) (.inl rfl))
  refine gg ?_; repeat (refine i_ldown (by exact sel_of rfl) (by assumption) (by rfl) ?_; refine gg ?_)
  refine i_ldown (by exact sel_of rfl) a2.g (set_get (by rw [vl]; exact (by decide : 9 < 12))) ?_
  refine gg ?_; repeat (refine i_ldown (by exact sel_of rfl) (by assumption) (by rfl) ?_; refine gg ?_)
  refine i_call3 (by exact sel_of rfl) (by exact sel_of rfl) (by first | exact sel_of rfl | exact const_of) (w_need (φ := ((acc.length : Nat) : Int) < (64 : Int)) r2 10 n (by omega)) ?_
  rintro _ h3 ⟨k3, nx3, r3, rfl⟩
  by_cases h64 : acc.length < 64
  case neg =>
    have e2 : need (((acc.length : Nat) : Int) < (64 : Int)) 10 s' = (s'.1, 10) := by unfold need; rw [if_pos ⟨hs2, by omega⟩]
    rw [e2] at r3 ⊢
    rw [decide_eq_false (show ¬((s'.1, 10) : RS).2 = 0 from fun e => by cases e)]
    refine gg ?_; repeat (refine i_ldown (by exact sel_of rfl) (by assumption) (by rfl) ?_; refine gg ?_)
    exact bad _ _ (k2.trans k3) r3 (by rw [show 64 - i = 0 by omega]; exact rdSk_full ⟨hs2, hl⟩ h4)
  have e2 : need (((acc.length : Nat) : Int) < (64 : Int)) 10 s' = s' := need_ok _ _ (by omega)
  rw [e2] at r3 ⊢
  rw [decide_eq_true hs2]
  have a3 := a2.keep (k3.toP (p := P2 R b) (.inl rfl))
  clear stop bad
  refine gg ?_; repeat (refine i_ldown (by exact sel_of rfl) (by assumption) (by rfl) ?_; refine gg ?_)
  refine i_call1 (by exact sel_of rfl) (w_half r3 n (by omega)) ?_
  rintro _ h5 ⟨k5, nx5, r5, rfl⟩
  have k25 : KeepsP (P2 R b) h' h5 := ((k2.trans k3).toP (.inl rfl)).trans k5
  have a5 := a3.keep k5
  have ap5 := k25.ap ap (fun q e => by have := fr q e; unfold P2; omega)
  have nx25 : h5.next = h'.next := by omega
  clear k5 nx5
  have k5 := k25
  have nx5 := nx25
  refine gg ?_; repeat (refine i_ldown (by exact sel_of rfl) (by assumption) (by rfl) ?_; refine gg ?_)
  refine i_ldown (by exact sel_of rfl) a5.g (set_get (by rw [vl]; exact (by decide : 9 < 12))) ?_
  refine gg ?_
  refine i_call1 (by exact sel_of rfl) (w_half r5 n (by omega)) ?_
  rintro _ h6 ⟨k6, nx6, r6, rfl⟩
  have a6 := a5.keep k6
  have ap6 := k6.ap ap5 (fun q e => by have := fr q e; unfold P2; omega)
  refine gg ?_
  refine i_bslice (cs := [.int .u16 ((rn 2 s').1 : Int), .int .u16 ((rn 2 (rn 2 s').2).1 : Int)]) (by rfl) ?_
  have k7 : Keeps h6 (h6.new (.cells 90 [.int .u16 ((rn 2 s').1 : Int), .int .u16 ((rn 2 (rn 2 s').2).1 : Int)] (.own false))) := Keeps.new h6 _
  have row7 : Row (h6.new (.cells 90 [.int .u16 ((rn 2 s').1 : Int), .int .u16 ((rn 2 (rn 2 s').2).1 : Int)] (.own false))) 2 (some ⟨h6.next, 0, none⟩) 1 [.int .u16 ((rn 2 s').1 : Int), .int .u16 ((rn 2 (rn 2 s').2).1 : Int)] := Row.new (by simp) rfl (.inl rfl)
  have nx7 : (h6.new (.cells 90 [.int .u16 ((rn 2 s').1 : Int), .int .u16 ((rn 2 (rn 2 s').2).1 : Int)] (.own false))).next = h6.next + 1 := rfl
  generalize h6.new (.cells 90 [.int .u16 ((rn 2 s').1 : Int), .int .u16 ((rn 2 (rn 2 s').2).1 : Int)] (.own false)) = h7 at *
  refine gg ?_
  refine i_appF (t := (acc ++ [((rn 2 s').1, (rn 2 (rn 2 s').2).1)]).length) (es := pr16 (acc ++ [((rn 2 s').1, (rn 2 (rn 2 s').2).1)])) (by decide) (B := h.next) (by omega) (by exact sel_of rfl) (ap6.keeps k7) (row7.src) rfl (by omega) (by simp) (by rw [pr16_app]; rfl) fun h8 nx8 fr8 ap8 => ?_
  have kq : KeepsP (fun d => h.next ≤ d) h6 h8 := ⟨by omega, fun d hd hp => (fr8 d (by omega) (fun q e => .inl (by have := fr q e; omega))).trans (k7.get d hd)⟩
  have a8 := a6.low kq (by omega)
  have r8 := r6.low kq (by omega) (by omega) (fun d _ hd => by omega)
  refine gg ?_
  refine i_stB (by exact sel_of rfl) (by rfl) a8.g (by rw [a8.len]; exact (by decide : 9 < 12)) fun h9 kb9 nx9 g9 => ?_
  have a9 := a8.set kb9 nx9 g9
  have r9 := r8.keepC kb9 a.nR a.nb a.nF
  rw [List.set_set] at a9
  refine gg ?_
  refine ⟨chk_cons rfl (ldO (by exact sel_of rfl) a5.g (set_get (by rw [vl]; exact (by decide : 9 < 12)))) (sv_slice _ _ _) (fun m hm => by
    simp only [List.mem_cons, List.not_mem_nil, or_false] at hm
    rcases hm with rfl | rfl
    · exact ⟨_, _, rfl, ldO (by exact sel_of rfl) a5.g (set_get (by rw [vl]; exact (by decide : 9 < 12)))⟩
    · exact ⟨_, _, rfl, ldO (by exact sel_of rfl) a6.g (set_get (by rw [vl]; exact (by decide : 9 < 12)))⟩) chk_nil, ?_⟩
  refine gg ?_
  have kk : KeepsP (P3 R b C) h h9 := ⟨by have := k.next; omega, fun d hd hp => by
    have e1 := k.get d hd hp
    have e2 := k5.get d (by have := k.next; omega) (fun e => hp e.P3)
    have e3 := k6.get d (by have := k.next; omega) (fun e => hp e.P3)
    have e4 := kq.get d (by have := k.next; omega) (by omega)
    have e5 := kb9.get d (by have := k.next; omega) (fun e => hp (.inr (.inr e)))
    rw [e5, e4, e3, e2, e1]⟩
  have ap9 := (kb9.toP (p := fun d => d = C) rfl).ap ap8 (fun q e => by cases e; show ¬h7.next = C; omega)
  refine rnd_up (by omega) ⟨acc ++ [((rn 2 s').1, (rn 2 (rn 2 s').2).1)], (rn 2 (rn 2 s').2).2, _, ⟨sel_of rfl, sel_of rfl, trivial⟩, kk, r9, a9, ap9, (fun q e => by cases e; show h.next ≤ h7.next; omega), by simp [hlen], ?_⟩
  rw [hrd, show 64 - i = (64 - (i + 1)) + 1 by omega, rdSk_step _ ⟨hs2, hl⟩ h4]
  simp only [List.append_assoc, List.singleton_append]
end Go.Proofs.Ytdcllpjoejkpnaa

