/- Part of a proof by an abstract run of the program's code: UDecC. No condition. -/
import Derived.Test.YtdcllpjoejkpnaaUDecA
/-! tlv.Decode whole. -/
set_option linter.unusedVariables false
namespace Go.Proofs.Ytdcllpjoejkpnaa
open Go Vm
theorem o_brange {P : Program} {rec : Rec} {n id nt : Nat} {f : Sel} {ps : List Tmp} {s b : Code} {a : Fr} {h : Heap} {g : FuncId} {cap : Array Value} {Q : Ex → Fr → Heap → Prop} (hf : f.f a = .func (.func g) #[] cap)
    (hc : ResQ (rec (.call g (Value.func (.yield h.next) #[] #[] :: cap.toList)) (h.new (.loop nt ps s b a .ready none))) (fun _ h' => RgQ h.next nt ps s b a (Blo id Q) h')) : OutQ ((sBlock id (sRangeFunc nt f ps s b)).f rec n a h) Q := out_block (out_range hf hc)
theorem w_all {h : Heap} {b : Nat} (n : Nat) (hn : 1 ≤ n) :
    ResQ (callN Try.prog G0 n (.call 101 [.pointer (some ⟨b, 0, none⟩)]) h) (fun v h' => v = .func (.func 102) #[] #[.pointer (some ⟨h.next, 0, none⟩)] ∧ h' = h.new (.cells 75 [.pointer (some ⟨b, 0, none⟩)] (.own false))) := by
  obtain ⟨n, rfl⟩ : ∃ m, n = m + 1 := ⟨n - 1, by omega⟩
  refine res_enter rfl d101 rfl ?_; simp only [c101]
  refine gg ?_
  exact ⟨rfl, rfl⟩
def DecQ (h : Heap) (l : List UInt8) (v : Value) (h' : Heap) : Prop := Keeps h h' ∧ ∃ o c cs, v = .tuple #[.slice o (decL l).2.length c, .int .i64 ((decL l).1 : Int)] ∧ Row h' 2 o (decL l).2.length cs ∧ PrL h' (decL l).2 cs ∧ (decL l).2.length ≤ c
set_option maxHeartbeats 1000000 in
theorem w_decode {h : Heap} {o : Option Addr} {m c : Nat} {l : List UInt8} (hr : Row h 1 o m (u8s l)) (hlen : l.length ≤ 1000000) (n : Nat) (hn : 100 ≤ n) :
    ResQ (callN Try.prog G0 n (.call 99 [.slice o m c]) h) (DecQ h l) := by
  obtain ⟨n, rfl⟩ : ∃ m, n = m + 1 := ⟨n - 1, by omega⟩
  refine res_enter rfl d99 rfl ?_; simp only [c99]
  refine gg ?_
  generalize hh : ((h.new (.cells 30 [.slice none 0 0] (.own false))).new (.cells 37 [.int .i64 0] (.own false))).new (.cells 30 [.slice none 0 0] (.own false)) = h1
  have n1 : h1.next = h.next + 3 := by rw [← hh]; rfl
  have k1 : Keeps h h1 := by rw [← hh]; exact (Keeps.new h _).trans ((Keeps.new _ _).trans (Keeps.new _ _))
  have g2 : h1.get h.next = some (.cells 30 [.slice none 0 0] (.own false)) := by
    rw [← hh, Heap.get_new, if_neg (by simp only [Heap.next_new]; omega), Heap.get_new, if_neg (by simp only [Heap.next_new]; omega), Heap.get_new, if_pos rfl]
  have g3 : h1.get (h.next + 1) = some (.cells 37 [.int .i64 0] (.own false)) := by
    rw [← hh, Heap.get_new, if_neg (by simp only [Heap.next_new]; omega), Heap.get_new, if_pos (by simp only [Heap.next_new])]
  have g4 : h1.get (h.next + 2) = some (.cells 30 [.slice none 0 0] (.own false)) := by
    rw [← hh, Heap.get_new, if_pos (by simp only [Heap.next_new])]
  clear hh
  refine i_call1 (by exact sel_of rfl) (w_new (hr.keeps k1) hlen n (by omega)) ?_
  rintro _ h2 ⟨k2, b, hb, rfl, rd⟩
  have hbn : b < h2.next := by obtain ⟨e, o, c, hb, _⟩ := rd; exact hb
  refine i_call1 (by exact sel_of rfl) (w_all n (by omega)) ?_
  rintro _ h3 ⟨rfl, hh3⟩
  have k3 : Keeps h2 h3 := by rw [hh3]; exact Keeps.new _ _
  have n3 : h3.next = h2.next + 1 := by rw [hh3]; rfl
  have gx : h3.get h2.next = some (.cells 75 [.pointer (some ⟨b, 0, none⟩)] (.own false)) := by rw [hh3, Heap.get_new, if_pos rfl]
  clear hh3
  have n2 := k2.next
  have n12 := k1.next
  refine gg ?_
  refine o_brange (P := Try.prog) (by exact sel_of rfl) ?_
  have st : ∀ a, Sl [(2, .pointer (some ⟨h.next, 0, none⟩)), (3, .pointer (some ⟨h.next + 1, 0, none⟩)), (4, .pointer (some ⟨h.next + 2, 0, none⟩))] a → St h a h.next b h2.next h3.next (h3.new (.loop 20 [10, 11] k99_0.1 k99_0.2 a .ready none)) [] l := fun a ha => by
    have k13 : Keeps h1 (h3.new (.loop 20 [10, 11] k99_0.1 k99_0.2 a .ready none)) := k2.trans (k3.trans (Keeps.new _ _))
    exact ⟨⟨Nat.le_refl _, by omega, hbn, by omega, Nat.lt_succ_self _⟩, ha, k1.trans k13, (k13.get _ (by omega)).trans g2, (k13.get _ (by omega)).trans g3, rd.keeps (k3.trans (Keeps.new _ _)), ((Keeps.new h3 _).get _ (by omega)).trans gx, by rw [Heap.get_new, if_pos rfl], none, [], (k13.get _ (by omega)).trans g4, Ap.nil _ _ _ _, trivial, fun q m c hm => by simp at hm, fun q e => by cases e⟩
  refine (w_all1 (st _ ⟨sel_of rfl, sel_of rfl, sel_of rfl, trivial⟩) hlen n (by omega)).mono ?_
  rintro v h4 (⟨s, e0⟩ | ⟨e0, enil, bad⟩)
  · obtain ⟨⟨b1, b2, b3, b4, b5⟩, fr, keep, c2, c3, rd', bx, lp, o4, cs, c4, ap, prl, apart, spot⟩ := s
    refine RgQ.none lp (blo_n ?_)
    refine gg ?_
    refine i_load1 (u := ⟨h.next + 2, 0, none⟩) (v := .slice o4 (decL l).2.length (decL l).2.length) (by exact sel_of rfl) (by rw [load1_own (b := h.next + 2) (by rw [Heap.get_put, if_neg (by omega)]; exact c4)]; rfl) ?_
    refine i_storeP (b := h.next) (s := none) (vs := [.slice o4 (decL l).2.length (decL l).2.length]) (by exact sel_of rfl) (by rfl) (by rw [Heap.get_put, if_neg (by omega)]; exact c2) rfl rfl ?_
    refine i_storeP (b := h.next + 1) (s := none) (vs := [.int .i64 0]) (by exact sel_of rfl) (by rfl) (by rw [Heap.get_put, if_neg (by omega), Heap.get_put, if_neg (by omega)]; exact c3) rfl rfl ?_
    refine gg ?_
    refine finO2 (u1 := ⟨h.next, 0, none⟩) (v1 := .slice o4 (decL l).2.length (decL l).2.length) (u2 := ⟨h.next + 1, 0, none⟩) (v2 := .int .i64 0) (by exact sel_of rfl) (by rw [load1_own (b := h.next) (by rw [Heap.get_put, if_neg (by omega), Heap.get_put, if_pos rfl])]; rfl) (by exact sel_of rfl) (by rw [load1_own (b := h.next + 1) (by rw [Heap.get_put, if_pos rfl])]; rfl) ?_
    have harr : ∀ q, o4 = some q → h3.next < q.block := fun q e => by
      subst e
      rcases ap.2.2 q rfl with e | ⟨k', e2, e3, _⟩
      · exact absurd e (spot q rfl)
      · rw [e2]; exact e3
    refine ⟨⟨by have := keep.next; simp only [Heap.next_put]; omega, fun d hd => ?_⟩, o4, (decL l).2.length, cs, by rw [e0]; rfl, row_low ap.row (by simp only [Heap.next_put]; omega) (fun q e => ?_), prl_low (by simp only [Heap.next_put]; omega) prl (fun q m c hm hlt => ?_), Nat.le_refl _⟩
    · rw [Heap.get_put, if_neg (by omega), Heap.get_put, if_neg (by omega), Heap.get_put, if_neg (by omega)]; exact keep.get d hd
    · have := harr q e
      rw [Heap.get_put, if_neg (by omega), Heap.get_put, if_neg (by omega), Heap.get_put, if_neg (by omega)]
    · have := (apart q m c hm).1
      rw [Heap.get_put, if_neg (by omega), Heap.get_put, if_neg (by omega), Heap.get_put, if_neg (by omega)]
  · obtain ⟨keep, c2, c3, lp, x1, x2, x3⟩ := bad
    refine RgQ.ret lp (blo_r ?_)
    refine gg ?_
    refine finO2 (u1 := ⟨h.next, 0, none⟩) (v1 := .slice none 0 0) (u2 := ⟨h.next + 1, 0, none⟩) (v2 := .int .i64 ((decL l).1 : Int)) (by exact sel_of rfl) (by rw [load1_own (b := h.next) (by rw [Heap.get_put, if_neg (by omega)]; exact c2)]; rfl) (by exact sel_of rfl) (by rw [load1_own (b := h.next + 1) (by rw [Heap.get_put, if_neg (by omega)]; exact c3)]; rfl) ?_
    rw [DecQ, enil]
    exact ⟨⟨by have := keep.next; simp only [Heap.next_put]; omega, fun d hd => by rw [Heap.get_put, if_neg (by omega)]; exact keep.get d hd⟩, none, 0, [], rfl, Row.nil _ _, trivial, Nat.le_refl _⟩
end Go.Proofs.Ytdcllpjoejkpnaa

