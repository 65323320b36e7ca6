/- Part of a proof by an abstract run of the program's code: SPkC. No condition. -/
import Derived.Test.YtdcllpjoejkpnaaSRnA
import Derived.Test.YtdcllpjoejkpnaaSPkA
/-! The document's octets of a packet, walked. -/
set_option linter.unusedVariables false
namespace Go.Proofs.Ytdcllpjoejkpnaa
open Go Vm
theorem w_rstep {h : Heap} {ot o : Option Addr} {ct c : Nat} {t : List Nat} {l : List UInt8} (ht : Row h 1 ot t.length (n32 t)) (h256 : t.length = 256) (hb : ∀ v ∈ t, v < 4294967296) (hr : Row h 1 o l.length (u8s l)) {s : Nat} (hs0 : s < 4294967296) (hlen : l.length ≤ 1000000) (n : Nat) (hn : 2 + l.length ≤ n) :
    ResQ (callN Try.prog G0 n (.call 59 [.slice ot t.length ct, .int .u32 (s : Int), .slice o l.length c]) h) (fun v h' => v = .int .u32 (crcS t s l : Int) ∧ h = h') := by
  obtain ⟨n, rfl⟩ : ∃ m, n = m + 1 := ⟨n - 1, by omega⟩
  refine res_enter rfl d59 rfl ?_; simp only [c59]
  refine gg ?_
  refine o_up l.length (fun i f h' => Sl [(7, .int .i64 (i : Int)), (2, .slice o l.length c), (0, .slice ot t.length ct), (1, .int .u32 (crcS t s (l.take i) : Int))] f ∧ h = h') (by omega) ?_ ?_
  · exact ⟨⟨sel_of rfl, sel_of rfl, sel_of rfl, sel_of rfl, trivial⟩, rfl⟩
  rintro i f h' hi ⟨hs, rfl⟩
  obtain ⟨f0, rfl⟩ := hs.puts
  simp only [c59_0]
  refine gg ?_
  refine out_if (by exact sel_of rfl) (fun hif => ?_) (fun hif => ?_)
  · obtain ⟨x, hx⟩ : ∃ x, l[i]? = some x := ⟨_, List.getElem?_eq_getElem (by omega)⟩
    have hS := crcS_lt hb (l.take i) hs0
    obtain ⟨w, hw, e⟩ := tab_get h256 (crcS t s (l.take i)) x
    have hwb := hb w (List.mem_of_getElem? hw)
    have hil := idx_lt (crcS t s (l.take i)) x
    rw [← ofNat_mod256] at hw hil
    have hst := crcS_take (t := t) (s := s) hx
    rw [e] at hst
    generalize crcS t s (l.take i) = S at *
    refine gg ?_
    refine i_quo32 (m := S) (q := 256) (by exact sel_of rfl) (by first | exact sel_of rfl | exact const_of) (by decide) hS ?_
    refine gg ?_
    refine i_idx (by exact sel_of rfl) hr (i := i) (by exact sel_of rfl) (by omega) fun u hu => ?_
    subst hu
    refine i_load1 (v := .int .u8 ((x.toNat : Nat) : Int)) (by exact sel_of rfl) (by rw [hr.cell (by omega), Nat.mul_one, u8s_get, hx]; rfl) ?_
    refine i_xorn 8 (m := (UInt8.ofNat S).toNat) (q := x.toNat) (by exact sel_of rfl) (by exact sel_of rfl) rfl (UInt8.toNat_lt _) (UInt8.toNat_lt _) ?_
    generalize (UInt8.ofNat S).toNat ^^^ x.toNat = y at *
    refine gg ?_
    refine i_idx (by exact sel_of rfl) ht (i := y) (by exact sel_of rfl) (by omega) fun u hu => ?_
    subst hu
    refine i_load1 (v := .int .u32 (w : Int)) (by exact sel_of rfl) (by rw [← n32_at hw, ← ht.cell (by omega), Nat.mul_one]) ?_
    refine i_xorn 32 (m := S / 256) (q := w) (by exact sel_of rfl) (by exact sel_of rfl) rfl (by omega) (by omega) ?_
    refine gg ?_
    refine rnd_up (by omega) ⟨⟨sel_of rfl, sel_of rfl, sel_of rfl, sel_of (by rw [hst]; rfl), trivial⟩, rfl⟩
  · rw [List.take_of_length_le (by omega)]
    refine gg ?_
    exact ⟨rfl, rfl⟩
theorem w_rsum {h : Heap} {ot o : Option Addr} {ct c : Nat} {t : List Nat} {l : List UInt8} (ht : Row h 1 ot t.length (n32 t)) (h256 : t.length = 256) (hb : ∀ v ∈ t, v < 4294967296) (hr : Row h 1 o l.length (u8s l)) (hlen : l.length ≤ 1000000) (n : Nat) (hn : 3 + l.length ≤ n) :
    ResQ (callN Try.prog G0 n (.call 36 [.slice ot t.length ct, .slice o l.length c]) h) (fun v h' => v = .int .u32 (crcC t l : Int) ∧ h = h') := by
  obtain ⟨n, rfl⟩ : ∃ m, n = m + 1 := ⟨n - 1, by omega⟩
  refine res_enter rfl d36 rfl ?_; simp only [c36]
  refine gg ?_
  refine i_call3 (by exact sel_of rfl) (by first | exact sel_of rfl | exact const_of) (by exact sel_of rfl) (w_rstep ht h256 hb hr (s := 4294967295) (by decide) hlen n (by omega)) ?_
  rintro _ _ ⟨rfl, rfl⟩
  refine i_xorn 32 (m := crcS t 4294967295 l) (q := 4294967295) (by exact sel_of rfl) (by first | exact sel_of rfl | exact const_of) rfl (crcS_lt hb l (by decide)) (by decide) ?_
  refine gg ?_
  exact ⟨by rw [crcC, Nat.xor_comm], rfl⟩
theorem w_low {h : Heap} (s : Nat) (n : Nat) (hn : 1 ≤ n) :
    ResQ (callN Try.prog G0 n (.call 37 [.int .u32 (s : Int)]) h) (fun v h' => Keeps h h' ∧ v = .slice (some ⟨h.next, 0, none⟩) 4 4 ∧ Row h' 1 (some ⟨h.next, 0, none⟩) 4 (u8s (le4 s))) := by
  obtain ⟨n, rfl⟩ : ∃ m, n = m + 1 := ⟨n - 1, by omega⟩
  refine res_enter rfl d37 rfl ?_; simp only [c37]
  refine gg ?_
  exact ⟨Keeps.new _ _, rfl, Row.new (by simp) rfl (.inl rfl)⟩
theorem w_ralone {h : Heap} (k : Nat) (n : Nat) (hn : 1 ≤ n) :
    ResQ (callN Try.prog G0 n (.call 19 [.int .u8 (k : Int)]) h) (fun v h' => v = .bool (decide (alone k)) ∧ h = h') := by
  have e : alone k ↔ k = 1 ∨ k = 2 ∨ k = 14 := Iff.rfl
  obtain ⟨n, rfl⟩ : ∃ m, n = m + 1 := ⟨n - 1, by omega⟩
  refine res_enter rfl d19 rfl ?_; simp only [c19]
  refine gg ?_
  by_cases h1 : k = 1
  · refine gg ?_
    exact ⟨(bool_true (e.2 (by omega))).symm, rfl⟩
  refine gg ?_
  by_cases h2 : k = 2
  · refine gg ?_
    exact ⟨(bool_true (e.2 (by omega))).symm, rfl⟩
  refine gg ?_
  refine ⟨congrArg Value.bool (decide_eq_decide.2 ?_), rfl⟩
  rw [e]; omega
theorem w_right {h : Heap} {o : Option Addr} {c : Nat} {l : List Chk} {els : List (List Value)} (hr : Row h 12 o l.length els.flatten) (he : ChE h l els) (hbig : l.length ≤ 1000000) (n : Nat) (hn : 10 + l.length ≤ n) :
    ResQ (callN Try.prog G0 n (.call 33 [.slice o l.length c]) h) (fun v h' => v = .bool (decide ¬mixedC l) ∧ h = h') := by
  obtain ⟨n, rfl⟩ : ∃ m, n = m + 1 := ⟨n - 1, by omega⟩
  refine res_enter rfl d33 rfl ?_; simp only [c33]
  refine gg ?_
  refine o_up l.length (fun i f h' => Sl [(3, .int .i64 (i : Int)), (0, .slice o l.length c)] f ∧ h = h' ∧ ¬(1 < l.length ∧ ((l.take i).any fun x => decide (alone x.k)) = true)) (by omega) ?_ ?_
  · exact ⟨⟨sel_of rfl, sel_of rfl, trivial⟩, rfl, fun hm => by simp at hm⟩
  rintro i f h' hi ⟨hs, rfl, hno⟩
  obtain ⟨f0, rfl⟩ := hs.puts
  simp only [c33_0]
  refine gg ?_
  refine out_if (by exact sel_of rfl) (fun hif => ?_) (fun hif => ?_)
  · obtain ⟨x, hx⟩ : ∃ x, l[i]? = some x := ⟨_, List.getElem?_eq_getElem (by omega)⟩
    obtain ⟨v, hv, cv⟩ := he.at hx
    obtain ⟨o1, c1, o2, c2, o3, c3, o4, c4, o5, c5, ps, rfl, _⟩ := cv
    refine gg ?_
    refine i_idx (by exact sel_of rfl) hr (i := i) (by exact sel_of rfl) (by omega) fun u hu => ?_
    subst hu
    refine gg ?_
    refine i_load1 (v := .int .u8 (x.k : Int)) (by exact sel_of rfl) (by rw [Nat.add_assoc, hr.cell (by omega), flat_cell he.2.1 hv (by decide)]; rfl) ?_
    refine gg ?_
    refine i_call1 (by exact sel_of rfl) (w_ralone x.k n (by omega)) ?_
    rintro _ _ ⟨rfl, rfl⟩
    by_cases ha : alone x.k
    · rw [decide_eq_true ha]
      refine gg ?_
      by_cases h1 : 1 < l.length
      · rw [decide_eq_true (p := (1 : Int) < ((l.length : Nat) : Int)) (by omega)]
        refine gg ?_
        exact ⟨(bool_false (fun hn => hn ⟨h1, List.any_eq_true.2 ⟨x, List.mem_of_getElem? hx, decide_eq_true ha⟩⟩)).symm, rfl⟩
      · rw [decide_eq_false (p := (1 : Int) < ((l.length : Nat) : Int)) (by omega)]
        refine gg ?_
        exact rnd_up (by omega) ⟨⟨sel_of rfl, sel_of rfl, trivial⟩, rfl, fun hm => h1 hm.1⟩
    · rw [decide_eq_false ha]
      refine gg ?_
      refine rnd_up (by omega) ⟨⟨sel_of rfl, sel_of rfl, trivial⟩, rfl, fun hm => hno ⟨hm.1, ?_⟩⟩
      have := hm.2
      rw [List.take_add_one, hx, List.any_append] at this
      simpa [ha] using this
  · rw [List.take_of_length_le (by omega)] at hno
    refine gg ?_
    exact ⟨(bool_true hno).symm, rfl⟩
set_option maxHeartbeats 8000000 in
theorem w_rpencode {h : Heap} {ot : Option Addr} {ct : Nat} {t : List Nat} {p : Pk} {v : List Value} (ht : Row h 1 ot t.length (n32 t)) (hb : ∀ v ∈ t, v < 4294967296) (hv : PkV h p v) (hpb : p.from_ < 65536 ∧ p.to_ < 65536) (h80 : p.l.length ≤ 80) (hall : ∀ x ∈ p.l, x.Ok ∧ x.few) (n : Nat) (hn : 101000 ≤ n) :
    ResQ (callN Try.prog G0 n (.call 14 [.slice ot t.length ct, .agg v.toArray]) h) (PkQ h t p) := by
  have hv0 := hv
  have lv := hv.len
  obtain ⟨hpb1, hpb2⟩ := hpb
  obtain ⟨n, rfl⟩ : ∃ m, n = m + 1 := ⟨n - 1, by omega⟩
  refine res_enter rfl d14 rfl ?_; simp only [c14]
  obtain ⟨a1, k1, n1⟩ := box_one h (.cells 27 v.toArray.toList (.own false))
  refine o_cut (fun a h' => h' = (h.new (.cells 27 v.toArray.toList (.own false))) ∧ Sl [(3, .pointer (some ⟨h.next, 0, none⟩)), (0, .slice ot t.length ct)] a) ?_ ?_
  · refine gg ?_
    exact ⟨rfl, rfl, sel_of rfl, sel_of rfl, trivial⟩
  rintro a h1 ⟨hh, hs⟩
  rw [← hh] at a1 k1 n1
  clear hh
  obtain ⟨ol, cl, els, rfl, rl, el, hcl⟩ := hv
  obtain ⟨f0, rfl⟩ := hs.puts
  have x1 : h.next < h1.next := by omega
  refine gg ?_; repeat (refine i_ldown (by exact sel_of rfl) (by assumption) (by rfl) ?_; refine gg ?_)
  by_cases h256 : t.length = 256
  case neg =>
    rw [decide_eq_true (p := ((t.length : Nat) : Int) ≠ 256) (by omega)]
    refine gg ?_; repeat (refine i_ldown (by exact sel_of rfl) (by assumption) (by rfl) ?_; refine gg ?_)
    exact PkQ.bad (.inl h256) k1
  rw [decide_eq_false (p := ((t.length : Nat) : Int) ≠ 256) (by omega)]
  refine gg ?_; repeat (refine i_ldown (by exact sel_of rfl) (by assumption) (by rfl) ?_; refine gg ?_)
  by_cases hl0 : p.l.length = 0
  case pos =>
    rw [decide_eq_true (p := ((p.l.length : Nat) : Int) = 0) (by omega)]
    refine gg ?_; repeat (refine i_ldown (by exact sel_of rfl) (by assumption) (by rfl) ?_; refine gg ?_)
    exact PkQ.bad (.inr (.inl (List.length_eq_zero_iff.1 hl0))) k1
  rw [decide_eq_false (p := ((p.l.length : Nat) : Int) = 0) (by omega)]
  refine gg ?_; repeat (refine i_ldown (by exact sel_of rfl) (by assumption) (by rfl) ?_; refine gg ?_)
  refine i_call1 (by exact sel_of rfl) (w_right (rl.keeps k1) (el.keeps k1) (by omega) n (by omega)) ?_
  rintro _ _ ⟨rfl, rfl⟩
  by_cases hm : mixedC p.l
  case pos =>
    rw [decide_eq_false (p := ¬mixedC p.l) (fun hn => hn hm)]
    refine gg ?_; repeat (refine i_ldown (by exact sel_of rfl) (by assumption) (by rfl) ?_; refine gg ?_)
    exact PkQ.bad (.inr (.inr (.inl hm))) k1
  rw [decide_eq_true (p := ¬mixedC p.l) hm]
  refine gg ?_; repeat (refine i_ldown (by exact sel_of rfl) (by assumption) (by rfl) ?_; refine gg ?_)
  refine i_call3 (by first | exact sel_of rfl | exact const_of) (by exact sel_of rfl) (by first | exact sel_of rfl | exact const_of) (w_rput (l := []) (Row.nil h1 1) p.from_ 2 (by omega) (by simp) n (by omega)) ?_
  rintro _ h4 ⟨k4, q4, rfl, ap4⟩
  have a4 := (k4.get _ x1).trans a1
  have x4 := Nat.lt_of_lt_of_le x1 k4.next
  refine gg ?_; repeat (refine i_ldown (by exact sel_of rfl) (by assumption) (by rfl) ?_; refine gg ?_)
  refine i_call3 (by exact sel_of rfl) (by exact sel_of rfl) (by first | exact sel_of rfl | exact const_of) (w_rput ap4.row p.to_ 2 (by omega) (by simp [down_length]) n (by omega)) ?_
  rintro _ h5 ⟨k5, q5, rfl, ap5⟩
  have a5 := (k5.get _ x4).trans a4
  have x5 := Nat.lt_of_lt_of_le x4 k5.next
  refine gg ?_; repeat (refine i_ldown (by exact sel_of rfl) (by assumption) (by rfl) ?_; refine gg ?_)
  refine i_call3 (by exact sel_of rfl) (by exact sel_of rfl) (by first | exact sel_of rfl | exact const_of) (w_rput ap5.row p.tag 4 (by omega) (by simp [down_length]) n (by omega)) ?_
  rintro _ h6 ⟨k6, q6, rfl, ap6⟩
  have a6 := (k6.get _ x5).trans a5
  have x6 := Nat.lt_of_lt_of_le x5 k6.next
  refine gg ?_; repeat (refine i_ldown (by exact sel_of rfl) (by assumption) (by rfl) ?_; refine gg ?_)
  refine ⟨chk_cons rfl (ldO (by exact sel_of rfl) (by assumption) (by rfl)) (by first | exact sv_int _ _ | exact sv_slice _ _ _) (fun m hm => by
    simp only [List.mem_cons, List.not_mem_nil, or_false] at hm
    rcases hm with rfl | rfl <;> exact ⟨_, _, rfl, ldO (by exact sel_of rfl) (by assumption) (by rfl)⟩) (chk_cons rfl (ldO (by exact sel_of rfl) (by assumption) (by rfl)) (by first | exact sv_int _ _ | exact sv_slice _ _ _) (fun m hm => by
    simp only [List.mem_cons, List.not_mem_nil, or_false] at hm
    rcases hm with rfl | rfl | rfl <;> exact ⟨_, _, rfl, ldO (by exact sel_of rfl) (by assumption) (by rfl)⟩) chk_nil), ?_⟩
  refine gg ?_; repeat (refine i_ldown (by exact sel_of rfl) (by assumption) (by rfl) ?_; refine gg ?_)
  have hbase : [] ++ down p.from_ 2 ++ down p.to_ 2 ++ down p.tag 4 = hdr p := rfl
  rw [hbase] at ap6 ⊢
  have hhl : (hdr p).length = 8 := by simp [hdr, down_length]
  have k16 := k1.trans (k4.trans (k5.trans k6))
  have row6 := ap6.row
  have lt6 : ∀ q, q6 = some q → q.block < h6.next := fun q e => by subst e; exact row6.2.1
  refine o_up p.l.length (fun i f h' => ∃ (ob : Option Addr), Sl [(8, .int .i64 (i : Int)), (7, .slice ob (encs (p.l.take i)).length (encs (p.l.take i)).length), (6, .slice q6 (hdr p).length (hdr p).length), (3, .pointer (some ⟨h.next, 0, none⟩)), (0, .slice ot t.length ct)] f ∧ Keeps h6 h' ∧ Ap h6.next h' 5 1 ob (encs (p.l.take i)).length (encs (p.l.take i)).length (u8s (encs (p.l.take i))) ∧ (0 < i → ∃ b, ob = some ⟨b, 0, some 1⟩ ∧ h6.next ≤ b ∧ b < h'.next) ∧ (∀ x ∈ p.l.take i, x.shaped)) (by omega) ?_ ?_
  · exact ⟨none, ⟨sel_of rfl, sel_of rfl, sel_of rfl, sel_of rfl, sel_of rfl, trivial⟩, Keeps.refl _, Ap.nil _ _ _ _, (fun hi => absurd hi (by decide)), fun x hx => by simp at hx⟩
  rintro i f h' hi ⟨ob, hs, k, ap, hpos, hsh⟩
  obtain ⟨f0, rfl⟩ := hs.puts
  have hBi : (encs (p.l.take i)).length ≤ 42010 * i := Nat.le_trans (encs_len (p.l.take i) hsh) (Nat.mul_le_mul_left _ (List.length_take_le i p.l))
  have a7 := (k.get _ x6).trans a6
  have kn := k.next
  have k17 := k16.trans k
  simp only [c14_0]
  refine gg ?_; repeat (refine i_ldown (by exact sel_of rfl) (by assumption) (by rfl) ?_; refine gg ?_)
  refine out_if (by exact sel_of rfl) (fun hif => ?_) (fun hif => ?_)
  · obtain ⟨x, hx⟩ : ∃ x, p.l[i]? = some x := ⟨_, List.getElem?_eq_getElem (by omega)⟩
    obtain ⟨w, hw, cv⟩ := el.at hx
    have lw := cv.len
    have rr := rl.keeps k17
    obtain ⟨hox, hfx⟩ := hall x (List.mem_of_getElem? hx)
    have hst : encs (p.l.take (i + 1)) = encs (p.l.take i) ++ (encC x).1 := by rw [List.take_add_one, hx, Option.toList_some, encs_snoc]
    refine gg ?_; repeat (refine i_ldown (by exact sel_of rfl) (by assumption) (by rfl) ?_; refine gg ?_)
    refine i_idx (by exact sel_of rfl) rr (i := i) (by exact sel_of rfl) (by omega) fun u hu => ?_
    subst hu
    refine i_loadN (v := w) (by exact sel_of rfl) (by rw [rr.cells (by omega) (some 0), flat_get els i el.2.1 hw]) ?_
    refine gg ?_
    refine i_call1 (by exact sel_of rfl) (w_rencode (cv.keeps k17) hox hfx n (by omega)) ?_
    rintro _ g2 ⟨kg, oE, cE, rfl, rE, hcE⟩
    by_cases hxs : x.shaped
    case neg =>
      obtain ⟨e1, e2⟩ := encC_bad hxs
      generalize encC x = E at *
      refine gg ?_; repeat (refine i_ldown (by exact sel_of rfl) (by assumption) (by rfl) ?_; refine gg ?_)
      exact PkQ.bad (.inr (.inr (.inr (List.any_eq_true.2 ⟨x, List.mem_of_getElem? hx, by simp [hxs]⟩)))) (k17.trans kg)
    have e2 := (encC_ok hxs).2
    obtain ⟨e3, e4, e5⟩ := encC_len hxs
    generalize encC x = E at *
    refine gg ?_
    have nkg := kg.next
    have apg := ap.keeps kg
    refine i_appF (t := (encs (p.l.take (i + 1))).length) (es := u8s (encs (p.l.take (i + 1)))) (by omega) (B := h6.next) (by omega) (by exact sel_of rfl) apg (rE.src8) (by rw [u8s_length, Nat.mul_one]) (by omega) (by rw [hst]; simp only [List.length_append]) (by rw [hst]; exact (u8s_append _ _).symm) fun g3 nx3 fr3 ap3 => ?_
    have kk : Keeps h6 g3 := ⟨by omega, fun d hd => (fr3 d (by omega) (fun q e => by
      rcases apg.2.2 q e with h0 | ⟨j, h1, h2', _⟩
      · exact .inr h0
      · left; rw [h1]; show d ≠ j; omega)).trans ((kg.get d (by omega)).trans (k.get d hd))⟩
    refine gg ?_
    refine rnd_up (by omega) ⟨_, ⟨sel_of rfl, sel_of rfl, sel_of rfl, sel_of rfl, sel_of rfl, trivial⟩, kk, ap3, fun _ => ⟨g2.next, rfl, by omega, by omega⟩, fun y hy => ?_⟩
    rw [List.take_add_one, hx] at hy
    rcases List.mem_append.1 hy with hy | hy
    · exact hsh y hy
    · simp at hy; subst hy; exact hxs
  obtain ⟨b, rfl, hb6, hbn⟩ := hpos (by omega)
  rw [List.take_of_length_le (by omega)] at ap hBi hsh
  rw [List.take_of_length_le (by omega)]
  have hnb : ¬badPk t p := by
    rintro (hz | hz | hz | hz)
    · exact hz h256
    · exact hl0 (by rw [hz]; rfl)
    · exact hm hz
    · obtain ⟨x, hx, hz⟩ := List.any_eq_true.1 hz
      rw [decide_eq_true (hsh x hx)] at hz
      cases hz
  refine gg ?_; repeat (refine i_ldown (by exact sel_of rfl) (by assumption) (by rfl) ?_; refine gg ?_)
  by_cases h64 : 64 < p.l.length
  · rw [decide_eq_true (p := (64 : Int) < ((p.l.length : Nat) : Int)) (by omega)]
    refine gg ?_; repeat (refine i_ldown (by exact sel_of rfl) (by assumption) (by rfl) ?_; refine gg ?_)
    exact PkQ.big hnb (.inl h64) k17
  rw [decide_eq_false (p := (64 : Int) < ((p.l.length : Nat) : Int)) (by omega)]
  refine gg ?_; repeat (refine i_ldown (by exact sel_of rfl) (by assumption) (by rfl) ?_; refine gg ?_)
  by_cases h12 : 1200 < 12 + (encs p.l).length
  · refine gg ?_; repeat (refine i_ldown (by exact sel_of rfl) (by assumption) (by rfl) ?_; refine gg ?_)
    exact PkQ.big hnb (.inr h12) k17
  have hnbig : ¬bigPk p := by
    rintro (hz | hz)
    · exact h64 hz
    · exact h12 hz
  refine gg ?_; repeat (refine i_ldown (by exact sel_of rfl) (by assumption) (by rfl) ?_; refine gg ?_)
  have k8 : Keeps h' (h'.new (.cells 5 [] (.own false))) := Keeps.new h' _
  have row8 : Row (h'.new (.cells 5 [] (.own false))) 1 (some ⟨h'.next, 0, none⟩) 0 [] := Row.new (by simp) rfl (.inl rfl)
  show ItQ (runItems _ _ _ (h'.new (.cells 5 [] (.own false)))) _
  generalize (h'.new (.cells 5 [] (.own false))) = h8 at *
  refine i_app (o := some ⟨h'.next, 0, none⟩) (cs := []) (t := (hdr p).length) (es := u8s (hdr p)) k8 (by decide) (by exact sel_of rfl) ⟨rfl, row8, fun q e => .inl (by cases e; rfl)⟩ ((row6.keeps (k.trans k8)).src8) (by rw [u8s_length, Nat.mul_one]) (by omega) (Nat.zero_add _) (List.nil_append _) fun o9 h9 k9 ap9 _ => ?_
  refine gg ?_; repeat (refine i_ldown (by exact sel_of rfl) (by assumption) (by rfl) ?_; refine gg ?_)
  have k10 : Keeps h9 (h9.new (.cells 5 (u8s [0, 0, 0, 0]) (.own false))) := Keeps.new h9 _
  have row10 : Row (h9.new (.cells 5 (u8s [0, 0, 0, 0]) (.own false))) 1 (some ⟨h9.next, 0, none⟩) 4 (u8s [0, 0, 0, 0]) := Row.new (by simp) rfl (.inl rfl)
  show ItQ (runItems _ _ _ (h9.new (.cells 5 (u8s [0, 0, 0, 0]) (.own false)))) _
  generalize (h9.new (.cells 5 (u8s [0, 0, 0, 0]) (.own false))) = h10 at *
  refine i_app (t := (hdr p ++ [0, 0, 0, 0]).length) (es := u8s (hdr p ++ [0, 0, 0, 0])) (k9.trans k10) (by decide) (by exact sel_of rfl) (ap9.keeps k10) (row10.src8) rfl (by simp only [List.length_cons, List.length_nil]; omega) (List.length_append).symm (by rw [u8s_append]) fun o11 h11 k11 ap11 _ => ?_
  refine gg ?_; repeat (refine i_ldown (by exact sel_of rfl) (by assumption) (by rfl) ?_; refine gg ?_)
  have rowc := ap.row
  refine i_app (t := (hdr p ++ [0, 0, 0, 0] ++ encs p.l).length) (es := u8s (hdr p ++ [0, 0, 0, 0] ++ encs p.l)) k11 (by decide) (by exact sel_of rfl) ap11 ((rowc.keeps k11).src8) (by rw [u8s_length, Nat.mul_one]) (by simp only [List.length_append, List.length_cons, List.length_nil]; omega) (by simp only [List.length_append]) (by exact (u8s_append _ _).symm) fun o12 h12' k12 ap12 _ => ?_
  refine gg ?_; repeat (refine i_ldown (by exact sel_of rfl) (by assumption) (by rfl) ?_; refine gg ?_)
  have hlen12 : (hdr p ++ [0, 0, 0, 0] ++ encs p.l).length ≤ 1200 := by rw [List.length_append, List.length_append]; simp; omega
  refine i_call2 (by exact sel_of rfl) (by exact sel_of rfl) (w_rsum (ht.keeps (k17.trans k12)) h256 hb ap12.row (by omega) n (by omega)) ?_
  rintro _ _ ⟨rfl, rfl⟩
  have hSe : crcC t (hdr p ++ [0, 0, 0, 0] ++ encs p.l) = sumPk t p := rfl
  rw [hSe]
  refine gg ?_; repeat (refine i_ldown (by exact sel_of rfl) (by assumption) (by rfl) ?_; refine gg ?_)
  refine i_call1 (by exact sel_of rfl) (w_low (sumPk t p) n (by omega)) ?_
  rintro _ h13 ⟨k13, rfl, row13⟩
  refine gg ?_; repeat (refine i_ldown (by exact sel_of rfl) (by assumption) (by rfl) ?_; refine gg ?_)
  have k613 := k.trans (k12.trans k13)
  have ap613 := ap6.keeps k613
  refine i_appF (t := (hdr p ++ le4 (sumPk t p)).length) (es := u8s (hdr p ++ le4 (sumPk t p))) (by show 0 < 4; decide) (B := h5.next) (by have := k6.next; have := k613.next; omega) (by exact sel_of rfl) ap613 (row13.src8) rfl (by simp only [le4, List.length_cons, List.length_nil]; omega) (List.length_append).symm (by rw [u8s_append]) fun h14 nx14 fr14 ap14 => ?_
  refine gg ?_; repeat (refine i_ldown (by exact sel_of rfl) (by assumption) (by rfl) ?_; refine gg ?_)
  have n613 := k613.next
  have rowc14 : Row h14 1 (some ⟨b, 0, some 1⟩) (encs p.l).length (u8s (encs p.l)) := by
    have hrow := rowc.keeps (k12.trans k13)
    refine row_low hrow (by omega) (fun q e => fr14 _ (by cases e; exact hrow.2.1) (fun q2 e2 => .inl ?_))
    cases e
    have := lt6 q2 e2
    show b ≠ q2.block
    omega
  have k14 : Keeps h h14 := ⟨by have := k17.next; have := (k12.trans k13).next; omega, fun d hd => (fr14 d (by have := k17.next; have := (k12.trans k13).next; omega) (fun q e => by
    rcases ap613.2.2 q e with h0 | ⟨j, h1', h2', _⟩
    · exact .inr h0
    · left; rw [h1']; show d ≠ j; have := k1.next; have := k4.next; have := k5.next; omega)).trans ((k17.trans (k12.trans k13)).get d hd)⟩
  refine i_app (t := (hdr p ++ le4 (sumPk t p) ++ encs p.l).length) (es := u8s (hdr p ++ le4 (sumPk t p) ++ encs p.l)) k14 (by decide) (by exact sel_of rfl) (ap14.mono (by have := k1.next; have := k4.next; have := k5.next; omega)) (rowc14.src8) (by rw [u8s_length, Nat.mul_one]) (by simp only [List.length_append, le4, List.length_cons, List.length_nil]; omega) (by simp only [List.length_append]) (by exact (u8s_append _ _).symm) fun o15 h15 k15 ap15 _ => ?_
  refine gg ?_; repeat (refine i_ldown (by exact sel_of rfl) (by assumption) (by rfl) ?_; refine gg ?_)
  rw [PkQ, encPk, if_neg hnb, if_neg hnbig]
  exact ⟨k15, o15, _, rfl, ap15.row, Nat.le_refl _⟩
end Go.Proofs.Ytdcllpjoejkpnaa

