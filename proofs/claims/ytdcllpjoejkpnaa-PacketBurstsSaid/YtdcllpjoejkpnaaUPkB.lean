/- Part of a proof by an abstract run of the program's code: UPkB. No condition. -/
import Derived.Test.YtdcllpjoejkpnaaUFewA
import Derived.Test.YtdcllpjoejkpnaaUPkA
/-! packet.Encode whole, walked. -/
set_option linter.unusedVariables false
namespace Go.Proofs.Ytdcllpjoejkpnaa
open Go Vm
/-- and the octets lie in a block of their own -/
def PkQX (h : Heap) (t : List Nat) (p : Pk) (v : Value) (h' : Heap) : Prop := PkQ h t p v h' ∧ ((encPk t p).2 = 0 → ∃ b, h.next ≤ b ∧ b < h'.next ∧ v = .tuple #[.slice (some ⟨b, 0, some 1⟩) (encPk t p).1.length (encPk t p).1.length, .int .i64 0] ∧ h'.get b = some (.cells 5 (u8s (encPk t p).1) (.own true)))
theorem PkQX.bad {h h' : Heap} {t : List Nat} {p : Pk} (hb : badPk t p) (k : Keeps h h') : PkQX h t p (.tuple #[.slice none 0 0, .int .i64 1]) h' :=
  ⟨PkQ.bad hb k, fun e => by rw [encPk, if_pos hb] at e; cases e⟩
theorem PkQX.big {h h' : Heap} {t : List Nat} {p : Pk} (hn : ¬badPk t p) (hb : bigPk p) (k : Keeps h h') : PkQX h t p (.tuple #[.slice none 0 0, .int .i64 10]) h' :=
  ⟨PkQ.big hn hb k, fun e => by rw [encPk, if_neg hn, if_pos hb] at e; cases e⟩
set_option maxHeartbeats 8000000 in
theorem w_pencodeX {h : Heap} {ot : Option Addr} {ct : Nat} {t : List Nat} {p : Pk} {v : List Value} (ht : Row h 1 ot t.length (n32 t)) (hb : ∀ v ∈ t, v < 4294967296) (hv : PkV h p v) (h80 : p.l.length ≤ 80) (n : Nat) (hn : 101000 ≤ n) :
    ResQ (callN Try.prog G0 n (.call 13 [.slice ot t.length ct, .agg v.toArray]) h) (PkQX h t p) := by
  have hv0 := hv
  have lv := hv.len
  obtain ⟨n, rfl⟩ : ∃ m, n = m + 1 := ⟨n - 1, by omega⟩
  refine res_enter rfl d13 rfl ?_; simp only [c13]
  obtain ⟨a1, k1, n1⟩ := box_one h (.cells 27 v.toArray.toList (.own false))
  refine o_cut (fun a h' => h' = (h.new (.cells 27 v.toArray.toList (.own false))) ∧ Sl [(3, .pointer (some ⟨h.next, 0, none⟩)), (0, .slice ot t.length ct)] a) ?_ ?_
  · refine gg ?_
    exact ⟨rfl, rfl, sel_of rfl, sel_of rfl, trivial⟩
  rintro a h1 ⟨hh, hs⟩
  rw [← hh] at a1 k1 n1
  clear hh
  obtain ⟨ol, cl, els, rfl, rl, el, hcl⟩ := hv
  obtain ⟨f0, rfl⟩ := hs.puts
  have x1 : h.next < h1.next := by omega
  refine gg ?_; repeat (refine i_ldown (by exact sel_of rfl) (by assumption) (by rfl) ?_; refine gg ?_)
  by_cases h256 : t.length = 256
  case neg =>
    rw [decide_eq_true (p := ((t.length : Nat) : Int) ≠ 256) (by omega)]
    refine gg ?_; repeat (refine i_ldown (by exact sel_of rfl) (by assumption) (by rfl) ?_; refine gg ?_)
    exact PkQX.bad (.inl h256) k1
  rw [decide_eq_false (p := ((t.length : Nat) : Int) ≠ 256) (by omega)]
  refine gg ?_; repeat (refine i_ldown (by exact sel_of rfl) (by assumption) (by rfl) ?_; refine gg ?_)
  by_cases hl0 : p.l.length = 0
  case pos =>
    rw [decide_eq_true (p := ((p.l.length : Nat) : Int) = 0) (by omega)]
    refine gg ?_; repeat (refine i_ldown (by exact sel_of rfl) (by assumption) (by rfl) ?_; refine gg ?_)
    exact PkQX.bad (.inr (.inl (List.length_eq_zero_iff.1 hl0))) k1
  rw [decide_eq_false (p := ((p.l.length : Nat) : Int) = 0) (by omega)]
  refine gg ?_; repeat (refine i_ldown (by exact sel_of rfl) (by assumption) (by rfl) ?_; refine gg ?_)
  refine i_call1 (by exact sel_of rfl) (w_mixed (rl.keeps k1) (el.keeps k1) (by omega) n (by omega)) ?_
  rintro _ h2 ⟨rfl, k2⟩
  by_cases hm : mixedC p.l
  case pos =>
    rw [decide_eq_true hm]
    refine gg ?_; repeat (refine i_ldown (by exact sel_of rfl) (by assumption) (by rfl) ?_; refine gg ?_)
    exact PkQX.bad (.inr (.inr (.inl hm))) (k1.trans k2)
  rw [decide_eq_false hm]
  have a2 := (k2.get _ x1).trans a1
  have x2 := Nat.lt_of_lt_of_le x1 k2.next
  have k12 := k1.trans k2
  refine gg ?_; repeat (refine i_ldown (by exact sel_of rfl) (by assumption) (by rfl) ?_; refine gg ?_)
  refine i_call2 (by exact sel_of rfl) (by first | exact sel_of rfl | exact const_of) (w_hasC (rl.keeps k12) (el.keeps k12) (by omega) (P := fun x => !decide x.shaped) (cp := #[]) 100500 n (fun h' x v k hv n hn => w_unshaped hv n hn) (by omega)) ?_
  rintro _ h3 ⟨rfl, k3⟩
  cases hu : (p.l.any fun x => !decide x.shaped) with
  | true =>
    refine gg ?_; repeat (refine i_ldown (by exact sel_of rfl) (by assumption) (by rfl) ?_; refine gg ?_)
    exact PkQX.bad (.inr (.inr (.inr hu))) (k12.trans k3)
  | false =>
  have hnb : ¬badPk t p := by
    rintro (h | h | h | h)
    · exact h h256
    · exact hl0 (by rw [h]; rfl)
    · exact hm h
    · rw [hu] at h; cases h
  have hsh : ∀ x ∈ p.l, x.shaped := fun x hx => by
    have := List.any_eq_false.1 hu x hx
    simpa using this
  have a3 := (k3.get _ x2).trans a2
  have x3 := Nat.lt_of_lt_of_le x2 k3.next
  have k13 := k12.trans k3
  refine gg ?_; repeat (refine i_ldown (by exact sel_of rfl) (by assumption) (by rfl) ?_; refine gg ?_)
  refine i_call2 (by first | exact sel_of rfl | exact const_of) (by exact sel_of rfl) (w_put16 (l := []) (Row.nil h3 1) p.from_ (by simp) n (by omega)) ?_
  rintro _ h4 ⟨k4, q4, rfl, ap4⟩
  have a4 := (k4.get _ x3).trans a3
  have x4 := Nat.lt_of_lt_of_le x3 k4.next
  refine gg ?_; repeat (refine i_ldown (by exact sel_of rfl) (by assumption) (by rfl) ?_; refine gg ?_)
  refine i_call2 (by exact sel_of rfl) (by exact sel_of rfl) (w_put16 ap4.row p.to_ (by simp [down_length]) n (by omega)) ?_
  rintro _ h5 ⟨k5, q5, rfl, ap5⟩
  have a5 := (k5.get _ x4).trans a4
  have x5 := Nat.lt_of_lt_of_le x4 k5.next
  refine gg ?_; repeat (refine i_ldown (by exact sel_of rfl) (by assumption) (by rfl) ?_; refine gg ?_)
  refine i_call2 (by exact sel_of rfl) (by exact sel_of rfl) (w_put32 ap5.row p.tag (by simp [down_length]) n (by omega)) ?_
  rintro _ h6 ⟨k6, q6, rfl, ap6⟩
  have a6 := (k6.get _ x5).trans a5
  have x6 := Nat.lt_of_lt_of_le x5 k6.next
  refine gg ?_; repeat (refine i_ldown (by exact sel_of rfl) (by assumption) (by rfl) ?_; refine gg ?_)
  refine i_call2 (by exact sel_of rfl) (by first | exact sel_of rfl | exact const_of) (w_put32 ap6.row 0 (by simp [down_length]) n (by omega)) ?_
  rintro _ h7 ⟨k7, q7, rfl, ap7⟩
  have a7 := (k7.get _ x6).trans a6
  have x7 := Nat.lt_of_lt_of_le x6 k7.next
  refine gg ?_; repeat (refine i_ldown (by exact sel_of rfl) (by assumption) (by rfl) ?_; refine gg ?_)
  refine ⟨chk_cons rfl (ldO (by exact sel_of rfl) (by assumption) (by rfl)) (by first | exact sv_int _ _ | exact sv_slice _ _ _) (fun m hm => by
    simp only [List.mem_cons, List.not_mem_nil, or_false] at hm
    rcases hm with rfl | rfl <;> exact ⟨_, _, rfl, ldO (by exact sel_of rfl) (by assumption) (by rfl)⟩) (chk_cons rfl (ldO (by exact sel_of rfl) (by assumption) (by rfl)) (by first | exact sv_int _ _ | exact sv_slice _ _ _) (fun m hm => by
    simp only [List.mem_cons, List.not_mem_nil, or_false] at hm
    rcases hm with rfl | rfl | rfl <;> exact ⟨_, _, rfl, ldO (by exact sel_of rfl) (by assumption) (by rfl)⟩) chk_nil), ?_⟩
  refine gg ?_; repeat (refine i_ldown (by exact sel_of rfl) (by assumption) (by rfl) ?_; refine gg ?_)
  have hbase : [] ++ down p.from_ 2 ++ down p.to_ 2 ++ down p.tag 4 ++ down 0 4 = hdr p ++ [0, 0, 0, 0] := by
    rw [hdr]; rfl
  rw [hbase] at ap7 ⊢
  have hhl : (hdr p).length = 8 := by simp [hdr, down_length]
  have hhl4 : (hdr p ++ [0, 0, 0, 0]).length = 12 := by rw [List.length_append, hhl]; rfl
  have k17 := k13.trans (k4.trans (k5.trans (k6.trans k7)))
  have hel := encs_len p.l hsh
  have hB : ∀ i, (encs (p.l.take i)).length ≤ 42010 * i := fun i =>
    Nat.le_trans (encs_len (p.l.take i) (fun x hx => hsh x (List.mem_of_mem_take hx))) (Nat.mul_le_mul_left _ (List.length_take_le i p.l))
  refine o_up p.l.length (fun i f h' => ∃ (ob : Option Addr), Sl [(45, .int .i64 (i : Int)), (44, .int .i64 (p.l.length : Int)), (43, .slice ol p.l.length cl), (6, .slice ob (hdr p ++ [0, 0, 0, 0] ++ encs (p.l.take i)).length (hdr p ++ [0, 0, 0, 0] ++ encs (p.l.take i)).length), (3, .pointer (some ⟨h.next, 0, none⟩)), (0, .slice ot t.length ct)] f ∧ Keeps h h' ∧ h'.get h.next = h7.get h.next ∧ h7.next ≤ h'.next ∧ Ap h6.next h' 5 1 ob (hdr p ++ [0, 0, 0, 0] ++ encs (p.l.take i)).length (hdr p ++ [0, 0, 0, 0] ++ encs (p.l.take i)).length (u8s (hdr p ++ [0, 0, 0, 0] ++ encs (p.l.take i))) ∧ (0 < i → ∃ b, ob = some ⟨b, 0, some 1⟩ ∧ h6.next ≤ b ∧ b < h'.next ∧ h'.get b = some (.cells 5 (u8s (hdr p ++ [0, 0, 0, 0] ++ encs (p.l.take i))) (.own true)))) (by omega) ?_ ?_
  · refine ⟨q7, ⟨sel_of rfl, sel_of rfl, sel_of rfl, sel_of (by rw [List.take_zero, show encs [] = [] from rfl, List.append_nil]; rfl), sel_of rfl, sel_of rfl, trivial⟩, k17, rfl, Nat.le_refl _, ?_, fun hi => absurd hi (by decide)⟩
    rw [List.take_zero, show encs [] = [] from rfl, List.append_nil]
    exact ap7
  rintro i f h' hi ⟨ob, hs, k, ha, hm7, ap, hpos⟩
  obtain ⟨f0, rfl⟩ := hs.puts
  have hBi := hB i
  have hHl : (hdr p ++ [0, 0, 0, 0] ++ encs (p.l.take i)).length = 12 + (encs (p.l.take i)).length := by rw [List.length_append, hhl4]
  have n76 := k7.next
  simp only [c13_0]
  refine gg ?_; repeat (refine i_ldown (by exact sel_of rfl) (by assumption) (by rfl) ?_; refine gg ?_)
  refine out_if (by exact sel_of rfl) (fun hif => ?_) (fun hif => ?_)
  · obtain ⟨x, hx⟩ : ∃ x, p.l[i]? = some x := ⟨_, List.getElem?_eq_getElem (by omega)⟩
    obtain ⟨w, hw, cv⟩ := el.at hx
    have lw := cv.len
    have rr := rl.keeps k
    have hxs := hsh x (List.mem_of_getElem? hx)
    have hst : encs (p.l.take (i + 1)) = encs (p.l.take i) ++ (encC x).1 := by rw [List.take_add_one, hx, Option.toList_some, encs_snoc]
    refine gg ?_; repeat (refine i_ldown (by exact sel_of rfl) (by assumption) (by rfl) ?_; refine gg ?_)
    refine i_idx (by exact sel_of rfl) rr (i := i) (by exact sel_of rfl) (by omega) fun u hu => ?_
    subst hu
    refine i_loadN (v := w) (by exact sel_of rfl) (by rw [rr.cells (by omega) (some 0), flat_get els i el.2.1 hw]) ?_
    refine gg ?_
    refine i_storeF (vs := w) (Keeps.new h' _) (Nat.le_refl _) (by exact sel_of rfl) (by rfl) (by rw [Heap.get_new, if_pos rfl]) lw rfl (Nat.lt_succ_self _) fun g1 kg1 tg1 lt1 => ?_
    refine gg ?_
    refine i_loadN (by exact sel_of rfl) (loadN_all (by assumption) (by first | rfl | assumption)) ?_
    refine gg ?_
    refine i_call1 (by exact sel_of rfl) (w_cencodeG (cv.keeps (k.trans kg1)) n (by omega)) ?_
    rintro _ g2 ⟨kg2, oE, cE, rfl, rE, hcE⟩
    obtain ⟨e3, e4, e5⟩ := encC_len hxs
    generalize encC x = E at *
    refine gg ?_
    have kg := kg1.trans kg2
    have nkg := kg.next
    have apg := ap.keeps kg
    refine i_appF (t := (hdr p ++ [0, 0, 0, 0] ++ encs (p.l.take (i + 1))).length) (es := u8s (hdr p ++ [0, 0, 0, 0] ++ encs (p.l.take (i + 1)))) (by omega) (B := h6.next) (by omega) (by exact sel_of rfl) apg (rE.src8) (by rw [u8s_length, Nat.mul_one]) (by omega) (by rw [hst]; simp only [List.length_append]; omega) (by rw [hst, ← List.append_assoc]; exact (u8s_append _ _).symm) fun g3 nx3 fr3 ap3 => ?_
    have kk : Keeps h g3 := ⟨by have := k.next; omega, fun d hd => (fr3 d (by have := k.next; omega) (fun q e => by
      rcases apg.2.2 q e with h0 | ⟨j, h1, h2', _⟩
      · exact .inr h0
      · left; rw [h1]; show d ≠ j; omega)).trans ((kg.get d (by have := k.next; omega)).trans (k.get d hd))⟩
    have ha3 : g3.get h.next = h7.get h.next := (fr3 _ (by omega) (fun q e => by
      rcases apg.2.2 q e with h0 | ⟨j, h1, h2', _⟩
      · exact .inr h0
      · left; rw [h1]; show h.next ≠ j; omega)).trans ((kg.get _ (by omega)).trans ha)
    refine gg ?_
    refine rnd_up (by omega) ⟨_, ⟨sel_of rfl, sel_of rfl, sel_of rfl, sel_of rfl, sel_of rfl, sel_of rfl, trivial⟩, kk, ha3, by omega, ap3, fun _ => ⟨g2.next, rfl, by omega, by omega, ?_⟩⟩
    rcases ap3.2.2 _ rfl with h0 | ⟨j, h1, h2', h3'⟩
    · cases h0
    · cases h1; exact h3'
  obtain ⟨b, rfl, hb6, hbn, hgb⟩ := hpos (by omega)
  rw [List.take_of_length_le (by omega)] at ap hgb hHl hBi
  rw [List.take_of_length_le (by omega)]
  have a8 := ha.trans a7
  refine gg ?_; repeat (refine i_ldown (by exact sel_of rfl) (by assumption) (by rfl) ?_; refine gg ?_)
  by_cases h64 : 64 < p.l.length
  · rw [decide_eq_true (p := (64 : Int) < ((p.l.length : Nat) : Int)) (by omega)]
    refine gg ?_; repeat (refine i_ldown (by exact sel_of rfl) (by assumption) (by rfl) ?_; refine gg ?_)
    exact PkQX.big hnb (.inl h64) k
  rw [decide_eq_false (p := (64 : Int) < ((p.l.length : Nat) : Int)) (by omega)]
  refine gg ?_; repeat (refine i_ldown (by exact sel_of rfl) (by assumption) (by rfl) ?_; refine gg ?_)
  by_cases h12 : 1200 < (hdr p ++ [0, 0, 0, 0] ++ encs p.l).length
  · refine gg ?_; repeat (refine i_ldown (by exact sel_of rfl) (by assumption) (by rfl) ?_; refine gg ?_)
    exact PkQX.big hnb (.inr (by omega)) k
  have hnbig : ¬bigPk p := by
    rintro (h | h)
    · exact h64 h
    · omega
  refine gg ?_; repeat (refine i_ldown (by exact sel_of rfl) (by assumption) (by rfl) ?_; refine gg ?_)
  refine i_call2 (by exact sel_of rfl) (by exact sel_of rfl) (w_csum (ht.keeps k) h256 hb ap.row (by omega) n (by omega)) ?_
  rintro _ _ ⟨rfl, rfl⟩
  have hSe : crcC t (hdr p ++ [0, 0, 0, 0] ++ encs p.l) = sumPk t p := rfl
  have hS := crcC_lt hb (hdr p ++ [0, 0, 0, 0] ++ encs p.l)
  rw [hSe] at hS ⊢
  have hfour := setB_four (sumPk t p) (hdr p) (encs p.l) hhl
  generalize hBB : hdr p ++ [0, 0, 0, 0] ++ encs p.l = BB at *
  refine gg ?_; repeat (refine i_ldown (by exact sel_of rfl) (by assumption) (by rfl) ?_; refine gg ?_)
  refine o_up 4 (fun i f h'' => Sl [(70, .int .i64 (i : Int)), (6, .slice (some ⟨b, 0, some 1⟩) BB.length BB.length), (11, .int .u32 (sumPk t p : Int))] f ∧ Keeps h h'' ∧ b < h''.next ∧ h''.get b = some (.cells 5 (u8s (setB (sumPk t p) BB i)) (.own true))) (by omega) ?_ ?_
  · exact ⟨⟨sel_of rfl, sel_of rfl, sel_of rfl, trivial⟩, k, hbn, hgb⟩
  rintro i f h'' hi ⟨hs, kz, hbz, hgz⟩
  obtain ⟨f0, rfl⟩ := hs.puts
  have hsl := setB_len (sumPk t p) BB i
  have rz : Row h'' 1 (some ⟨b, 0, some 1⟩) BB.length (u8s (setB (sumPk t p) BB i)) := by
    refine ⟨by rw [u8s_length, hsl, Nat.mul_one], hbz, .inr rfl, ?_⟩
    rw [Nat.mul_one, loadN_of (q := ⟨b, 0, some 1⟩) hgz (by simp) (by show 0 + BB.length ≤ _; rw [u8s_length, hsl]; omega), List.drop_zero, ← hsl, ← u8s_length, List.take_length]
  have hBB12 : 12 ≤ BB.length := by omega
  simp only [c13_1]
  refine gg ?_; repeat (refine i_ldown (by exact sel_of rfl) (by assumption) (by rfl) ?_; refine gg ?_)
  refine out_if (by exact sel_of rfl) (fun hif => ?_) (fun hif => ?_)
  · have hi4 : i = 0 ∨ i = 1 ∨ i = 2 ∨ i = 3 := by omega
    have fin : ∀ {a : Fr} {n : Nat} {id : Nat} {Q : Ex → Fr → Heap → Prop}, True := trivial
    clear fin
    rcases hi4 with rfl | rfl | rfl | rfl
    · refine gg ?_
      refine i_v (v := .int .i64 ((0 : Nat) : Int)) ((int2w _ (by first | exact sel_of rfl | exact const_of) (by exact sel_of rfl) rfl).trans rfl) ?_
      refine gg ?_
      refine i_idx (by exact sel_of rfl) rz (i := 8) (by exact sel_of rfl) (by omega) fun u hu => ?_
      cases hu
      refine i_store1 (u := ⟨b, 0 + 8 * 1, some 0⟩) (v := .int .u8 ((((UInt8.ofNat (sumPk t p / 2 ^ 0)).toNat : Nat)) : Int)) (by exact sel_of rfl) (by rfl) hgz (by show 0 + 8 * 1 < _; rw [u8s_length, hsl]; omega) ?_
      refine gg ?_
      refine rnd_up (by omega) ⟨⟨sel_of rfl, sel_of rfl, sel_of rfl, trivial⟩, kz.put (b := b) (show h.next ≤ b by omega) _, hbz, ?_⟩
      rw [Heap.get_put, if_pos rfl]
      show some (Blk.cells _ ((u8s (setB (sumPk t p) BB 0)).set 8 _) _) = _
      rw [u8s_set]; rfl
    · refine gg ?_
      refine i_v (v := .int .i64 ((8 : Nat) : Int)) ((int2w _ (by first | exact sel_of rfl | exact const_of) (by exact sel_of rfl) rfl).trans rfl) ?_
      refine gg ?_
      refine i_idx (by exact sel_of rfl) rz (i := 9) (by exact sel_of rfl) (by omega) fun u hu => ?_
      cases hu
      refine i_store1 (u := ⟨b, 0 + 9 * 1, some 0⟩) (v := .int .u8 ((((UInt8.ofNat (sumPk t p / 2 ^ 8)).toNat : Nat)) : Int)) (by exact sel_of rfl) (by rfl) hgz (by show 0 + 9 * 1 < _; rw [u8s_length, hsl]; omega) ?_
      refine gg ?_
      refine rnd_up (by omega) ⟨⟨sel_of rfl, sel_of rfl, sel_of rfl, trivial⟩, kz.put (b := b) (show h.next ≤ b by omega) _, hbz, ?_⟩
      rw [Heap.get_put, if_pos rfl]
      show some (Blk.cells _ ((u8s (setB (sumPk t p) BB 1)).set 9 _) _) = _
      rw [u8s_set]; rfl
    · refine gg ?_
      refine i_v (v := .int .i64 ((16 : Nat) : Int)) ((int2w _ (by first | exact sel_of rfl | exact const_of) (by exact sel_of rfl) rfl).trans rfl) ?_
      refine gg ?_
      refine i_idx (by exact sel_of rfl) rz (i := 10) (by exact sel_of rfl) (by omega) fun u hu => ?_
      cases hu
      refine i_store1 (u := ⟨b, 0 + 10 * 1, some 0⟩) (v := .int .u8 ((((UInt8.ofNat (sumPk t p / 2 ^ 16)).toNat : Nat)) : Int)) (by exact sel_of rfl) (by rfl) hgz (by show 0 + 10 * 1 < _; rw [u8s_length, hsl]; omega) ?_
      refine gg ?_
      refine rnd_up (by omega) ⟨⟨sel_of rfl, sel_of rfl, sel_of rfl, trivial⟩, kz.put (b := b) (show h.next ≤ b by omega) _, hbz, ?_⟩
      rw [Heap.get_put, if_pos rfl]
      show some (Blk.cells _ ((u8s (setB (sumPk t p) BB 2)).set 10 _) _) = _
      rw [u8s_set]; rfl
    · refine gg ?_
      refine i_v (v := .int .i64 ((24 : Nat) : Int)) ((int2w _ (by first | exact sel_of rfl | exact const_of) (by exact sel_of rfl) rfl).trans rfl) ?_
      refine gg ?_
      refine i_idx (by exact sel_of rfl) rz (i := 11) (by exact sel_of rfl) (by omega) fun u hu => ?_
      cases hu
      refine i_store1 (u := ⟨b, 0 + 11 * 1, some 0⟩) (v := .int .u8 ((sumPk t p / 2 ^ 24 : Nat) : Int)) (by exact sel_of rfl) (by rfl) hgz (by show 0 + 11 * 1 < _; rw [u8s_length, hsl]; omega) ?_
      refine gg ?_
      refine rnd_up (by omega) ⟨⟨sel_of rfl, sel_of rfl, sel_of rfl, trivial⟩, kz.put (b := b) (show h.next ≤ b by omega) _, hbz, ?_⟩
      rw [Heap.get_put, if_pos rfl]
      show some (Blk.cells _ ((u8s (setB (sumPk t p) BB 3)).set 11 _) _) = _
      have e3 : ((sumPk t p / 2 ^ 24 : Nat) : Int) = (((UInt8.ofNat (sumPk t p / 2 ^ 24)).toNat : Nat) : Int) := by rw [ofNat_mod256]; omega
      rw [e3, u8s_set]; rfl
  obtain rfl : i = 4 := by omega
  refine gg ?_; repeat (refine i_ldown (by exact sel_of rfl) (by assumption) (by rfl) ?_; refine gg ?_)
  have eP : encPk t p = (hdr p ++ le4 (sumPk t p) ++ encs p.l, 0) := by rw [encPk, if_neg hnb, if_neg hnbig]
  have e : setB (sumPk t p) BB 4 = hdr p ++ le4 (sumPk t p) ++ encs p.l := by rw [← hfour]
  rw [e] at rz hsl hgz
  rw [PkQX, PkQ, eP]
  refine ⟨⟨kz, some ⟨b, 0, some 1⟩, BB.length, ?_, ?_, ?_⟩, fun _ => ⟨b, by omega, hbz, ?_, hgz⟩⟩
  · show Value.tuple #[.slice _ BB.length BB.length, .int .i64 0] = Value.tuple #[.slice _ (hdr p ++ le4 (sumPk t p) ++ encs p.l).length BB.length, .int .i64 ((0 : Nat) : Int)]
    rw [hsl]; rfl
  · show Row _ 1 _ (hdr p ++ le4 (sumPk t p) ++ encs p.l).length (u8s (hdr p ++ le4 (sumPk t p) ++ encs p.l))
    rw [hsl]; exact rz
  · show (hdr p ++ le4 (sumPk t p) ++ encs p.l).length ≤ _
    rw [hsl]; exact Nat.le_refl _
  · show Value.tuple #[.slice _ BB.length BB.length, .int .i64 0] = Value.tuple #[.slice _ (hdr p ++ le4 (sumPk t p) ++ encs p.l).length (hdr p ++ le4 (sumPk t p) ++ encs p.l).length, .int .i64 0]
    rw [hsl]
end Go.Proofs.Ytdcllpjoejkpnaa

/-! The law's bounds on a packet, walked. -/
set_option linter.unusedVariables false
namespace Go.Proofs.Ytdcllpjoejkpnaa
open Go Vm
def fewL (l : List Chk) : Prop := l.length ≤ 80 ∧ ∀ x ∈ l, x.few
instance (l : List Chk) : Decidable (fewL l) := by unfold fewL; infer_instance
theorem w_pfew {h : Heap} {o : Option Addr} {c : Nat} {l : List Chk} {els : List (List Value)} (hr : Row h 12 o l.length els.flatten) (he : ChE h l els) (n : Nat) (hn : 200 ≤ n) :
    ResQ (callN Try.prog G0 n (.call 11 [.slice o l.length c]) h) (fun v h' => v = .bool (decide (fewL l)) ∧ Keeps h h') := by
  obtain ⟨n, rfl⟩ : ∃ m, n = m + 1 := ⟨n - 1, by omega⟩
  refine res_enter rfl d11 rfl ?_; simp only [c11]
  refine gg ?_
  refine out_if (by exact sel_of rfl) (fun hif => ?_) (fun hif => ?_)
  · refine gg ?_
    exact ⟨(bool_false (fun hf => by have := hf.1; omega)).symm, Keeps.refl h⟩
  refine gg ?_
  refine o_up l.length (fun i f h' => Sl [(3, .int .i64 (i : Int)), (0, .slice o l.length c)] f ∧ Keeps h h' ∧ ∀ x ∈ l.take i, x.few) (by omega) ?_ ?_
  · exact ⟨⟨sel_of rfl, sel_of rfl, trivial⟩, Keeps.refl h, fun p hp => by simp at hp⟩
  rintro i f h' hi ⟨hs, k, hall⟩
  obtain ⟨f0, rfl⟩ := hs.puts
  simp only [c11_0]
  refine gg ?_
  refine out_if (by exact sel_of rfl) (fun hif => ?_) (fun hif => ?_)
  · obtain ⟨x, hx⟩ : ∃ x, l[i]? = some x := ⟨_, List.getElem?_eq_getElem (by omega)⟩
    obtain ⟨v, hv, cv⟩ := he.at hx
    have rr := hr.keeps k
    refine gg ?_
    refine i_idx (by exact sel_of rfl) rr (i := i) (by exact sel_of rfl) (by omega) fun u hu => ?_
    subst hu
    refine i_loadN (v := v) (by exact sel_of rfl) (by rw [rr.cells (by omega) (some 0), flat_get els i he.2.1 hv]) ?_
    refine i_call1 (by exact sel_of rfl) (w_few7 (cv.keeps k) n (by omega)) ?_
    rintro _ h2 ⟨rfl, k2⟩
    by_cases hf : x.few
    · rw [decide_eq_true hf]
      refine gg ?_
      refine rnd_up (by omega) ⟨⟨sel_of rfl, sel_of rfl, trivial⟩, k.trans k2, fun y hy => ?_⟩
      rw [List.take_add_one, hx] at hy
      rcases List.mem_append.1 hy with hy | hy
      · exact hall y hy
      · simp at hy; subst hy; exact hf
    · rw [decide_eq_false hf]
      refine gg ?_
      exact ⟨(bool_false (fun hl => hf (hl.2 x (List.mem_of_getElem? hx)))).symm, k.trans k2⟩
  · rw [List.take_of_length_le (by omega)] at hall
    refine gg ?_
    exact ⟨(bool_true ⟨by omega, hall⟩).symm, k⟩
end Go.Proofs.Ytdcllpjoejkpnaa

