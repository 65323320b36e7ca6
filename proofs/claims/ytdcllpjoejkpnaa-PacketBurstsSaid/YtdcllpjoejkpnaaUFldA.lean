/- Part of a proof by an abstract run of the program's code: UFldA. No condition. -/
import Derived.Test.YtdcllpjoejkpnaaULwC
import Derived.Test.YtdcllpjoejkpnaaUOnlA
/-! A chunk's fields as octets, walked. -/
set_option linter.unusedVariables false
namespace Go.Proofs.Ytdcllpjoejkpnaa
open Go Vm
set_option maxHeartbeats 2000000 in
theorem w_encG {h : Heap} {o : Option Addr} {m c : Nat} {l : List Prm} {cs : List Value} (hr : Row h 2 o m cs) (hp : PrL h l cs) (hl : l.length = m) (hbig : l.length ≤ 100000) (n : Nat) (hn : 10 + l.length ≤ n) (hn' : 100 ≤ n) :
    ResQ (callN Try.prog G0 n (.call 69 [.slice o m c]) h) (EncQ h l) := by
  subst hl
  obtain ⟨n, rfl⟩ : ∃ m, n = m + 1 := ⟨n - 1, by omega⟩
  refine res_enter rfl d69 rfl ?_; simp only [c69]
  refine gg ?_
  by_cases h32 : 32 < l.length
  · refine gg ?_
    exact EncQ.bad (Keeps.refl h) (.inl h32)
  refine gg ?_
  refine i_call2 (by exact sel_of rfl) (by first | exact sel_of rfl | exact const_of) (w_hasLong hr hp rfl (by omega) n (by omega)) ?_
  rintro _ h1 ⟨rfl, k1⟩
  cases hany : (l.any fun p => decide (1200 < p.2.length)) with
  | true =>
    refine gg ?_
    exact EncQ.bad k1 (.inr hany)
  | false =>
  have hall : ∀ p ∈ l, p.2.length ≤ 1300 := fun p hp => by
    have h0 := List.any_eq_false.1 hany p hp
    simp at h0
    omega
  have hgood : ¬(32 < l.length ∨ (l.any fun p => decide (1200 < p.2.length)) = true) := by rw [hany]; simp; omega
  refine gg ?_
  refine o_up l.length (fun i f h' => ∃ o', Sl [(17, .int .i64 (i : Int)), (16, .int .i64 (l.length : Int)), (15, .slice o l.length c), (4, .slice o' (encL (l.take i)).length (encL (l.take i)).length)] f ∧ Keeps h h' ∧ Ap h.next h' 5 1 o' (encL (l.take i)).length (encL (l.take i)).length (u8s (encL (l.take i)))) (by omega) ?_ ?_
  · exact ⟨none, ⟨sel_of rfl, sel_of rfl, sel_of rfl, sel_of rfl, trivial⟩, k1, Ap.nil _ _ _ _⟩
  rintro i f h' hi ⟨o', hs, k, ap⟩
  obtain ⟨f0, rfl⟩ := hs.puts
  simp only [c69_0]
  have hlt := encL_len (l.take i) (fun p hp => hall p (List.mem_of_mem_take hp))
  rw [List.length_take] at hlt
  refine gg ?_
  refine out_if (by exact sel_of rfl) (fun hif => ?_) (fun hif => ?_)
  · obtain ⟨p, hpi⟩ : ∃ p, l[i]? = some p := ⟨_, List.getElem?_eq_getElem (by omega)⟩
    obtain ⟨x, y, e1, hxy⟩ := (hp.keeps k).pair hpi
    have hp13 := hall p (List.mem_of_getElem? hpi)
    obtain ⟨rfl, hx', o1, m1, c1, rfl, hrow, hc1⟩ := hxy
    have hm1 : p.2.length = m1 := by simpa [u8s_length] using hrow.1
    subst hm1
    refine gg ?_
    refine i_idx (by exact sel_of rfl) (hr.keeps k) (i := i) (by exact sel_of rfl) (by omega) fun u hu => ?_
    subst hu
    refine i_loadN (v := [.int .u16 (p.1 : Int), .slice o1 p.2.length c1]) (by exact sel_of rfl) (by rw [← e1]; exact (hr.keeps k).cells (by omega) (some 0)) ?_
    refine gg ?_
    refine i_storeF (vs := [.int .u16 (p.1 : Int), .slice o1 p.2.length c1]) (Keeps.new h' _) (Nat.le_refl _) (by exact sel_of rfl) (by rfl) (by rw [Heap.get_new, if_pos rfl]) rfl rfl (Nat.lt_succ_self _) fun h2 k2 g2 lt2 => ?_
    refine gg ?_
    refine i_load1 (v := .int .u16 (p.1 : Int)) (by exact sel_of rfl) (by rw [load1_own g2]; rfl) ?_
    refine gg ?_
    refine i_call2 (by first | exact sel_of rfl | exact const_of) (by exact sel_of rfl) (w_put16 (l := []) (Row.nil h2 1) p.1 (by simp) n (by omega)) ?_
    rintro _ h3 ⟨k3, o3, rfl, a3⟩
    have g3 := (k3.get _ lt2).trans g2
    have lt3 := Nat.lt_of_lt_of_le lt2 k3.next
    refine gg ?_
    refine i_load1 (v := .slice o1 p.2.length c1) (by exact sel_of rfl) (by rw [load1_own g3]; rfl) ?_
    refine gg ?_
    refine i_call2 (by exact sel_of rfl) (by exact sel_of rfl) (w_put16 a3.row (4 + p.2.length) (by simp [down_length]) n (by omega)) ?_
    rintro _ h4 ⟨k4, o4, rfl, a4⟩
    have g4 := (k4.get _ lt3).trans g3
    refine gg ?_
    refine ⟨chk_cons rfl (ld1 (by exact sel_of rfl) (by rw [load1_own g3]; rfl)) (sv_slice o1 p.2.length c1) (fun m hm => ?_) chk_nil, ?_⟩
    · simp only [List.mem_cons, List.not_mem_nil, or_false] at hm
      rcases hm with rfl | rfl
      · exact ⟨_, _, rfl, ld1 (by exact sel_of rfl) (by rw [load1_own g2]; rfl)⟩
      · exact ⟨_, _, rfl, ld1 (by exact sel_of rfl) (by rw [load1_own g3]; rfl)⟩
    refine gg ?_
    refine i_load1 (v := .slice o1 p.2.length c1) (by exact sel_of rfl) (by rw [load1_own g4]; rfl) ?_
    have k24 := k2.trans (k3.trans k4)
    refine i_app (t := (down p.1 2 ++ down (4 + p.2.length) 2 ++ p.2).length) (es := u8s (down p.1 2 ++ down (4 + p.2.length) 2 ++ p.2)) k4 (by decide) (by exact sel_of rfl) a4 (((hrow.keeps k24)).src8) (by rw [u8s_length, Nat.mul_one]) (by simp [down_length]; omega) (by simp [down_length]; omega) (by rw [u8s_append]; rfl) fun o5 h5 k5 a5 _ => ?_
    refine gg ?_
    refine i_call1 (by exact sel_of rfl) (w_pad a5.row (by simp [down_length]; omega) n (by omega)) ?_
    rintro _ h6 ⟨k6, o6, rfl, a6⟩
    have k06 := k2.trans (k3.trans (k5.trans k6))
    have hsz := encP_len p
    rw [encP] at hsz
    refine i_app (t := (encL (l.take (i + 1))).length) (es := u8s (encL (l.take (i + 1)))) (k.trans k06) (by decide) (by exact sel_of rfl) (ap.keeps k06) (a6.row.src8) (by rw [u8s_length, Nat.mul_one]) (by omega) (by simp only [encL_take hpi, List.length_append, encP]) (by simp only [encL_take hpi, u8s_append, encP]) fun o7 h7 k7 a7 _ => ?_
    refine gg ?_
    exact rnd_up (by omega) ⟨o7, ⟨sel_of rfl, sel_of rfl, sel_of rfl, sel_of rfl, trivial⟩, k7, a7⟩
  · refine gg ?_
    have e : l.take i = l := List.take_of_length_le (by omega)
    rw [e] at ap ⊢
    exact EncQ.good k hgood ap
set_option maxHeartbeats 4000000 in
theorem w_csack {h : Heap} {c : Chk} {v : List Value} (hv : ChV h c v) (s1 : c.bl.length ≤ 64) (s2 : c.du.length ≤ 64) (n : Nat) (hn : 100 ≤ n) :
    ResQ (callN Try.prog G0 n (.call 72 [.agg v.toArray]) h) (Res8 h (down c.a 4 ++ down c.b 4 ++ down c.bl.length 2 ++ down c.du.length 2 ++ encPairs c.bl ++ encNums c.du)) := by
  obtain ⟨n, rfl⟩ : ∃ m, n = m + 1 := ⟨n - 1, by omega⟩
  refine res_enter rfl d72 rfl ?_; simp only [c72]
  obtain ⟨a1, k1, n1⟩ := box_one h (.cells 33 v.toArray.toList (.own false))
  refine o_cut (fun a h' => h' = (h.new (.cells 33 v.toArray.toList (.own false))) ∧ Sl [(1, .pointer (some ⟨h.next, 0, none⟩))] a) ?_ ?_
  · refine gg ?_
    exact ⟨rfl, rfl, sel_of rfl, trivial⟩
  rintro a h1 ⟨hh, hs⟩
  rw [← hh] at a1 k1 n1
  clear hh
  obtain ⟨o1, c1, o2, c2, o3, c3, o4, c4, o5, c5, ps, rfl, r1, r2, r3, ⟨r4, p4⟩, r5, ⟨b1, b2, b3, b4, b5⟩, hk256, hf256⟩ := hv
  obtain ⟨f0, rfl⟩ := hs.puts
  have x1 : h.next < h1.next := by omega
  refine gg ?_; repeat (refine i_ldown (by exact sel_of rfl) (by assumption) (by rfl) ?_; refine gg ?_)
  refine i_call2 (by first | exact sel_of rfl | exact const_of) (by exact sel_of rfl) (w_put32 (l := []) (Row.nil h1 1) c.a (by simp [down_length]) n (by omega)) ?_
  rintro _ h2 ⟨k2, qq2, rfl, ap2⟩
  have a2 := (k2.get _ x1).trans a1
  have x2 := Nat.lt_of_lt_of_le x1 k2.next
  refine gg ?_; repeat (refine i_ldown (by exact sel_of rfl) (by assumption) (by rfl) ?_; refine gg ?_)
  refine i_call2 (by first | exact sel_of rfl | exact const_of) (by exact sel_of rfl) (w_put32 ap2.row c.b (by simp [down_length]) n (by omega)) ?_
  rintro _ h3 ⟨k3, qq3, rfl, ap3⟩
  have a3 := (k3.get _ x2).trans a2
  have x3 := Nat.lt_of_lt_of_le x2 k3.next
  refine gg ?_; repeat (refine i_ldown (by exact sel_of rfl) (by assumption) (by rfl) ?_; refine gg ?_)
  refine ⟨chk_cons rfl (ldO (by exact sel_of rfl) (by assumption) (by rfl)) (by first | exact sv_int _ _ | exact sv_slice _ _ _) (fun m hm => by
    simp only [List.mem_cons, List.not_mem_nil, or_false] at hm
    rcases hm with rfl | rfl <;> exact ⟨_, _, rfl, ldO (by exact sel_of rfl) (by assumption) (by rfl)⟩) (chk_nil), ?_⟩
  refine gg ?_; repeat (refine i_ldown (by exact sel_of rfl) (by assumption) (by rfl) ?_; refine gg ?_)
  refine i_call2 (by exact sel_of rfl) (by exact sel_of rfl) (w_put16 ap3.row c.bl.length (by simp [down_length]) n (by omega)) ?_
  rintro _ h4 ⟨k4, qq4, rfl, ap4⟩
  have a4 := (k4.get _ x3).trans a3
  have x4 := Nat.lt_of_lt_of_le x3 k4.next
  refine gg ?_; repeat (refine i_ldown (by exact sel_of rfl) (by assumption) (by rfl) ?_; refine gg ?_)
  refine i_call2 (by exact sel_of rfl) (by exact sel_of rfl) (w_put16 ap4.row c.du.length (by simp [down_length]) n (by omega)) ?_
  rintro _ h5 ⟨k5, qq5, rfl, ap5⟩
  have a5 := (k5.get _ x4).trans a4
  have x5 := Nat.lt_of_lt_of_le x4 k5.next
  refine gg ?_; repeat (refine i_ldown (by exact sel_of rfl) (by assumption) (by rfl) ?_; refine gg ?_)
  refine ⟨chk_cons rfl (ldO (by exact sel_of rfl) (by assumption) (by rfl)) (by first | exact sv_int _ _ | exact sv_slice _ _ _) (fun m hm => by
    simp only [List.mem_cons, List.not_mem_nil, or_false] at hm
    rcases hm with rfl | rfl <;> exact ⟨_, _, rfl, ldO (by exact sel_of rfl) (by assumption) (by rfl)⟩) (chk_nil), ?_⟩
  refine gg ?_; repeat (refine i_ldown (by exact sel_of rfl) (by assumption) (by rfl) ?_; refine gg ?_)
  have kk5 : Keeps h h5 := k1.trans (k2.trans (k3.trans (k4.trans k5)))
  have ap5 := ap5.mono (B' := h.next) (by have := k1.next; have := k2.next; have := k3.next; have := k4.next; omega)
  have e0 : ([] ++ down c.a 4 ++ down c.b 4 ++ down c.bl.length 2 ++ down c.du.length 2) = (down c.a 4 ++ down c.b 4 ++ down c.bl.length 2 ++ down c.du.length 2) := rfl
  rw [e0] at ap5
  rw [e0]
  have lb : (down c.a 4 ++ down c.b 4 ++ down c.bl.length 2 ++ down c.du.length 2).length = 12 := by simp [down_length]
  generalize down c.a 4 ++ down c.b 4 ++ down c.bl.length 2 ++ down c.du.length 2 = base at *
  refine o_up c.bl.length (fun i f h' => ∃ o', Sl [(28, .int .i64 (i : Int)), (27, .int .i64 (c.bl.length : Int)), (26, .slice o1 c.bl.length c1), (3, .slice o' (base ++ encPairs (c.bl.take i)).length (base ++ encPairs (c.bl.take i)).length), (1, .pointer (some ⟨h.next, 0, none⟩))] f ∧ Keeps h5 h' ∧ Ap h.next h' 5 1 o' (base ++ encPairs (c.bl.take i)).length (base ++ encPairs (c.bl.take i)).length (u8s (base ++ encPairs (c.bl.take i)))) (by omega) ?_ ?_
  · exact ⟨qq5, ⟨sel_of rfl, sel_of rfl, sel_of rfl, sel_of (by rw [List.take_zero, show encPairs [] = [] from rfl, List.append_nil]; rfl), sel_of rfl, trivial⟩, Keeps.refl _, by rw [List.take_zero, show encPairs [] = [] from rfl, List.append_nil]; exact ap5⟩
  rintro i f h' hi ⟨o', hs, k, ap⟩
  obtain ⟨f0, rfl⟩ := hs.puts
  simp only [c72_0]
  have hep := encPairs_len (c.bl.take i)
  rw [List.length_take] at hep
  refine gg ?_; repeat (refine i_ldown (by exact sel_of rfl) (by assumption) (by rfl) ?_; refine gg ?_)
  refine out_if (by exact sel_of rfl) (fun hif => ?_) (fun hif => ?_)
  · obtain ⟨p, hp⟩ : ∃ p, c.bl[i]? = some p := ⟨_, List.getElem?_eq_getElem (by omega)⟩
    refine gg ?_; repeat (refine i_ldown (by exact sel_of rfl) (by assumption) (by rfl) ?_; refine gg ?_)
    have rr := r1.keeps (kk5.trans k)
    refine i_idx (by exact sel_of rfl) rr (i := i) (by exact sel_of rfl) (by omega) fun u hu => ?_
    subst hu
    refine i_loadN (v := [.int .u16 (p.1 : Int), .int .u16 (p.2 : Int)]) (by exact sel_of rfl) (by rw [← pr16_at hp]; exact rr.cells (by omega) (some 0)) ?_
    refine gg ?_
    refine i_storeF (vs := [.int .u16 (p.1 : Int), .int .u16 (p.2 : Int)]) (Keeps.new h' _) (Nat.le_refl _) (by exact sel_of rfl) (by rfl) (by rw [Heap.get_new, if_pos rfl]) rfl rfl (Nat.lt_succ_self _) fun g2 kg2 t2 lt2 => ?_
    refine gg ?_; repeat (refine i_ldown (by exact sel_of rfl) (by assumption) (by rfl) ?_; refine gg ?_)
    refine i_call2 (by exact sel_of rfl) (by exact sel_of rfl) (w_put16 (ap.keeps kg2).row p.1 (by simp [down_length, encPairs_len]; omega) n (by omega)) ?_
    rintro _ g3 ⟨kg3, q3, rfl, aq3⟩
    have t3 := (kg3.get _ lt2).trans t2
    refine gg ?_; repeat (refine i_ldown (by exact sel_of rfl) (by assumption) (by rfl) ?_; refine gg ?_)
    refine i_call2 (by exact sel_of rfl) (by exact sel_of rfl) (w_put16 aq3.row p.2 (by simp [down_length, encPairs_len]; omega) n (by omega)) ?_
    rintro _ g4 ⟨kg4, q4, rfl, aq4⟩
    refine gg ?_; repeat (refine i_ldown (by exact sel_of rfl) (by assumption) (by rfl) ?_; refine gg ?_)
    refine ⟨chk_cons rfl (ldO (by exact sel_of rfl) t3 (by rfl)) (sv_int _ _) (fun m hm => by
      simp only [List.mem_cons, List.not_mem_nil, or_false] at hm
      rcases hm with rfl | rfl
      · exact ⟨_, _, rfl, ldO (by exact sel_of rfl) t2 (by rfl)⟩
      · exact ⟨_, _, rfl, ldO (by exact sel_of rfl) t3 (by rfl)⟩) chk_nil, ?_⟩
    refine gg ?_
    have e : base ++ encPairs (c.bl.take i) ++ down p.1 2 ++ down p.2 2 = base ++ encPairs (c.bl.take (i + 1)) := by
      rw [List.take_add_one, hp, Option.toList_some, encPairs, encPairs, List.flatMap_append, List.flatMap_cons, List.flatMap_nil, List.append_nil, encPair]
      simp only [List.append_assoc]
    rw [e] at aq4
    rw [e]
    exact rnd_up (by omega) ⟨q4, ⟨sel_of rfl, sel_of rfl, sel_of rfl, sel_of rfl, sel_of rfl, trivial⟩, k.trans (kg2.trans (kg3.trans kg4)), aq4.mono (by have := kg2.next; have := kg3.next; have := k.next; have := kk5.next; omega)⟩
  rw [List.take_of_length_le (by omega)] at ap
  rw [List.take_of_length_le (by omega)]
  have a6 := (k.get _ x5).trans a5
  have x6 := Nat.lt_of_lt_of_le x5 k.next
  have k6 := kk5.trans k
  clear hi hif hep
  have lb2 : (base ++ encPairs c.bl).length ≤ 300 := by rw [List.length_append, encPairs_len]; omega
  refine gg ?_; repeat (refine i_ldown (by exact sel_of rfl) (by assumption) (by rfl) ?_; refine gg ?_)
  generalize base ++ encPairs c.bl = base2 at *
  refine o_up c.du.length (fun i f h'' => ∃ o', Sl [(43, .int .i64 (i : Int)), (42, .int .i64 (c.du.length : Int)), (41, .slice o2 c.du.length c2), (3, .slice o' (base2 ++ encNums (c.du.take i)).length (base2 ++ encNums (c.du.take i)).length)] f ∧ Keeps h' h'' ∧ Ap h.next h'' 5 1 o' (base2 ++ encNums (c.du.take i)).length (base2 ++ encNums (c.du.take i)).length (u8s (base2 ++ encNums (c.du.take i)))) (by omega) ?_ ?_
  · exact ⟨o', ⟨sel_of rfl, sel_of rfl, sel_of rfl, sel_of (by rw [List.take_zero, show encNums [] = [] from rfl, List.append_nil]; rfl), trivial⟩, Keeps.refl _, by rw [List.take_zero, show encNums [] = [] from rfl, List.append_nil]; exact ap⟩
  rintro i f h'' hi ⟨o'', hs, k', ap'⟩
  obtain ⟨f0, rfl⟩ := hs.puts
  simp only [c72_1]
  have hep := encNums_len (c.du.take i)
  rw [List.length_take] at hep
  refine gg ?_; repeat (refine i_ldown (by exact sel_of rfl) (by assumption) (by rfl) ?_; refine gg ?_)
  refine out_if (by exact sel_of rfl) (fun hif => ?_) (fun hif => ?_)
  · obtain ⟨p, hp⟩ : ∃ p, c.du[i]? = some p := ⟨_, List.getElem?_eq_getElem (by omega)⟩
    refine gg ?_; repeat (refine i_ldown (by exact sel_of rfl) (by assumption) (by rfl) ?_; refine gg ?_)
    have rr := r2.keeps (k6.trans k')
    refine i_idx (by exact sel_of rfl) rr (i := i) (by exact sel_of rfl) (by omega) fun u hu => ?_
    subst hu
    refine i_load1 (v := .int .u32 (p : Int)) (by exact sel_of rfl) (by rw [← n32_at hp, ← rr.cell (by omega), Nat.mul_one]) ?_
    refine gg ?_; repeat (refine i_ldown (by exact sel_of rfl) (by assumption) (by rfl) ?_; refine gg ?_)
    refine i_call2 (by exact sel_of rfl) (by exact sel_of rfl) (w_put32 ap'.row p (by simp [down_length, encNums_len]; omega) n (by omega)) ?_
    rintro _ g3 ⟨kg3, q3, rfl, aq3⟩
    refine gg ?_; repeat (refine i_ldown (by exact sel_of rfl) (by assumption) (by rfl) ?_; refine gg ?_)
    have e : base2 ++ encNums (c.du.take i) ++ down p 4 = base2 ++ encNums (c.du.take (i + 1)) := by
      rw [List.take_add_one, hp, Option.toList_some, encNums, encNums, List.flatMap_append, List.flatMap_cons, List.flatMap_nil, List.append_nil]
      simp only [List.append_assoc]
    rw [e] at aq3
    rw [e]
    exact rnd_up (by omega) ⟨q3, ⟨sel_of rfl, sel_of rfl, sel_of rfl, sel_of rfl, trivial⟩, k'.trans kg3, aq3.mono (by have := k'.next; have := k6.next; omega)⟩
  rw [List.take_of_length_le (by omega)] at ap'
  rw [List.take_of_length_le (by omega)]
  refine gg ?_; repeat (refine i_ldown (by exact sel_of rfl) (by assumption) (by rfl) ?_; refine gg ?_)
  exact ⟨k6.trans k', o'', rfl, ap'⟩
end Go.Proofs.Ytdcllpjoejkpnaa

/-! A chunk's fields as octets, walked. -/
set_option linter.unusedVariables false
namespace Go.Proofs.Ytdcllpjoejkpnaa
open Go Vm
/-- octets that are given back -/
def FldQ (h : Heap) (l : List UInt8) (v : Value) (h' : Heap) : Prop := Keeps h h' ∧ ∃ o c, v = .slice o l.length c ∧ Row h' 1 o l.length (u8s l) ∧ l.length ≤ c
theorem FldQ.of {h h' : Heap} {l m : List UInt8} {o : Option Addr} {e : Nat} (k : Keeps h h') (a : Ap h.next h' e 1 o l.length l.length (u8s l)) (hl : m = l) : FldQ h m (.slice o l.length l.length) h' := by
  subst hl; exact ⟨k, o, _, rfl, a.row, Nat.le_refl _⟩
theorem encL_lenB {c : Chk} (hs : c.shaped) : (encR c.pa).1.length ≤ 42000 := by
  obtain ⟨_, _, s10, _⟩ := hs
  obtain ⟨e, h1, h2⟩ := encR_ok s10
  have := (encL_len c.pa (fun p hp => by have := h2 p hp; omega)).2
  rw [e]; omega
set_option maxHeartbeats 8000000 in
theorem w_fields {h : Heap} {c : Chk} {v : List Value} (hv : ChV h c v) (hsh : c.shaped) (n : Nat) (hn : 300 ≤ n) :
    ResQ (callN Try.prog G0 n (.call 53 [.agg v.toArray]) h) (FldQ h (fieldsC c)) := by
  have hv0 := hv
  have hlE := encL_lenB hsh
  have hsh0 := hsh
  obtain ⟨_, ⟨_, _, _, s9⟩, s10, s11, s12, s13, s14, s15⟩ := hsh0
  have hpl := (encR_ok s10).2.1
  obtain ⟨n, rfl⟩ : ∃ m, n = m + 1 := ⟨n - 1, by omega⟩
  refine res_enter rfl d53 rfl ?_; simp only [c53]
  obtain ⟨a1, k1, n1⟩ := box_one h (.cells 33 v.toArray.toList (.own false))
  refine o_cut (fun a h' => h' = (h.new (.cells 33 v.toArray.toList (.own false))) ∧ Sl [(1, .pointer (some ⟨h.next, 0, none⟩))] a) ?_ ?_
  · refine gg ?_
    exact ⟨rfl, rfl, sel_of rfl, trivial⟩
  rintro a h1 ⟨hh, hs⟩
  rw [← hh] at a1 k1 n1
  clear hh
  have hv1 := hv0.keeps k1
  have lv := hv0.len
  obtain ⟨o1, c1, o2, c2, o3, c3, o4, c4, o5, c5, ps, rfl, r1, r2, r3, ⟨r4, p4⟩, r5, ⟨b1, b2, b3, b4, b5⟩, hk256, hf256⟩ := hv
  obtain ⟨f0, rfl⟩ := hs.puts
  have x1 : h.next < h1.next := by omega
  have ap1 : Ap h.next h1 5 1 none 0 0 (u8s []) := Ap.nil _ _ _ _
  rcases kinds_cases c.k with hk | hk | hk | hk | hk | hk | hk | hk | hk | hk | hk | hk | hk | hk | hk
  · have hl : lets c.k = [65, 79, 73, 80, 68] := by rw [hk]; rfl
    have hF : fieldsC c = (down c.a 4) ++ (down c.o 2) ++ (down c.i 2) ++ (down c.p 4) ++ (c.da) := by
      rw [fieldsC, hl]; simp [fieldL, List.append_assoc]
    rw [hk] at a1
    refine gg ?_; repeat (refine i_ldown (by exact sel_of rfl) (by assumption) (by rfl) ?_; refine gg ?_)
    refine i_call2 (by first | exact sel_of rfl | exact const_of) (by exact sel_of rfl) (w_put32 (l := []) (Row.nil h1 1) c.a (by simp [down_length]) n (by omega)) ?_
    rintro _ h2 ⟨k2, qq2, rfl, ap2⟩
    have a2 := (k2.get _ x1).trans a1
    have x2 := Nat.lt_of_lt_of_le x1 k2.next
    refine gg ?_; repeat (refine i_ldown (by exact sel_of rfl) (by assumption) (by rfl) ?_; refine gg ?_)
    refine i_call2 (by first | exact sel_of rfl | exact const_of) (by exact sel_of rfl) (w_put16 ap2.row c.o (by simp [down_length]) n (by omega)) ?_
    rintro _ h3 ⟨k3, qq3, rfl, ap3⟩
    have a3 := (k3.get _ x2).trans a2
    have x3 := Nat.lt_of_lt_of_le x2 k3.next
    refine gg ?_; repeat (refine i_ldown (by exact sel_of rfl) (by assumption) (by rfl) ?_; refine gg ?_)
    refine i_call2 (by first | exact sel_of rfl | exact const_of) (by exact sel_of rfl) (w_put16 ap3.row c.i (by simp [down_length]) n (by omega)) ?_
    rintro _ h4 ⟨k4, qq4, rfl, ap4⟩
    have a4 := (k4.get _ x3).trans a3
    have x4 := Nat.lt_of_lt_of_le x3 k4.next
    refine gg ?_; repeat (refine i_ldown (by exact sel_of rfl) (by assumption) (by rfl) ?_; refine gg ?_)
    refine i_call2 (by first | exact sel_of rfl | exact const_of) (by exact sel_of rfl) (w_put32 ap4.row c.p (by simp [down_length]) n (by omega)) ?_
    rintro _ h5 ⟨k5, qq5, rfl, ap5⟩
    have a5 := (k5.get _ x4).trans a4
    have x5 := Nat.lt_of_lt_of_le x4 k5.next
    refine gg ?_; repeat (refine i_ldown (by exact sel_of rfl) (by assumption) (by rfl) ?_; refine gg ?_)
    refine ⟨chk_cons rfl (ldO (by exact sel_of rfl) (by assumption) (by rfl)) (by first | exact sv_int _ _ | exact sv_slice _ _ _) (fun m hm => by
      simp only [List.mem_cons, List.not_mem_nil, or_false] at hm
      rcases hm with rfl | rfl <;> exact ⟨_, _, rfl, ldO (by exact sel_of rfl) (by assumption) (by rfl)⟩) (chk_cons rfl (ldO (by exact sel_of rfl) (by assumption) (by rfl)) (by first | exact sv_int _ _ | exact sv_slice _ _ _) (fun m hm => by
      simp only [List.mem_cons, List.not_mem_nil, or_false] at hm
      rcases hm with rfl | rfl | rfl <;> exact ⟨_, _, rfl, ldO (by exact sel_of rfl) (by assumption) (by rfl)⟩) (chk_cons rfl (ldO (by exact sel_of rfl) (by assumption) (by rfl)) (by first | exact sv_int _ _ | exact sv_slice _ _ _) (fun m hm => by
      simp only [List.mem_cons, List.not_mem_nil, or_false] at hm
      rcases hm with rfl | rfl | rfl | rfl <;> exact ⟨_, _, rfl, ldO (by exact sel_of rfl) (by assumption) (by rfl)⟩) (chk_nil))), ?_⟩
    refine gg ?_; repeat (refine i_ldown (by exact sel_of rfl) (by assumption) (by rfl) ?_; refine gg ?_)
    refine i_app (t := (fieldsC c).length) (es := u8s (fieldsC c)) (k1.trans (k2.trans (k3.trans (k4.trans k5)))) (by decide) (by exact sel_of rfl) (ap5.mono (B' := h.next) (by have := k1.next; have := k2.next; have := k3.next; have := k4.next; omega)) ((r5.keeps (k1.trans (k2.trans (k3.trans (k4.trans k5))))).src8) (by rw [u8s_length, Nat.mul_one]) (by simp [hF, down_length]; omega) (by simp [hF, down_length]; omega) (by rw [hF]; simp [u8s_append, List.append_assoc]) fun o7 h7 k7 a7 _ => ?_
    refine gg ?_
    exact FldQ.of k7 a7 rfl
  · have hl : lets c.k = [65, 66, 79, 73, 80, 84] := by rw [hk]; rfl
    have hF : fieldsC c = (down c.a 4) ++ (down c.b 4) ++ (down c.o 2) ++ (down c.i 2) ++ (down c.p 4) ++ ((encR c.pa).1) := by
      rw [fieldsC, hl]; simp [fieldL, List.append_assoc]
    rw [hk] at a1
    refine gg ?_; repeat (refine i_ldown (by exact sel_of rfl) (by assumption) (by rfl) ?_; refine gg ?_)
    refine i_call2 (by first | exact sel_of rfl | exact const_of) (by exact sel_of rfl) (w_put32 (l := []) (Row.nil h1 1) c.a (by simp [down_length]) n (by omega)) ?_
    rintro _ h2 ⟨k2, qq2, rfl, ap2⟩
    have a2 := (k2.get _ x1).trans a1
    have x2 := Nat.lt_of_lt_of_le x1 k2.next
    refine gg ?_; repeat (refine i_ldown (by exact sel_of rfl) (by assumption) (by rfl) ?_; refine gg ?_)
    refine i_call2 (by first | exact sel_of rfl | exact const_of) (by exact sel_of rfl) (w_put32 ap2.row c.b (by simp [down_length]) n (by omega)) ?_
    rintro _ h3 ⟨k3, qq3, rfl, ap3⟩
    have a3 := (k3.get _ x2).trans a2
    have x3 := Nat.lt_of_lt_of_le x2 k3.next
    refine gg ?_; repeat (refine i_ldown (by exact sel_of rfl) (by assumption) (by rfl) ?_; refine gg ?_)
    refine i_call2 (by first | exact sel_of rfl | exact const_of) (by exact sel_of rfl) (w_put16 ap3.row c.o (by simp [down_length]) n (by omega)) ?_
    rintro _ h4 ⟨k4, qq4, rfl, ap4⟩
    have a4 := (k4.get _ x3).trans a3
    have x4 := Nat.lt_of_lt_of_le x3 k4.next
    refine gg ?_; repeat (refine i_ldown (by exact sel_of rfl) (by assumption) (by rfl) ?_; refine gg ?_)
    refine i_call2 (by first | exact sel_of rfl | exact const_of) (by exact sel_of rfl) (w_put16 ap4.row c.i (by simp [down_length]) n (by omega)) ?_
    rintro _ h5 ⟨k5, qq5, rfl, ap5⟩
    have a5 := (k5.get _ x4).trans a4
    have x5 := Nat.lt_of_lt_of_le x4 k5.next
    refine gg ?_; repeat (refine i_ldown (by exact sel_of rfl) (by assumption) (by rfl) ?_; refine gg ?_)
    refine ⟨chk_cons rfl (ldO (by exact sel_of rfl) (by assumption) (by rfl)) (by first | exact sv_int _ _ | exact sv_slice _ _ _) (fun m hm => by
      simp only [List.mem_cons, List.not_mem_nil, or_false] at hm
      rcases hm with rfl | rfl <;> exact ⟨_, _, rfl, ldO (by exact sel_of rfl) (by assumption) (by rfl)⟩) (chk_cons rfl (ldO (by exact sel_of rfl) (by assumption) (by rfl)) (by first | exact sv_int _ _ | exact sv_slice _ _ _) (fun m hm => by
      simp only [List.mem_cons, List.not_mem_nil, or_false] at hm
      rcases hm with rfl | rfl | rfl <;> exact ⟨_, _, rfl, ldO (by exact sel_of rfl) (by assumption) (by rfl)⟩) (chk_cons rfl (ldO (by exact sel_of rfl) (by assumption) (by rfl)) (by first | exact sv_int _ _ | exact sv_slice _ _ _) (fun m hm => by
      simp only [List.mem_cons, List.not_mem_nil, or_false] at hm
      rcases hm with rfl | rfl | rfl | rfl <;> exact ⟨_, _, rfl, ldO (by exact sel_of rfl) (by assumption) (by rfl)⟩) (chk_nil))), ?_⟩
    refine gg ?_; repeat (refine i_ldown (by exact sel_of rfl) (by assumption) (by rfl) ?_; refine gg ?_)
    refine i_call2 (by first | exact sel_of rfl | exact const_of) (by exact sel_of rfl) (w_put32 ap5.row c.p (by simp [down_length]) n (by omega)) ?_
    rintro _ h6 ⟨k6, qq6, rfl, ap6⟩
    have a6 := (k6.get _ x5).trans a5
    have x6 := Nat.lt_of_lt_of_le x5 k6.next
    refine gg ?_; repeat (refine i_ldown (by exact sel_of rfl) (by assumption) (by rfl) ?_; refine gg ?_)
    have kk := k1.trans (k2.trans (k3.trans (k4.trans (k5.trans k6))))
    refine i_call1 (by exact sel_of rfl) (w_encG (r4.keeps kk) (p4.keeps kk) rfl (by omega) n (by omega) (by omega)) ?_
    rintro _ h8 ⟨k8, o8, c8, rfl, row8, hc8⟩
    refine gg ?_; repeat (refine i_ldown (by exact sel_of rfl) (by assumption) (by rfl) ?_; refine gg ?_)
    refine i_app (t := (fieldsC c).length) (es := u8s (fieldsC c)) (kk.trans k8) (by decide) (by exact sel_of rfl) ((ap6.keeps k8).mono (B' := h.next) (by have := k1.next; have := k2.next; have := k3.next; have := k4.next; have := k5.next; omega)) (row8.src8) (by rw [u8s_length, Nat.mul_one]) (by simp [hF, down_length]; omega) (by simp [hF, down_length]; omega) (by rw [hF]; simp [u8s_append, List.append_assoc]) fun o7 h7 k7 a7 _ => ?_
    refine gg ?_
    exact FldQ.of k7 a7 rfl
  · have hl : lets c.k = [65, 66, 79, 73, 80, 84] := by rw [hk]; rfl
    have hF : fieldsC c = (down c.a 4) ++ (down c.b 4) ++ (down c.o 2) ++ (down c.i 2) ++ (down c.p 4) ++ ((encR c.pa).1) := by
      rw [fieldsC, hl]; simp [fieldL, List.append_assoc]
    rw [hk] at a1
    refine gg ?_; repeat (refine i_ldown (by exact sel_of rfl) (by assumption) (by rfl) ?_; refine gg ?_)
    refine i_call2 (by first | exact sel_of rfl | exact const_of) (by exact sel_of rfl) (w_put32 (l := []) (Row.nil h1 1) c.a (by simp [down_length]) n (by omega)) ?_
    rintro _ h2 ⟨k2, qq2, rfl, ap2⟩
    have a2 := (k2.get _ x1).trans a1
    have x2 := Nat.lt_of_lt_of_le x1 k2.next
    refine gg ?_; repeat (refine i_ldown (by exact sel_of rfl) (by assumption) (by rfl) ?_; refine gg ?_)
    refine i_call2 (by first | exact sel_of rfl | exact const_of) (by exact sel_of rfl) (w_put32 ap2.row c.b (by simp [down_length]) n (by omega)) ?_
    rintro _ h3 ⟨k3, qq3, rfl, ap3⟩
    have a3 := (k3.get _ x2).trans a2
    have x3 := Nat.lt_of_lt_of_le x2 k3.next
    refine gg ?_; repeat (refine i_ldown (by exact sel_of rfl) (by assumption) (by rfl) ?_; refine gg ?_)
    refine i_call2 (by first | exact sel_of rfl | exact const_of) (by exact sel_of rfl) (w_put16 ap3.row c.o (by simp [down_length]) n (by omega)) ?_
    rintro _ h4 ⟨k4, qq4, rfl, ap4⟩
    have a4 := (k4.get _ x3).trans a3
    have x4 := Nat.lt_of_lt_of_le x3 k4.next
    refine gg ?_; repeat (refine i_ldown (by exact sel_of rfl) (by assumption) (by rfl) ?_; refine gg ?_)
    refine i_call2 (by first | exact sel_of rfl | exact const_of) (by exact sel_of rfl) (w_put16 ap4.row c.i (by simp [down_length]) n (by omega)) ?_
    rintro _ h5 ⟨k5, qq5, rfl, ap5⟩
    have a5 := (k5.get _ x4).trans a4
    have x5 := Nat.lt_of_lt_of_le x4 k5.next
    refine gg ?_; repeat (refine i_ldown (by exact sel_of rfl) (by assumption) (by rfl) ?_; refine gg ?_)
    refine ⟨chk_cons rfl (ldO (by exact sel_of rfl) (by assumption) (by rfl)) (by first | exact sv_int _ _ | exact sv_slice _ _ _) (fun m hm => by
      simp only [List.mem_cons, List.not_mem_nil, or_false] at hm
      rcases hm with rfl | rfl <;> exact ⟨_, _, rfl, ldO (by exact sel_of rfl) (by assumption) (by rfl)⟩) (chk_cons rfl (ldO (by exact sel_of rfl) (by assumption) (by rfl)) (by first | exact sv_int _ _ | exact sv_slice _ _ _) (fun m hm => by
      simp only [List.mem_cons, List.not_mem_nil, or_false] at hm
      rcases hm with rfl | rfl | rfl <;> exact ⟨_, _, rfl, ldO (by exact sel_of rfl) (by assumption) (by rfl)⟩) (chk_cons rfl (ldO (by exact sel_of rfl) (by assumption) (by rfl)) (by first | exact sv_int _ _ | exact sv_slice _ _ _) (fun m hm => by
      simp only [List.mem_cons, List.not_mem_nil, or_false] at hm
      rcases hm with rfl | rfl | rfl | rfl <;> exact ⟨_, _, rfl, ldO (by exact sel_of rfl) (by assumption) (by rfl)⟩) (chk_nil))), ?_⟩
    refine gg ?_; repeat (refine i_ldown (by exact sel_of rfl) (by assumption) (by rfl) ?_; refine gg ?_)
    refine i_call2 (by first | exact sel_of rfl | exact const_of) (by exact sel_of rfl) (w_put32 ap5.row c.p (by simp [down_length]) n (by omega)) ?_
    rintro _ h6 ⟨k6, qq6, rfl, ap6⟩
    have a6 := (k6.get _ x5).trans a5
    have x6 := Nat.lt_of_lt_of_le x5 k6.next
    refine gg ?_; repeat (refine i_ldown (by exact sel_of rfl) (by assumption) (by rfl) ?_; refine gg ?_)
    have kk := k1.trans (k2.trans (k3.trans (k4.trans (k5.trans k6))))
    refine i_call1 (by exact sel_of rfl) (w_encG (r4.keeps kk) (p4.keeps kk) rfl (by omega) n (by omega) (by omega)) ?_
    rintro _ h8 ⟨k8, o8, c8, rfl, row8, hc8⟩
    refine gg ?_; repeat (refine i_ldown (by exact sel_of rfl) (by assumption) (by rfl) ?_; refine gg ?_)
    refine i_app (t := (fieldsC c).length) (es := u8s (fieldsC c)) (kk.trans k8) (by decide) (by exact sel_of rfl) ((ap6.keeps k8).mono (B' := h.next) (by have := k1.next; have := k2.next; have := k3.next; have := k4.next; have := k5.next; omega)) (row8.src8) (by rw [u8s_length, Nat.mul_one]) (by simp [hF, down_length]; omega) (by simp [hF, down_length]; omega) (by rw [hF]; simp [u8s_append, List.append_assoc]) fun o7 h7 k7 a7 _ => ?_
    refine gg ?_
    exact FldQ.of k7 a7 rfl
  · have hl : lets c.k = [84] := by rw [hk]; rfl
    have hF : fieldsC c = ((encR c.pa).1) := by
      rw [fieldsC, hl]; simp [fieldL, List.append_assoc]
    rw [hk] at a1
    refine gg ?_; repeat (refine i_ldown (by exact sel_of rfl) (by assumption) (by rfl) ?_; refine gg ?_)
    refine i_call1 (by exact sel_of rfl) (w_encG (r4.keeps k1) (p4.keeps k1) rfl (by omega) n (by omega) (by omega)) ?_
    rintro _ h8 ⟨k8, o8, c8, rfl, row8, hc8⟩
    refine gg ?_; repeat (refine i_ldown (by exact sel_of rfl) (by assumption) (by rfl) ?_; refine gg ?_)
    refine i_app (t := (fieldsC c).length) (es := u8s (fieldsC c)) (k1.trans k8) (by decide) (by exact sel_of rfl) (ap1.keeps k8) (row8.src8) (by rw [u8s_length, Nat.mul_one]) (by simp [hF]; omega) (by simp [hF]) (by rw [hF]; rfl) fun o7 h7 k7 a7 _ => ?_
    refine gg ?_
    exact FldQ.of k7 a7 rfl
  · have hl : lets c.k = [84] := by rw [hk]; rfl
    have hF : fieldsC c = ((encR c.pa).1) := by
      rw [fieldsC, hl]; simp [fieldL, List.append_assoc]
    rw [hk] at a1
    refine gg ?_; repeat (refine i_ldown (by exact sel_of rfl) (by assumption) (by rfl) ?_; refine gg ?_)
    refine i_call1 (by exact sel_of rfl) (w_encG (r4.keeps k1) (p4.keeps k1) rfl (by omega) n (by omega) (by omega)) ?_
    rintro _ h8 ⟨k8, o8, c8, rfl, row8, hc8⟩
    refine gg ?_; repeat (refine i_ldown (by exact sel_of rfl) (by assumption) (by rfl) ?_; refine gg ?_)
    refine i_app (t := (fieldsC c).length) (es := u8s (fieldsC c)) (k1.trans k8) (by decide) (by exact sel_of rfl) (ap1.keeps k8) (row8.src8) (by rw [u8s_length, Nat.mul_one]) (by simp [hF]; omega) (by simp [hF]) (by rw [hF]; rfl) fun o7 h7 k7 a7 _ => ?_
    refine gg ?_
    exact FldQ.of k7 a7 rfl
  · have hl : lets c.k = [84] := by rw [hk]; rfl
    have hF : fieldsC c = ((encR c.pa).1) := by
      rw [fieldsC, hl]; simp [fieldL, List.append_assoc]
    rw [hk] at a1
    refine gg ?_; repeat (refine i_ldown (by exact sel_of rfl) (by assumption) (by rfl) ?_; refine gg ?_)
    refine i_call1 (by exact sel_of rfl) (w_encG (r4.keeps k1) (p4.keeps k1) rfl (by omega) n (by omega) (by omega)) ?_
    rintro _ h8 ⟨k8, o8, c8, rfl, row8, hc8⟩
    refine gg ?_; repeat (refine i_ldown (by exact sel_of rfl) (by assumption) (by rfl) ?_; refine gg ?_)
    refine i_app (t := (fieldsC c).length) (es := u8s (fieldsC c)) (k1.trans k8) (by decide) (by exact sel_of rfl) (ap1.keeps k8) (row8.src8) (by rw [u8s_length, Nat.mul_one]) (by simp [hF]; omega) (by simp [hF]) (by rw [hF]; rfl) fun o7 h7 k7 a7 _ => ?_
    refine gg ?_
    exact FldQ.of k7 a7 rfl
  · have hl : lets c.k = [84] := by rw [hk]; rfl
    have hF : fieldsC c = ((encR c.pa).1) := by
      rw [fieldsC, hl]; simp [fieldL, List.append_assoc]
    rw [hk] at a1
    refine gg ?_; repeat (refine i_ldown (by exact sel_of rfl) (by assumption) (by rfl) ?_; refine gg ?_)
    refine i_call1 (by exact sel_of rfl) (w_encG (r4.keeps k1) (p4.keeps k1) rfl (by omega) n (by omega) (by omega)) ?_
    rintro _ h8 ⟨k8, o8, c8, rfl, row8, hc8⟩
    refine gg ?_; repeat (refine i_ldown (by exact sel_of rfl) (by assumption) (by rfl) ?_; refine gg ?_)
    refine i_app (t := (fieldsC c).length) (es := u8s (fieldsC c)) (k1.trans k8) (by decide) (by exact sel_of rfl) (ap1.keeps k8) (row8.src8) (by rw [u8s_length, Nat.mul_one]) (by simp [hF]; omega) (by simp [hF]) (by rw [hF]; rfl) fun o7 h7 k7 a7 _ => ?_
    refine gg ?_
    exact FldQ.of k7 a7 rfl
  · have hl : lets c.k = [84] := by rw [hk]; rfl
    have hF : fieldsC c = ((encR c.pa).1) := by
      rw [fieldsC, hl]; simp [fieldL, List.append_assoc]
    rw [hk] at a1
    refine gg ?_; repeat (refine i_ldown (by exact sel_of rfl) (by assumption) (by rfl) ?_; refine gg ?_)
    refine i_call1 (by exact sel_of rfl) (w_encG (r4.keeps k1) (p4.keeps k1) rfl (by omega) n (by omega) (by omega)) ?_
    rintro _ h8 ⟨k8, o8, c8, rfl, row8, hc8⟩
    refine gg ?_; repeat (refine i_ldown (by exact sel_of rfl) (by assumption) (by rfl) ?_; refine gg ?_)
    refine i_app (t := (fieldsC c).length) (es := u8s (fieldsC c)) (k1.trans k8) (by decide) (by exact sel_of rfl) (ap1.keeps k8) (row8.src8) (by rw [u8s_length, Nat.mul_one]) (by simp [hF]; omega) (by simp [hF]) (by rw [hF]; rfl) fun o7 h7 k7 a7 _ => ?_
    refine gg ?_
    exact FldQ.of k7 a7 rfl
  · have hl : lets c.k = [65, 66, 67] := by rw [hk]; rfl
    have hF : fieldsC c = (down c.a 4) ++ (down c.b 4) ++ (down c.bl.length 2 ++ down c.du.length 2 ++ encPairs c.bl ++ encNums c.du) := by
      rw [fieldsC, hl]; simp [fieldL, List.append_assoc]
    rw [hk] at a1
    rw [← hk] at a1
    refine gg ?_; repeat (refine i_ldown (by exact sel_of rfl) (by assumption) (by rfl) ?_; refine gg ?_)
    refine i_loadN (by exact sel_of rfl) (loadN_all a1 rfl) ?_
    refine i_call1 (by exact sel_of rfl) (w_csack hv1 s11 s12 n (by omega)) ?_
    rintro _ h8 ⟨k8, o8, rfl, a8⟩
    refine gg ?_; repeat (refine i_ldown (by exact sel_of rfl) (by assumption) (by rfl) ?_; refine gg ?_)
    exact FldQ.of (k1.trans k8) (a8.mono k1.next) (by rw [hF]; simp [List.append_assoc])
  · have hl : lets c.k = [65] := by rw [hk]; rfl
    have hF : fieldsC c = (down c.a 4) := by
      rw [fieldsC, hl]; simp [fieldL, List.append_assoc]
    rw [hk] at a1
    refine gg ?_; repeat (refine i_ldown (by exact sel_of rfl) (by assumption) (by rfl) ?_; refine gg ?_)
    refine i_call2 (by first | exact sel_of rfl | exact const_of) (by exact sel_of rfl) (w_put32 (l := []) (Row.nil h1 1) c.a (by simp [down_length]) n (by omega)) ?_
    rintro _ h2 ⟨k2, qq2, rfl, ap2⟩
    have a2 := (k2.get _ x1).trans a1
    have x2 := Nat.lt_of_lt_of_le x1 k2.next
    refine gg ?_; repeat (refine i_ldown (by exact sel_of rfl) (by assumption) (by rfl) ?_; refine gg ?_)
    exact FldQ.of (k1.trans k2) (ap2.mono k1.next) (by rw [hF]; simp)
  · have hl : lets c.k = [] := by rw [hk]; rfl
    have hF : fieldsC c = [] := by
      rw [fieldsC, hl]; simp [fieldL, List.append_assoc]
    rw [hk] at a1
    refine gg ?_; repeat (refine i_ldown (by exact sel_of rfl) (by assumption) (by rfl) ?_; refine gg ?_)
    have hd : c.da = [] := by
      rw [hl] at s9
      exact s9.elim (fun h => absurd h (by simp)) id
    refine ⟨k1, o5, c5, ?_, ?_, ?_⟩
    · rw [hF, hd]
    · rw [hF, ← hd]; exact r5.keeps k1
    · rw [hF]; exact Nat.zero_le _
  · have hl : lets c.k = [] := by rw [hk]; rfl
    have hF : fieldsC c = [] := by
      rw [fieldsC, hl]; simp [fieldL, List.append_assoc]
    rw [hk] at a1
    refine gg ?_; repeat (refine i_ldown (by exact sel_of rfl) (by assumption) (by rfl) ?_; refine gg ?_)
    have hd : c.da = [] := by
      rw [hl] at s9
      exact s9.elim (fun h => absurd h (by simp)) id
    refine ⟨k1, o5, c5, ?_, ?_, ?_⟩
    · rw [hF, hd]
    · rw [hF, ← hd]; exact r5.keeps k1
    · rw [hF]; exact Nat.zero_le _
  · have hl : lets c.k = [] := by rw [hk]; rfl
    have hF : fieldsC c = [] := by
      rw [fieldsC, hl]; simp [fieldL, List.append_assoc]
    rw [hk] at a1
    refine gg ?_; repeat (refine i_ldown (by exact sel_of rfl) (by assumption) (by rfl) ?_; refine gg ?_)
    have hd : c.da = [] := by
      rw [hl] at s9
      exact s9.elim (fun h => absurd h (by simp)) id
    refine ⟨k1, o5, c5, ?_, ?_, ?_⟩
    · rw [hF, hd]
    · rw [hF, ← hd]; exact r5.keeps k1
    · rw [hF]; exact Nat.zero_le _
  · have hl : lets c.k = [65, 83] := by rw [hk]; rfl
    have hF : fieldsC c = (down c.a 4) ++ (encPairs c.sk) := by
      rw [fieldsC, hl]; simp [fieldL, List.append_assoc]
    rw [hk] at a1
    refine gg ?_; repeat (refine i_ldown (by exact sel_of rfl) (by assumption) (by rfl) ?_; refine gg ?_)
    refine i_call2 (by first | exact sel_of rfl | exact const_of) (by exact sel_of rfl) (w_put32 (l := []) (Row.nil h1 1) c.a (by simp [down_length]) n (by omega)) ?_
    rintro _ h2 ⟨k2, qq2, rfl, ap2⟩
    have a2 := (k2.get _ x1).trans a1
    have x2 := Nat.lt_of_lt_of_le x1 k2.next
    refine gg ?_; repeat (refine i_ldown (by exact sel_of rfl) (by assumption) (by rfl) ?_; refine gg ?_)
    have kk2 := k1.trans k2
    have ap2 := ap2.mono (B' := h.next) k1.next
    have e0 : ([] ++ down c.a 4) = down c.a 4 := rfl
    rw [e0] at ap2
    rw [e0]
    have lb : (down c.a 4).length = 4 := by simp [down_length]
    generalize down c.a 4 = base at *
    refine o_up c.sk.length (fun i f h' => ∃ o', Sl [(79, .int .i64 (i : Int)), (78, .int .i64 (c.sk.length : Int)), (77, .slice o3 c.sk.length c3), (3, .slice o' (base ++ encPairs (c.sk.take i)).length (base ++ encPairs (c.sk.take i)).length), (1, .pointer (some ⟨h.next, 0, none⟩))] f ∧ Keeps h2 h' ∧ Ap h.next h' 5 1 o' (base ++ encPairs (c.sk.take i)).length (base ++ encPairs (c.sk.take i)).length (u8s (base ++ encPairs (c.sk.take i)))) (by omega) ?_ ?_
    · exact ⟨qq2, ⟨sel_of rfl, sel_of rfl, sel_of rfl, sel_of (by rw [List.take_zero, show encPairs [] = [] from rfl, List.append_nil]; rfl), sel_of rfl, trivial⟩, Keeps.refl _, by rw [List.take_zero, show encPairs [] = [] from rfl, List.append_nil]; exact ap2⟩
    rintro i f h' hi ⟨o', hs, k, ap⟩
    obtain ⟨f0, rfl⟩ := hs.puts
    simp only [c53_0]
    have hep := encPairs_len (c.sk.take i)
    rw [List.length_take] at hep
    refine gg ?_; repeat (refine i_ldown (by exact sel_of rfl) (by assumption) (by rfl) ?_; refine gg ?_)
    refine out_if (by exact sel_of rfl) (fun hif => ?_) (fun hif => ?_)
    · obtain ⟨p, hp⟩ : ∃ p, c.sk[i]? = some p := ⟨_, List.getElem?_eq_getElem (by omega)⟩
      refine gg ?_; repeat (refine i_ldown (by exact sel_of rfl) (by assumption) (by rfl) ?_; refine gg ?_)
      have rr := r3.keeps (kk2.trans k)
      refine i_idx (by exact sel_of rfl) rr (i := i) (by exact sel_of rfl) (by omega) fun u hu => ?_
      subst hu
      refine i_loadN (v := [.int .u16 (p.1 : Int), .int .u16 (p.2 : Int)]) (by exact sel_of rfl) (by rw [← pr16_at hp]; exact rr.cells (by omega) (some 0)) ?_
      refine gg ?_
      refine i_storeF (vs := [.int .u16 (p.1 : Int), .int .u16 (p.2 : Int)]) (Keeps.new h' _) (Nat.le_refl _) (by exact sel_of rfl) (by rfl) (by rw [Heap.get_new, if_pos rfl]) rfl rfl (Nat.lt_succ_self _) fun g2 kg2 t2 lt2 => ?_
      refine gg ?_; repeat (refine i_ldown (by exact sel_of rfl) (by assumption) (by rfl) ?_; refine gg ?_)
      refine i_call2 (by exact sel_of rfl) (by exact sel_of rfl) (w_put16 (ap.keeps kg2).row p.1 (by simp [down_length, encPairs_len]; omega) n (by omega)) ?_
      rintro _ g3 ⟨kg3, q3, rfl, aq3⟩
      have t3 := (kg3.get _ lt2).trans t2
      refine gg ?_; repeat (refine i_ldown (by exact sel_of rfl) (by assumption) (by rfl) ?_; refine gg ?_)
      refine i_call2 (by exact sel_of rfl) (by exact sel_of rfl) (w_put16 aq3.row p.2 (by simp [down_length, encPairs_len]; omega) n (by omega)) ?_
      rintro _ g4 ⟨kg4, q4, rfl, aq4⟩
      refine gg ?_; repeat (refine i_ldown (by exact sel_of rfl) (by assumption) (by rfl) ?_; refine gg ?_)
      refine ⟨chk_cons rfl (ldO (by exact sel_of rfl) t3 (by rfl)) (sv_int _ _) (fun m hm => by
        simp only [List.mem_cons, List.not_mem_nil, or_false] at hm
        rcases hm with rfl | rfl
        · exact ⟨_, _, rfl, ldO (by exact sel_of rfl) t2 (by rfl)⟩
        · exact ⟨_, _, rfl, ldO (by exact sel_of rfl) t3 (by rfl)⟩) chk_nil, ?_⟩
      refine gg ?_
      have e : base ++ encPairs (c.sk.take i) ++ down p.1 2 ++ down p.2 2 = base ++ encPairs (c.sk.take (i + 1)) := by
        rw [List.take_add_one, hp, Option.toList_some, encPairs, encPairs, List.flatMap_append, List.flatMap_cons, List.flatMap_nil, List.append_nil, encPair]
        simp only [List.append_assoc]
      rw [e] at aq4
      rw [e]
      exact rnd_up (by omega) ⟨q4, ⟨sel_of rfl, sel_of rfl, sel_of rfl, sel_of rfl, sel_of rfl, trivial⟩, k.trans (kg2.trans (kg3.trans kg4)), aq4.mono (by have := kg2.next; have := kg3.next; have := k.next; have := kk2.next; omega)⟩
    rw [List.take_of_length_le (by omega)] at ap
    rw [List.take_of_length_le (by omega)]
    refine gg ?_; repeat (refine i_ldown (by exact sel_of rfl) (by assumption) (by rfl) ?_; refine gg ?_)
    exact FldQ.of (kk2.trans k) ap (by rw [hF])
  · have hl : lets c.k = [68] := by unfold lets; simp only [hk, if_false, or_self]
    have hF : fieldsC c = (c.da) := by
      rw [fieldsC, hl]; simp [fieldL, List.append_assoc]
    refine gg ?_; repeat (refine i_ldown (by exact sel_of rfl) (by assumption) (by rfl) ?_; refine gg ?_)
    refine ⟨k1, o5, c5, ?_, ?_, ?_⟩
    · rw [hF]
    · rw [hF]; exact r5.keeps k1
    · rw [hF]; exact b5
end Go.Proofs.Ytdcllpjoejkpnaa

