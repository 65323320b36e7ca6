/- Part of a proof by an abstract run of the program's code: UEncA. No condition. -/
import Derived.Test.YtdcllpjoejkpnaaUActA
import Derived.Test.YtdcllpjoejkpnaaUTlvA
/-! The two encodings of parameters, and TlvEncodes, in the abstract run. -/
set_option linter.unusedVariables false
namespace Go.Proofs.Ytdcllpjoejkpnaa
open Go Vm
theorem i_storeF {rec : Rec} {L : List (Nat × Value)} {f : Fr} {h0 h : Heap} {K : Fr → Heap → Prop} {x y : Sel} {l : List ISem} {b e n : Nat} {s : Option Nat} {cs vs : List Value} {op : Bool} (k0 : Keeps h0 h) (hb : h0.next ≤ b) (hx : x.f (puts L f) = .pointer (some ⟨b, 0, s⟩)) (hy : cellsL (y.f (puts L f)) = some vs) (hg : h.get b = some (.cells e cs (.own op))) (hv : vs.length = n) (hl : cs.length = n) (hlt : b < h.next)
    (hq : ∀ h2, Keeps h0 h2 → h2.get b = some (.cells e vs (.own op)) → b < h2.next → ItQ (runItems rec l (puts L f) h2) K) : ItQ (runItems rec (iOp ⟨fun _ a => a⟩ (.e (eStore n x y)) :: l) (puts L f) h) K := by
  refine items_cons (it_e ⟨Vm.undef, h.put b (.cells e vs (.own op)), ?_, hq _ (k0.put hb _) (by rw [Heap.get_put, if_pos rfl]) hlt⟩)
  have h1 := storeN_own (s := s) (off := 0) (vs := vs) hg (by omega)
  rw [putAt_eq _ _ _ (Nat.zero_le _), List.take_zero, List.nil_append, Nat.zero_add, List.drop_eq_nil_of_le (by omega), List.append_nil] at h1
  simp only [eStore, hx, hy]
  rw [h1, hv, Nat.beq_refl]; rfl
def encP (p : Prm) : List UInt8 := (down p.1 2 ++ down (4 + p.2.length) 2 ++ p.2) ++ List.replicate ((4 - (down p.1 2 ++ down (4 + p.2.length) 2 ++ p.2).length % 4) % 4) 0
theorem encP_len (p : Prm) : (encP p).length % 4 = 0 ∧ (encP p).length ≤ p.2.length + 8 ∧ 4 ≤ (encP p).length := by
  simp only [encP, List.length_append, List.length_replicate, down_length]; omega
def encL (l : List Prm) : List UInt8 := l.flatMap encP
theorem encL_len : ∀ (l : List Prm), (∀ p ∈ l, p.2.length ≤ 1300) → (encL l).length % 4 = 0 ∧ (encL l).length ≤ 1308 * l.length
  | [], _ => ⟨rfl, Nat.le_refl _⟩
  | p :: l, h => by
    have h1 := encL_len l (fun q hq => h q (by simp [hq]))
    have h2 := encP_len p
    have h3 := h p (by simp)
    simp only [encL, List.flatMap_cons, List.length_append, List.length_cons] at h1 ⊢
    omega
theorem encL_take {l : List Prm} {i : Nat} {p : Prm} (h : l[i]? = some p) : encL (l.take (i + 1)) = encL (l.take i) ++ encP p := by
  simp [encL, List.take_add_one, h, List.flatMap_append]
def encR (l : List Prm) : List UInt8 × Nat := if 32 < l.length ∨ (l.any fun p => decide (1200 < p.2.length)) = true then ([], 10) else (encL l, 0)
def EncQ (h : Heap) (l : List Prm) (v : Value) (h' : Heap) : Prop := Keeps h h' ∧ ∃ o c, v = .tuple #[.slice o (encR l).1.length c, .int .i64 (((encR l).2 : Nat) : Int)] ∧ Row h' 1 o (encR l).1.length (u8s (encR l).1) ∧ (encR l).1.length ≤ c
theorem EncQ.bad {h h' : Heap} {l : List Prm} (k : Keeps h h') (hb : 32 < l.length ∨ (l.any fun p => decide (1200 < p.2.length)) = true) : EncQ h l (.tuple #[.slice none 0 0, .int .i64 10]) h' := by
  rw [EncQ, encR, if_pos hb]; exact ⟨k, none, 0, rfl, Row.nil _ _, Nat.le_refl _⟩
theorem EncQ.good {h h' : Heap} {l : List Prm} {o : Option Addr} (k : Keeps h h') (hb : ¬(32 < l.length ∨ (l.any fun p => decide (1200 < p.2.length)) = true)) (a : Ap h.next h' 5 1 o (encL l).length (encL l).length (u8s (encL l))) : EncQ h l (.tuple #[.slice o (encL l).length (encL l).length, .int .i64 0]) h' := by
  rw [EncQ, encR, if_neg hb]; exact ⟨k, o, _, rfl, a.row, Nat.le_refl _⟩
set_option maxHeartbeats 2000000 in
theorem w_enc {h : Heap} {o : Option Addr} {m c : Nat} {l : List Prm} {cs : List Value} (hr : Row h 2 o m cs) (hp : PrL h l cs) (hl : l.length = m) (hbig : l.length ≤ 100000) (hall : ∀ p ∈ l, p.2.length ≤ 1300) (n : Nat) (hn : 10 + l.length ≤ n) (hn' : 100 ≤ n) :
    ResQ (callN Try.prog G0 n (.call 69 [.slice o m c]) h) (EncQ h l) := by
  subst hl
  obtain ⟨n, rfl⟩ : ∃ m, n = m + 1 := ⟨n - 1, by omega⟩
  refine res_enter rfl d69 rfl ?_; simp only [c69]
  refine gg ?_
  by_cases h32 : 32 < l.length
  · refine gg ?_
    exact EncQ.bad (Keeps.refl h) (.inl h32)
  refine gg ?_
  refine i_call2 (by exact sel_of rfl) (by first | exact sel_of rfl | exact const_of) (w_hasLong hr hp rfl (by omega) n (by omega)) ?_
  rintro _ h1 ⟨rfl, k1⟩
  cases hany : (l.any fun p => decide (1200 < p.2.length)) with
  | true =>
    refine gg ?_
    exact EncQ.bad k1 (.inr hany)
  | false =>
  have hgood : ¬(32 < l.length ∨ (l.any fun p => decide (1200 < p.2.length)) = true) := by rw [hany]; simp; omega
  refine gg ?_
  refine o_up l.length (fun i f h' => ∃ o', Sl [(17, .int .i64 (i : Int)), (16, .int .i64 (l.length : Int)), (15, .slice o l.length c), (4, .slice o' (encL (l.take i)).length (encL (l.take i)).length)] f ∧ Keeps h h' ∧ Ap h.next h' 5 1 o' (encL (l.take i)).length (encL (l.take i)).length (u8s (encL (l.take i)))) (by omega) ?_ ?_
  · exact ⟨none, ⟨sel_of rfl, sel_of rfl, sel_of rfl, sel_of rfl, trivial⟩, k1, Ap.nil _ _ _ _⟩
  rintro i f h' hi ⟨o', hs, k, ap⟩
  obtain ⟨f0, rfl⟩ := hs.puts
  simp only [c69_0]
  have hlt := encL_len (l.take i) (fun p hp => hall p (List.mem_of_mem_take hp))
  rw [List.length_take] at hlt
  refine gg ?_
  refine out_if (by exact sel_of rfl) (fun hif => ?_) (fun hif => ?_)
  · obtain ⟨p, hpi⟩ : ∃ p, l[i]? = some p := ⟨_, List.getElem?_eq_getElem (by omega)⟩
    obtain ⟨x, y, e1, hxy⟩ := (hp.keeps k).pair hpi
    have hp13 := hall p (List.mem_of_getElem? hpi)
    obtain ⟨rfl, hx', o1, m1, c1, rfl, hrow, hc1⟩ := hxy
    have hm1 : p.2.length = m1 := by simpa [u8s_length] using hrow.1
    subst hm1
    refine gg ?_
    refine i_idx (by exact sel_of rfl) (hr.keeps k) (i := i) (by exact sel_of rfl) (by omega) fun u hu => ?_
    subst hu
    refine i_loadN (v := [.int .u16 (p.1 : Int), .slice o1 p.2.length c1]) (by exact sel_of rfl) (by rw [← e1]; exact (hr.keeps k).cells (by omega) (some 0)) ?_
    refine gg ?_
    refine i_storeF (vs := [.int .u16 (p.1 : Int), .slice o1 p.2.length c1]) (Keeps.new h' _) (Nat.le_refl _) (by exact sel_of rfl) (by rfl) (by rw [Heap.get_new, if_pos rfl]) rfl rfl (Nat.lt_succ_self _) fun h2 k2 g2 lt2 => ?_
    refine gg ?_
    refine i_load1 (v := .int .u16 (p.1 : Int)) (by exact sel_of rfl) (by rw [load1_own g2]; rfl) ?_
    refine gg ?_
    refine i_call2 (by first | exact sel_of rfl | exact const_of) (by exact sel_of rfl) (w_put16 (l := []) (Row.nil h2 1) p.1 (by simp) n (by omega)) ?_
    rintro _ h3 ⟨k3, o3, rfl, a3⟩
    have g3 := (k3.get _ lt2).trans g2
    have lt3 := Nat.lt_of_lt_of_le lt2 k3.next
    refine gg ?_
    refine i_load1 (v := .slice o1 p.2.length c1) (by exact sel_of rfl) (by rw [load1_own g3]; rfl) ?_
    refine gg ?_
    refine i_call2 (by exact sel_of rfl) (by exact sel_of rfl) (w_put16 a3.row (4 + p.2.length) (by simp [down_length]) n (by omega)) ?_
    rintro _ h4 ⟨k4, o4, rfl, a4⟩
    have g4 := (k4.get _ lt3).trans g3
    refine gg ?_
    refine ⟨chk_cons rfl (ld1 (by exact sel_of rfl) (by rw [load1_own g3]; rfl)) (sv_slice o1 p.2.length c1) (fun m hm => ?_) chk_nil, ?_⟩
    · simp only [List.mem_cons, List.not_mem_nil, or_false] at hm
      rcases hm with rfl | rfl
      · exact ⟨_, _, rfl, ld1 (by exact sel_of rfl) (by rw [load1_own g2]; rfl)⟩
      · exact ⟨_, _, rfl, ld1 (by exact sel_of rfl) (by rw [load1_own g3]; rfl)⟩
    refine gg ?_
    refine i_load1 (v := .slice o1 p.2.length c1) (by exact sel_of rfl) (by rw [load1_own g4]; rfl) ?_
    have k24 := k2.trans (k3.trans k4)
    refine i_app (t := (down p.1 2 ++ down (4 + p.2.length) 2 ++ p.2).length) (es := u8s (down p.1 2 ++ down (4 + p.2.length) 2 ++ p.2)) k4 (by decide) (by exact sel_of rfl) a4 (((hrow.keeps k24)).src8) (by rw [u8s_length, Nat.mul_one]) (by simp [down_length]; omega) (by simp [down_length]; omega) (by rw [u8s_append]; rfl) fun o5 h5 k5 a5 _ => ?_
    refine gg ?_
    refine i_call1 (by exact sel_of rfl) (w_pad a5.row (by simp [down_length]; omega) n (by omega)) ?_
    rintro _ h6 ⟨k6, o6, rfl, a6⟩
    have k06 := k2.trans (k3.trans (k5.trans k6))
    have hsz := encP_len p
    rw [encP] at hsz
    refine i_app (t := (encL (l.take (i + 1))).length) (es := u8s (encL (l.take (i + 1)))) (k.trans k06) (by decide) (by exact sel_of rfl) (ap.keeps k06) (a6.row.src8) (by rw [u8s_length, Nat.mul_one]) (by omega) (by simp only [encL_take hpi, List.length_append, encP]) (by simp only [encL_take hpi, u8s_append, encP]) fun o7 h7 k7 a7 _ => ?_
    refine gg ?_
    exact rnd_up (by omega) ⟨o7, ⟨sel_of rfl, sel_of rfl, sel_of rfl, sel_of rfl, trivial⟩, k7, a7⟩
  · refine gg ?_
    have e : l.take i = l := List.take_of_length_le (by omega)
    rw [e] at ap ⊢
    exact EncQ.good k hgood ap
theorem any_take {l : List Prm} {i : Nat} {p : Prm} {P : Prm → Bool} (hpi : l[i]? = some p) (h : (l.take i).any P = false) (hP : P p = false) : (l.take (i + 1)).any P = false := by
  rw [List.take_add_one, hpi, List.any_append, h]; simp [hP]
set_option maxHeartbeats 2000000 in
theorem w_renc {h : Heap} {o : Option Addr} {m c : Nat} {l : List Prm} {cs : List Value} (hr : Row h 2 o m cs) (hp : PrL h l cs) (hl : l.length = m) (hbig : l.length ≤ 100000) (hall : ∀ p ∈ l, p.2.length ≤ 1300) (n : Nat) (hn : 10 + l.length ≤ n) (hn' : 100 ≤ n) :
    ResQ (callN Try.prog G0 n (.call 57 [.slice o m c]) h) (EncQ h l) := by
  subst hl
  obtain ⟨n, rfl⟩ : ∃ m, n = m + 1 := ⟨n - 1, by omega⟩
  refine res_enter rfl d57 rfl ?_; simp only [c57]
  refine gg ?_
  refine out_if (by exact sel_of rfl) (fun hif => ?_) (fun hif => ?_)
  · refine gg ?_
    exact EncQ.bad (Keeps.refl h) (.inl (by omega))
  refine gg ?_
  refine o_up l.length (fun i f h' => ∃ o', Sl [(5, .int .i64 (i : Int)), (0, .slice o l.length c), (4, .slice o' (encL (l.take i)).length (encL (l.take i)).length)] f ∧ Keeps h h' ∧ Ap h.next h' 5 1 o' (encL (l.take i)).length (encL (l.take i)).length (u8s (encL (l.take i))) ∧ ((l.take i).any fun p => decide (1200 < p.2.length)) = false) (by omega) ?_ ?_
  · exact ⟨none, ⟨sel_of rfl, sel_of rfl, sel_of rfl, trivial⟩, Keeps.refl h, Ap.nil _ _ _ _, rfl⟩
  rintro i f h' hi ⟨o', hs, k, ap, hany⟩
  obtain ⟨f0, rfl⟩ := hs.puts
  simp only [c57_0]
  have hlt := encL_len (l.take i) (fun p hp => hall p (List.mem_of_mem_take hp))
  rw [List.length_take] at hlt
  refine gg ?_
  refine out_if (by exact sel_of rfl) (fun hif => ?_) (fun hif => ?_)
  · obtain ⟨p, hpi⟩ : ∃ p, l[i]? = some p := ⟨_, List.getElem?_eq_getElem (by omega)⟩
    obtain ⟨x, y, e1, e2, hxy⟩ := (hp.keeps k).at hpi
    have hp13 := hall p (List.mem_of_getElem? hpi)
    obtain ⟨rfl, hx', o1, m1, c1, rfl, hrow, hc1⟩ := hxy
    have hm1 : p.2.length = m1 := by simpa [u8s_length] using hrow.1
    subst hm1
    have r0 := hr.keeps k
    refine gg ?_
    refine i_idx (by exact sel_of rfl) r0 (i := i) (by exact sel_of rfl) (by omega) fun u hu => ?_
    subst hu
    refine gg ?_
    refine i_load1 (v := .slice o1 p.2.length c1) (by exact sel_of rfl) (by rw [← e2, ← r0.cell (by omega)]; rfl) ?_
    refine gg ?_
    by_cases hlong : 1200 < p.2.length
    · refine gg ?_
      exact EncQ.bad k (.inr (List.any_eq_true.2 ⟨p, List.mem_of_getElem? hpi, decide_eq_true hlong⟩))
    refine gg ?_
    refine i_idx (by exact sel_of rfl) r0 (i := i) (by exact sel_of rfl) (by omega) fun u' hu => ?_
    cases hu
    refine gg ?_
    refine i_load1 (v := .int .u16 (p.1 : Int)) (by exact sel_of rfl) (by rw [← e1, ← r0.cell (by omega)]; rfl) ?_
    refine gg ?_
    refine i_call3 (by exact sel_of rfl) (by exact sel_of rfl) (by first | exact sel_of rfl | exact const_of) (w_rput ap.row p.1 2 (by omega) (by omega) n (by omega)) ?_
    rintro _ h3 ⟨k3, o3, rfl, a3⟩
    have r3 := r0.keeps k3
    refine gg ?_
    refine i_idx (by exact sel_of rfl) r3 (i := i) (by exact sel_of rfl) (by omega) fun u' hu => ?_
    cases hu
    refine gg ?_
    refine i_load1 (v := .slice o1 p.2.length c1) (by exact sel_of rfl) (by rw [← e2, ← r3.cell (by omega)]; rfl) ?_
    refine gg ?_
    refine i_call3 (by exact sel_of rfl) (by exact sel_of rfl) (by first | exact sel_of rfl | exact const_of) (w_rput a3.row (4 + p.2.length) 2 (by omega) (by simp [down_length]; omega) n (by omega)) ?_
    rintro _ h4 ⟨k4, o4, rfl, a4⟩
    have r4 := r3.keeps k4
    refine gg ?_
    refine ⟨chk_cons rfl (ld1 (by exact sel_of rfl) (by rw [← e2, ← r3.cell (by omega)]; rfl)) (sv_slice o1 p.2.length c1) (fun m hm => ?_) chk_nil, ?_⟩
    · simp only [List.mem_cons, List.not_mem_nil, or_false] at hm
      rcases hm with rfl | rfl
      · exact ⟨_, _, rfl, ld1 (by exact sel_of rfl) (by rw [← e2, ← r0.cell (by omega)]; rfl)⟩
      · exact ⟨_, _, rfl, ld1 (by exact sel_of rfl) (by rw [← e2, ← r3.cell (by omega)]; rfl)⟩
    refine gg ?_
    refine i_idx (by exact sel_of rfl) r4 (i := i) (by exact sel_of rfl) (by omega) fun u' hu => ?_
    cases hu
    refine gg ?_
    refine i_load1 (v := .slice o1 p.2.length c1) (by exact sel_of rfl) (by rw [← e2, ← r4.cell (by omega)]; rfl) ?_
    have k24 := k3.trans k4
    refine i_app (t := (encL (l.take i) ++ down p.1 2 ++ down (4 + p.2.length) 2 ++ p.2).length) (es := u8s (encL (l.take i) ++ down p.1 2 ++ down (4 + p.2.length) 2 ++ p.2)) k4 (by decide) (by exact sel_of rfl) a4 (((hrow.keeps k24)).src8) (by rw [u8s_length, Nat.mul_one]) (by simp [down_length]; omega) (by simp [down_length]; omega) (by simp only [u8s_append]) fun o5 h5 k5 a5 _ => ?_
    refine gg ?_
    refine i_call1 (by exact sel_of rfl) (w_rpad a5.row (by simp [down_length]; omega) n (by omega)) ?_
    rintro _ h6 ⟨k6, o6, rfl, a6⟩
    have k06 := k.trans (k3.trans (k5.trans k6))
    have eq : (encL (l.take i) ++ down p.1 2 ++ down (4 + p.2.length) 2 ++ p.2) ++ List.replicate ((4 - (encL (l.take i) ++ down p.1 2 ++ down (4 + p.2.length) 2 ++ p.2).length % 4) % 4) 0 = encL (l.take (i + 1)) := by
      rw [encL_take hpi, encP]
      have : (4 - (encL (l.take i) ++ down p.1 2 ++ down (4 + p.2.length) 2 ++ p.2).length % 4) % 4 = (4 - (down p.1 2 ++ down (4 + p.2.length) 2 ++ p.2).length % 4) % 4 := by
        simp only [List.length_append, down_length]; omega
      rw [this]; simp only [List.append_assoc]
    rw [eq] at a6 ⊢
    refine gg ?_
    exact rnd_up (by omega) ⟨o6, ⟨sel_of rfl, sel_of rfl, sel_of rfl, trivial⟩, k06, a6.mono (Nat.le_trans k.next (Nat.le_trans k3.next k5.next)), any_take hpi hany (decide_eq_false hlong)⟩
  · refine gg ?_
    have e : l.take i = l := List.take_of_length_le (by omega)
    rw [e] at ap hany ⊢
    exact EncQ.good k (by rw [hany]; simp; omega) ap
end Go.Proofs.Ytdcllpjoejkpnaa

