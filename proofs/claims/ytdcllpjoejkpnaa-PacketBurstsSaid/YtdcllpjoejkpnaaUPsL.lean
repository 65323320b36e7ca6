/- Part of a proof by an abstract run of the program's code: UPsL. No condition. -/
import Derived.Test.YtdcllpjoejkpnaaUPkT
import Derived.Test.YtdcllpjoejkpnaaUPkB
/-! The law PacketSums, walked. -/
set_option linter.unusedVariables false
namespace Go.Proofs.Ytdcllpjoejkpnaa
open Go Vm
theorem encs_four {l : List Chk} (h0 : l ≠ []) (hsh : ∀ x ∈ l, x.shaped) : 4 ≤ (encs l).length := by
  obtain ⟨x, r, e⟩ : ∃ x r, l = x :: r := by
    cases hp : l with
    | nil => exact absurd hp h0
    | cons x r => exact ⟨x, r, rfl⟩
  obtain ⟨d3, d4, d5⟩ := encC_len (hsh x (by rw [e]; simp))
  rw [e, show encs (x :: r) = (encC x).1 ++ encs r from rfl, List.length_append]
  omega
theorem goodPk_shaped {t : List Nat} {p : Pk} (hb : ¬badPk t p) : p.l ≠ [] ∧ ∀ x ∈ p.l, x.shaped :=
  ⟨fun e => hb (.inr (.inl e)), fun x hx => Classical.byContradiction fun e => hb (.inr (.inr (.inr (by
    rw [List.any_eq_true]; exact ⟨x, hx, by simp [e]⟩))))⟩
theorem sums_differ {p : Pk} {tag : Nat} (ht : tag < 4294967296) (hp : p.tag < 4294967296) (hne : tag ≠ p.tag) : le4 (sumPk crcTab p) ≠ le4 (sumPk crcTab ⟨p.from_, p.to_, tag, p.l⟩) := by
  intro e
  have e1 := le4_inj (crcC_lt crcTab_lt _) (crcC_lt crcTab_lt _) e
  have e2 : crcC crcTab ((down p.from_ 2 ++ down p.to_ 2) ++ down p.tag 4 ++ ([0, 0, 0, 0] ++ encs p.l)) = crcC crcTab ((down p.from_ 2 ++ down p.to_ 2) ++ down tag 4 ++ ([0, 0, 0, 0] ++ encs p.l)) := by
    rw [← List.append_assoc, ← List.append_assoc]
    exact e1
  have e3 := crc_burst (down_length _ _) (down_length _ _) e2
  have := congrArg num e3
  rw [num_four_down _ ht, num_four_down _ hp] at this
  exact hne this.symm
set_option maxHeartbeats 4000000 in
theorem w_lsums {h : Heap} {p : Pk} {pv : List Value} (hpv : PkV h p pv) (hb : p.from_ < 65536 ∧ p.to_ < 65536 ∧ p.tag < 4294967296) {tag : Nat} (htag : tag < 4294967296) (n : Nat) (hn : 103000 ≤ n) :
    ResQ (callN Try.prog G0 n (.call 8 [.agg pv.toArray, .int .u32 (tag : Int)]) h) (fun u h' => u = .bool true) := by
  have hpv0 := hpv
  have lp := hpv.len
  obtain ⟨n, rfl⟩ : ∃ m, n = m + 1 := ⟨n - 1, by omega⟩
  refine res_enter rfl d8 rfl ?_; simp only [c8]
  obtain ⟨g1, k1, n1⟩ := box_one h (.cells 27 pv.toArray.toList (.own false))
  refine o_cut (fun a h' => h' = (h.new (.cells 27 pv.toArray.toList (.own false))) ∧ Sl [(2, .pointer (some ⟨h.next, 0, none⟩)), (1, .int .u32 (tag : Int))] a) ?_ ?_
  · refine gg ?_
    exact ⟨rfl, rfl, sel_of rfl, sel_of rfl, trivial⟩
  rintro a h1 ⟨hh, hs⟩
  rw [← hh] at g1 k1 n1
  clear hh
  obtain ⟨f0, rfl⟩ := hs.puts
  have b1 : h.next < h1.next := by omega
  have hq : PkV h1 p pv := hpv.keeps k1
  obtain ⟨ol, cl, els, rfl, rl, el, hcl⟩ := hpv
  refine gg ?_
  refine i_call0 (w_awake h1 n (by omega)) ?_
  rintro _ _ ⟨rfl, rfl⟩
  refine gg ?_; repeat (refine i_ldown (by exact sel_of rfl) (by assumption) (by rfl) ?_; refine gg ?_)
  refine i_call1 (by exact sel_of rfl) (w_pfew (rl.keeps k1) (el.keeps k1) n (by omega)) ?_
  rintro _ h2 ⟨rfl, k2⟩
  by_cases hf : fewL p.l
  case neg =>
    rw [decide_eq_false hf]
    refine gg ?_; repeat (refine i_ldown (by exact sel_of rfl) (by assumption) (by rfl) ?_; refine gg ?_)
    rfl
  rw [decide_eq_true hf]
  have d1 := (k2.get _ b1).trans g1
  have b2 := Nat.lt_of_lt_of_le b1 k2.next
  refine gg ?_; repeat (refine i_ldown (by exact sel_of rfl) (by assumption) (by rfl) ?_; refine gg ?_)
  by_cases hte : tag = p.tag
  · rw [decide_eq_true (p := ((tag : Nat) : Int) = ((p.tag : Nat) : Int)) (by omega)]
    refine gg ?_
    rfl
  rw [decide_eq_false (p := ((tag : Nat) : Int) = ((p.tag : Nat) : Int)) (by omega)]
  refine gg ?_
  refine i_call0 (w_tableX n (by omega)) ?_
  rintro _ h3 ⟨k3, ot, rfl, rt⟩
  have d2 := (k3.get _ b2).trans d1
  have b3 := Nat.lt_of_lt_of_le b2 k3.next
  have hbt := crcTab_lt
  have h256 := crcTab_len
  generalize hT : crcTab = T at *
  refine gg ?_
  refine i_loadN (by exact sel_of rfl) (loadN_all (by assumption) (by first | rfl | assumption)) ?_
  refine gg ?_
  refine i_storeF (Keeps.new h3 _) (Nat.le_refl _) (by exact sel_of rfl) (by rfl) (by rw [Heap.get_new, if_pos rfl]) lp rfl (Nat.lt_succ_self _) fun h4 k4 g4 x4 => ?_
  have d3 := (k4.get _ b3).trans d2
  have b4 := Nat.lt_of_lt_of_le b3 k4.next
  refine gg ?_
  refine i_store1 (u := ⟨h3.next, 0 + 2, none⟩) (v := .int .u32 (tag : Int)) (by exact sel_of rfl) (by rfl) g4 (by show 2 < 4; decide) ?_
  have k45 : Keeps h3 (h4.put h3.next (.cells 27 ([Value.int .u16 (p.from_ : Int), .int .u16 (p.to_ : Int), .int .u32 (p.tag : Int), .slice ol p.l.length cl].set (0 + 2) (.int .u32 (tag : Int))) (.own false))) := k4.put (Nat.le_refl _) _
  have g5 : (h4.put h3.next (.cells 27 ([Value.int .u16 (p.from_ : Int), .int .u16 (p.to_ : Int), .int .u32 (p.tag : Int), .slice ol p.l.length cl].set (0 + 2) (.int .u32 (tag : Int))) (.own false))).get h3.next = some (.cells 27 [.int .u16 (p.from_ : Int), .int .u16 (p.to_ : Int), .int .u32 (tag : Int), .slice ol p.l.length cl] (.own false)) := by
    rw [Heap.get_put, if_pos rfl]; rfl
  have x5 : h3.next < (h4.put h3.next (.cells 27 ([Value.int .u16 (p.from_ : Int), .int .u16 (p.to_ : Int), .int .u32 (p.tag : Int), .slice ol p.l.length cl].set (0 + 2) (.int .u32 (tag : Int))) (.own false))).next := x4
  generalize (h4.put h3.next (.cells 27 ([Value.int .u16 (p.from_ : Int), .int .u16 (p.to_ : Int), .int .u32 (p.tag : Int), .slice ol p.l.length cl].set (0 + 2) (.int .u32 (tag : Int))) (.own false))) = h5 at *
  have d5 := (k45.get _ b3).trans d2
  have b5 := Nat.lt_of_lt_of_le b3 k45.next
  have k15 := k2.trans (k3.trans k45)
  have rt5 := rt.keeps k45
  clear k4 g4 x4 d3 b4
  refine gg ?_
  refine i_loadN (by exact sel_of rfl) (loadN_all (by assumption) (by first | rfl | assumption)) ?_
  refine gg ?_
  refine i_call2 (by exact sel_of rfl) (by exact sel_of rfl) (w_pencodeX rt5 hbt (hq.keeps k15) hf.1 n (by omega)) ?_
  rintro _ h6 ⟨⟨k6, o6, c6, rfl, r6, hc6⟩, _⟩
  have g6 := (k6.get _ x5).trans g5
  refine gg ?_
  refine i_loadN (by exact sel_of rfl) (loadN_all (by assumption) (by first | rfl | assumption)) ?_
  refine gg ?_
  have hq6 : PkV h6 ⟨p.from_, p.to_, tag, p.l⟩ [.int .u16 (p.from_ : Int), .int .u16 (p.to_ : Int), .int .u32 (tag : Int), .slice ol p.l.length cl] := ⟨ol, cl, els, rfl, ((rl.keeps k1).keeps k15).keeps k6, ((el.keeps k1).keeps k15).keeps k6, hcl⟩
  refine i_call2 (by exact sel_of rfl) (by exact sel_of rfl) (w_pencodeX (rt5.keeps k6) hbt hq6 hf.1 n (by omega)) ?_
  rintro _ h7 ⟨⟨k7, o7, c7, rfl, r7, hc7⟩, _⟩
  have r6 := r6.keeps k7
  clear rt rt5 g6 g5 d1 d2 d5 hq6 k1 k2 k3 k45 k15 k6 k7 g1 rl el hpv0
  by_cases hbad : badPk T p
  · have e1 : encPk T p = ([], 1) := by rw [encPk, if_pos hbad]
    have e2 : encPk T ⟨p.from_, p.to_, tag, p.l⟩ = ([], 1) := by rw [encPk, if_pos (show badPk T ⟨p.from_, p.to_, tag, p.l⟩ from hbad)]
    rw [e1, e2]
    refine gg ?_
    rfl
  by_cases hbig : bigPk p
  · have e1 : encPk T p = ([], 10) := by rw [encPk, if_neg hbad, if_pos hbig]
    have e2 : encPk T ⟨p.from_, p.to_, tag, p.l⟩ = ([], 10) := by rw [encPk, if_neg (show ¬badPk T ⟨p.from_, p.to_, tag, p.l⟩ from hbad), if_pos (show bigPk ⟨p.from_, p.to_, tag, p.l⟩ from hbig)]
    rw [e1, e2]
    refine gg ?_
    rfl
  have e1 : encPk T p = (hdr p ++ le4 (sumPk T p) ++ encs p.l, 0) := by rw [encPk, if_neg hbad, if_neg hbig]
  have e2 : encPk T ⟨p.from_, p.to_, tag, p.l⟩ = (hdr ⟨p.from_, p.to_, tag, p.l⟩ ++ le4 (sumPk T ⟨p.from_, p.to_, tag, p.l⟩) ++ encs p.l, 0) := by rw [encPk, if_neg (show ¬badPk T ⟨p.from_, p.to_, tag, p.l⟩ from hbad), if_neg (show ¬bigPk ⟨p.from_, p.to_, tag, p.l⟩ from hbig)]
  have hne : le4 (sumPk T p) ≠ le4 (sumPk T ⟨p.from_, p.to_, tag, p.l⟩) := by rw [← hT]; exact sums_differ htag hb.2.2 hte
  obtain ⟨hl0, hsh⟩ := goodPk_shaped hbad
  have hge := encs_four hl0 hsh
  have hlt : (encs p.l).length ≤ 1188 := by
    have : ¬(1200 < 12 + (encs p.l).length) := fun h => hbig (.inr h)
    omega
  rw [e1] at r6 hc6 ⊢
  rw [e2] at r7 hc7 ⊢
  have hl4 : ∀ s, (le4 s).length = 4 := fun s => rfl
  have hX : (hdr p).length = 8 := by simp [hdr, down_length]
  have hX' : (hdr ⟨p.from_, p.to_, tag, p.l⟩).length = 8 := by simp [hdr, down_length]
  have h4 : (hdr p).take 4 = (hdr ⟨p.from_, p.to_, tag, p.l⟩).take 4 := by
    rw [hdr, hdr, List.take_left' (by simp [down_length]), List.take_left' (by simp [down_length])]
  generalize hdr p = X at *
  generalize hdr ⟨p.from_, p.to_, tag, p.l⟩ = X' at *
  generalize hC : le4 (sumPk T p) = C at *
  generalize hC' : le4 (sumPk T ⟨p.from_, p.to_, tag, p.l⟩) = C' at *
  have lC : C.length = 4 := by rw [← hC]; rfl
  have lC' : C'.length = 4 := by rw [← hC']; rfl
  generalize encs p.l = E at *
  have sA : ((X ++ C ++ E).drop 8).take 4 = C := by rw [List.append_assoc, List.drop_left' hX, List.take_left' lC]
  have sB : ((X' ++ C' ++ E).drop 8).take 4 = C' := by rw [List.append_assoc, List.drop_left' hX', List.take_left' lC']
  have tA : (X ++ C ++ E).drop 12 = E := List.drop_left' (by rw [List.length_append]; omega)
  have tB : (X' ++ C' ++ E).drop 12 = E := List.drop_left' (by rw [List.length_append]; omega)
  have uA : (X ++ C ++ E).take 4 = X.take 4 := by rw [List.append_assoc, List.take_append_of_le_length (by omega)]
  have uB : (X' ++ C' ++ E).take 4 = X'.take 4 := by rw [List.append_assoc, List.take_append_of_le_length (by omega)]
  have lA : (X ++ C ++ E).length = 12 + E.length := by simp only [List.length_append]; omega
  have lB : (X' ++ C' ++ E).length = 12 + E.length := by simp only [List.length_append]; omega
  show ItQ (runItems _ _ (puts (_ :: _) _) _) _
  generalize X ++ C ++ E = A at *
  generalize X' ++ C' ++ E = B at *
  simp only [lA] at r6 hc6 ⊢
  simp only [lB] at r7 hc7 ⊢
  refine gg ?_
  refine i_sl (b := 8) (t := 12) (by exact sel_of rfl) r6 hc6 (by first | exact sel_of rfl | exact const_of) (by first | exact sel_of rfl | exact const_of) (by omega) (by omega) fun o8 hn8 r8 => ?_
  rw [show (12 - 8) * 1 = 4 from rfl, Nat.mul_one, ← u8s_drop, ← u8s_take, sA] at r8
  refine gg ?_
  refine i_sl (b := 8) (t := 12) (by exact sel_of rfl) r7 hc7 (by first | exact sel_of rfl | exact const_of) (by first | exact sel_of rfl | exact const_of) (by omega) (by omega) fun o9 hn9 r9 => ?_
  rw [show (12 - 8) * 1 = 4 from rfl, Nat.mul_one, ← u8s_drop, ← u8s_take, sB] at r9
  refine gg ?_
  refine i_call2 (by exact sel_of rfl) (by exact sel_of rfl) (w_same r8 r9 n (by omega)) ?_
  rintro _ _ ⟨rfl, rfl⟩
  rw [decide_eq_false hne]
  refine gg ?_
  refine i_sl_lo (i := 12) (by exact sel_of rfl) r6 hc6 (by first | exact sel_of rfl | exact const_of) (by omega) fun oa hna ra => ?_
  rw [Nat.mul_one, ← u8s_drop, tA] at ra
  refine gg ?_
  refine i_sl_lo (i := 12) (by exact sel_of rfl) r7 hc7 (by first | exact sel_of rfl | exact const_of) (by omega) fun ob hnb rb => ?_
  rw [Nat.mul_one, ← u8s_drop, tB] at rb
  refine gg ?_
  refine i_call2 (by exact sel_of rfl) (by exact sel_of rfl) (w_same ra rb n (by omega)) ?_
  rintro _ _ ⟨rfl, rfl⟩
  rw [decide_eq_true (rfl : E = E)]
  refine gg ?_
  refine i_sl_hi (i := 4) (by exact sel_of rfl) r6 hc6 (by first | exact sel_of rfl | exact const_of) (by omega) fun rc => ?_
  rw [Nat.mul_one, ← u8s_take, uA] at rc
  refine gg ?_
  refine i_sl_hi (i := 4) (by exact sel_of rfl) r7 hc7 (by first | exact sel_of rfl | exact const_of) (by omega) fun rd => ?_
  rw [Nat.mul_one, ← u8s_take, uB, ← h4] at rd
  refine gg ?_
  refine i_call2 (by exact sel_of rfl) (by exact sel_of rfl) (w_same rc rd n (by omega)) ?_
  rintro _ _ ⟨rfl, rfl⟩
  rw [decide_eq_true (rfl : X.take 4 = X.take 4)]
  refine gg ?_
  rfl
end Go.Proofs.Ytdcllpjoejkpnaa

/-! A checksum that does not fit, walked. -/
set_option linter.unusedVariables false
namespace Go.Proofs.Ytdcllpjoejkpnaa
open Go Vm
set_option maxHeartbeats 4000000 in
theorem w_soundG {h : Heap} {ot o : Option Addr} {ct c : Nat} {t : List Nat} {X Y : List UInt8} {c0 c1 c2 c3 : UInt8} (ht : Row h 1 ot t.length (n32 t)) (h256 : t.length = 256) (hb : ∀ v ∈ t, v < 4294967296) (hX : X.length = 8)
    (hne : [c0, c1, c2, c3] ≠ le4 (crcC t (X ++ [0, 0, 0, 0] ++ Y)))
    (hr : Row h 1 o (X ++ [c0, c1, c2, c3] ++ Y).length (u8s (X ++ [c0, c1, c2, c3] ++ Y))) (hlen : Y.length ≤ 1200) (n : Nat) (hn : 2000 ≤ n) :
    ResQ (callN Try.prog G0 n (.call 44 [.slice ot t.length ct, .slice o (X ++ [c0, c1, c2, c3] ++ Y).length c]) h) (fun v h' => v = .bool false ∧ Keeps h h') := by
  have hS := crcC_lt hb (X ++ [0, 0, 0, 0] ++ Y)
  have hl4 : [c0, c1, c2, c3].length = 4 := rfl
  have hZl : (X ++ [0, 0, 0, 0] ++ Y).length = (X ++ [c0, c1, c2, c3] ++ Y).length := by simp only [List.length_append, hl4, List.length_cons, List.length_nil]
  have hZ12 : (X ++ [c0, c1, c2, c3] ++ Y).length = 12 + Y.length := by simp only [List.length_append, hl4, hX]
  have hget : ∀ j, j < 4 → (X ++ [c0, c1, c2, c3] ++ Y)[8 + j]? = [c0, c1, c2, c3][j]? := fun j hj => by
    rw [List.append_assoc, List.getElem?_append_right (by omega), List.getElem?_append_left (by rw [hX, hl4]; omega), hX, show 8 + j - 8 = j by omega]
  have hz : (u8s (X ++ [c0, c1, c2, c3] ++ Y)).take 8 ++ rep 4 [Value.int .u8 0] ++ (u8s (X ++ [c0, c1, c2, c3] ++ Y)).drop (8 + 4) = u8s (X ++ [0, 0, 0, 0] ++ Y) := by
    rw [← u8s_take, ← u8s_drop, List.append_assoc X, List.take_left' hX, ← List.append_assoc X, List.drop_left' (by rw [List.length_append, hX, hl4]), u8s_append, u8s_append]
    rfl
  generalize hZ : X ++ [c0, c1, c2, c3] ++ Y = Z at *
  generalize hW : X ++ [0, 0, 0, 0] ++ Y = W at *
  obtain ⟨n, rfl⟩ : ∃ m, n = m + 1 := ⟨n - 1, by omega⟩
  refine res_enter rfl d44 rfl ?_; simp only [c44]
  refine gg ?_
  refine i_call1 (by exact sel_of rfl) (w_cloneX hr (by omega) (by omega) n (by omega)) ?_
  rintro _ h1 ⟨k1, b, rfl, hbn, hblt, hg⟩
  refine gg ?_
  refine i_slX (b := 8) (t := 12) (sz := 1) (by exact sel_of rfl) (.inr rfl) (by first | exact sel_of rfl | exact const_of) (by first | exact sel_of rfl | exact const_of) (by omega) (by omega) (by omega) ?_
  refine i_clear (b := b) (off := 0 + 8 * 1) (n := 12 - 8) (by exact sel_of rfl) (by decide) hg (by show 0 + 8 * 1 + 4 ≤ _; rw [u8s_length]; omega) ?_
  have hz' : (u8s Z).take (0 + 8 * 1) ++ rep (12 - 8) [Value.int .u8 0] ++ (u8s Z).drop (0 + 8 * 1 + (rep (12 - 8) [Value.int .u8 0]).length) = u8s W := hz
  rw [hz']
  have k2 : Keeps h (h1.put b (.cells 5 (u8s W) (.own true))) := k1.put hbn _
  have row2 : Row (h1.put b (.cells 5 (u8s W) (.own true))) 1 (some ⟨b, 0, some 1⟩) W.length (u8s W) := rowB hblt (by rw [Heap.get_put, if_pos rfl])
  generalize h1.put b (.cells 5 (u8s W) (.own true)) = h2 at *
  rw [hZl] at row2
  refine gg ?_
  have hsum := w_csum (h := h2) (ct := ct) (ht.keeps k2) h256 hb (o := some ⟨b, 0, some 1⟩) (c := Z.length) (l := W) (by rw [hZl]; exact row2) (by omega) n (by omega)
  rw [hZl] at hsum
  refine i_call2 (by exact sel_of rfl) (by exact sel_of rfl) hsum ?_
  rintro _ _ ⟨rfl, rfl⟩
  generalize hSS : crcC t W = S at *
  have r2 := hr.keeps k2
  have h24 : (UInt8.ofNat (S / 2 ^ 24)).toNat = S / 2 ^ 24 := by rw [ofNat_mod256]; omega
  refine gg ?_
  refine o_up 4 (fun i f h' => Sl [(15, .int .i64 (i : Int)), (1, .slice o Z.length c), (6, .int .u32 (S : Int))] f ∧ h2 = h' ∧ [c0, c1, c2, c3].take i = (le4 S).take i) (by omega) ?_ ?_
  · exact ⟨⟨sel_of rfl, sel_of rfl, sel_of rfl, trivial⟩, rfl, rfl⟩
  rintro i f h' hi ⟨hs, rfl, heq⟩
  obtain ⟨f0, rfl⟩ := hs.puts
  simp only [c44_0]
  refine gg ?_
  refine out_if (by exact sel_of rfl) (fun hif => ?_) (fun hif => ?_)
  · have hi4 : i = 0 ∨ i = 1 ∨ i = 2 ∨ i = 3 := by omega
    rcases hi4 with rfl | rfl | rfl | rfl
    · refine gg ?_
      refine i_idx (by exact sel_of rfl) r2 (i := 8) (by exact sel_of rfl) (by omega) fun u hu => ?_
      subst hu
      refine i_load1 (v := .int .u8 ((c0.toNat : Nat) : Int)) (by exact sel_of rfl) (by rw [r2.cell (by omega), Nat.mul_one, u8s_get, hget 0 (by omega)]; rfl) ?_
      refine gg ?_
      refine i_v (v := .int .i64 ((0 : Nat) : Int)) ((int2w _ (by first | exact sel_of rfl | exact const_of) (by exact sel_of rfl) rfl).trans rfl) ?_
      refine gg ?_
      rw [Nat.pow_zero, Nat.div_one]
      by_cases e : c0 = UInt8.ofNat S
      · subst e
        refine gg ?_
        exact rnd_up (by omega) ⟨⟨sel_of rfl, sel_of rfl, sel_of rfl, trivial⟩, rfl, by simp [le4]⟩
      · have e' : c0.toNat ≠ (UInt8.ofNat S).toNat := fun h => e (UInt8.toNat_inj.1 h)
        rw [decide_eq_true (p := ((c0.toNat : Nat) : Int) ≠ (((UInt8.ofNat S).toNat : Nat) : Int)) (by omega)]
        refine gg ?_
        exact ⟨rfl, k2⟩
    · refine gg ?_
      refine i_idx (by exact sel_of rfl) r2 (i := 9) (by exact sel_of rfl) (by omega) fun u hu => ?_
      subst hu
      refine i_load1 (v := .int .u8 ((c1.toNat : Nat) : Int)) (by exact sel_of rfl) (by rw [r2.cell (by omega), Nat.mul_one, u8s_get, hget 1 (by omega)]; rfl) ?_
      refine gg ?_
      refine i_v (v := .int .i64 ((8 : Nat) : Int)) ((int2w _ (by first | exact sel_of rfl | exact const_of) (by exact sel_of rfl) rfl).trans rfl) ?_
      refine gg ?_
      by_cases e : c1 = UInt8.ofNat (S / 2 ^ 8)
      · subst e
        refine gg ?_
        exact rnd_up (by omega) ⟨⟨sel_of rfl, sel_of rfl, sel_of rfl, trivial⟩, rfl, by simpa [le4] using heq⟩
      · have e' : c1.toNat ≠ (UInt8.ofNat (S / 2 ^ 8)).toNat := fun h => e (UInt8.toNat_inj.1 h)
        rw [decide_eq_true (p := ((c1.toNat : Nat) : Int) ≠ (((UInt8.ofNat (S / 2 ^ 8)).toNat : Nat) : Int)) (by omega)]
        refine gg ?_
        exact ⟨rfl, k2⟩
    · refine gg ?_
      refine i_idx (by exact sel_of rfl) r2 (i := 10) (by exact sel_of rfl) (by omega) fun u hu => ?_
      subst hu
      refine i_load1 (v := .int .u8 ((c2.toNat : Nat) : Int)) (by exact sel_of rfl) (by rw [r2.cell (by omega), Nat.mul_one, u8s_get, hget 2 (by omega)]; rfl) ?_
      refine gg ?_
      refine i_v (v := .int .i64 ((16 : Nat) : Int)) ((int2w _ (by first | exact sel_of rfl | exact const_of) (by exact sel_of rfl) rfl).trans rfl) ?_
      refine gg ?_
      by_cases e : c2 = UInt8.ofNat (S / 2 ^ 16)
      · subst e
        refine gg ?_
        exact rnd_up (by omega) ⟨⟨sel_of rfl, sel_of rfl, sel_of rfl, trivial⟩, rfl, by simpa [le4] using heq⟩
      · have e' : c2.toNat ≠ (UInt8.ofNat (S / 2 ^ 16)).toNat := fun h => e (UInt8.toNat_inj.1 h)
        rw [decide_eq_true (p := ((c2.toNat : Nat) : Int) ≠ (((UInt8.ofNat (S / 2 ^ 16)).toNat : Nat) : Int)) (by omega)]
        refine gg ?_
        exact ⟨rfl, k2⟩
    · refine gg ?_
      refine i_idx (by exact sel_of rfl) r2 (i := 11) (by exact sel_of rfl) (by omega) fun u hu => ?_
      subst hu
      refine i_load1 (v := .int .u8 ((c3.toNat : Nat) : Int)) (by exact sel_of rfl) (by rw [r2.cell (by omega), Nat.mul_one, u8s_get, hget 3 (by omega)]; rfl) ?_
      refine gg ?_
      refine i_v (v := .int .i64 ((24 : Nat) : Int)) ((int2w _ (by first | exact sel_of rfl | exact const_of) (by exact sel_of rfl) rfl).trans rfl) ?_
      refine gg ?_
      by_cases e : c3 = UInt8.ofNat (S / 2 ^ 24)
      · exact absurd (by subst e; simpa [le4] using heq) hne
      · have e' : c3.toNat ≠ (UInt8.ofNat (S / 2 ^ 24)).toNat := fun h => e (UInt8.toNat_inj.1 h)
        rw [decide_eq_true (p := ((c3.toNat : Nat) : Int) ≠ ((S / 2 ^ 24 : Nat) : Int)) (by omega)]
        refine gg ?_
        exact ⟨rfl, k2⟩
  · obtain rfl : i = 4 := by omega
    exact absurd heq hne
set_option maxHeartbeats 4000000 in
theorem w_pdecodeU {h : Heap} {ot o : Option Addr} {ct c : Nat} {t : List Nat} {X Y : List UInt8} {c0 c1 c2 c3 : UInt8} (ht : Row h 1 ot t.length (n32 t)) (h256 : t.length = 256) (hb : ∀ v ∈ t, v < 4294967296) (hX : X.length = 8)
    (hne : [c0, c1, c2, c3] ≠ le4 (crcC t (X ++ [0, 0, 0, 0] ++ Y)))
    (hr : Row h 1 o (X ++ [c0, c1, c2, c3] ++ Y).length (u8s (X ++ [c0, c1, c2, c3] ++ Y))) (h4 : 4 ≤ Y.length) (hlen : Y.length ≤ 1188) (n : Nat) (hn : 2100 ≤ n) :
    ResQ (callN Try.prog G0 n (.call 24 [.slice ot t.length ct, .slice o (X ++ [c0, c1, c2, c3] ++ Y).length c]) h) (fun v h' => Keeps h h' ∧ v = .tuple #[.agg #[.int .u16 0, .int .u16 0, .int .u32 0, .slice none 0 0], .int .i64 4]) := by
  have hZ12 : (X ++ [c0, c1, c2, c3] ++ Y).length = 12 + Y.length := by simp only [List.length_append, hX, List.length_cons, List.length_nil]
  obtain ⟨n, rfl⟩ : ∃ m, n = m + 1 := ⟨n - 1, by omega⟩
  refine res_enter rfl d24 rfl ?_; simp only [c24]
  obtain ⟨a1, k1, n1⟩ := box_one h (.cells 27 [.int .u16 0, .int .u16 0, .int .u32 0, .slice none 0 0] (.own false))
  refine gg ?_
  generalize (h.new (.cells 27 [.int .u16 0, .int .u16 0, .int .u32 0, .slice none 0 0] (.own false))) = h1 at *
  have x1 : h.next < h1.next := by omega
  rw [decide_eq_false (p := ((t.length : Nat) : Int) ≠ 256) (by omega)]
  refine gg ?_
  have hsnd := w_soundG (ct := ct) (c := c) (ht.keeps k1) h256 hb hX hne (hr.keeps k1) (by omega) n (by omega)
  rw [hZ12] at hsnd ⊢
  rw [decide_eq_false (p := (1200 : Int) < ((12 + Y.length : Nat) : Int)) (by omega)]
  refine gg ?_
  rw [decide_eq_false (p := ((12 + Y.length : Nat) : Int) < 16) (by omega)]
  refine gg ?_
  refine i_call2 (by exact sel_of rfl) (by exact sel_of rfl) hsnd ?_
  rintro _ h2 ⟨rfl, k2⟩
  have a2 := (k2.get _ x1).trans a1
  refine gg ?_
  refine i_storeP (b := h.next) (s := none) (vs := [.int .u16 0, .int .u16 0, .int .u32 0, .slice none 0 0]) (by exact sel_of rfl) (by rfl) a2 rfl rfl ?_
  refine gg ?_
  refine finA2 (by exact sel_of rfl) (loadN_put rfl) (by exact sel_of rfl) ?_
  exact ⟨(k1.trans k2).put (Nat.le_refl _) _, rfl⟩
end Go.Proofs.Ytdcllpjoejkpnaa

