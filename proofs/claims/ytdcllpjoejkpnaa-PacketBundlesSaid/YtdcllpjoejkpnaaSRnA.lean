/- Part of a proof by an abstract run of the program's code: SRnA. No condition. -/
import Derived.Test.YtdcllpjoejkpnaaSShA
/-! The document's octets of a chunk, walked. -/
set_option linter.unusedVariables false
namespace Go.Proofs.Ytdcllpjoejkpnaa
open Go Vm
/-- the octets of so many fields -/
def pre (c : Chk) (i : Nat) : List UInt8 := ((lets c.k).take i).flatMap (fieldL c)
theorem pre_len (c : Chk) (i : Nat) : (pre c i).length ≤ (fieldsC c).length := by
  have : fieldsC c = pre c i ++ ((lets c.k).drop i).flatMap (fieldL c) := by
    rw [pre, ← List.flatMap_append, List.take_append_drop]; rfl
  rw [this, List.length_append]; omega
theorem pre_snoc {c : Chk} {i y : Nat} (h : (lets c.k)[i]? = some y) : pre c (i + 1) = pre c i ++ fieldL c y := by
  rw [pre, List.take_add_one, h, List.flatMap_append]; simp [pre]
set_option maxHeartbeats 16000000 in
theorem w_rencode {h : Heap} {c : Chk} {v : List Value} (hv : ChV h c v) (ho : c.Ok) (hf : c.few) (n : Nat) (hn : 400 ≤ n) :
    ResQ (callN Try.prog G0 n (.call 35 [.agg v.toArray]) h) (EncCQ h c) := by
  have hv0 := hv
  obtain ⟨n, rfl⟩ : ∃ m, n = m + 1 := ⟨n - 1, by omega⟩
  refine res_enter rfl d35 rfl ?_; simp only [c35]
  obtain ⟨a1, k1, n1⟩ := box_one h (.cells 33 v.toArray.toList (.own false))
  refine o_cut (fun a h' => h' = (h.new (.cells 33 v.toArray.toList (.own false))) ∧ Sl [(1, .pointer (some ⟨h.next, 0, none⟩))] a) ?_ ?_
  · refine gg ?_
    exact ⟨rfl, rfl, sel_of rfl, trivial⟩
  rintro a h1 ⟨hh, hs⟩
  rw [← hh] at a1 k1 n1
  clear hh
  have lv := hv0.len
  obtain ⟨o1, c1, o2, c2, o3, c3, o4, c4, o5, c5, ps, rfl, r1, r2, r3, ⟨r4, p4⟩, r5, ⟨b1, b2, b3, b4, b5⟩, hk256, hf256⟩ := hv
  obtain ⟨f0, rfl⟩ := hs.puts
  have x1 : h.next < h1.next := by omega
  refine gg ?_; repeat (refine i_ldown (by exact sel_of rfl) (by assumption) (by rfl) ?_; refine gg ?_)
  refine i_loadN (by exact sel_of rfl) (loadN_all (by assumption) (by first | rfl | assumption)) ?_
  refine gg ?_
  refine i_call1 (by exact sel_of rfl) (w_rshaped (hv0.keeps k1) hf n (by omega)) ?_
  rintro _ h2 ⟨rfl, k2⟩
  by_cases hsh : c.shaped
  case neg =>
    rw [decide_eq_false hsh]
    refine gg ?_; repeat (refine i_ldown (by exact sel_of rfl) (by assumption) (by rfl) ?_; refine gg ?_)
    rw [EncCQ, encC, if_neg hsh]
    exact ⟨k1.trans k2, none, 0, rfl, Row.nil _ _, Nat.le_refl _⟩
  rw [decide_eq_true hsh]
  have a2 := (k2.get _ x1).trans a1
  have x2 := Nat.lt_of_lt_of_le x1 k2.next
  have hk2 := k1.trans k2
  have hF := fieldsC_len hsh
  have s11 := hsh.2.2.2.1
  have s12 := hsh.2.2.2.2.1
  have s13 := hsh.2.2.2.2.2.1
  have s14 := hsh.2.2.2.2.2.2.1
  have hlE := encL_lenB hsh
  have hobo := ho.o
  have hobi := ho.i
  obtain ⟨⟨f1, f2, f3, f4, f5⟩, f6⟩ := hf
  refine gg ?_; repeat (refine i_ldown (by exact sel_of rfl) (by assumption) (by rfl) ?_; refine gg ?_)
  refine i_call1 (by exact sel_of rfl) (w_rfields c.k n (by omega)) ?_
  rintro _ _ ⟨rfl, rfl⟩
  refine gg ?_; repeat (refine i_ldown (by exact sel_of rfl) (by assumption) (by rfl) ?_; refine gg ?_)
  have lb : (letb c.k).length = (lets c.k).length := by rw [letb, List.length_map]
  have lb6 : (lets c.k).length ≤ 6 := by
    rcases lets_cases c.k with ⟨_, hl⟩ | ⟨_, hl⟩ | ⟨_, hl⟩ | ⟨_, hl⟩ | ⟨_, hl⟩ | ⟨_, hl⟩ | ⟨_, hl⟩ | ⟨_, hl⟩ <;> rw [hl] <;> decide
  refine o_up (lets c.k).length (fun i f h' => ∃ o', Sl [(6, .int .i64 (i : Int)), (5, .string ⟨(letb c.k).toArray⟩), (4, .slice o' (pre c i).length (pre c i).length), (1, .pointer (some ⟨h.next, 0, none⟩))] f ∧ Keeps h2 h' ∧ Ap h2.next h' 5 1 o' (pre c i).length (pre c i).length (u8s (pre c i))) (by omega) ?_ ?_
  · exact ⟨none, ⟨sel_of rfl, sel_of rfl, sel_of rfl, sel_of rfl, trivial⟩, Keeps.refl _, Ap.nil _ _ _ _⟩
  rintro i f h' hi ⟨o', hs, k, ap⟩
  obtain ⟨f0, rfl⟩ := hs.puts
  have hpl := pre_len c i
  have a3 := (k.get _ x2).trans a2
  have x3 := Nat.lt_of_lt_of_le x2 k.next
  have hk3 := hk2.trans k
  have kn3 := hk3.next
  have kn4 := k.next
  simp only [c35_3]
  refine gg ?_; repeat (refine i_ldown (by exact sel_of rfl) (by assumption) (by rfl) ?_; refine gg ?_)
  refine i_lstr (by exact sel_of rfl) ?_
  refine gg ?_; repeat (refine i_ldown (by exact sel_of rfl) (by assumption) (by rfl) ?_; refine gg ?_)
  refine out_if (by exact sel_of rfl) (fun hif => ?_) (fun hif => ?_)
  · obtain ⟨y, hy⟩ : ∃ y, (lets c.k)[i]? = some y := ⟨_, List.getElem?_eq_getElem (by omega)⟩
    have hyb : (letb c.k)[i]? = some (UInt8.ofNat y) := by rw [letb, List.getElem?_map, hy]; rfl
    have hsn := pre_snoc hy
    have hpl1 := pre_len c (i + 1)
    refine gg ?_; repeat (refine i_ldown (by exact sel_of rfl) (by assumption) (by rfl) ?_; refine gg ?_)
    refine i_idxS (UInt8.ofNat y) (by exact sel_of rfl) (by exact sel_of rfl) hyb ?_
    rcases lets_lt c.k y (List.mem_of_getElem? hy) with rfl | rfl | rfl | rfl | rfl | rfl | rfl | rfl | rfl
    · rw [show ((UInt8.ofNat 65).toNat : Nat) = 65 from rfl]
      have hfl : fieldL c 65 = down c.a 4 := rfl
      rw [hfl] at hsn
      refine gg ?_; repeat (refine i_ldown (by exact sel_of rfl) (by assumption) (by rfl) ?_; refine gg ?_)
      refine i_call3 (by exact sel_of rfl) (by exact sel_of rfl) (by first | exact sel_of rfl | exact const_of) (w_rput ap.row c.a 4 (by omega) (by omega) n (by omega)) ?_
      rintro _ h4 ⟨k4, q4, rfl, ap4⟩
      refine gg ?_; repeat (refine i_ldown (by exact sel_of rfl) (by assumption) (by rfl) ?_; refine gg ?_)
      rw [← hsn] at ap4 ⊢
      exact rnd_up (by omega) ⟨q4, ⟨sel_of rfl, sel_of rfl, sel_of rfl, sel_of rfl, trivial⟩, k.trans k4, ap4.mono (by omega)⟩
    · rw [show ((UInt8.ofNat 66).toNat : Nat) = 66 from rfl]
      have hfl : fieldL c 66 = down c.b 4 := rfl
      rw [hfl] at hsn
      refine gg ?_; repeat (refine i_ldown (by exact sel_of rfl) (by assumption) (by rfl) ?_; refine gg ?_)
      refine i_call3 (by exact sel_of rfl) (by exact sel_of rfl) (by first | exact sel_of rfl | exact const_of) (w_rput ap.row c.b 4 (by omega) (by omega) n (by omega)) ?_
      rintro _ h4 ⟨k4, q4, rfl, ap4⟩
      refine gg ?_; repeat (refine i_ldown (by exact sel_of rfl) (by assumption) (by rfl) ?_; refine gg ?_)
      rw [← hsn] at ap4 ⊢
      exact rnd_up (by omega) ⟨q4, ⟨sel_of rfl, sel_of rfl, sel_of rfl, sel_of rfl, trivial⟩, k.trans k4, ap4.mono (by omega)⟩
    · rw [show ((UInt8.ofNat 79).toNat : Nat) = 79 from rfl]
      have hfl : fieldL c 79 = down c.o 2 := rfl
      rw [hfl] at hsn
      refine gg ?_; repeat (refine i_ldown (by exact sel_of rfl) (by assumption) (by rfl) ?_; refine gg ?_)
      refine i_call3 (by exact sel_of rfl) (by exact sel_of rfl) (by first | exact sel_of rfl | exact const_of) (w_rput ap.row c.o 2 (by omega) (by omega) n (by omega)) ?_
      rintro _ h4 ⟨k4, q4, rfl, ap4⟩
      refine gg ?_; repeat (refine i_ldown (by exact sel_of rfl) (by assumption) (by rfl) ?_; refine gg ?_)
      rw [← hsn] at ap4 ⊢
      exact rnd_up (by omega) ⟨q4, ⟨sel_of rfl, sel_of rfl, sel_of rfl, sel_of rfl, trivial⟩, k.trans k4, ap4.mono (by omega)⟩
    · rw [show ((UInt8.ofNat 73).toNat : Nat) = 73 from rfl]
      have hfl : fieldL c 73 = down c.i 2 := rfl
      rw [hfl] at hsn
      refine gg ?_; repeat (refine i_ldown (by exact sel_of rfl) (by assumption) (by rfl) ?_; refine gg ?_)
      refine i_call3 (by exact sel_of rfl) (by exact sel_of rfl) (by first | exact sel_of rfl | exact const_of) (w_rput ap.row c.i 2 (by omega) (by omega) n (by omega)) ?_
      rintro _ h4 ⟨k4, q4, rfl, ap4⟩
      refine gg ?_; repeat (refine i_ldown (by exact sel_of rfl) (by assumption) (by rfl) ?_; refine gg ?_)
      rw [← hsn] at ap4 ⊢
      exact rnd_up (by omega) ⟨q4, ⟨sel_of rfl, sel_of rfl, sel_of rfl, sel_of rfl, trivial⟩, k.trans k4, ap4.mono (by omega)⟩
    · rw [show ((UInt8.ofNat 80).toNat : Nat) = 80 from rfl]
      have hfl : fieldL c 80 = down c.p 4 := rfl
      rw [hfl] at hsn
      refine gg ?_; repeat (refine i_ldown (by exact sel_of rfl) (by assumption) (by rfl) ?_; refine gg ?_)
      refine i_call3 (by exact sel_of rfl) (by exact sel_of rfl) (by first | exact sel_of rfl | exact const_of) (w_rput ap.row c.p 4 (by omega) (by omega) n (by omega)) ?_
      rintro _ h4 ⟨k4, q4, rfl, ap4⟩
      refine gg ?_; repeat (refine i_ldown (by exact sel_of rfl) (by assumption) (by rfl) ?_; refine gg ?_)
      rw [← hsn] at ap4 ⊢
      exact rnd_up (by omega) ⟨q4, ⟨sel_of rfl, sel_of rfl, sel_of rfl, sel_of rfl, trivial⟩, k.trans k4, ap4.mono (by omega)⟩
    · rw [show ((UInt8.ofNat 67).toNat : Nat) = 67 from rfl]
      have hfl : fieldL c 67 = down c.bl.length 2 ++ down c.du.length 2 ++ encPairs c.bl ++ encNums c.du := rfl
      rw [hfl] at hsn
      have hsl := congrArg List.length hsn
      simp only [List.length_append, down_length, encPairs_len, encNums_len] at hsl
      refine gg ?_; repeat (refine i_ldown (by exact sel_of rfl) (by assumption) (by rfl) ?_; refine gg ?_)
      refine i_call3 (by exact sel_of rfl) (by exact sel_of rfl) (by first | exact sel_of rfl | exact const_of) (w_rput ap.row c.bl.length 2 (by omega) (by omega) n (by omega)) ?_
      rintro _ h4 ⟨k4, q4, rfl, ap4⟩
      have a4 := (k4.get _ x3).trans a3
      have x4 := Nat.lt_of_lt_of_le x3 k4.next
      refine gg ?_; repeat (refine i_ldown (by exact sel_of rfl) (by assumption) (by rfl) ?_; refine gg ?_)
      refine i_call3 (by exact sel_of rfl) (by exact sel_of rfl) (by first | exact sel_of rfl | exact const_of) (w_rput ap4.row c.du.length 2 (by omega) (by simp [down_length]; omega) n (by omega)) ?_
      rintro _ h5 ⟨k5, q5, rfl, ap5⟩
      have a5 := (k5.get _ x4).trans a4
      have x5 := Nat.lt_of_lt_of_le x4 k5.next
      refine gg ?_; repeat (refine i_ldown (by exact sel_of rfl) (by assumption) (by rfl) ?_; refine gg ?_)
      refine ⟨chk_cons rfl (ldO (by exact sel_of rfl) a4 (by rfl)) (sv_slice _ _ _) (fun m hm => by
        simp only [List.mem_cons, List.not_mem_nil, or_false] at hm
        rcases hm with rfl | rfl
        · exact ⟨_, _, rfl, ldO (by exact sel_of rfl) a3 (by rfl)⟩
        · exact ⟨_, _, rfl, ldO (by exact sel_of rfl) a4 (by rfl)⟩) chk_nil, ?_⟩
      refine gg ?_; repeat (refine i_ldown (by exact sel_of rfl) (by assumption) (by rfl) ?_; refine gg ?_)
      have hk5 := hk3.trans (k4.trans k5)
      have m5 : h2.next ≤ h5.next := by have := k4.next; have := k5.next; omega
      have ap5 := ap5.mono (B' := h2.next) (by have := k4.next; omega)
      have hb0 : (pre c i ++ down c.bl.length 2 ++ down c.du.length 2).length ≤ 42010 := by simp only [List.length_append, down_length]; omega
      have hsn2 : pre c (i + 1) = pre c i ++ down c.bl.length 2 ++ down c.du.length 2 ++ encPairs c.bl ++ encNums c.du := by rw [hsn]; simp only [List.append_assoc]
      generalize pre c i ++ down c.bl.length 2 ++ down c.du.length 2 = base at *
      refine o_up c.bl.length (fun j f h'' => ∃ o', Sl [(7, .int .i64 (j : Int)), (4, .slice o' (base ++ encPairs (c.bl.take j)).length (base ++ encPairs (c.bl.take j)).length), (1, .pointer (some ⟨h.next, 0, none⟩)), (5, .string ⟨(letb c.k).toArray⟩), (6, .int .i64 (i : Int))] f ∧ Keeps h5 h'' ∧ Ap h2.next h'' 5 1 o' (base ++ encPairs (c.bl.take j)).length (base ++ encPairs (c.bl.take j)).length (u8s (base ++ encPairs (c.bl.take j)))) (by omega) ?_ ?_
      · exact ⟨q5, ⟨sel_of rfl, sel_of (by rw [List.take_zero, show encPairs [] = [] from rfl, List.append_nil]; rfl), sel_of rfl, sel_of rfl, sel_of rfl, trivial⟩, Keeps.refl _, by rw [List.take_zero, show encPairs [] = [] from rfl, List.append_nil]; exact ap5⟩
      rintro j f h'' hj ⟨o', hs, kj, apj⟩
      obtain ⟨f0, rfl⟩ := hs.puts
      simp only [c35_0]
      have hep := encPairs_len (c.bl.take j)
      rw [List.length_take] at hep
      have hbe : (base ++ encPairs (c.bl.take j)).length ≤ 50000 := by rw [List.length_append]; omega
      have aj := (kj.get _ x5).trans a5
      have xj := Nat.lt_of_lt_of_le x5 kj.next
      refine gg ?_; repeat (refine i_ldown (by exact sel_of rfl) (by assumption) (by rfl) ?_; refine gg ?_)
      refine out_if (by exact sel_of rfl) (fun hif => ?_) (fun hif => ?_)
      · obtain ⟨p, hp⟩ : ∃ p, c.bl[j]? = some p := ⟨_, List.getElem?_eq_getElem (by omega)⟩
        have hpb := ho.bl p (List.mem_of_getElem? hp)
        refine gg ?_; repeat (refine i_ldown (by exact sel_of rfl) (by assumption) (by rfl) ?_; refine gg ?_)
        refine out_block ?_
        refine gg ?_; repeat (refine i_ldown (by exact sel_of rfl) (by assumption) (by rfl) ?_; refine gg ?_)
        have rr := r1.keeps (hk5.trans kj)
        refine i_idx (by exact sel_of rfl) rr (i := j) (by exact sel_of rfl) (by omega) fun u hu => ?_
        refine gg ?_; repeat (refine i_ldown (by exact sel_of rfl) (by assumption) (by rfl) ?_; refine gg ?_)
        refine i_load1 (v := .int .u16 (p.1 : Int)) (by exact sel_of rfl) (by subst hu; rw [← pr16_at0 hp, ← rr.cell (by omega)]; rfl) ?_
        refine gg ?_; repeat (refine i_ldown (by exact sel_of rfl) (by assumption) (by rfl) ?_; refine gg ?_)
        refine i_call3 (by exact sel_of rfl) (by exact sel_of rfl) (by first | exact sel_of rfl | exact const_of) (w_rput apj.row p.1 2 (by omega) (by omega) n (by omega)) ?_
        rintro _ g3 ⟨kg3, q3, rfl, aq3⟩
        have ag3 := (kg3.get _ xj).trans aj
        have rr3 := rr.keeps kg3
        refine gg ?_; repeat (refine i_ldown (by exact sel_of rfl) (by assumption) (by rfl) ?_; refine gg ?_)
        refine i_idx (by exact sel_of rfl) rr3 (i := j) (by exact sel_of rfl) (by omega) fun u2 hu2 => ?_
        refine gg ?_; repeat (refine i_ldown (by exact sel_of rfl) (by assumption) (by rfl) ?_; refine gg ?_)
        refine i_load1 (v := .int .u16 (p.2 : Int)) (by exact sel_of rfl) (by subst hu2; rw [← pr16_at1 hp, ← rr3.cell (by omega)]; rfl) ?_
        refine gg ?_; repeat (refine i_ldown (by exact sel_of rfl) (by assumption) (by rfl) ?_; refine gg ?_)
        refine i_call3 (by exact sel_of rfl) (by exact sel_of rfl) (by first | exact sel_of rfl | exact const_of) (w_rput aq3.row p.2 2 (by omega) (by simp [down_length]; omega) n (by omega)) ?_
        rintro _ g4 ⟨kg4, q4, rfl, aq4⟩
        refine gg ?_; repeat (refine i_ldown (by exact sel_of rfl) (by assumption) (by rfl) ?_; refine gg ?_)
        refine ⟨chk_cons rfl (ldO (by exact sel_of rfl) ag3 (by rfl)) (sv_slice _ _ _) (fun m hm => by
          simp only [List.mem_cons, List.not_mem_nil, or_false] at hm
          rcases hm with rfl | rfl
          · exact ⟨_, _, rfl, ldO (by exact sel_of rfl) aj (by rfl)⟩
          · exact ⟨_, _, rfl, ldO (by exact sel_of rfl) ag3 (by rfl)⟩) (chk_cons (v := .int .u16 (p.2 : Int)) rfl (ld1 (by exact sel_of rfl) (by subst hu2; rw [← pr16_at1 hp, ← rr3.cell (by omega)]; rfl)) (sv_int _ _) (fun m hm => by
          simp only [List.mem_cons, List.not_mem_nil, or_false] at hm
          rcases hm with rfl | rfl
          · exact ⟨_, _, rfl, ld1 (by exact sel_of rfl) (by subst hu2; rw [← pr16_at1 hp, ← rr.cell (by omega)]; rfl)⟩
          · exact ⟨_, _, rfl, ld1 (by exact sel_of rfl) (by subst hu2; rw [← pr16_at1 hp, ← rr3.cell (by omega)]; rfl)⟩) chk_nil), ?_⟩
        refine gg ?_
        have e : base ++ encPairs (c.bl.take j) ++ down p.1 2 ++ down p.2 2 = base ++ encPairs (c.bl.take (j + 1)) := by
          rw [List.take_add_one, hp, Option.toList_some, encPairs, encPairs, List.flatMap_append, List.flatMap_cons, List.flatMap_nil, List.append_nil, encPair]
          simp only [List.append_assoc]
        rw [e] at aq4
        rw [e]
        exact rnd_up (by omega) ⟨q4, ⟨sel_of rfl, sel_of rfl, sel_of rfl, sel_of rfl, sel_of rfl, trivial⟩, kj.trans (kg3.trans kg4), aq4.mono (by have := kg3.next; have := kj.next; have := hk5.next; omega)⟩
      rw [List.take_of_length_le (by omega)] at apj
      rw [List.take_of_length_le (by omega)]
      refine gg ?_; repeat (refine i_ldown (by exact sel_of rfl) (by assumption) (by rfl) ?_; refine gg ?_)
      have a6 := (kj.get _ x5).trans a5
      have x6 := Nat.lt_of_lt_of_le x5 kj.next
      have hk6 := hk5.trans kj
      have kn6 := hk6.next
      have hb1 : (base ++ encPairs c.bl).length ≤ 42300 := by rw [List.length_append, encPairs_len]; omega
      generalize base ++ encPairs c.bl = base2 at *
      refine o_up c.du.length (fun j f hz => ∃ o', Sl [(8, .int .i64 (j : Int)), (4, .slice o' (base2 ++ encNums (c.du.take j)).length (base2 ++ encNums (c.du.take j)).length), (1, .pointer (some ⟨h.next, 0, none⟩)), (5, .string ⟨(letb c.k).toArray⟩), (6, .int .i64 (i : Int))] f ∧ Keeps h'' hz ∧ Ap h2.next hz 5 1 o' (base2 ++ encNums (c.du.take j)).length (base2 ++ encNums (c.du.take j)).length (u8s (base2 ++ encNums (c.du.take j)))) (by omega) ?_ ?_
      · exact ⟨o', ⟨sel_of rfl, sel_of (by rw [List.take_zero, show encNums [] = [] from rfl, List.append_nil]; rfl), sel_of rfl, sel_of rfl, sel_of rfl, trivial⟩, Keeps.refl _, by rw [List.take_zero, show encNums [] = [] from rfl, List.append_nil]; exact apj⟩
      rintro j2 f hz hj2 ⟨o9, hs, k9, ap9⟩
      obtain ⟨f0, rfl⟩ := hs.puts
      simp only [c35_1]
      have hep2 := encNums_len (c.du.take j2)
      rw [List.length_take] at hep2
      have hbe2 : (base2 ++ encNums (c.du.take j2)).length ≤ 50000 := by rw [List.length_append]; omega
      have a9 := (k9.get _ x6).trans a6
      refine gg ?_; repeat (refine i_ldown (by exact sel_of rfl) (by assumption) (by rfl) ?_; refine gg ?_)
      refine out_if (by exact sel_of rfl) (fun hif => ?_) (fun hif => ?_)
      · obtain ⟨p, hp⟩ : ∃ p, c.du[j2]? = some p := ⟨_, List.getElem?_eq_getElem (by omega)⟩
        refine gg ?_; repeat (refine i_ldown (by exact sel_of rfl) (by assumption) (by rfl) ?_; refine gg ?_)
        have rr := r2.keeps (hk6.trans k9)
        refine i_idx (by exact sel_of rfl) rr (i := j2) (by exact sel_of rfl) (by omega) fun u hu => ?_
        subst hu
        refine gg ?_; repeat (refine i_ldown (by exact sel_of rfl) (by assumption) (by rfl) ?_; refine gg ?_)
        refine i_load1 (v := .int .u32 (p : Int)) (by exact sel_of rfl) (by rw [← n32_at hp, ← rr.cell (by omega), Nat.mul_one]) ?_
        refine gg ?_; repeat (refine i_ldown (by exact sel_of rfl) (by assumption) (by rfl) ?_; refine gg ?_)
        refine i_call3 (by exact sel_of rfl) (by exact sel_of rfl) (by first | exact sel_of rfl | exact const_of) (w_rput ap9.row p 4 (by omega) (by omega) n (by omega)) ?_
        rintro _ g3 ⟨kg3, q3, rfl, aq3⟩
        refine gg ?_; repeat (refine i_ldown (by exact sel_of rfl) (by assumption) (by rfl) ?_; refine gg ?_)
        have e : base2 ++ encNums (c.du.take j2) ++ down p 4 = base2 ++ encNums (c.du.take (j2 + 1)) := by
          rw [List.take_add_one, hp, Option.toList_some, encNums, encNums, List.flatMap_append, List.flatMap_cons, List.flatMap_nil, List.append_nil]
          simp only [List.append_assoc]
        rw [e] at aq3
        rw [e]
        exact rnd_up (by omega) ⟨q3, ⟨sel_of rfl, sel_of rfl, sel_of rfl, sel_of rfl, sel_of rfl, trivial⟩, k9.trans kg3, aq3.mono (by have := k9.next; have := kj.next; omega)⟩
      rw [List.take_of_length_le (by omega)] at ap9
      rw [List.take_of_length_le (by omega)]
      refine gg ?_; repeat (refine i_ldown (by exact sel_of rfl) (by assumption) (by rfl) ?_; refine gg ?_)
      rw [← hsn2] at ap9 ⊢
      exact rnd_up (by omega) ⟨o9, ⟨sel_of rfl, sel_of rfl, sel_of rfl, sel_of rfl, trivial⟩, k.trans (k4.trans (k5.trans (kj.trans k9))), ap9⟩
    · rw [show ((UInt8.ofNat 83).toNat : Nat) = 83 from rfl]
      have hfl : fieldL c 83 = encPairs c.sk := rfl
      rw [hfl] at hsn
      have hb0 : (pre c i).length ≤ 42010 := by omega
      refine gg ?_; repeat (refine i_ldown (by exact sel_of rfl) (by assumption) (by rfl) ?_; refine gg ?_)
      have q3 := o'
      have ap3 := ap
      have key : True := trivial
      refine o_up c.sk.length (fun j f h'' => ∃ o', Sl [(9, .int .i64 (j : Int)), (4, .slice o' (pre c i ++ encPairs (c.sk.take j)).length (pre c i ++ encPairs (c.sk.take j)).length), (1, .pointer (some ⟨h.next, 0, none⟩)), (5, .string ⟨(letb c.k).toArray⟩), (6, .int .i64 (i : Int))] f ∧ Keeps h' h'' ∧ Ap h2.next h'' 5 1 o' (pre c i ++ encPairs (c.sk.take j)).length (pre c i ++ encPairs (c.sk.take j)).length (u8s (pre c i ++ encPairs (c.sk.take j)))) (by omega) ?_ ?_
      · exact ⟨_, ⟨sel_of rfl, sel_of (by rw [List.take_zero, show encPairs [] = [] from rfl, List.append_nil]; rfl), sel_of rfl, sel_of rfl, sel_of rfl, trivial⟩, Keeps.refl _, by rw [List.take_zero, show encPairs [] = [] from rfl, List.append_nil]; exact ap3⟩
      rintro j f h'' hj ⟨o', hs, kj, apj⟩
      obtain ⟨f0, rfl⟩ := hs.puts
      simp only [c35_2]
      have hep := encPairs_len (c.sk.take j)
      rw [List.length_take] at hep
      have hbe : (pre c i ++ encPairs (c.sk.take j)).length ≤ 50000 := by rw [List.length_append]; omega
      have aj := (kj.get _ x3).trans a3
      have xj := Nat.lt_of_lt_of_le x3 kj.next
      refine gg ?_; repeat (refine i_ldown (by exact sel_of rfl) (by assumption) (by rfl) ?_; refine gg ?_)
      refine out_if (by exact sel_of rfl) (fun hif => ?_) (fun hif => ?_)
      · obtain ⟨p, hp⟩ : ∃ p, c.sk[j]? = some p := ⟨_, List.getElem?_eq_getElem (by omega)⟩
        have hpb := ho.sk p (List.mem_of_getElem? hp)
        refine gg ?_; repeat (refine i_ldown (by exact sel_of rfl) (by assumption) (by rfl) ?_; refine gg ?_)
        refine out_block ?_
        refine gg ?_; repeat (refine i_ldown (by exact sel_of rfl) (by assumption) (by rfl) ?_; refine gg ?_)
        have rr := r3.keeps (hk3.trans kj)
        refine i_idx (by exact sel_of rfl) rr (i := j) (by exact sel_of rfl) (by omega) fun u hu => ?_
        refine gg ?_; repeat (refine i_ldown (by exact sel_of rfl) (by assumption) (by rfl) ?_; refine gg ?_)
        refine i_load1 (v := .int .u16 (p.1 : Int)) (by exact sel_of rfl) (by subst hu; rw [← pr16_at0 hp, ← rr.cell (by omega)]; rfl) ?_
        refine gg ?_; repeat (refine i_ldown (by exact sel_of rfl) (by assumption) (by rfl) ?_; refine gg ?_)
        refine i_call3 (by exact sel_of rfl) (by exact sel_of rfl) (by first | exact sel_of rfl | exact const_of) (w_rput apj.row p.1 2 (by omega) (by omega) n (by omega)) ?_
        rintro _ g3 ⟨kg3, q3, rfl, aq3⟩
        have ag3 := (kg3.get _ xj).trans aj
        have rr3 := rr.keeps kg3
        refine gg ?_; repeat (refine i_ldown (by exact sel_of rfl) (by assumption) (by rfl) ?_; refine gg ?_)
        refine i_idx (by exact sel_of rfl) rr3 (i := j) (by exact sel_of rfl) (by omega) fun u2 hu2 => ?_
        refine gg ?_; repeat (refine i_ldown (by exact sel_of rfl) (by assumption) (by rfl) ?_; refine gg ?_)
        refine i_load1 (v := .int .u16 (p.2 : Int)) (by exact sel_of rfl) (by subst hu2; rw [← pr16_at1 hp, ← rr3.cell (by omega)]; rfl) ?_
        refine gg ?_; repeat (refine i_ldown (by exact sel_of rfl) (by assumption) (by rfl) ?_; refine gg ?_)
        refine i_call3 (by exact sel_of rfl) (by exact sel_of rfl) (by first | exact sel_of rfl | exact const_of) (w_rput aq3.row p.2 2 (by omega) (by simp [down_length]; omega) n (by omega)) ?_
        rintro _ g4 ⟨kg4, q4, rfl, aq4⟩
        refine gg ?_; repeat (refine i_ldown (by exact sel_of rfl) (by assumption) (by rfl) ?_; refine gg ?_)
        refine ⟨chk_cons rfl (ldO (by exact sel_of rfl) ag3 (by rfl)) (sv_slice _ _ _) (fun m hm => by
          simp only [List.mem_cons, List.not_mem_nil, or_false] at hm
          rcases hm with rfl | rfl
          · exact ⟨_, _, rfl, ldO (by exact sel_of rfl) aj (by rfl)⟩
          · exact ⟨_, _, rfl, ldO (by exact sel_of rfl) ag3 (by rfl)⟩) (chk_cons (v := .int .u16 (p.2 : Int)) rfl (ld1 (by exact sel_of rfl) (by subst hu2; rw [← pr16_at1 hp, ← rr3.cell (by omega)]; rfl)) (sv_int _ _) (fun m hm => by
          simp only [List.mem_cons, List.not_mem_nil, or_false] at hm
          rcases hm with rfl | rfl
          · exact ⟨_, _, rfl, ld1 (by exact sel_of rfl) (by subst hu2; rw [← pr16_at1 hp, ← rr.cell (by omega)]; rfl)⟩
          · exact ⟨_, _, rfl, ld1 (by exact sel_of rfl) (by subst hu2; rw [← pr16_at1 hp, ← rr3.cell (by omega)]; rfl)⟩) chk_nil), ?_⟩
        refine gg ?_
        have e : pre c i ++ encPairs (c.sk.take j) ++ down p.1 2 ++ down p.2 2 = pre c i ++ encPairs (c.sk.take (j + 1)) := by
          rw [List.take_add_one, hp, Option.toList_some, encPairs, encPairs, List.flatMap_append, List.flatMap_cons, List.flatMap_nil, List.append_nil, encPair]
          simp only [List.append_assoc]
        rw [e] at aq4
        rw [e]
        exact rnd_up (by omega) ⟨q4, ⟨sel_of rfl, sel_of rfl, sel_of rfl, sel_of rfl, sel_of rfl, trivial⟩, kj.trans (kg3.trans kg4), aq4.mono (by have := kg3.next; have := kj.next; have := hk3.next; omega)⟩
      rw [List.take_of_length_le (by omega)] at apj
      rw [List.take_of_length_le (by omega)]
      refine gg ?_; repeat (refine i_ldown (by exact sel_of rfl) (by assumption) (by rfl) ?_; refine gg ?_)
      rw [← hsn] at apj ⊢
      exact rnd_up (by omega) ⟨_, ⟨sel_of rfl, sel_of rfl, sel_of rfl, sel_of rfl, trivial⟩, k.trans kj, apj⟩
    · rw [show ((UInt8.ofNat 84).toNat : Nat) = 84 from rfl]
      have hfl : fieldL c 84 = (encR c.pa).1 := rfl
      rw [hfl] at hsn
      refine gg ?_; repeat (refine i_ldown (by exact sel_of rfl) (by assumption) (by rfl) ?_; refine gg ?_)
      refine i_call1 (by exact sel_of rfl) (w_renc (r4.keeps hk3) (p4.keeps hk3) rfl (by omega) f6 n (by omega) (by omega)) ?_
      rintro _ h4 ⟨k4, oE, cE, rfl, rowE, hcE⟩
      refine gg ?_; repeat (refine i_ldown (by exact sel_of rfl) (by assumption) (by rfl) ?_; refine gg ?_)
      refine i_app (t := (pre c (i + 1)).length) (es := u8s (pre c (i + 1))) (k.trans k4) (by decide) (by exact sel_of rfl) (ap.keeps k4) (rowE.src8) (by rw [u8s_length, Nat.mul_one]) (by omega) (by rw [hsn, List.length_append]) (by rw [hsn, u8s_append]) fun o7 h7 k7 a7 fr7 => ?_
      refine gg ?_; repeat (refine i_ldown (by exact sel_of rfl) (by assumption) (by rfl) ?_; refine gg ?_)
      exact rnd_up (by omega) ⟨o7, ⟨sel_of rfl, sel_of rfl, sel_of rfl, sel_of rfl, trivial⟩, k7, a7⟩
    · rw [show ((UInt8.ofNat 68).toNat : Nat) = 68 from rfl]
      have hfl : fieldL c 68 = c.da := rfl
      rw [hfl] at hsn
      refine gg ?_; repeat (refine i_ldown (by exact sel_of rfl) (by assumption) (by rfl) ?_; refine gg ?_)
      refine i_app (t := (pre c (i + 1)).length) (es := u8s (pre c (i + 1))) k (by decide) (by exact sel_of rfl) ap ((r5.keeps hk3).src8) (by rw [u8s_length, Nat.mul_one]) (by omega) (by rw [hsn, List.length_append]) (by rw [hsn, u8s_append]) fun o7 h7 k7 a7 fr7 => ?_
      refine gg ?_; repeat (refine i_ldown (by exact sel_of rfl) (by assumption) (by rfl) ?_; refine gg ?_)
      exact rnd_up (by omega) ⟨o7, ⟨sel_of rfl, sel_of rfl, sel_of rfl, sel_of rfl, trivial⟩, k7, a7⟩
  have e : pre c i = fieldsC c := by rw [pre, List.take_of_length_le (by omega)]; rfl
  rw [e] at ap ⊢
  refine gg ?_; repeat (refine i_ldown (by exact sel_of rfl) (by assumption) (by rfl) ?_; refine gg ?_)
  have kx : Keeps h' (h'.new (.cells 5 [.int .u8 (c.k : Int), .int .u8 (c.fl : Int)] (.own false))) := Keeps.new h' _
  have row : Row (h'.new (.cells 5 [.int .u8 (c.k : Int), .int .u8 (c.fl : Int)] (.own false))) 1 (some ⟨h'.next, 0, none⟩) 2 (u8s [UInt8.ofNat c.k, UInt8.ofNat c.fl]) := by
    have e : ([.int .u8 (c.k : Int), .int .u8 (c.fl : Int)] : List Value) = u8s [UInt8.ofNat c.k, UInt8.ofNat c.fl] := by
      rw [u8s_eq]
      simp only [List.map_cons, List.map_nil, UInt8.toNat_ofNat', Nat.mod_eq_of_lt hk256, Nat.mod_eq_of_lt hf256]
    rw [← e]
    exact Row.new (by simp) rfl (.inl rfl)
  refine i_call3 (by exact sel_of rfl) (by exact sel_of rfl) (by first | exact sel_of rfl | exact const_of) (w_rput row (4 + (fieldsC c).length) 2 (by omega) (by simp) n (by omega)) ?_
  rintro _ h5 ⟨k5, o6, rfl, a6⟩
  refine gg ?_
  have kk := kx.trans k5
  refine i_app (t := (bodyC c).length) (es := u8s (bodyC c)) (hk3.trans kk) (by decide) (by exact sel_of rfl) (a6.mono (by have := kx.next; omega)) ((ap.row.keeps kk).src8) (by rw [u8s_length, Nat.mul_one]) (by first | omega | (simp [down_length]; omega) | (rw [bodyC_len]; omega)) (by simp only [bodyC, List.length_append]) (by simp only [bodyC, u8s_append]) fun o7 h7 k7 a7 _ => ?_
  refine gg ?_
  refine i_call1 (by exact sel_of rfl) (w_rpad a7.row (by rw [bodyC_len]; omega) n (by omega)) ?_
  rintro _ h8 ⟨k8, o8, rfl, a8⟩
  refine gg ?_
  rw [EncCQ, encC, if_pos hsh]
  exact ⟨k7.trans k8, o8, _, rfl, a8.row, Nat.le_refl _⟩
end Go.Proofs.Ytdcllpjoejkpnaa

