/- Part of a proof by an abstract run of the program's code: BO. No condition. -/
import Derived.Test.YtnffglfpjcbfaaaBN
/-! Sorting, walked: the partition. -/
set_option linter.unusedVariables false
set_option linter.unusedSimpArgs false
namespace Go.Proofs.Ytnffglfpjcbfaaa
open Go Vm
section
variable {h0 h : Heap} {B n0 n : Nat} {g : FuncId} {cp : Array Value} {lt : El → El → Bool} {d : Array El} {s : Option Nat} {N C a b hi r0 pv : Nat}
set_option maxHeartbeats 1000000 in
theorem w_part (cc : Cp h0 B n0 g cp lt) (k : KeepsB B h0 h) (dd : DtS h B d) (hN : d.size = N) (hap : a ≤ pv) (hpb : pv < b) (hb : b ≤ N) (hbig : N < 1000000) (hn : N + n0 + 10 ≤ n) :
    ResQ (callN Try.prog G0 n (.call 50 [.slice (some ⟨B, 0, s⟩) N C, .int .i64 (a : Int), .int .i64 (b : Int), .int .i64 (pv : Int), .func (.func g) #[] cp]) h) (fun v h' => v = .tuple #[.int .i64 ((Sort.partition lt d a b pv).1 : Int), .bool (Sort.partition lt d a b pv).2.1] ∧ KeepsB B h0 h' ∧ DtS h' B (Sort.partition lt d a b pv).2.2) := by
  obtain ⟨n, rfl⟩ : ∃ m, n = m + 1 := ⟨n - 1, by omega⟩
  refine res_enter rfl d50 rfl ?_; simp only [c50]
  refine gg ?_
  refine i_idxD (pv) (by exact sel_of rfl) (by exact sel_of rfl) (by omega) (by omega) ?_
  refine gg ?_
  refine i_ldD dd (by exact sel_of rfl) (by omega) ?_
  refine gg ?_
  refine i_idxD (a) (by exact sel_of rfl) (by exact sel_of rfl) (by omega) (by omega) ?_
  refine gg ?_
  refine i_ldD dd (by exact sel_of rfl) (by omega) ?_
  refine gg ?_
  refine i_idxD (a) (by exact sel_of rfl) (by exact sel_of rfl) (by omega) (by omega) ?_
  refine i_stD dd (by exact sel_of rfl) (by exact sel_of rfl) (by omega) fun h1s k1s d1s => ?_
  refine gg ?_
  refine i_idxD (pv) (by exact sel_of rfl) (by exact sel_of rfl) (by omega) (by omega) ?_
  refine i_stD d1s (by exact sel_of rfl) (by exact sel_of rfl) (by rw [Array.size_setIfInBounds]; omega) fun h2s k2s d2s => ?_
  have k := (k.trans k1s).trans k2s
  have dd := d2s
  rw [swp_eq] at dd
  clear d1s d2s k1s k2s
  unfold Sort.partition
  simp only []
  have hN1 : (Sort.swp d a pv).size = N := by rw [Sort.size_swp]; exact hN
  generalize Sort.swp d a pv = d1 at *
  refine gg ?_
  first | refine o_seq ?_ | skip
  refine o_cutT (fun f h' => ∃ i, (KeepsB B h0 h' ∧ DtS h' B d1 ∧ (a + 1) ≤ i ∧ i ≤ N ∧ i = Sort.scanUp (fun x => lt x d1[a]!) d1 ((b - 1)) ((a + 1))) ∧ Sl [(12, .int .i64 (i : Int)), (13, .int .i64 (((b - 1) : Nat) : Int)), (0, .slice (some ⟨B, 0, s⟩) N C), (1, .int .i64 (a : Int)), (2, .int .i64 (b : Int)), (4, .func (.func g) #[] cp)] f) ?_ ?_
  · refine gg ?_
    refine o_while (fun m f h' => ∃ i, (KeepsB B h0 h' ∧ DtS h' B d1 ∧ (a + 1) ≤ i ∧ i ≤ N ∧ (b - 1) + 1 - i = m ∧ Sort.scanUp (fun x => lt x d1[a]!) d1 ((b - 1)) i = Sort.scanUp (fun x => lt x d1[a]!) d1 ((b - 1)) ((a + 1))) ∧ Sl [(12, .int .i64 (i : Int)), (13, .int .i64 (((b - 1) : Nat) : Int)), (0, .slice (some ⟨B, 0, s⟩) N C), (1, .int .i64 (a : Int)), (2, .int .i64 (b : Int)), (4, .func (.func g) #[] cp)] f) ((b - 1) + 1 - (a + 1)) (by omega) ⟨(a + 1), ⟨k, dd, Nat.le_refl _, by omega, rfl, rfl⟩, (sel_z rfl (by omega)), (sel_z rfl (by omega)), by exact sel_of rfl, by exact sel_of rfl, by exact sel_of rfl, by exact sel_of rfl, trivial⟩ ?_
    clear k dd
    rintro m f h ⟨i, ⟨k, dd, hii, hiN, hm, he⟩, hs⟩
    obtain ⟨f0, rfl⟩ := hs.puts
    clear hs
    simp only [c50_0]
    rw [Sort.scanUp] at he
    by_cases hij : i ≤ (b - 1)
    · refine gg ?_
      refine i_idxD (i) (by exact sel_of rfl) (by exact sel_of rfl) (by omega) (by omega) ?_
      refine gg ?_
      refine i_ldD dd (by exact sel_of rfl) (by omega) ?_
      refine gg ?_
      refine i_idxD (a) (by exact sel_of rfl) (by exact sel_of rfl) (by omega) (by omega) ?_
      refine gg ?_
      refine i_ldD dd (by exact sel_of rfl) (by omega) ?_
      refine gg ?_
      refine s1_cons (det_dgcall cc.det (by exact sel_of rfl)) ?_
      refine i_liveP (by exact sel_of rfl) (by omega) ?_
      refine i_callD (by exact sel_of rfl) (by exact sel_of rfl) (by exact sel_of rfl) (cc.run _ k _ (by omega) _ _) ?_
      rintro _ h1c ⟨c1, rfl, hc1, kk⟩
      have k := k.trans (kk.but B)
      have dd := dd.keeps kk
      clear kk
      refine gg ?_
      refine out_ifc (by exact sel_of rfl) hc1 (fun hif => ?_) (fun hif => ?_)
      · simp only [hij, hif, decide_true, Bool.true_and, Bool.not_false, if_true] at he
        refine gg ?_
        exact rnd_n ((b - 1) + 1 - (i + 1)) (by omega) ⟨i + 1, ⟨k, dd, by omega, by omega, rfl, he⟩, (sel_z rfl (by omega)), (sel_z rfl (by omega)), by exact sel_of rfl, by exact sel_of rfl, by exact sel_of rfl, by exact sel_of rfl, trivial⟩
      · simp only [hij, hif, decide_true, Bool.true_and, Bool.not_true, Bool.false_eq_true, if_false] at he
        refine gg ?_
        exact ⟨rfl, i, ⟨k, dd, hii, hiN, he⟩, (sel_z rfl (by omega)), (sel_z rfl (by omega)), by exact sel_of rfl, by exact sel_of rfl, by exact sel_of rfl, by exact sel_of rfl, trivial⟩
    · simp only [hij, decide_false, Bool.false_and, Bool.false_eq_true, if_false] at he
      refine gg ?_
      refine s1_cons (det_skipP (by exact sel_of rfl) (by omega)) ?_
      refine gg ?_
      exact ⟨rfl, i, ⟨k, dd, hii, hiN, he⟩, (sel_z rfl (by omega)), (sel_z rfl (by omega)), by exact sel_of rfl, by exact sel_of rfl, by exact sel_of rfl, by exact sel_of rfl, trivial⟩
  clear k dd
  rintro f h ⟨i, ⟨k, dd, hii, hiN, hi2⟩, hs⟩
  obtain ⟨f0, rfl⟩ := hs.puts
  clear hs
  first | refine o_seq ?_ | skip
  refine o_cutT (fun f h' => ∃ j, (KeepsB B h0 h' ∧ DtS h' B d1 ∧ j ≤ (b - 1) ∧ j = Sort.scanDown (fun x => !lt x d1[a]!) d1 i ((b - 1))) ∧ Sl [(12, .int .i64 (i : Int)), (13, .int .i64 (j : Int)), (0, .slice (some ⟨B, 0, s⟩) N C), (1, .int .i64 (a : Int)), (2, .int .i64 (b : Int)), (4, .func (.func g) #[] cp)] f) ?_ ?_
  · refine gg ?_
    refine o_while (fun m f h' => (KeepsB B h0 h' ∧ DtS h' B d1 ∧ m ≤ (b - 1) ∧ Sort.scanDown (fun x => !lt x d1[a]!) d1 i m = Sort.scanDown (fun x => !lt x d1[a]!) d1 i ((b - 1))) ∧ Sl [(12, .int .i64 (i : Int)), (13, .int .i64 ((m : Nat) : Int)), (0, .slice (some ⟨B, 0, s⟩) N C), (1, .int .i64 (a : Int)), (2, .int .i64 (b : Int)), (4, .func (.func g) #[] cp)] f) ((b - 1)) (by omega) ⟨⟨k, dd, Nat.le_refl _, rfl⟩, (sel_z rfl (by omega)), (sel_z rfl (by omega)), by exact sel_of rfl, by exact sel_of rfl, by exact sel_of rfl, by exact sel_of rfl, trivial⟩ ?_
    clear k dd
    rintro m f h ⟨⟨k, dd, hmj, he⟩, hs⟩
    obtain ⟨f0, rfl⟩ := hs.puts
    clear hs
    simp only [c50_1]
    cases m with
    | zero =>
      refine gg ?_
      refine s1_cons (det_skipP (by exact sel_of rfl) (by omega)) ?_
      refine gg ?_
      exact ⟨rfl, 0, ⟨k, dd, by omega, he⟩, (sel_z rfl (by omega)), (sel_z rfl (by omega)), by exact sel_of rfl, by exact sel_of rfl, by exact sel_of rfl, by exact sel_of rfl, trivial⟩
    | succ j =>
      rw [Sort.scanDown] at he
      by_cases hij : i ≤ j + 1
      · refine gg ?_
        refine i_idxD (j + 1) (by exact sel_of rfl) (by exact sel_of rfl) (by omega) (by omega) ?_
        refine gg ?_
        refine i_ldD dd (by exact sel_of rfl) (by omega) ?_
        refine gg ?_
        refine i_idxD (a) (by exact sel_of rfl) (by exact sel_of rfl) (by omega) (by omega) ?_
        refine gg ?_
        refine i_ldD dd (by exact sel_of rfl) (by omega) ?_
        refine gg ?_
        refine s1_cons (det_dgcall cc.det (by exact sel_of rfl)) ?_
        refine i_liveP (by exact sel_of rfl) (by omega) ?_
        refine i_callD (by exact sel_of rfl) (by exact sel_of rfl) (by exact sel_of rfl) (cc.run _ k _ (by omega) _ _) ?_
        rintro _ h1c ⟨c1, rfl, hc1, kk⟩
        have k := k.trans (kk.but B)
        have dd := dd.keeps kk
        clear kk
        refine gg ?_
        refine out_ifnc (by exact sel_of rfl) hc1 (fun hif => ?_) (fun hif => ?_)
        · simp only [hij, hif, decide_true, Bool.true_and, Bool.not_false, if_true] at he
          refine gg ?_
          exact rnd_n j (by omega) ⟨⟨k, dd, by omega, he⟩, (sel_z rfl (by omega)), (sel_z rfl (by omega)), by exact sel_of rfl, by exact sel_of rfl, by exact sel_of rfl, by exact sel_of rfl, trivial⟩
        · simp only [hij, hif, decide_true, Bool.true_and, Bool.not_true, Bool.false_eq_true, if_false] at he
          refine gg ?_
          exact ⟨rfl, j + 1, ⟨k, dd, hmj, he⟩, (sel_z rfl (by omega)), (sel_z rfl (by omega)), by exact sel_of rfl, by exact sel_of rfl, by exact sel_of rfl, by exact sel_of rfl, trivial⟩
      · simp only [hij, decide_false, Bool.false_and, Bool.false_eq_true, if_false] at he
        refine gg ?_
        refine s1_cons (det_skipP (by exact sel_of rfl) (by omega)) ?_
        refine gg ?_
        exact ⟨rfl, j + 1, ⟨k, dd, hmj, he⟩, (sel_z rfl (by omega)), (sel_z rfl (by omega)), by exact sel_of rfl, by exact sel_of rfl, by exact sel_of rfl, by exact sel_of rfl, trivial⟩
  clear k dd
  rintro f h ⟨j, ⟨k, dd, hjj, hj2⟩, hs⟩
  obtain ⟨f0, rfl⟩ := hs.puts
  clear hs
  rw [← hi2, ← hj2]
  refine gg ?_
  refine out_if (by exact sel_of rfl) (fun hif => ?_) (fun hif => ?_)
  · rw [if_pos (by omega)]
    refine gg ?_
    refine i_idxD (a) (by exact sel_of rfl) (by exact sel_of rfl) (by omega) (by omega) ?_
    refine gg ?_
    refine i_ldD dd (by exact sel_of rfl) (by omega) ?_
    refine gg ?_
    refine i_idxD (j) (by exact sel_of rfl) (by exact sel_of rfl) (by omega) (by omega) ?_
    refine gg ?_
    refine i_ldD dd (by exact sel_of rfl) (by omega) ?_
    refine gg ?_
    refine i_idxD (j) (by exact sel_of rfl) (by exact sel_of rfl) (by omega) (by omega) ?_
    refine i_stD dd (by exact sel_of rfl) (by exact sel_of rfl) (by omega) fun h1s k1s d1s => ?_
    refine gg ?_
    refine i_idxD (a) (by exact sel_of rfl) (by exact sel_of rfl) (by omega) (by omega) ?_
    refine i_stD d1s (by exact sel_of rfl) (by exact sel_of rfl) (by rw [Array.size_setIfInBounds]; omega) fun h2s k2s d2s => ?_
    have k := (k.trans k1s).trans k2s
    have dd := d2s
    rw [swp_eq] at dd
    clear d1s d2s k1s k2s
    refine gg ?_
    exact ⟨rfl, k, dd⟩
  · rw [if_neg (by omega)]
    refine gg ?_
    refine i_idxD (j) (by exact sel_of rfl) (by exact sel_of rfl) (by omega) (by omega) ?_
    refine gg ?_
    refine i_ldD dd (by exact sel_of rfl) (by omega) ?_
    refine gg ?_
    refine i_idxD (i) (by exact sel_of rfl) (by exact sel_of rfl) (by omega) (by omega) ?_
    refine gg ?_
    refine i_ldD dd (by exact sel_of rfl) (by omega) ?_
    refine gg ?_
    refine i_idxD (i) (by exact sel_of rfl) (by exact sel_of rfl) (by omega) (by omega) ?_
    refine i_stD dd (by exact sel_of rfl) (by exact sel_of rfl) (by omega) fun h1s k1s d1s => ?_
    refine gg ?_
    refine i_idxD (j) (by exact sel_of rfl) (by exact sel_of rfl) (by omega) (by omega) ?_
    refine i_stD d1s (by exact sel_of rfl) (by exact sel_of rfl) (by rw [Array.size_setIfInBounds]; omega) fun h2s k2s d2s => ?_
    have k := (k.trans k1s).trans k2s
    have dd := d2s
    rw [swp_eq] at dd
    clear d1s d2s k1s k2s
    refine gg ?_
    have hN2 : (Sort.swp d1 i j).size = N := by rw [Sort.size_swp]; exact hN1
    generalize Sort.swp d1 i j = d2 at *
    clear hi2 hj2 hN1
    refine o_cutT (fun f h' => ∃ j' d', (KeepsB B h0 h' ∧ DtS h' B d' ∧ d'.size = N ∧ j' < N ∧ Sort.partLoop lt a (i + 1) (j - 1) d2 = (j', d')) ∧ Sl [(13, .int .i64 (j' : Int)), (0, .slice (some ⟨B, 0, s⟩) N C), (1, .int .i64 (a : Int)), (2, .int .i64 (b : Int)), (4, .func (.func g) #[] cp)] f) ?_ ?_
    · refine o_while (fun m f h' => ∃ i' j' d', (KeepsB B h0 h' ∧ DtS h' B d' ∧ d'.size = N ∧ a < i' ∧ i' ≤ N ∧ j' < N ∧ j' + 1 - i' = m ∧ Sort.partLoop lt a (i + 1) (j - 1) d2 = Sort.partLoop lt a i' j' d') ∧ Sl [(12, .int .i64 (i' : Int)), (13, .int .i64 (j' : Int)), (0, .slice (some ⟨B, 0, s⟩) N C), (1, .int .i64 (a : Int)), (2, .int .i64 (b : Int)), (4, .func (.func g) #[] cp)] f) (j - 1 + 1 - (i + 1)) (by omega) ⟨i + 1, j - 1, d2, ⟨k, dd, hN2, by omega, by omega, by omega, rfl, rfl⟩, (sel_z rfl (by omega)), (sel_z rfl (by omega)), by exact sel_of rfl, by exact sel_of rfl, by exact sel_of rfl, by exact sel_of rfl, trivial⟩ ?_
      clear k dd
      rintro m f h ⟨i1, j1, d1, ⟨k, dd, hN1, hai, hiN, hjN, hm, he⟩, hs⟩
      obtain ⟨f0, rfl⟩ := hs.puts
      clear hs
      simp only [c50_4]
      rw [Sort.partLoop_eq lt a i1 j1 d1] at he
      refine gg ?_
      first | refine o_seq ?_ | skip
      refine o_cutT (fun f h' => ∃ i, (KeepsB B h0 h' ∧ DtS h' B d1 ∧ (i1) ≤ i ∧ i ≤ N ∧ i = Sort.scanUp (fun x => lt x d1[a]!) d1 ((j1)) ((i1))) ∧ Sl [(12, .int .i64 (i : Int)), (13, .int .i64 (((j1) : Nat) : Int)), (0, .slice (some ⟨B, 0, s⟩) N C), (1, .int .i64 (a : Int)), (2, .int .i64 (b : Int)), (4, .func (.func g) #[] cp)] f) ?_ ?_
      · refine gg ?_
        refine o_while (fun m f h' => ∃ i, (KeepsB B h0 h' ∧ DtS h' B d1 ∧ (i1) ≤ i ∧ i ≤ N ∧ (j1) + 1 - i = m ∧ Sort.scanUp (fun x => lt x d1[a]!) d1 ((j1)) i = Sort.scanUp (fun x => lt x d1[a]!) d1 ((j1)) ((i1))) ∧ Sl [(12, .int .i64 (i : Int)), (13, .int .i64 (((j1) : Nat) : Int)), (0, .slice (some ⟨B, 0, s⟩) N C), (1, .int .i64 (a : Int)), (2, .int .i64 (b : Int)), (4, .func (.func g) #[] cp)] f) ((j1) + 1 - (i1)) (by omega) ⟨(i1), ⟨k, dd, Nat.le_refl _, by omega, rfl, rfl⟩, (sel_z rfl (by omega)), (sel_z rfl (by omega)), by exact sel_of rfl, by exact sel_of rfl, by exact sel_of rfl, by exact sel_of rfl, trivial⟩ ?_
        clear k dd
        rintro m f h ⟨i, ⟨k, dd, hii, hiN, hm, he⟩, hs⟩
        obtain ⟨f0, rfl⟩ := hs.puts
        clear hs
        simp only [c50_2]
        rw [Sort.scanUp] at he
        by_cases hij : i ≤ (j1)
        · refine gg ?_
          refine i_idxD (i) (by exact sel_of rfl) (by exact sel_of rfl) (by omega) (by omega) ?_
          refine gg ?_
          refine i_ldD dd (by exact sel_of rfl) (by omega) ?_
          refine gg ?_
          refine i_idxD (a) (by exact sel_of rfl) (by exact sel_of rfl) (by omega) (by omega) ?_
          refine gg ?_
          refine i_ldD dd (by exact sel_of rfl) (by omega) ?_
          refine gg ?_
          refine s1_cons (det_dgcall cc.det (by exact sel_of rfl)) ?_
          refine i_liveP (by exact sel_of rfl) (by omega) ?_
          refine i_callD (by exact sel_of rfl) (by exact sel_of rfl) (by exact sel_of rfl) (cc.run _ k _ (by omega) _ _) ?_
          rintro _ h1c ⟨c1, rfl, hc1, kk⟩
          have k := k.trans (kk.but B)
          have dd := dd.keeps kk
          clear kk
          refine gg ?_
          refine out_ifc (by exact sel_of rfl) hc1 (fun hif => ?_) (fun hif => ?_)
          · simp only [hij, hif, decide_true, Bool.true_and, Bool.not_false, if_true] at he
            refine gg ?_
            exact rnd_n ((j1) + 1 - (i + 1)) (by omega) ⟨i + 1, ⟨k, dd, by omega, by omega, rfl, he⟩, (sel_z rfl (by omega)), (sel_z rfl (by omega)), by exact sel_of rfl, by exact sel_of rfl, by exact sel_of rfl, by exact sel_of rfl, trivial⟩
          · simp only [hij, hif, decide_true, Bool.true_and, Bool.not_true, Bool.false_eq_true, if_false] at he
            refine gg ?_
            exact ⟨rfl, i, ⟨k, dd, hii, hiN, he⟩, (sel_z rfl (by omega)), (sel_z rfl (by omega)), by exact sel_of rfl, by exact sel_of rfl, by exact sel_of rfl, by exact sel_of rfl, trivial⟩
        · simp only [hij, decide_false, Bool.false_and, Bool.false_eq_true, if_false] at he
          refine gg ?_
          refine s1_cons (det_skipP (by exact sel_of rfl) (by omega)) ?_
          refine gg ?_
          exact ⟨rfl, i, ⟨k, dd, hii, hiN, he⟩, (sel_z rfl (by omega)), (sel_z rfl (by omega)), by exact sel_of rfl, by exact sel_of rfl, by exact sel_of rfl, by exact sel_of rfl, trivial⟩
      clear k dd
      rintro f h ⟨i, ⟨k, dd, hii, hiN, hi2⟩, hs⟩
      obtain ⟨f0, rfl⟩ := hs.puts
      clear hs
      first | refine o_seq ?_ | skip
      refine o_cutT (fun f h' => ∃ j, (KeepsB B h0 h' ∧ DtS h' B d1 ∧ j ≤ (j1) ∧ j = Sort.scanDown (fun x => !lt x d1[a]!) d1 i ((j1))) ∧ Sl [(12, .int .i64 (i : Int)), (13, .int .i64 (j : Int)), (0, .slice (some ⟨B, 0, s⟩) N C), (1, .int .i64 (a : Int)), (2, .int .i64 (b : Int)), (4, .func (.func g) #[] cp)] f) ?_ ?_
      · refine gg ?_
        refine o_while (fun m f h' => (KeepsB B h0 h' ∧ DtS h' B d1 ∧ m ≤ (j1) ∧ Sort.scanDown (fun x => !lt x d1[a]!) d1 i m = Sort.scanDown (fun x => !lt x d1[a]!) d1 i ((j1))) ∧ Sl [(12, .int .i64 (i : Int)), (13, .int .i64 ((m : Nat) : Int)), (0, .slice (some ⟨B, 0, s⟩) N C), (1, .int .i64 (a : Int)), (2, .int .i64 (b : Int)), (4, .func (.func g) #[] cp)] f) ((j1)) (by omega) ⟨⟨k, dd, Nat.le_refl _, rfl⟩, (sel_z rfl (by omega)), (sel_z rfl (by omega)), by exact sel_of rfl, by exact sel_of rfl, by exact sel_of rfl, by exact sel_of rfl, trivial⟩ ?_
        clear k dd
        rintro m f h ⟨⟨k, dd, hmj, he⟩, hs⟩
        obtain ⟨f0, rfl⟩ := hs.puts
        clear hs
        simp only [c50_3]
        cases m with
        | zero =>
          refine gg ?_
          refine s1_cons (det_skipP (by exact sel_of rfl) (by omega)) ?_
          refine gg ?_
          exact ⟨rfl, 0, ⟨k, dd, by omega, he⟩, (sel_z rfl (by omega)), (sel_z rfl (by omega)), by exact sel_of rfl, by exact sel_of rfl, by exact sel_of rfl, by exact sel_of rfl, trivial⟩
        | succ j =>
          rw [Sort.scanDown] at he
          by_cases hij : i ≤ j + 1
          · refine gg ?_
            refine i_idxD (j + 1) (by exact sel_of rfl) (by exact sel_of rfl) (by omega) (by omega) ?_
            refine gg ?_
            refine i_ldD dd (by exact sel_of rfl) (by omega) ?_
            refine gg ?_
            refine i_idxD (a) (by exact sel_of rfl) (by exact sel_of rfl) (by omega) (by omega) ?_
            refine gg ?_
            refine i_ldD dd (by exact sel_of rfl) (by omega) ?_
            refine gg ?_
            refine s1_cons (det_dgcall cc.det (by exact sel_of rfl)) ?_
            refine i_liveP (by exact sel_of rfl) (by omega) ?_
            refine i_callD (by exact sel_of rfl) (by exact sel_of rfl) (by exact sel_of rfl) (cc.run _ k _ (by omega) _ _) ?_
            rintro _ h1c ⟨c1, rfl, hc1, kk⟩
            have k := k.trans (kk.but B)
            have dd := dd.keeps kk
            clear kk
            refine gg ?_
            refine out_ifnc (by exact sel_of rfl) hc1 (fun hif => ?_) (fun hif => ?_)
            · simp only [hij, hif, decide_true, Bool.true_and, Bool.not_false, if_true] at he
              refine gg ?_
              exact rnd_n j (by omega) ⟨⟨k, dd, by omega, he⟩, (sel_z rfl (by omega)), (sel_z rfl (by omega)), by exact sel_of rfl, by exact sel_of rfl, by exact sel_of rfl, by exact sel_of rfl, trivial⟩
            · simp only [hij, hif, decide_true, Bool.true_and, Bool.not_true, Bool.false_eq_true, if_false] at he
              refine gg ?_
              exact ⟨rfl, j + 1, ⟨k, dd, hmj, he⟩, (sel_z rfl (by omega)), (sel_z rfl (by omega)), by exact sel_of rfl, by exact sel_of rfl, by exact sel_of rfl, by exact sel_of rfl, trivial⟩
          · simp only [hij, decide_false, Bool.false_and, Bool.false_eq_true, if_false] at he
            refine gg ?_
            refine s1_cons (det_skipP (by exact sel_of rfl) (by omega)) ?_
            refine gg ?_
            exact ⟨rfl, j + 1, ⟨k, dd, hmj, he⟩, (sel_z rfl (by omega)), (sel_z rfl (by omega)), by exact sel_of rfl, by exact sel_of rfl, by exact sel_of rfl, by exact sel_of rfl, trivial⟩
      clear k dd
      rintro f h ⟨j, ⟨k, dd, hjj, hj2⟩, hs⟩
      obtain ⟨f0, rfl⟩ := hs.puts
      clear hs
      rw [← hi2, ← hj2] at he
      refine gg ?_
      refine out_if (by exact sel_of rfl) (fun hif => ?_) (fun hif => ?_)
      · rw [if_pos (by omega)] at he
        refine gg ?_
        exact ⟨rfl, j, d1, ⟨k, dd, hN1, by omega, he⟩, (sel_z rfl (by omega)), by exact sel_of rfl, by exact sel_of rfl, by exact sel_of rfl, by exact sel_of rfl, trivial⟩
      · rw [if_neg (by omega)] at he
        refine gg ?_
        refine i_idxD (j) (by exact sel_of rfl) (by exact sel_of rfl) (by omega) (by omega) ?_
        refine gg ?_
        refine i_ldD dd (by exact sel_of rfl) (by omega) ?_
        refine gg ?_
        refine i_idxD (i) (by exact sel_of rfl) (by exact sel_of rfl) (by omega) (by omega) ?_
        refine gg ?_
        refine i_ldD dd (by exact sel_of rfl) (by omega) ?_
        refine gg ?_
        refine i_idxD (i) (by exact sel_of rfl) (by exact sel_of rfl) (by omega) (by omega) ?_
        refine i_stD dd (by exact sel_of rfl) (by exact sel_of rfl) (by omega) fun h1s k1s d1s => ?_
        refine gg ?_
        refine i_idxD (j) (by exact sel_of rfl) (by exact sel_of rfl) (by omega) (by omega) ?_
        refine i_stD d1s (by exact sel_of rfl) (by exact sel_of rfl) (by rw [Array.size_setIfInBounds]; omega) fun h2s k2s d2s => ?_
        have k := (k.trans k1s).trans k2s
        have dd := d2s
        rw [swp_eq] at dd
        clear d1s d2s k1s k2s
        refine gg ?_
        exact rnd_n (j - 1 + 1 - (i + 1)) (by omega) ⟨i + 1, j - 1, _, ⟨k, dd, by rw [Sort.size_swp]; exact hN1, by omega, by omega, by omega, rfl, he⟩, (sel_z rfl (by omega)), (sel_z rfl (by omega)), by exact sel_of rfl, by exact sel_of rfl, by exact sel_of rfl, by exact sel_of rfl, trivial⟩
    clear k dd
    rintro f h ⟨j', d', ⟨k, dd, hN1, hjN, he⟩, hs⟩
    obtain ⟨f0, rfl⟩ := hs.puts
    clear hs
    rw [he]
    simp only []
    refine gg ?_
    refine i_idxD (a) (by exact sel_of rfl) (by exact sel_of rfl) (by omega) (by omega) ?_
    refine gg ?_
    refine i_ldD dd (by exact sel_of rfl) (by omega) ?_
    refine gg ?_
    refine i_idxD (j') (by exact sel_of rfl) (by exact sel_of rfl) (by omega) (by omega) ?_
    refine gg ?_
    refine i_ldD dd (by exact sel_of rfl) (by omega) ?_
    refine gg ?_
    refine i_idxD (j') (by exact sel_of rfl) (by exact sel_of rfl) (by omega) (by omega) ?_
    refine i_stD dd (by exact sel_of rfl) (by exact sel_of rfl) (by omega) fun h1s k1s d1s => ?_
    refine gg ?_
    refine i_idxD (a) (by exact sel_of rfl) (by exact sel_of rfl) (by omega) (by omega) ?_
    refine i_stD d1s (by exact sel_of rfl) (by exact sel_of rfl) (by rw [Array.size_setIfInBounds]; omega) fun h2s k2s d2s => ?_
    have k := (k.trans k1s).trans k2s
    have dd := d2s
    rw [swp_eq] at dd
    clear d1s d2s k1s k2s
    refine gg ?_
    exact ⟨rfl, k, dd⟩
end
end Go.Proofs.Ytnffglfpjcbfaaa

