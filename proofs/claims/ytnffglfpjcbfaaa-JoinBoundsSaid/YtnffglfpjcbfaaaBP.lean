/- Part of a proof by an abstract run of the program's code: BP. No condition. -/
import Derived.Test.YtnffglfpjcbfaaaBO
/-! Sorting, walked: the partition of equals. -/
set_option linter.unusedVariables false
set_option linter.unusedSimpArgs false
namespace Go.Proofs.Ytnffglfpjcbfaaa
open Go Vm
section
variable {h0 h : Heap} {B n0 n : Nat} {g : FuncId} {cp : Array Value} {lt : El → El → Bool} {d : Array El} {s : Option Nat} {N C a b hi r0 pv : Nat}
set_option maxHeartbeats 1000000 in
theorem w_parteq (cc : Cp h0 B n0 g cp lt) (k : KeepsB B h0 h) (dd : DtS h B d) (hN : d.size = N) (hap : a ≤ pv) (hpb : pv < b) (hb : b ≤ N) (hbig : N < 1000000) (hn : N + n0 + 10 ≤ n) :
    ResQ (callN Try.prog G0 n (.call 49 [.slice (some ⟨B, 0, s⟩) N C, .int .i64 (a : Int), .int .i64 (b : Int), .int .i64 (pv : Int), .func (.func g) #[] cp]) h) (fun v h' => v = .int .i64 ((Sort.partitionEqual lt d a b pv).1 : Int) ∧ KeepsB B h0 h' ∧ DtS h' B (Sort.partitionEqual lt d a b pv).2) := by
  obtain ⟨n, rfl⟩ : ∃ m, n = m + 1 := ⟨n - 1, by omega⟩
  refine res_enter rfl d49 rfl ?_; simp only [c49]
  refine gg ?_
  refine i_idxD (pv) (by exact sel_of rfl) (by exact sel_of rfl) (by omega) (by omega) ?_
  refine gg ?_
  refine i_ldD dd (by exact sel_of rfl) (by omega) ?_
  refine gg ?_
  refine i_idxD (a) (by exact sel_of rfl) (by exact sel_of rfl) (by omega) (by omega) ?_
  refine gg ?_
  refine i_ldD dd (by exact sel_of rfl) (by omega) ?_
  refine gg ?_
  refine i_idxD (a) (by exact sel_of rfl) (by exact sel_of rfl) (by omega) (by omega) ?_
  refine i_stD dd (by exact sel_of rfl) (by exact sel_of rfl) (by omega) fun h1s k1s d1s => ?_
  refine gg ?_
  refine i_idxD (pv) (by exact sel_of rfl) (by exact sel_of rfl) (by omega) (by omega) ?_
  refine i_stD d1s (by exact sel_of rfl) (by exact sel_of rfl) (by rw [Array.size_setIfInBounds]; omega) fun h2s k2s d2s => ?_
  have k := (k.trans k1s).trans k2s
  have dd := d2s
  rw [swp_eq] at dd
  clear d1s d2s k1s k2s
  unfold Sort.partitionEqual
  have hN1 : (Sort.swp d a pv).size = N := by rw [Sort.size_swp]; exact hN
  generalize Sort.swp d a pv = d2 at *
  refine gg ?_
  refine o_cutT (fun f h' => ∃ i' d', (KeepsB B h0 h' ∧ DtS h' B d' ∧ Sort.partEqLoop lt a (a + 1) (b - 1) d2 = (i', d')) ∧ Sl [(11, .int .i64 (i' : Int))] f) ?_ ?_
  · refine o_while (fun m f h' => ∃ i' j' d', (KeepsB B h0 h' ∧ DtS h' B d' ∧ d'.size = N ∧ a < i' ∧ i' ≤ N ∧ j' < N ∧ j' + 1 - i' = m ∧ Sort.partEqLoop lt a (a + 1) (b - 1) d2 = Sort.partEqLoop lt a i' j' d') ∧ Sl [(11, .int .i64 (i' : Int)), (12, .int .i64 (j' : Int)), (0, .slice (some ⟨B, 0, s⟩) N C), (1, .int .i64 (a : Int)), (2, .int .i64 (b : Int)), (4, .func (.func g) #[] cp)] f) (b - 1 + 1 - (a + 1)) (by omega) ⟨a + 1, b - 1, d2, ⟨k, dd, hN1, by omega, by omega, by omega, rfl, rfl⟩, (sel_z rfl (by omega)), (sel_z rfl (by omega)), by exact sel_of rfl, by exact sel_of rfl, by exact sel_of rfl, by exact sel_of rfl, trivial⟩ ?_
    clear k dd
    rintro m f h ⟨i1, j1, d1, ⟨k, dd, hN1, hai, hiN, hjN, hm, he⟩, hs⟩
    obtain ⟨f0, rfl⟩ := hs.puts
    clear hs
    simp only [c49_2]
    rw [Sort.partEqLoop_eq lt a i1 j1 d1] at he
    refine gg ?_
    first | refine o_seq ?_ | skip
    refine o_cutT (fun f h' => ∃ i, (KeepsB B h0 h' ∧ DtS h' B d1 ∧ (i1) ≤ i ∧ i ≤ N ∧ i = Sort.scanUp (fun x => !lt d1[a]! x) d1 ((j1)) ((i1))) ∧ Sl [(11, .int .i64 (i : Int)), (12, .int .i64 (((j1) : Nat) : Int)), (0, .slice (some ⟨B, 0, s⟩) N C), (1, .int .i64 (a : Int)), (2, .int .i64 (b : Int)), (4, .func (.func g) #[] cp)] f) ?_ ?_
    · refine gg ?_
      refine o_while (fun m f h' => ∃ i, (KeepsB B h0 h' ∧ DtS h' B d1 ∧ (i1) ≤ i ∧ i ≤ N ∧ (j1) + 1 - i = m ∧ Sort.scanUp (fun x => !lt d1[a]! x) d1 ((j1)) i = Sort.scanUp (fun x => !lt d1[a]! x) d1 ((j1)) ((i1))) ∧ Sl [(11, .int .i64 (i : Int)), (12, .int .i64 (((j1) : Nat) : Int)), (0, .slice (some ⟨B, 0, s⟩) N C), (1, .int .i64 (a : Int)), (2, .int .i64 (b : Int)), (4, .func (.func g) #[] cp)] f) ((j1) + 1 - (i1)) (by omega) ⟨(i1), ⟨k, dd, Nat.le_refl _, by omega, rfl, rfl⟩, (sel_z rfl (by omega)), (sel_z rfl (by omega)), by exact sel_of rfl, by exact sel_of rfl, by exact sel_of rfl, by exact sel_of rfl, trivial⟩ ?_
      clear k dd
      rintro m f h ⟨i, ⟨k, dd, hii, hiN, hm, he⟩, hs⟩
      obtain ⟨f0, rfl⟩ := hs.puts
      clear hs
      simp only [c49_0]
      rw [Sort.scanUp] at he
      by_cases hij : i ≤ (j1)
      · refine gg ?_
        refine i_idxD (a) (by exact sel_of rfl) (by exact sel_of rfl) (by omega) (by omega) ?_
        refine gg ?_
        refine i_ldD dd (by exact sel_of rfl) (by omega) ?_
        refine gg ?_
        refine i_idxD (i) (by exact sel_of rfl) (by exact sel_of rfl) (by omega) (by omega) ?_
        refine gg ?_
        refine i_ldD dd (by exact sel_of rfl) (by omega) ?_
        refine gg ?_
        refine s1_cons (det_dgcall cc.det (by exact sel_of rfl)) ?_
        refine i_liveP (by exact sel_of rfl) (by omega) ?_
        refine i_callD (by exact sel_of rfl) (by exact sel_of rfl) (by exact sel_of rfl) (cc.run _ k _ (by omega) _ _) ?_
        rintro _ h1c ⟨c1, rfl, hc1, kk⟩
        have k := k.trans (kk.but B)
        have dd := dd.keeps kk
        clear kk
        refine gg ?_
        refine out_ifnc (by exact sel_of rfl) hc1 (fun hif => ?_) (fun hif => ?_)
        · simp only [hij, hif, decide_true, Bool.true_and, Bool.not_false, if_true] at he
          refine gg ?_
          exact rnd_n ((j1) + 1 - (i + 1)) (by omega) ⟨i + 1, ⟨k, dd, by omega, by omega, rfl, he⟩, (sel_z rfl (by omega)), (sel_z rfl (by omega)), by exact sel_of rfl, by exact sel_of rfl, by exact sel_of rfl, by exact sel_of rfl, trivial⟩
        · simp only [hij, hif, decide_true, Bool.true_and, Bool.not_true, Bool.false_eq_true, if_false] at he
          refine gg ?_
          exact ⟨rfl, i, ⟨k, dd, hii, hiN, he⟩, (sel_z rfl (by omega)), (sel_z rfl (by omega)), by exact sel_of rfl, by exact sel_of rfl, by exact sel_of rfl, by exact sel_of rfl, trivial⟩
      · simp only [hij, decide_false, Bool.false_and, Bool.false_eq_true, if_false] at he
        refine gg ?_
        refine s1_cons (det_skipP (by exact sel_of rfl) (by omega)) ?_
        refine gg ?_
        exact ⟨rfl, i, ⟨k, dd, hii, hiN, he⟩, (sel_z rfl (by omega)), (sel_z rfl (by omega)), by exact sel_of rfl, by exact sel_of rfl, by exact sel_of rfl, by exact sel_of rfl, trivial⟩
    clear k dd
    rintro f h ⟨i, ⟨k, dd, hii, hiN, hi2⟩, hs⟩
    obtain ⟨f0, rfl⟩ := hs.puts
    clear hs
    first | refine o_seq ?_ | skip
    refine o_cutT (fun f h' => ∃ j, (KeepsB B h0 h' ∧ DtS h' B d1 ∧ j ≤ (j1) ∧ j = Sort.scanDown (fun x => lt d1[a]! x) d1 i ((j1))) ∧ Sl [(11, .int .i64 (i : Int)), (12, .int .i64 (j : Int)), (0, .slice (some ⟨B, 0, s⟩) N C), (1, .int .i64 (a : Int)), (2, .int .i64 (b : Int)), (4, .func (.func g) #[] cp)] f) ?_ ?_
    · refine gg ?_
      refine o_while (fun m f h' => (KeepsB B h0 h' ∧ DtS h' B d1 ∧ m ≤ (j1) ∧ Sort.scanDown (fun x => lt d1[a]! x) d1 i m = Sort.scanDown (fun x => lt d1[a]! x) d1 i ((j1))) ∧ Sl [(11, .int .i64 (i : Int)), (12, .int .i64 ((m : Nat) : Int)), (0, .slice (some ⟨B, 0, s⟩) N C), (1, .int .i64 (a : Int)), (2, .int .i64 (b : Int)), (4, .func (.func g) #[] cp)] f) ((j1)) (by omega) ⟨⟨k, dd, Nat.le_refl _, rfl⟩, (sel_z rfl (by omega)), (sel_z rfl (by omega)), by exact sel_of rfl, by exact sel_of rfl, by exact sel_of rfl, by exact sel_of rfl, trivial⟩ ?_
      clear k dd
      rintro m f h ⟨⟨k, dd, hmj, he⟩, hs⟩
      obtain ⟨f0, rfl⟩ := hs.puts
      clear hs
      simp only [c49_1]
      cases m with
      | zero =>
        refine gg ?_
        refine s1_cons (det_skipP (by exact sel_of rfl) (by omega)) ?_
        refine gg ?_
        exact ⟨rfl, 0, ⟨k, dd, by omega, he⟩, (sel_z rfl (by omega)), (sel_z rfl (by omega)), by exact sel_of rfl, by exact sel_of rfl, by exact sel_of rfl, by exact sel_of rfl, trivial⟩
      | succ j =>
        rw [Sort.scanDown] at he
        by_cases hij : i ≤ j + 1
        · refine gg ?_
          refine i_idxD (a) (by exact sel_of rfl) (by exact sel_of rfl) (by omega) (by omega) ?_
          refine gg ?_
          refine i_ldD dd (by exact sel_of rfl) (by omega) ?_
          refine gg ?_
          refine i_idxD (j + 1) (by exact sel_of rfl) (by exact sel_of rfl) (by omega) (by omega) ?_
          refine gg ?_
          refine i_ldD dd (by exact sel_of rfl) (by omega) ?_
          refine gg ?_
          refine s1_cons (det_dgcall cc.det (by exact sel_of rfl)) ?_
          refine i_liveP (by exact sel_of rfl) (by omega) ?_
          refine i_callD (by exact sel_of rfl) (by exact sel_of rfl) (by exact sel_of rfl) (cc.run _ k _ (by omega) _ _) ?_
          rintro _ h1c ⟨c1, rfl, hc1, kk⟩
          have k := k.trans (kk.but B)
          have dd := dd.keeps kk
          clear kk
          refine gg ?_
          refine out_ifc (by exact sel_of rfl) hc1 (fun hif => ?_) (fun hif => ?_)
          · simp only [hij, hif, decide_true, Bool.true_and, Bool.not_false, if_true] at he
            refine gg ?_
            exact rnd_n j (by omega) ⟨⟨k, dd, by omega, he⟩, (sel_z rfl (by omega)), (sel_z rfl (by omega)), by exact sel_of rfl, by exact sel_of rfl, by exact sel_of rfl, by exact sel_of rfl, trivial⟩
          · simp only [hij, hif, decide_true, Bool.true_and, Bool.not_true, Bool.false_eq_true, if_false] at he
            refine gg ?_
            exact ⟨rfl, j + 1, ⟨k, dd, hmj, he⟩, (sel_z rfl (by omega)), (sel_z rfl (by omega)), by exact sel_of rfl, by exact sel_of rfl, by exact sel_of rfl, by exact sel_of rfl, trivial⟩
        · simp only [hij, decide_false, Bool.false_and, Bool.false_eq_true, if_false] at he
          refine gg ?_
          refine s1_cons (det_skipP (by exact sel_of rfl) (by omega)) ?_
          refine gg ?_
          exact ⟨rfl, j + 1, ⟨k, dd, hmj, he⟩, (sel_z rfl (by omega)), (sel_z rfl (by omega)), by exact sel_of rfl, by exact sel_of rfl, by exact sel_of rfl, by exact sel_of rfl, trivial⟩
    clear k dd
    rintro f h ⟨j, ⟨k, dd, hjj, hj2⟩, hs⟩
    obtain ⟨f0, rfl⟩ := hs.puts
    clear hs
    rw [← hi2, ← hj2] at he
    refine gg ?_
    refine out_if (by exact sel_of rfl) (fun hif => ?_) (fun hif => ?_)
    · rw [if_pos (by omega)] at he
      refine gg ?_
      exact ⟨rfl, i, d1, ⟨k, dd, he⟩, (sel_z rfl (by omega)), trivial⟩
    · rw [if_neg (by omega)] at he
      refine gg ?_
      refine i_idxD (j) (by exact sel_of rfl) (by exact sel_of rfl) (by omega) (by omega) ?_
      refine gg ?_
      refine i_ldD dd (by exact sel_of rfl) (by omega) ?_
      refine gg ?_
      refine i_idxD (i) (by exact sel_of rfl) (by exact sel_of rfl) (by omega) (by omega) ?_
      refine gg ?_
      refine i_ldD dd (by exact sel_of rfl) (by omega) ?_
      refine gg ?_
      refine i_idxD (i) (by exact sel_of rfl) (by exact sel_of rfl) (by omega) (by omega) ?_
      refine i_stD dd (by exact sel_of rfl) (by exact sel_of rfl) (by omega) fun h1s k1s d1s => ?_
      refine gg ?_
      refine i_idxD (j) (by exact sel_of rfl) (by exact sel_of rfl) (by omega) (by omega) ?_
      refine i_stD d1s (by exact sel_of rfl) (by exact sel_of rfl) (by rw [Array.size_setIfInBounds]; omega) fun h2s k2s d2s => ?_
      have k := (k.trans k1s).trans k2s
      have dd := d2s
      rw [swp_eq] at dd
      clear d1s d2s k1s k2s
      refine gg ?_
      exact rnd_n (j - 1 + 1 - (i + 1)) (by omega) ⟨i + 1, j - 1, _, ⟨k, dd, by rw [Sort.size_swp]; exact hN1, by omega, by omega, by omega, rfl, he⟩, (sel_z rfl (by omega)), (sel_z rfl (by omega)), by exact sel_of rfl, by exact sel_of rfl, by exact sel_of rfl, by exact sel_of rfl, trivial⟩
  clear k dd
  rintro f h ⟨i', d', ⟨k, dd, he⟩, hs⟩
  obtain ⟨f0, rfl⟩ := hs.puts
  clear hs
  rw [he]
  refine gg ?_
  exact ⟨rfl, k, dd⟩
end
end Go.Proofs.Ytnffglfpjcbfaaa

/-! Sorting, walked: the partial insertion sort. -/
set_option linter.unusedVariables false
set_option linter.unusedSimpArgs false
namespace Go.Proofs.Ytnffglfpjcbfaaa
open Go Vm
section
variable {h0 h : Heap} {B n0 n : Nat} {g : FuncId} {cp : Array Value} {lt : El → El → Bool} {d : Array El} {s : Option Nat} {N C a b hi r0 pv : Nat}
theorem size_shiftDown : ∀ (j : Nat) (d : Array El), (Sort.shiftDown lt j d).size = d.size
  | 0, d => rfl
  | j + 1, d => by
    rw [Sort.shiftDown]
    split
    · rfl
    · rw [size_shiftDown j, Sort.size_swp]
theorem size_shiftUp (b : Nat) : ∀ (j : Nat) (d : Array El), (Sort.shiftUp lt b j d).size = d.size := by
  intro j d
  fun_induction Sort.shiftUp lt b j d <;> simp_all [Sort.size_swp]
set_option maxHeartbeats 1000000 in
theorem w_partial (cc : Cp h0 B n0 g cp lt) (k : KeepsB B h0 h) (dd : DtS h B d) (hN : d.size = N) (hab : a < b) (hb : b ≤ N) (hbig : N < 1000000) (hn : N + n0 + 10 ≤ n) :
    ResQ (callN Try.prog G0 n (.call 48 [.slice (some ⟨B, 0, s⟩) N C, .int .i64 (a : Int), .int .i64 (b : Int), .func (.func g) #[] cp]) h) (fun v h' => v = .bool (Sort.partialInsertionSort lt d a b).2 ∧ KeepsB B h0 h' ∧ DtS h' B (Sort.partialInsertionSort lt d a b).1) := by
  obtain ⟨n, rfl⟩ : ∃ m, n = m + 1 := ⟨n - 1, by omega⟩
  refine res_enter rfl d48 rfl ?_; simp only [c48]
  refine gg ?_
  unfold Sort.partialInsertionSort
  generalize hT : Sort.partialIns lt a b 5 (a + 1) d = T
  refine o_while (fun m f h' => ∃ i d', (KeepsB B h0 h' ∧ DtS h' B d' ∧ d'.size = N ∧ m ≤ 5 ∧ a < i ∧ i ≤ b ∧ T = Sort.partialIns lt a b m i d') ∧ Sl [(9, .int .i64 (i : Int)), (10, .int .i64 (5 - (m : Int))), (0, .slice (some ⟨B, 0, s⟩) N C), (1, .int .i64 (a : Int)), (2, .int .i64 (b : Int)), (3, .func (.func g) #[] cp)] f) 5 (by omega) ⟨a + 1, d, ⟨k, dd, hN, by omega, by omega, by omega, hT.symm⟩, (sel_z rfl (by omega)), (sel_z rfl (by omega)), by exact sel_of rfl, by exact sel_of rfl, by exact sel_of rfl, by exact sel_of rfl, trivial⟩ ?_
  clear k dd hT
  rintro m f h ⟨i0, d1, ⟨k, dd, hN1, hm, hai, hib, he⟩, hs⟩
  obtain ⟨f0, rfl⟩ := hs.puts
  clear hs
  simp only [c48_3]
  cases m with
  | zero =>
    rw [he, Sort.partialIns]
    refine gg ?_
    exact ⟨rfl, k, dd⟩
  | succ m =>
    rw [Sort.partialIns] at he
    simp only [] at he
    refine gg ?_
    refine o_cutT (fun f h' => ∃ i, (KeepsB B h0 h' ∧ DtS h' B d1 ∧ a < i ∧ i ≤ b ∧ Sort.scanSorted lt d1 b i0 = i) ∧ Sl [(9, .int .i64 (i : Int)), (10, .int .i64 (4 - (m : Int))), (0, .slice (some ⟨B, 0, s⟩) N C), (1, .int .i64 (a : Int)), (2, .int .i64 (b : Int)), (3, .func (.func g) #[] cp)] f) ?_ ?_
    · refine o_while (fun m' f h' => ∃ i, (KeepsB B h0 h' ∧ DtS h' B d1 ∧ a < i ∧ i ≤ b ∧ b - i = m' ∧ Sort.scanSorted lt d1 b i0 = Sort.scanSorted lt d1 b i) ∧ Sl [(9, .int .i64 (i : Int)), (10, .int .i64 (4 - (m : Int))), (0, .slice (some ⟨B, 0, s⟩) N C), (1, .int .i64 (a : Int)), (2, .int .i64 (b : Int)), (3, .func (.func g) #[] cp)] f) (b - i0) (by omega) ⟨i0, ⟨k, dd, by omega, by omega, rfl, rfl⟩, (sel_z rfl (by omega)), (sel_z rfl (by omega)), by exact sel_of rfl, by exact sel_of rfl, by exact sel_of rfl, by exact sel_of rfl, trivial⟩ ?_
      clear k dd
      rintro m' f h ⟨i, ⟨k, dd, hai, hib, hm', hes⟩, hs⟩
      obtain ⟨f0, rfl⟩ := hs.puts
      clear hs
      simp only [c48_0]
      rw [Sort.scanSorted.eq_1 lt d1 b i] at hes
      by_cases hib2 : i < b
      · refine gg ?_
        refine i_idxD (i) (by exact sel_of rfl) (by exact sel_of rfl) (by omega) (by omega) ?_
        refine gg ?_
        refine i_ldD dd (by exact sel_of rfl) (by omega) ?_
        refine gg ?_
        refine i_idxD (i - 1) (by exact sel_of rfl) (by exact sel_of rfl) (by omega) (by omega) ?_
        refine gg ?_
        refine i_ldD dd (by exact sel_of rfl) (by omega) ?_
        refine gg ?_
        refine s1_cons (det_dgcall cc.det (by exact sel_of rfl)) ?_
        refine i_liveP (by exact sel_of rfl) (by omega) ?_
        refine i_callD (by exact sel_of rfl) (by exact sel_of rfl) (by exact sel_of rfl) (cc.run _ k _ (by omega) _ _) ?_
        rintro _ h1c ⟨c1, rfl, hc1, kk⟩
        have k := k.trans (kk.but B)
        have dd := dd.keeps kk
        clear kk
        refine gg ?_
        refine out_ifnc (by exact sel_of rfl) hc1 (fun hif => ?_) (fun hif => ?_)
        · simp only [hib2, hif, decide_true, Bool.true_and, Bool.not_false, if_true] at hes
          refine gg ?_
          exact rnd_n (b - (i + 1)) (by omega) ⟨i + 1, ⟨k, dd, by omega, by omega, rfl, hes⟩, (sel_z rfl (by omega)), (sel_z rfl (by omega)), by exact sel_of rfl, by exact sel_of rfl, by exact sel_of rfl, by exact sel_of rfl, trivial⟩
        · simp only [hib2, hif, decide_true, Bool.true_and, Bool.not_true, Bool.false_eq_true, if_false] at hes
          refine gg ?_
          exact ⟨rfl, i, ⟨k, dd, hai, hib, hes⟩, (sel_z rfl (by omega)), (sel_z rfl (by omega)), by exact sel_of rfl, by exact sel_of rfl, by exact sel_of rfl, by exact sel_of rfl, trivial⟩
      · simp only [hib2, decide_false, Bool.false_and, Bool.false_eq_true, if_false] at hes
        refine gg ?_
        refine s1_cons (det_skipP (by exact sel_of rfl) (by omega)) ?_
        refine gg ?_
        exact ⟨rfl, i, ⟨k, dd, hai, hib, hes⟩, (sel_z rfl (by omega)), (sel_z rfl (by omega)), by exact sel_of rfl, by exact sel_of rfl, by exact sel_of rfl, by exact sel_of rfl, trivial⟩
    clear k dd hai hib
    rintro f h ⟨i, ⟨k, dd, hai, hib, hi2⟩, hs⟩
    obtain ⟨f0, rfl⟩ := hs.puts
    clear hs
    rw [hi2] at he
    refine gg ?_
    refine out_if (by exact sel_of rfl) (fun hif => ?_) (fun hif => ?_)
    · rw [if_pos (by omega)] at he
      refine gg ?_
      rw [he]
      exact ⟨rfl, k, dd⟩
    rw [if_neg (by omega)] at he
    refine gg ?_
    refine out_if (by exact sel_of rfl) (fun hif => ?_) (fun hif => ?_)
    · rw [if_pos (by omega)] at he
      refine gg ?_
      rw [he]
      exact ⟨rfl, k, dd⟩
    rw [if_neg (by omega)] at he
    refine gg ?_
    refine i_idxD (i - 1) (by exact sel_of rfl) (by exact sel_of rfl) (by omega) (by omega) ?_
    refine gg ?_
    refine i_ldD dd (by exact sel_of rfl) (by omega) ?_
    refine gg ?_
    refine i_idxD (i) (by exact sel_of rfl) (by exact sel_of rfl) (by omega) (by omega) ?_
    refine gg ?_
    refine i_ldD dd (by exact sel_of rfl) (by omega) ?_
    refine gg ?_
    refine i_idxD (i) (by exact sel_of rfl) (by exact sel_of rfl) (by omega) (by omega) ?_
    refine i_stD dd (by exact sel_of rfl) (by exact sel_of rfl) (by omega) fun h1s k1s d1s => ?_
    refine gg ?_
    refine i_idxD (i - 1) (by exact sel_of rfl) (by exact sel_of rfl) (by omega) (by omega) ?_
    refine i_stD d1s (by exact sel_of rfl) (by exact sel_of rfl) (by rw [Array.size_setIfInBounds]; omega) fun h2s k2s d2s => ?_
    have k := (k.trans k1s).trans k2s
    have dd := d2s
    rw [swp_eq] at dd
    clear d1s d2s k1s k2s
    have hN2 : (Sort.swp d1 i (i - 1)).size = N := by rw [Sort.size_swp]; exact hN1
    generalize Sort.swp d1 i (i - 1) = d2 at *
    refine gg ?_
    refine o_cutT (fun f h' => ∃ d3, (KeepsB B h0 h' ∧ DtS h' B d3 ∧ d3.size = N ∧ (if i - a ≥ 2 then Sort.shiftDown lt (i - 1) d2 else d2) = d3) ∧ Sl [(9, .int .i64 (i : Int)), (10, .int .i64 (4 - (m : Int))), (0, .slice (some ⟨B, 0, s⟩) N C), (1, .int .i64 (a : Int)), (2, .int .i64 (b : Int)), (3, .func (.func g) #[] cp)] f) ?_ ?_
    · refine gg ?_
      refine out_if (by exact sel_of rfl) (fun hif => ?_) (fun hif => ?_)
      · rw [if_pos (by omega)]
        refine gg ?_
        refine o_while (fun j f h' => ∃ d3, (KeepsB B h0 h' ∧ DtS h' B d3 ∧ d3.size = N ∧ j < i ∧ Sort.shiftDown lt (i - 1) d2 = Sort.shiftDown lt j d3) ∧ Sl [(11, .int .i64 (j : Int)), (9, .int .i64 (i : Int)), (10, .int .i64 (4 - (m : Int))), (0, .slice (some ⟨B, 0, s⟩) N C), (1, .int .i64 (a : Int)), (2, .int .i64 (b : Int)), (3, .func (.func g) #[] cp)] f) (i - 1) (by omega) ⟨d2, ⟨k, dd, hN2, by omega, rfl⟩, (sel_z rfl (by omega)), (sel_z rfl (by omega)), (sel_z rfl (by omega)), by exact sel_of rfl, by exact sel_of rfl, by exact sel_of rfl, by exact sel_of rfl, trivial⟩ ?_
        clear k dd
        rintro j f h ⟨d3, ⟨k, dd, hN3, hji, hes⟩, hs⟩
        obtain ⟨f0, rfl⟩ := hs.puts
        clear hs
        simp only [c48_1]
        cases j with
        | zero =>
          refine gg ?_
          exact ⟨rfl, d3, ⟨k, dd, hN3, hes⟩, (sel_z rfl (by omega)), (sel_z rfl (by omega)), by exact sel_of rfl, by exact sel_of rfl, by exact sel_of rfl, by exact sel_of rfl, trivial⟩
        | succ j =>
          rw [Sort.shiftDown.eq_2 lt] at hes
          refine gg ?_
          refine i_idxD (j + 1) (by exact sel_of rfl) (by exact sel_of rfl) (by omega) (by omega) ?_
          refine gg ?_
          refine i_ldD dd (by exact sel_of rfl) (by omega) ?_
          refine gg ?_
          refine i_idxD (j) (by exact sel_of rfl) (by exact sel_of rfl) (by omega) (by omega) ?_
          refine gg ?_
          refine i_ldD dd (by exact sel_of rfl) (by omega) ?_
          refine gg ?_
          refine s1_cons (det_dcall cc.det (by exact sel_of rfl)) ?_
          refine i_callD (by exact sel_of rfl) (by exact sel_of rfl) (by exact sel_of rfl) (cc.run _ k _ (by omega) _ _) ?_
          rintro _ h1c ⟨c1, rfl, hc1, kk⟩
          have k := k.trans (kk.but B)
          have dd := dd.keeps kk
          clear kk
          refine gg ?_
          refine out_ifnc (by exact sel_of rfl) hc1 (fun hif => ?_) (fun hif => ?_)
          · simp only [hif, Bool.not_false, if_true] at hes
            refine gg ?_
            exact ⟨rfl, d3, ⟨k, dd, hN3, hes⟩, (sel_z rfl (by omega)), (sel_z rfl (by omega)), by exact sel_of rfl, by exact sel_of rfl, by exact sel_of rfl, by exact sel_of rfl, trivial⟩
          · simp only [hif, Bool.not_true, Bool.false_eq_true, if_false] at hes
            refine gg ?_
            refine i_idxD (j) (by exact sel_of rfl) (by exact sel_of rfl) (by omega) (by omega) ?_
            refine gg ?_
            refine i_ldD dd (by exact sel_of rfl) (by omega) ?_
            refine gg ?_
            refine i_idxD (j + 1) (by exact sel_of rfl) (by exact sel_of rfl) (by omega) (by omega) ?_
            refine gg ?_
            refine i_ldD dd (by exact sel_of rfl) (by omega) ?_
            refine gg ?_
            refine i_idxD (j + 1) (by exact sel_of rfl) (by exact sel_of rfl) (by omega) (by omega) ?_
            refine i_stD dd (by exact sel_of rfl) (by exact sel_of rfl) (by omega) fun h1s k1s d1s => ?_
            refine gg ?_
            refine i_idxD (j) (by exact sel_of rfl) (by exact sel_of rfl) (by omega) (by omega) ?_
            refine i_stD d1s (by exact sel_of rfl) (by exact sel_of rfl) (by rw [Array.size_setIfInBounds]; omega) fun h2s k2s d2s => ?_
            have k := (k.trans k1s).trans k2s
            have dd := d2s
            rw [swp_eq] at dd
            clear d1s d2s k1s k2s
            refine gg ?_
            exact rnd_n j (by omega) ⟨_, ⟨k, dd, by rw [Sort.size_swp]; exact hN3, by omega, hes⟩, (sel_z rfl (by omega)), (sel_z rfl (by omega)), (sel_z rfl (by omega)), by exact sel_of rfl, by exact sel_of rfl, by exact sel_of rfl, by exact sel_of rfl, trivial⟩
      · rw [if_neg (by omega)]
        refine gg ?_
        exact ⟨rfl, d2, ⟨k, dd, hN2, rfl⟩, (sel_z rfl (by omega)), (sel_z rfl (by omega)), by exact sel_of rfl, by exact sel_of rfl, by exact sel_of rfl, by exact sel_of rfl, trivial⟩
    clear k dd
    rintro f h ⟨d3, ⟨k, dd, hN3, hd3⟩, hs⟩
    obtain ⟨f0, rfl⟩ := hs.puts
    clear hs
    rw [hd3] at he
    refine gg ?_
    refine out_if (by exact sel_of rfl) (fun hif => ?_) (fun hif => ?_)
    · rw [if_pos (by omega)] at he
      refine gg ?_
      refine o_while (fun m' f h' => ∃ j d4, (KeepsB B h0 h' ∧ DtS h' B d4 ∧ d4.size = N ∧ i < j ∧ j ≤ b ∧ b - j = m' ∧ Sort.shiftUp lt b (i + 1) d3 = Sort.shiftUp lt b j d4) ∧ Sl [(12, .int .i64 (j : Int)), (9, .int .i64 (i : Int)), (10, .int .i64 (4 - (m : Int))), (0, .slice (some ⟨B, 0, s⟩) N C), (1, .int .i64 (a : Int)), (2, .int .i64 (b : Int)), (3, .func (.func g) #[] cp)] f) (b - (i + 1)) (by omega) ⟨i + 1, d3, ⟨k, dd, hN3, by omega, by omega, rfl, rfl⟩, (sel_z rfl (by omega)), (sel_z rfl (by omega)), (sel_z rfl (by omega)), by exact sel_of rfl, by exact sel_of rfl, by exact sel_of rfl, by exact sel_of rfl, trivial⟩ ?_
      clear k dd
      rintro m' f h ⟨j, d4, ⟨k, dd, hN4, hij, hjb, hm', hes⟩, hs⟩
      obtain ⟨f0, rfl⟩ := hs.puts
      clear hs
      simp only [c48_2]
      rw [Sort.shiftUp.eq_1 lt b j] at hes
      by_cases hjb2 : j < b
      · rw [if_pos hjb2] at hes
        refine gg ?_
        refine i_idxD (j) (by exact sel_of rfl) (by exact sel_of rfl) (by omega) (by omega) ?_
        refine gg ?_
        refine i_ldD dd (by exact sel_of rfl) (by omega) ?_
        refine gg ?_
        refine i_idxD (j - 1) (by exact sel_of rfl) (by exact sel_of rfl) (by omega) (by omega) ?_
        refine gg ?_
        refine i_ldD dd (by exact sel_of rfl) (by omega) ?_
        refine gg ?_
        refine s1_cons (det_dcall cc.det (by exact sel_of rfl)) ?_
        refine i_callD (by exact sel_of rfl) (by exact sel_of rfl) (by exact sel_of rfl) (cc.run _ k _ (by omega) _ _) ?_
        rintro _ h1c ⟨c1, rfl, hc1, kk⟩
        have k := k.trans (kk.but B)
        have dd := dd.keeps kk
        clear kk
        refine gg ?_
        refine out_ifnc (by exact sel_of rfl) hc1 (fun hif => ?_) (fun hif => ?_)
        · simp only [hif, Bool.not_false, if_true] at hes
          rw [hes] at he
          refine gg ?_
          exact rnd_n m (by omega) ⟨i, d4, ⟨k, dd, hN4, by omega, hai, hib, he⟩, (sel_z rfl (by omega)), (sel_z rfl (by omega)), by exact sel_of rfl, by exact sel_of rfl, by exact sel_of rfl, by exact sel_of rfl, trivial⟩
        · simp only [hif, Bool.not_true, Bool.false_eq_true, if_false] at hes
          refine gg ?_
          refine i_idxD (j - 1) (by exact sel_of rfl) (by exact sel_of rfl) (by omega) (by omega) ?_
          refine gg ?_
          refine i_ldD dd (by exact sel_of rfl) (by omega) ?_
          refine gg ?_
          refine i_idxD (j) (by exact sel_of rfl) (by exact sel_of rfl) (by omega) (by omega) ?_
          refine gg ?_
          refine i_ldD dd (by exact sel_of rfl) (by omega) ?_
          refine gg ?_
          refine i_idxD (j) (by exact sel_of rfl) (by exact sel_of rfl) (by omega) (by omega) ?_
          refine i_stD dd (by exact sel_of rfl) (by exact sel_of rfl) (by omega) fun h1s k1s d1s => ?_
          refine gg ?_
          refine i_idxD (j - 1) (by exact sel_of rfl) (by exact sel_of rfl) (by omega) (by omega) ?_
          refine i_stD d1s (by exact sel_of rfl) (by exact sel_of rfl) (by rw [Array.size_setIfInBounds]; omega) fun h2s k2s d2s => ?_
          have k := (k.trans k1s).trans k2s
          have dd := d2s
          rw [swp_eq] at dd
          clear d1s d2s k1s k2s
          refine gg ?_
          exact rnd_n (b - (j + 1)) (by omega) ⟨j + 1, _, ⟨k, dd, by rw [Sort.size_swp]; exact hN4, by omega, by omega, rfl, hes⟩, (sel_z rfl (by omega)), (sel_z rfl (by omega)), (sel_z rfl (by omega)), by exact sel_of rfl, by exact sel_of rfl, by exact sel_of rfl, by exact sel_of rfl, trivial⟩
      · rw [if_neg hjb2] at hes
        rw [hes] at he
        refine gg ?_
        exact rnd_n m (by omega) ⟨i, d4, ⟨k, dd, hN4, by omega, hai, hib, he⟩, (sel_z rfl (by omega)), (sel_z rfl (by omega)), by exact sel_of rfl, by exact sel_of rfl, by exact sel_of rfl, by exact sel_of rfl, trivial⟩
    · rw [if_neg (by omega)] at he
      refine gg ?_
      exact rnd_n m (by omega) ⟨i, d3, ⟨k, dd, hN3, by omega, hai, hib, he⟩, (sel_z rfl (by omega)), (sel_z rfl (by omega)), by exact sel_of rfl, by exact sel_of rfl, by exact sel_of rfl, by exact sel_of rfl, trivial⟩
end
end Go.Proofs.Ytnffglfpjcbfaaa

