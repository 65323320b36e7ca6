/- Part of a proof by an abstract run of the program's code: SoI. No condition. -/
import Derived.Test.YtkbanhfdfmodkaaSoG
/-! Sorting, walked: pdqsort: a sorted permutation. -/
set_option linter.unusedVariables false
namespace Go.Proofs.Ytkbanhfdfmodkaa
open Go Vm
theorem o_cutE {rec : Rec} {h : Heap} {n : Nat} {a : Fr} {Q : Ex → Fr → Heap → Prop} {x y : Vm.Sem} (Mid : Fr → Heap → Prop) (h1 : OutQ (x.f rec n a h) (fun e a h => (e = .normal ∧ Mid a h) ∨ (e ≠ .normal ∧ Q e a h))) (h2 : ∀ a h, Mid a h → OutQ (y.f rec n a h) Q) : OutQ (x.f rec n a h) (Then y rec n Q) :=
  h1.mono fun e a h hk => by
    rcases hk with ⟨rfl, hm⟩ | ⟨hne, hq⟩
    · exact h2 a h hm
    · cases e <;> first | exact absurd rfl hne | exact hq
section
variable {h0 : Heap} {B n0 : Nat} {g : FuncId} {cp : Array Value} {lt : El → El → Bool} {s : Option Nat} {N C : Nat}
set_option maxHeartbeats 4000000 in
theorem w_pdq (cc : Cp h0 B n0 g cp lt) (hw : Sort.SWO lt) (hbig : N < 256) : ∀ (len : Nat) {n a b lim : Nat} {d : Array El} {h : Heap}, b - a ≤ len → KeepsB B h0 h → Dt h B d → d.size = N → a ≤ b → b ≤ N → lim ≤ 100 → Sort.Below lt a b d → len + N + n0 + 20 ≤ n →
    ResQ (callN Try.prog G0 n (.call 31 [.slice (some ⟨B, 0, s⟩) N C, .int .i64 (a : Int), .int .i64 (b : Int), .int .i64 (lim : Int), .func (.func g) #[] cp]) h) (fun v h' => ∃ d', Sort.PermIn a b d d' ∧ Sort.SortedIn lt a b d' ∧ KeepsB B h0 h' ∧ Dt h' B d') := by
  intro len
  induction len using Nat.strongRecOn with | ind len ih => ?_
  intro n a b lim d h hlen k dd hN hab hb hl hB hn
  obtain ⟨n, rfl⟩ : ∃ m, n = m + 1 := ⟨n - 1, by omega⟩
  refine res_enter rfl d31 rfl ?_; simp only [c31]
  refine gg ?_
  refine o_while (fun m f h' => ∃ (a' b' lim' : Nat) (wb wp : Bool) (d' : Array El), (KeepsB B h0 h' ∧ Dt h' B d' ∧ d'.size = N ∧ a ≤ a' ∧ a' ≤ b' ∧ b' ≤ b ∧ b' - a' = m ∧ lim' ≤ 100 ∧ Sort.Below lt a' b' d' ∧ ∀ R, Sort.PermIn a' b' d' R → Sort.SortedIn lt a' b' R → Sort.PermIn a b d R ∧ Sort.SortedIn lt a b R) ∧ Sl [(10, .bool wb), (11, .bool wp), (3, .int .i64 (lim' : Int)), (0, .slice (some ⟨B, 0, s⟩) N C), (1, .int .i64 (a' : Int)), (2, .int .i64 (b' : Int)), (4, .func (.func g) #[] cp)] f) (b - a) (by omega) ⟨a, b, lim, true, true, d, ⟨k, dd, hN, Nat.le_refl _, hab, Nat.le_refl _, rfl, hl, hB, fun R h1 h2 => ⟨h1, h2⟩⟩, by exact sel_of rfl, by exact sel_of rfl, by exact sel_of rfl, by exact sel_of rfl, by exact sel_of rfl, by exact sel_of rfl, by exact sel_of rfl, trivial⟩ ?_
  clear k dd hB
  rintro m f h ⟨a1, b1, l1, wb, wp, d1, ⟨k, dd, hN1, haa, hab1, hbb, hm, hl1, hB, hfin⟩, hs⟩
  obtain ⟨f0, rfl⟩ := hs.puts
  clear hs
  simp only [c31_0]
  refine gg ?_
  refine out_if (by exact sel_of rfl) (fun hif => ?_) (fun hif => ?_)
  · refine gg ?_
    refine i_call4 (by exact sel_of rfl) (by exact sel_of rfl) (by exact sel_of rfl) (by exact sel_of rfl) (w_ins cc k dd hN1 (a := a1) (b := b1) hab1 (by omega) (by omega) (by omega)) ?_
    rintro _ h1 ⟨k, dd⟩
    refine gg ?_
    obtain ⟨p1, p2⟩ := Sort.insertionSort_holds hw d1 a1 b1 hab1 (by omega)
    obtain ⟨q1, q2⟩ := hfin _ p1 p2
    exact ⟨_, q1, q2, k, dd⟩
  refine gg ?_
  refine out_if (by exact sel_of rfl) (fun hif => ?_) (fun hif => ?_)
  · refine gg ?_
    refine i_call4 (by exact sel_of rfl) (by exact sel_of rfl) (by exact sel_of rfl) (by exact sel_of rfl) (w_heap cc k dd hN1 (a := a1) (b := b1) (by omega) (by omega) (by omega) (by omega)) ?_
    rintro _ h1 ⟨k, dd⟩
    refine gg ?_
    obtain ⟨p1, p2⟩ := Sort.heapSort_holds hw d1 a1 b1 hab1 (by omega)
    obtain ⟨q1, q2⟩ := hfin _ p1 p2
    exact ⟨_, q1, q2, k, dd⟩
  refine o_ex (then_n ?_)
  refine o_seq ?_
  refine o_cutT (fun f h' => ∃ (l2 : Nat) (d2 : Array El), (KeepsB B h0 h' ∧ Dt h' B d2 ∧ d2.size = N ∧ l2 ≤ 100 ∧ Sort.PermIn a1 b1 d1 d2) ∧ Sl [(12, .int .i64 ((b1 - a1 : Nat) : Int)), (10, .bool wb), (11, .bool wp), (3, .int .i64 (l2 : Int)), (0, .slice (some ⟨B, 0, s⟩) N C), (1, .int .i64 (a1 : Int)), (2, .int .i64 (b1 : Int)), (4, .func (.func g) #[] cp)] f) ?_ ?_
  · cases wb with
    | true =>
      refine gg ?_
      exact ⟨rfl, l1, d1, ⟨k, dd, hN1, hl1, Sort.permIn_refl _ _ _⟩, (sel_z rfl (by omega)), by exact sel_of rfl, by exact sel_of rfl, by exact sel_of rfl, by exact sel_of rfl, by exact sel_of rfl, by exact sel_of rfl, by exact sel_of rfl, trivial⟩
    | false =>
      refine gg ?_
      refine i_call4 (by exact sel_of rfl) (by exact sel_of rfl) (by exact sel_of rfl) (by exact sel_of rfl) (w_break cc k dd hN1 (a := a1) (b := b1) (by omega) (by omega) (by omega) (by omega)) ?_
      rintro _ h1 ⟨d2, p, k, dd⟩
      refine gg ?_
      exact ⟨rfl, l1 - 1, d2, ⟨k, dd, by rw [p.1]; exact hN1, by omega, p⟩, (sel_z rfl (by omega)), by exact sel_of rfl, by exact sel_of rfl, (sel_z rfl (by omega)), by exact sel_of rfl, by exact sel_of rfl, by exact sel_of rfl, by exact sel_of rfl, trivial⟩
  clear k dd
  rintro f h ⟨l2, d2, ⟨k, dd, hN2, hl2, p2⟩, hs⟩
  obtain ⟨f0, rfl⟩ := hs.puts
  clear hs
  have hB2 := hB.perm (by omega) p2
  refine gg ?_
  refine i_call4 (by exact sel_of rfl) (by exact sel_of rfl) (by exact sel_of rfl) (by exact sel_of rfl) (w_choose cc k dd hN2 (a := a1) (b := b1) (by omega) (by omega) (by omega) (by omega)) ?_
  rintro _ h1 ⟨x, t, rfl, hx1, hx2, k, dd⟩
  refine gg ?_
  refine o_cutT (fun f h' => ∃ (x t : Nat) (d3 : Array El), (KeepsB B h0 h' ∧ Dt h' B d3 ∧ d3.size = N ∧ a1 ≤ x ∧ x < b1 ∧ Sort.PermIn a1 b1 d1 d3) ∧ Sl [(13, .int .i64 (x : Int)), (14, .int .i64 (t : Int)), (12, .int .i64 ((b1 - a1 : Nat) : Int)), (10, .bool wb), (11, .bool wp), (3, .int .i64 (l2 : Int)), (0, .slice (some ⟨B, 0, s⟩) N C), (1, .int .i64 (a1 : Int)), (2, .int .i64 (b1 : Int)), (4, .func (.func g) #[] cp)] f) ?_ ?_
  · refine out_if (by exact sel_of rfl) (fun hif => ?_) (fun hif => ?_)
    · refine gg ?_
      refine i_call4 (by exact sel_of rfl) (by exact sel_of rfl) (by exact sel_of rfl) (by exact sel_of rfl) (w_rev cc k dd hN2 (a := a1) (b := b1) (by omega) (by omega) (by omega) (by omega)) ?_
      rintro _ h1 ⟨k, dd⟩
      refine gg ?_
      have p3 := Sort.reverseRange_holds d2 a1 b1 hab1 (by omega)
      exact ⟨rfl, b1 - 1 - (x - a1), 1, _, ⟨k, dd, by rw [p3.1]; exact hN2, by omega, by omega, Sort.permIn_trans _ _ _ _ _ p2 p3⟩, (sel_z rfl (by omega)), by exact sel_of rfl, by exact sel_of rfl, by exact sel_of rfl, by exact sel_of rfl, by exact sel_of rfl, by exact sel_of rfl, by exact sel_of rfl, by exact sel_of rfl, by exact sel_of rfl, trivial⟩
    · refine gg ?_
      exact ⟨rfl, x, t, d2, ⟨k, dd, hN2, hx1, hx2, p2⟩, by exact sel_of rfl, by exact sel_of rfl, by exact sel_of rfl, by exact sel_of rfl, by exact sel_of rfl, by exact sel_of rfl, by exact sel_of rfl, by exact sel_of rfl, by exact sel_of rfl, by exact sel_of rfl, trivial⟩
  clear k dd hB2 p2 hN2 hx1 hx2
  rintro f h ⟨x, t, d2, ⟨k, dd, hN2, hx1, hx2, p2⟩, hs⟩
  obtain ⟨f0, rfl⟩ := hs.puts
  clear hs
  have hB2 := hB.perm (by omega) p2
  refine o_seq ?_
  refine o_cutE (fun f h' => ∃ (d3 : Array El), (KeepsB B h0 h' ∧ Dt h' B d3 ∧ d3.size = N ∧ Sort.PermIn a1 b1 d1 d3) ∧ Sl [(13, .int .i64 (x : Int)), (12, .int .i64 ((b1 - a1 : Nat) : Int)), (10, .bool wb), (11, .bool wp), (3, .int .i64 (l2 : Int)), (0, .slice (some ⟨B, 0, s⟩) N C), (1, .int .i64 (a1 : Int)), (2, .int .i64 (b1 : Int)), (4, .func (.func g) #[] cp)] f) ?_ ?_
  · have pass : ∀ {f : Fr} {h : Heap}, Sl [(13, .int .i64 (x : Int)), (12, .int .i64 ((b1 - a1 : Nat) : Int)), (10, .bool wb), (11, .bool wp), (3, .int .i64 (l2 : Int)), (0, .slice (some ⟨B, 0, s⟩) N C), (1, .int .i64 (a1 : Int)), (2, .int .i64 (b1 : Int)), (4, .func (.func g) #[] cp)] f → True := fun _ => trivial
    cases wb with
    | false =>
      refine gg ?_
      exact .inl ⟨rfl, d2, ⟨k, dd, hN2, p2⟩, by exact sel_of rfl, by exact sel_of rfl, by exact sel_of rfl, by exact sel_of rfl, by exact sel_of rfl, by exact sel_of rfl, by exact sel_of rfl, by exact sel_of rfl, by exact sel_of rfl, trivial⟩
    | true =>
      cases wp with
      | false =>
        refine gg ?_
        exact .inl ⟨rfl, d2, ⟨k, dd, hN2, p2⟩, by exact sel_of rfl, by exact sel_of rfl, by exact sel_of rfl, by exact sel_of rfl, by exact sel_of rfl, by exact sel_of rfl, by exact sel_of rfl, by exact sel_of rfl, by exact sel_of rfl, trivial⟩
      | true =>
        refine gg ?_
        refine out_if (by exact sel_of rfl) (fun hif => ?_) (fun hif => ?_)
        · refine gg ?_
          refine i_call4 (by exact sel_of rfl) (by exact sel_of rfl) (by exact sel_of rfl) (by exact sel_of rfl) (w_partial cc k dd hN2 (a := a1) (b := b1) (by omega) (by omega) (by omega) (by omega)) ?_
          rintro _ h1 ⟨rfl, k, dd⟩
          obtain ⟨p3, p4⟩ := Sort.partialInsertionSort_holds hw d2 a1 b1 (by omega) (by omega) hB2
          cases hr : (Sort.partialInsertionSort lt d2 a1 b1).2 with
          | true =>
            refine gg ?_
            refine .inr ⟨by simp, ?_⟩
            refine gg ?_
            obtain ⟨q1, q2⟩ := hfin _ (Sort.permIn_trans _ _ _ _ _ p2 p3) (p4 hr)
            exact ⟨_, q1, q2, k, dd⟩
          | false =>
            refine gg ?_
            exact .inl ⟨rfl, _, ⟨k, dd, by rw [p3.1]; exact hN2, Sort.permIn_trans _ _ _ _ _ p2 p3⟩, by exact sel_of rfl, by exact sel_of rfl, by exact sel_of rfl, by exact sel_of rfl, by exact sel_of rfl, by exact sel_of rfl, by exact sel_of rfl, by exact sel_of rfl, by exact sel_of rfl, trivial⟩
        · refine gg ?_
          exact .inl ⟨rfl, d2, ⟨k, dd, hN2, p2⟩, by exact sel_of rfl, by exact sel_of rfl, by exact sel_of rfl, by exact sel_of rfl, by exact sel_of rfl, by exact sel_of rfl, by exact sel_of rfl, by exact sel_of rfl, by exact sel_of rfl, trivial⟩
  clear k dd hB2 p2 hN2
  rintro f h ⟨d2, ⟨k, dd, hN2, p2⟩, hs⟩
  obtain ⟨f0, rfl⟩ := hs.puts
  clear hs
  have hB2 := hB.perm (by omega) p2
  refine o_seq ?_
  refine o_cutE (fun f h' => (KeepsB B h0 h' ∧ Dt h' B d2) ∧ Sl [(13, .int .i64 (x : Int)), (12, .int .i64 ((b1 - a1 : Nat) : Int)), (10, .bool wb), (11, .bool wp), (3, .int .i64 (l2 : Int)), (0, .slice (some ⟨B, 0, s⟩) N C), (1, .int .i64 (a1 : Int)), (2, .int .i64 (b1 : Int)), (4, .func (.func g) #[] cp)] f) ?_ ?_
  · by_cases ha0 : 0 < a1
    · refine gg ?_
      refine i_idxD (a1 - 1) (by exact sel_of rfl) (by exact sel_of rfl) (by omega) (by omega) ?_
      refine gg ?_
      refine i_ldD dd (by exact sel_of rfl) (by omega) ?_
      refine gg ?_
      refine i_idxD (x) (by exact sel_of rfl) (by exact sel_of rfl) (by omega) (by omega) ?_
      refine gg ?_
      refine i_ldD dd (by exact sel_of rfl) (by omega) ?_
      refine gg ?_
      refine s1_cons (det_dgcall cc.det (by exact sel_of rfl)) ?_
      refine i_liveP (by exact sel_of rfl) (by omega) ?_
      refine i_callD (by exact sel_of rfl) (by exact sel_of rfl) (by exact sel_of rfl) (cc.run _ k _ (by omega) _ _) ?_
      rintro _ h1c ⟨c1, rfl, hc1, kk⟩
      have k := k.trans (kk.but B)
      have dd := dd.keeps kk
      clear kk
      refine gg ?_
      refine out_ifnc (by exact sel_of rfl) hc1 (fun hif => ?_) (fun hif => ?_)
      · refine gg ?_
        refine i_call5 (by exact sel_of rfl) (by exact sel_of rfl) (by exact sel_of rfl) (by exact sel_of rfl) (by exact sel_of rfl) (w_parteq cc k dd hN2 (a := a1) (b := b1) (pv := x) (by omega) (by omega) (by omega) (by omega) (by omega)) ?_
        rintro _ h1 ⟨rfl, k, dd⟩
        refine gg ?_
        refine .inr ⟨by simp, ?_⟩
        cases hx : Sort.partitionEqual lt d2 a1 b1 x with
        | mk mid d4 =>
          rw [hx] at dd
          obtain ⟨g1, g2, hs4, hB4, hf4⟩ := Sort.round_eq hw (Sort.partitionEqual_holds lt) ha0 hx1 hx2 (by omega) hB2 hif hx
          refine gg ?_
          refine rnd_n (b1 - mid) (by omega) ⟨mid, b1, l2, wb, wp, d4, ⟨k, dd, by omega, by omega, by omega, by omega, rfl, by omega, hB4, fun R r1 r2 => ?_⟩, by exact sel_of rfl, by exact sel_of rfl, by exact sel_of rfl, by exact sel_of rfl, by exact sel_of rfl, by exact sel_of rfl, by exact sel_of rfl, trivial⟩
          obtain ⟨q1, q2⟩ := hf4 R r1 r2
          exact hfin R (Sort.permIn_trans _ _ _ _ _ p2 q1) q2
      · refine gg ?_
        exact .inl ⟨rfl, ⟨k, dd⟩, by exact sel_of rfl, by exact sel_of rfl, by exact sel_of rfl, by exact sel_of rfl, by exact sel_of rfl, by exact sel_of rfl, by exact sel_of rfl, by exact sel_of rfl, by exact sel_of rfl, trivial⟩
    · refine gg ?_
      refine s1_cons (det_skipP (by exact sel_of rfl) (by omega)) ?_
      refine gg ?_
      exact .inl ⟨rfl, ⟨k, dd⟩, by exact sel_of rfl, by exact sel_of rfl, by exact sel_of rfl, by exact sel_of rfl, by exact sel_of rfl, by exact sel_of rfl, by exact sel_of rfl, by exact sel_of rfl, by exact sel_of rfl, trivial⟩
  clear k dd
  rintro f h ⟨⟨k, dd⟩, hs⟩
  obtain ⟨f0, rfl⟩ := hs.puts
  clear hs
  refine gg ?_
  refine i_call5 (by exact sel_of rfl) (by exact sel_of rfl) (by exact sel_of rfl) (by exact sel_of rfl) (by exact sel_of rfl) (w_part cc k dd hN2 (a := a1) (b := b1) (pv := x) (by omega) (by omega) (by omega) (by omega) (by omega)) ?_
  rintro _ h1 ⟨rfl, k, dd⟩
  cases hx : Sort.partition lt d2 a1 b1 x with
  | mk mid r =>
    obtain ⟨ap, d4⟩ := r
    rw [hx] at dd
    obtain ⟨g1, g2, hs4, hBa, hBr, hleft, hright⟩ := Sort.round_part hw (Sort.partition_holds lt) hx1 hx2 (by omega) hB2 hx
    simp only [] at dd
    refine gg ?_
    refine i_quo64 ((b1 - a1) / 8) (m := b1 - a1) (q := 8) (by exact sel_of rfl) rfl (by exact const_of) (by decide) (by omega) rfl ?_
    refine gg ?_
    refine out_if (by exact sel_of rfl) (fun hif => ?_) (fun hif => ?_)
    · refine gg ?_
      refine i_call5 (by exact sel_of rfl) (by exact sel_of rfl) (by exact sel_of rfl) (by exact sel_of rfl) (by exact sel_of rfl) (ih (mid - a1) (by omega) (a := a1) (b := mid) (lim := l2) (Nat.le_refl _) k dd (by omega) (by omega) (by omega) hl2 hBa (by omega)) ?_
      rintro _ h2 ⟨L, l1, l2', k, dd⟩
      obtain ⟨hBL, hf⟩ := hleft L l1 l2'
      refine gg ?_
      refine rnd_n (b1 - (mid + 1)) (by omega) ⟨mid + 1, b1, l2, _, ap, L, ⟨k, dd, by rw [l1.1]; omega, by omega, by omega, by omega, rfl, by omega, hBL, fun R r1 r2 => ?_⟩, by exact sel_of rfl, by exact sel_of rfl, by exact sel_of rfl, by exact sel_of rfl, (sel_z rfl (by omega)), by exact sel_of rfl, by exact sel_of rfl, trivial⟩
      obtain ⟨q1, q2⟩ := hf R r1 r2
      exact hfin R (Sort.permIn_trans _ _ _ _ _ p2 q1) q2
    · refine gg ?_
      refine i_call5 (by exact sel_of rfl) (by exact sel_z rfl (by omega)) (by exact sel_of rfl) (by exact sel_of rfl) (by exact sel_of rfl) (ih (b1 - (mid + 1)) (by omega) (a := mid + 1) (b := b1) (lim := l2) (Nat.le_refl _) k dd (by omega) (by omega) (by omega) hl2 hBr (by omega)) ?_
      rintro _ h2 ⟨L, l1, l2', k, dd⟩
      obtain ⟨hBL, hf⟩ := hright L l1 l2'
      refine gg ?_
      refine rnd_n (mid - a1) (by omega) ⟨a1, mid, l2, _, ap, L, ⟨k, dd, by rw [l1.1]; omega, by omega, by omega, by omega, rfl, by omega, hBL, fun R r1 r2 => ?_⟩, by exact sel_of rfl, by exact sel_of rfl, by exact sel_of rfl, by exact sel_of rfl, by exact sel_of rfl, by exact sel_of rfl, by exact sel_of rfl, trivial⟩
      obtain ⟨q1, q2⟩ := hf R r1 r2
      exact hfin R (Sort.permIn_trans _ _ _ _ _ p2 q1) q2
end
end Go.Proofs.Ytkbanhfdfmodkaa

