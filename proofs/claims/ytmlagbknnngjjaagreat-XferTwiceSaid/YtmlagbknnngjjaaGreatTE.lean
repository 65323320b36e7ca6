/- Part of a proof by an abstract run of the program's code: TE. No condition. -/
import Derived.Test.YtmlagbknnngjjaaGreatVmD
import Derived.Test.YtmlagbknnngjjaaGreatTJ
import Derived.Test.YtmlagbknnngjjaaGreatTK
import Derived.Test.YtmlagbknnngjjaaGreatTD
/-! A new End. -/
set_option linter.unusedVariables false
namespace Go.Proofs.YtmlagbknnngjjaaGreat
open Go Vm
/-- a new End's cells -/
def endv (Q mt pe : Nat) (so : Addr) (ns S J : Nat) : List Value := [pt Q, nv (3 * mt), nv 1073741824, nv 0, nv mt, .bool false, .int .u32 ((0 : Nat) : Int), nv 0, nv 0, nv 3000, .bool false, nv pe, .slice (some so) ns ns, .bool false, nv 0, .bool false, .int .u32 ((0 : Nat) : Int), nv 0, pt S, pt J, .bool false]
structure NwQ (h h' : Heap) (X Q sb S M N first pf pe mt ns ni : Nat) : Prop where
  keep : Keeps h h'
  xl : X < h'.next ∧ h.next ≤ X
  gX : h'.get X = some (.cells 79 (endv Q mt pe ⟨sb, 0, none⟩ ns S (N + 3)) (.own false))
  que : Que h' Q none first []
  gsb : h'.get sb = some (.cells 32 (ssv (List.replicate ns 0)) (.own false))
  sbl : sb < h'.next ∧ h.next ≤ sb
  ql : h.next ≤ Q
  gS : h'.get S = some (.cells 97 [.int .u32 (((pf + 4294967295) % 4294967296 : Nat) : Int), .map (some M), .slice none 0 0] (.own false))
  gM : h'.get M = some (.map [] 0)
  sl : S < h'.next ∧ h.next ≤ S ∧ M < h'.next ∧ h.next ≤ M ∧ h.next ≤ N
  jn : Jn h' N (List.replicate ni 0) [] [] [] 0 none
  ord : Q < N ∧ S < N ∧ M < N ∧ N + 4 ≤ X ∧ sb < N
section
variable {h : Heap} {n first pf pe mt ns ni : Nat}
theorem w_qnew (hf : first < 4294967296) (hn : 1 ≤ n) : ResQ (callN Tryz.prog G0 n (.call 22 [.int .u32 (first : Int)]) h) (fun v h' => v = pt h.next ∧ h' = h.new (.cells 93 [.slice none 0 0, .int .u32 (first : Int)] (.own false))) := by
  obtain ⟨n, rfl⟩ : ∃ m, n = m + 1 := ⟨n - 1, by omega⟩
  refine res_enter rfl d22 rfl ?_; simp only [c22]
  refine gg ?_
  exact ⟨rfl, rfl⟩
theorem w_wstart (h1 : 1 ≤ mt) (h2 : mt ≤ 65536) (hn : 2 ≤ n) : ResQ (callN Tryz.prog G0 n (.call 23 [nv mt]) h) (fun v h' => v = .agg (wayv (3 * mt) mt).toArray ∧ Keeps h h' ∧ h'.next = h.next + 1) := by
  obtain ⟨n, rfl⟩ : ∃ m, n = m + 1 := ⟨n - 1, by omega⟩
  refine res_enter rfl d23 rfl ?_; simp only [c23]
  refine gg ?_
  obtain ⟨b1, k1, n1⟩ := box_one h (.cells 62 [.int .i64 0, .int .i64 0, .int .i64 0, .int .i64 0, .bool false, .int .u32 0] (.own false))
  generalize (h.new (.cells 62 [.int .i64 0, .int .i64 0, .int .i64 0, .int .i64 0, .bool false, .int .u32 0] (.own false))) = hA at *
  refine i_call3 (by exact const_of) (by exact sel_of rfl) (by exact const_of) (w_between (by omega) (by omega) (by omega)) ?_
  rintro _ _ ⟨rfl, rfl⟩
  refine gg ?_
  refine i_mul64 (p := 3) (q := (mt : Int)) (by exact const_of) (by exact sel_of rfl) (by omega) (by omega) ?_
  refine gg ?_
  refine i_storeP (b := h.next) (vs := wayv (3 * mt) mt) (by exact sel_of rfl) (by rw [sel_of rfl]; rfl) b1 rfl rfl ?_
  refine gg ?_
  exact finA1 (by exact sel_of rfl) (loadN_all (b := h.next) (by rw [Heap.get_put, if_pos rfl]) rfl) ⟨rfl, k1.put (Nat.le_refl _) _, n1⟩
def rtov : List Value := [nv 0, nv 0, nv 3000, .bool false]
theorem w_rstart (hn : 1 ≤ n) : ResQ (callN Tryz.prog G0 n (.call 24 []) h) (fun v h' => v = .agg rtov.toArray ∧ Keeps h h' ∧ h'.next = h.next + 1) := by
  obtain ⟨n, rfl⟩ : ∃ m, n = m + 1 := ⟨n - 1, by omega⟩
  refine res_enter rfl d24 rfl ?_; simp only [c24]
  refine gg ?_
  obtain ⟨b1, k1, n1⟩ := box_one h (.cells 65 [.int .i64 0, .int .i64 0, .int .i64 0, .bool false] (.own false))
  generalize (h.new (.cells 65 [.int .i64 0, .int .i64 0, .int .i64 0, .bool false] (.own false))) = hA at *
  refine i_storeP (b := h.next) (vs := rtov) (by exact sel_of rfl) (by rw [sel_of rfl]; rfl) b1 rfl rfl ?_
  refine gg ?_
  exact finA1 (by exact sel_of rfl) (loadN_all (b := h.next) (by rw [Heap.get_put, if_pos rfl]) rfl) ⟨rfl, k1.put (Nat.le_refl _) _, n1⟩
theorem w_gnew (hpf : pf < 4294967296) (hn : 1 ≤ n) : ResQ (callN Tryz.prog G0 n (.call 25 [.int .u32 (pf : Int)]) h) (fun v h' => v = pt (h.next + 1) ∧ h' = (h.new (.map [] 0)).new (.cells 97 [.int .u32 (((pf + 4294967295) % 4294967296 : Nat) : Int), .map (some h.next), .slice none 0 0] (.own false))) := by
  obtain ⟨n, rfl⟩ : ∃ m, n = m + 1 := ⟨n - 1, by omega⟩
  refine res_enter rfl d25 rfl ?_; simp only [c25]
  refine gg ?_
  refine i_subW (q := ((1 : Nat) : Int)) (r := (((pf + 4294967295) % 4294967296 : Nat) : Int)) (by exact sel_of rfl) (by exact const_of) ((sub32 pf (by omega)).trans (congrArg _ (by omega))) ?_
  refine i_makeMap ?_
  refine gg ?_
  exact ⟨rfl, rfl⟩
theorem sl_cons {x : Value} {l : List Value} (h1 : sameV x x = true) (h2 : same1 x x = sameV x x) (h3 : sameL l l = true) : sameL (x :: l) (x :: l) = true := by
  show (bif same1 x x then sameL l l else false) = true
  rw [h2, h1, h3]; rfl
theorem sl_nil : sameL [] [] = true := rfl
theorem sv_agg {l : List Value} (h : sameL l l = true) : sameV (.agg l.toArray) (.agg l.toArray) = true := h
def sndv (Q mt pe : Nat) (so : Addr) (ns : Nat) : List Value := [pt Q, nv (3 * mt), nv 1073741824, nv 0, nv mt, .bool false, .int .u32 ((0 : Nat) : Int), nv 0, nv 0, nv 3000, .bool false, nv pe, .slice (some so) ns ns, .bool false, nv 0, .bool false, .int .u32 ((0 : Nat) : Int), nv 0]
theorem sv_snd (Q mt pe : Nat) (sb ns : Nat) : sameV (.agg (sndv Q mt pe ⟨sb, 0, none⟩ ns).toArray) (.agg (sndv Q mt pe ⟨sb, 0, none⟩ ns).toArray) = true := by
  refine sv_agg ?_
  unfold sndv
  repeat (first | exact sl_nil | refine sl_cons (by first | exact sv_int _ _ | exact sv_bool _ | exact sv_pt _ | exact sv_slice _ _ _) rfl ?_)
set_option maxHeartbeats 4000000 in
theorem w_xnew (h1 : 1 ≤ mt) (h2 : mt ≤ 65536) (h3 : 1 ≤ ns) (h4 : ns ≤ 64) (h5 : 1 ≤ ni) (h6 : ni ≤ 64) (hf : first < 4294967296) (hpf : pf < 4294967296) (hpe : pe < 4294967296) (hn : 10 ≤ n) :
    ResQ (callN Tryz.prog G0 n (.call 8 [.agg #[.int .u32 (first : Int), .int .u32 (pf : Int), .int .u32 (pe : Int), nv ns, nv ni, nv mt]]) h) (fun v h' => ∃ X Q sb S M N, v = pt X ∧ NwQ h h' X Q sb S M N first pf pe mt ns ni) := by
  obtain ⟨n, rfl⟩ : ∃ m, n = m + 1 := ⟨n - 1, by omega⟩
  refine res_enter rfl d8 rfl ?_; simp only [c8]
  refine gg ?_
  obtain ⟨b1, k1, n1⟩ := box_one h (.cells 28 [.int .u32 (first : Int), .int .u32 (pf : Int), .int .u32 (pe : Int), nv ns, nv ni, nv mt] (.own false))
  change ItQ (runItems _ _ _ (h.new (.cells 28 [.int .u32 (first : Int), .int .u32 (pf : Int), .int .u32 (pe : Int), nv ns, nv ni, nv mt] (.own false)))) _
  generalize (h.new (.cells 28 [.int .u32 (first : Int), .int .u32 (pf : Int), .int .u32 (pe : Int), nv ns, nv ni, nv mt] (.own false))) = hA at *
  have ld : ∀ (g : Heap) (i : Nat) (v : Value), g.get h.next = some (.cells 28 [.int .u32 (first : Int), .int .u32 (pf : Int), .int .u32 (pe : Int), nv ns, nv ni, nv mt] (.own false)) → [.int .u32 (first : Int), .int .u32 (pf : Int), .int .u32 (pe : Int), nv ns, nv ni, nv mt][i]? = some v → load1 g.get ⟨h.next, i, none⟩ = some v := fun g i v hg hv => (load1_own hg).trans hv
  refine i_load1 (v := nv ns) (by exact sel_of rfl) (ld hA (0 + 3) _ b1 rfl) ?_
  refine gg ?_
  refine i_load1 (v := nv ns) (by exact sel_of rfl) (ld hA (0 + 3) _ b1 rfl) ?_
  refine gg ?_
  refine i_load1 (v := .int .u32 (first : Int)) (by exact sel_of rfl) (ld hA (0 + 0) _ b1 rfl) ?_
  refine gg ?_
  refine i_call1 (by exact sel_of rfl) (w_qnew hf (by omega)) ?_
  rintro _ _ ⟨rfl, rfl⟩
  obtain ⟨c1, k2, n2⟩ := box_one hA (.cells 93 [.slice none 0 0, .int .u32 (first : Int)] (.own false))
  generalize (hA.new (.cells 93 [.slice none 0 0, .int .u32 (first : Int)] (.own false))) = hB at *
  have b2 := (k2.get h.next (by omega)).trans b1
  refine gg ?_
  refine i_load1 (v := nv mt) (by exact sel_of rfl) (ld hB (0 + 5) _ b2 rfl) ?_
  refine gg ?_
  refine i_call1 (by exact sel_of rfl) (w_wstart h1 h2 (by omega)) ?_
  rintro _ hC ⟨rfl, k3, n3⟩
  have b3 := (k3.get h.next (by omega)).trans b2
  refine gg ?_
  refine i_call0 (w_rstart (by omega)) ?_
  rintro _ hD ⟨rfl, k4, n4⟩
  have b4 := (k4.get h.next (by omega)).trans b3
  refine gg ?_
  refine i_load1 (v := .int .u32 (pe : Int)) (by exact sel_of rfl) (ld hD (0 + 2) _ b4 rfl) ?_
  refine gg ?_
  refine i_load1 (v := nv ns) (by exact sel_of rfl) (ld hD (0 + 3) _ b4 rfl) ?_
  refine gg ?_
  refine items_cons (it_a (mk_slice (l := ns) (c := ns) (by exact sel_of rfl) (by exact sel_of rfl) (Nat.le_refl _) (by omega) (by omega)) ?_)
  show ItQ (runItems _ _ (puts ((25, .slice (some ⟨hD.next, 0, none⟩) ns ns) :: _) _) (hD.new (.cells 32 (rep ns [.int .u16 0]) (.own false)))) _
  obtain ⟨d1, k5, n5⟩ := box_one hD (.cells 32 (rep ns [.int .u16 0]) (.own false))
  generalize (hD.new (.cells 32 (rep ns [.int .u16 0]) (.own false))) = hE at *
  have hrep : ∀ k, rep k [Value.int .u16 0] = ssv (List.replicate k 0) := fun k => by
    induction k with
    | zero => rfl
    | succ k ih =>
      show [Value.int .u16 0] ++ rep k [Value.int .u16 0] = _
      rw [ih]; rfl
  rw [hrep] at d1
  have b5 := (k5.get h.next (by omega)).trans b4
  refine gg ?_
  refine i_v (v := .agg (sndv hA.next mt pe ⟨hD.next, 0, none⟩ ns).toArray) (by rfl) ?_
  refine gg ?_
  obtain ⟨e1, k6, n6⟩ := box_one hE (.cells 71 [.pointer none, .int .i64 0, .int .i64 0, .int .i64 0, .int .i64 0, .bool false, .int .u32 0, .int .i64 0, .int .i64 0, .int .i64 0, .bool false, .int .i64 0, .slice none 0 0, .bool false, .int .i64 0, .bool false, .int .u32 0, .int .i64 0] (.own false))
  generalize (hE.new (.cells 71 [.pointer none, .int .i64 0, .int .i64 0, .int .i64 0, .int .i64 0, .bool false, .int .u32 0, .int .i64 0, .int .i64 0, .int .i64 0, .bool false, .int .i64 0, .slice none 0 0, .bool false, .int .i64 0, .bool false, .int .u32 0, .int .i64 0] (.own false))) = hF at *
  refine i_storeP (b := hE.next) (vs := sndv hA.next mt pe ⟨hD.next, 0, none⟩ ns) (by exact sel_of rfl) (by rw [sel_of rfl]; rfl) e1 rfl rfl ?_
  have e2 : (hF.put hE.next (.cells 71 (sndv hA.next mt pe ⟨hD.next, 0, none⟩ ns) (.own false))).get hE.next = some (.cells 71 (sndv hA.next mt pe ⟨hD.next, 0, none⟩ ns) (.own false)) := by rw [Heap.get_put, if_pos rfl]
  have k7 : Keeps hE (hF.put hE.next (.cells 71 (sndv hA.next mt pe ⟨hD.next, 0, none⟩ ns) (.own false))) := k6.put (Nat.le_refl _) _
  have n7 : (hF.put hE.next (.cells 71 (sndv hA.next mt pe ⟨hD.next, 0, none⟩ ns) (.own false))).next = hE.next + 1 := n6
  clear e1 k6 n6
  generalize (hF.put hE.next (.cells 71 (sndv hA.next mt pe ⟨hD.next, 0, none⟩ ns) (.own false))) = hG at *
  refine gg ?_
  refine ⟨chk_cons (a := _) rfl (ld1 (by exact sel_of rfl) (ld hB (0 + 5) _ b2 rfl)) (sv_int _ _) (fun m hm => by
    simp only [List.mem_cons, List.not_mem_nil, or_false] at hm
    rcases hm with rfl | rfl
    · exact ⟨_, _, rfl, ld1 (by exact sel_of rfl) (ld hA (0 + 5) _ b1 rfl)⟩
    · exact ⟨_, _, rfl, ld1 (by exact sel_of rfl) (ld hB (0 + 5) _ b2 rfl)⟩) (chk_cons (a := _) rfl (ld1 (by exact sel_of rfl) (ld hD (0 + 2) _ b4 rfl)) (sv_int _ _) (fun m hm => by
    simp only [List.mem_cons, List.not_mem_nil, or_false] at hm
    rcases hm with rfl | rfl | rfl | rfl
    · exact ⟨_, _, rfl, ld1 (by exact sel_of rfl) (ld hA (0 + 2) _ b1 rfl)⟩
    · exact ⟨_, _, rfl, ld1 (by exact sel_of rfl) (ld hB (0 + 2) _ b2 rfl)⟩
    · exact ⟨_, _, rfl, ld1 (by exact sel_of rfl) (ld hC (0 + 2) _ b3 rfl)⟩
    · exact ⟨_, _, rfl, ld1 (by exact sel_of rfl) (ld hD (0 + 2) _ b4 rfl)⟩) (chk_cons (a := _) rfl (ld1 (by exact sel_of rfl) (ld hD (0 + 3) _ b4 rfl)) (sv_int _ _) (fun m hm => by
    simp only [List.mem_cons, List.not_mem_nil, or_false] at hm
    rcases hm with rfl | rfl | rfl | rfl
    · exact ⟨_, _, rfl, ld1 (by exact sel_of rfl) (ld hA (0 + 3) _ b1 rfl)⟩
    · exact ⟨_, _, rfl, ld1 (by exact sel_of rfl) (ld hB (0 + 3) _ b2 rfl)⟩
    · exact ⟨_, _, rfl, ld1 (by exact sel_of rfl) (ld hC (0 + 3) _ b3 rfl)⟩
    · exact ⟨_, _, rfl, ld1 (by exact sel_of rfl) (ld hD (0 + 3) _ b4 rfl)⟩) chk_nil)), ?_⟩
  have b7 := (k7.get h.next (by omega)).trans b5
  refine gg ?_
  refine i_loadN (v := sndv hA.next mt pe ⟨hD.next, 0, none⟩ ns) (by exact sel_of rfl) (loadN_all e2 rfl) ?_
  refine gg ?_
  refine i_load1 (v := .int .u32 (pf : Int)) (by exact sel_of rfl) (ld hG (0 + 1) _ b7 rfl) ?_
  refine gg ?_
  refine i_call1 (by exact sel_of rfl) (w_gnew hpf (by omega)) ?_
  rintro _ _ ⟨rfl, rfl⟩
  obtain ⟨f1, f2, k8, n8⟩ := box_two hG (.map [] 0) (.cells 97 [.int .u32 (((pf + 4294967295) % 4294967296 : Nat) : Int), .map (some hG.next), .slice none 0 0] (.own false))
  generalize ((hG.new (.map [] 0)).new (.cells 97 [.int .u32 (((pf + 4294967295) % 4294967296 : Nat) : Int), .map (some hG.next), .slice none 0 0] (.own false))) = hH at *
  have b8 := (k8.get h.next (by omega)).trans b7
  refine gg ?_
  refine i_load1 (v := nv ni) (by exact sel_of rfl) (ld hH (0 + 4) _ b8 rfl) ?_
  refine gg ?_
  refine i_call1 (by exact sel_of rfl) (w_new h5 h6 (by omega)) ?_
  rintro _ hI ⟨rfl, k9, jn⟩
  have n9 := k9.next
  have jup := jn.up
  refine gg ?_
  refine i_v (v := .agg (endv hA.next mt pe ⟨hD.next, 0, none⟩ ns (hG.next + 1) (hH.next + 3)).toArray) (by rfl) ?_
  refine gg ?_
  obtain ⟨g1, k10, n10⟩ := box_one hI (.cells 79 (endv hA.next mt pe ⟨hD.next, 0, none⟩ ns (hG.next + 1) (hH.next + 3)) (.own false))
  refine ⟨chk_cons (a := _) rfl (ldN (by exact sel_of rfl) (loadN_all e2 rfl)) (sv_snd _ _ _ _ _) (fun m hm => by
    simp only [List.mem_cons, List.not_mem_nil, or_false] at hm
    rcases hm with rfl | rfl | rfl
    · exact ⟨_, _, rfl, ldN (by exact sel_of rfl) (loadN_all e2 rfl)⟩
    · exact ⟨_, _, rfl, ldN (by exact sel_of rfl) (loadN_all ((k8.get hE.next (by omega)).trans e2) rfl)⟩
    · exact ⟨_, _, rfl, ldN (by exact sel_of rfl) (loadN_all ((k9.get hE.next (by omega)).trans ((k8.get hE.next (by omega)).trans e2)) rfl)⟩) (chk_cons (a := _) rfl (ld1 (by exact sel_of rfl) (ld hH (0 + 4) _ b8 rfl)) (sv_int _ _) (fun m hm => by
    simp only [List.mem_cons, List.not_mem_nil, or_false] at hm
    rcases hm with rfl | rfl
    · exact ⟨_, _, rfl, ld1 (by exact sel_of rfl) (ld hG (0 + 4) _ b7 rfl)⟩
    · exact ⟨_, _, rfl, ld1 (by exact sel_of rfl) (ld hH (0 + 4) _ b8 rfl)⟩) chk_nil), ?_⟩
  refine gg ?_
  show ∃ X Q sb S M N, _ ∧ NwQ h (hI.new (.cells 79 (endv hA.next mt pe ⟨hD.next, 0, none⟩ ns (hG.next + 1) (hH.next + 3)) (.own false))) X Q sb S M N first pf pe mt ns ni
  generalize (hI.new (.cells 79 (endv hA.next mt pe ⟨hD.next, 0, none⟩ ns (hG.next + 1) (hH.next + 3)) (.own false))) = hJ at *
  have low : ∀ d, d < hG.next → hJ.get d = hG.get d := fun d hd => by rw [k10.get d (by omega), k9.get d (by omega), k8.get d hd]
  have lowQ : hJ.get hA.next = some (.cells 93 [.slice none 0 0, .int .u32 (first : Int)] (.own false)) := by
    rw [low _ (by omega), k7.get _ (by omega), k5.get _ (by omega), k4.get _ (by omega), k3.get _ (by omega)]; exact c1
  refine ⟨hI.next, hA.next, hD.next, hG.next + 1, hG.next, hH.next, rfl, ?_, ⟨by omega, by omega⟩, g1, ⟨lowQ, by omega, .inl ⟨rfl, rfl⟩, (fun e he => nomatch he), List.nodup_nil, Nat.zero_le _, hf⟩, ?_, ⟨by omega, by omega⟩, by omega, ?_, ?_, ⟨by omega, by omega, by omega, by omega, by omega⟩, jn.keeps k10, ⟨by omega, by omega, by omega, by omega, by omega⟩⟩
  · exact (((((((k1.trans k2).trans k3).trans k4).trans k5).trans k7).trans k8).trans k9).trans k10
  · rw [low _ (by omega), k7.get _ (by omega)]; exact d1
  · rw [k10.get _ (by omega), k9.get _ (by omega)]; exact f2
  · rw [k10.get _ (by omega), k9.get _ (by omega)]; exact f1
end
end Go.Proofs.YtmlagbknnngjjaaGreat

/-! What the laws of transfers share: an End to which messages were given. -/
set_option linter.unusedVariables false
namespace Vm
open Go
theorem ints_of : ∀ (els : List (List Value)) {h : Heap}, (∀ c ∈ els, Rep h (.int .i64) c) → ∃ l : List Int, els.flatten = l.map (fun z => Value.int .i64 z) ∧ l.length = els.length
  | [], _, _ => ⟨[], rfl, rfl⟩
  | x :: els, h, hx => by
    obtain ⟨l, hl, hn⟩ := ints_of els (fun c hc => hx c (by simp [hc]))
    cases hx x (by simp) with
    | @int k n hw => exact ⟨n :: l, by rw [List.flatten_cons, hl]; rfl, by rw [List.length_cons, List.length_cons, hn]⟩
/-- numbers -/
theorem RepV.ints {h : Heap} {v : Value} (r : RepV h (.slice (.int .i64)) v) : ∃ (o : Option Addr) (c : Nat) (l : List Int), v = .slice o l.length c ∧ Row h 1 o l.length (l.map fun z => Value.int .i64 z) ∧ l.length ≤ c := by
  obtain ⟨o, m, c, els, h1, h2, h3, h4, h5, h6, h7⟩ := Rep.row r
  obtain ⟨l, hl, hn⟩ := ints_of els h5
  have : m = l.length := by rw [hn, h3]
  subst this
  exact ⟨o, c, l, h1, by rw [← hl]; exact h2, h6⟩
end Vm
namespace Go.Proofs.YtmlagbknnngjjaaGreat
open Go Vm
theorem w_awakeX (h : Heap) (n : Nat) (hn : 1 ≤ n) : ResQ (callN Tryz.prog G0 n (.call 7 []) h) (fun v h' => v = .bool true ∧ h = h') := by
  obtain ⟨m, rfl⟩ : ∃ m, n = m + 1 := ⟨n - 1, by omega⟩
  exact ⟨.bool true, h, by rw [callN_call]; rfl, rfl, rfl⟩
section
variable {rec : Rec} {L : List (Nat × Value)} {f : Fr} {h : Heap} {K : Fr → Heap → Prop} {x y : Sel} {l : List ISem} {dt : Nat} {rd : Bool}
theorem i_andM {p : Int} {M : Nat} (hx : x.f (puts L f) = .int .i64 p) (hy : y.f (puts L f) = .int .i64 (M : Int)) (hM : M < 1000000) (hq : ∀ z : Nat, z ≤ M → ItQ (runItems rec l (puts ((dt, nv z) :: L) f) h) K) : ItQ (runItems rec (iOp (put dt) (.v rd (oInt2 fAnd x y)) :: l) (puts L f) h) K := by
  refine i_and hx hy ?_
  have h1 : Nat.land (bitsOf .i64 p) (bitsOf .i64 (M : Int)) ≤ M := Nat.and_le_right
  have h2 : wrap .i64 (.ofNat (Nat.land (bitsOf .i64 p) (bitsOf .i64 (M : Int)))) = ((Nat.land (bitsOf .i64 p) (bitsOf .i64 (M : Int)) : Nat) : Int) := wrap_lt (Nat.lt_of_le_of_lt h1 (by show M < 9223372036854775808; omega))
  rw [h2]
  exact hq _ h1
end
/-- an End to which messages were given: es waits -/
structure LS (h0 h : Heap) (X Q sb S J mt pe a : Nat) (es : List Ent) (sl : List Nat) : Prop where
  keep : Keeps h0 h
  gX : h.get X = some (.cells 79 (endv Q mt pe ⟨sb, 0, none⟩ sl.length S J) (.own false))
  xl : X < h.next ∧ h0.next ≤ X ∧ sb < h.next ∧ h0.next ≤ sb ∧ h0.next ≤ Q
  que : ∃ oq, Que h Q oq ((a + es.length) % 4294967296) es ∧ ∀ q, oq = some q → h0.next ≤ q.block
  gsb : h.get sb = some (.cells 32 (ssv sl) (.own false))
  sll : ∀ z ∈ sl, z < 65536
  new : ∀ e ∈ es, e.st = 0 ∧ e.sent = 0 ∧ h0.next ≤ e.b
  num : es.map (fun e => e.c.A) = (List.range es.length).map fun j => (a + j) % 4294967296
theorem endv_sd (Q mt pe : Nat) (so : Addr) (ns S J : Nat) : SdV (endv Q mt pe so ns S J) Q (3 * mt) mt 3000 (pe : Int) false true := ⟨rfl, rfl, rfl, rfl, rfl, rfl⟩
theorem octs_all {ss : List Nat} : ∀ (es : List Ent), (∀ e ∈ es, e.st ∈ ss) → octs ss es = (es.map Ent.sz).sum
  | [], _ => rfl
  | e :: es, h => by
    have ih := octs_all (ss := ss) es fun x hx => h x (List.mem_cons_of_mem _ hx)
    unfold octs at ih ⊢
    rw [List.map_cons, List.map_cons, List.sum_cons, List.sum_cons, ih, if_pos (h e (List.mem_cons_self ..))]
theorem octs_none {ss : List Nat} : ∀ (es : List Ent), (∀ e ∈ es, e.st ∉ ss) → octs ss es = 0
  | [], _ => rfl
  | e :: es, h => by
    have ih := octs_none (ss := ss) es fun x hx => h x (List.mem_cons_of_mem _ hx)
    unfold octs at ih ⊢
    rw [List.map_cons, List.sum_cons, ih, if_neg (h e (List.mem_cons_self ..))]
section
variable {h0 h : Heap} {n X Q sb S J mt pe a : Nat} {es : List Ent} {sl : List Nat}
theorem LS.send {o : Addr} {d : List UInt8} {dc str pp : Nat} {now : Int} (T : LS h0 h X Q sb S J mt pe a es sl) (hs : str < sl.length) (hst : str < 65536) (hpp : pp < 4294967296) (hmt : mt ≤ 65536)
    (hr : Row h 1 (some o) d.length (u8s d)) (hdc : d.length ≤ dc) (hd0 : d ≠ []) (hd : d.length ≤ 16384) (hoct : (es.map Ent.sz).sum + d.length ≤ 65536) (hcnt : es.length + (pcs (mostN mt) d).length ≤ 1024) (hn : es.length + d.length + 100 ≤ n) :
    ResQ (callN Tryz.prog G0 n (.call 9 [pt X, .agg #[.int .u16 (str : Int), .bool false, .int .u32 (pp : Int), .slice (some o) d.length dc], .int .i64 (-1), .int .i64 (-1), .int .i64 now]) h) (fun v h' => v = .int .i64 0 ∧ ∃ en, LS h0 h' X Q sb S J mt pe a (es ++ en) (sl.set str ((sl[str] + 1) % 65536)) ∧ en.map (fun e => e.c.dt) = pcs (mostN mt) d ∧ en.map Ent.c = numd ((a + es.length) % 4294967296) (spl str sl[str] pp (pcs (mostN mt) d))) := by
  obtain ⟨keep, gX, ⟨x1, x2, x3, x4, x5⟩, ⟨oq, que, hoq⟩, gsb, sll, new, num⟩ := T
  have ho : octs [0, 2] es = (es.map Ent.sz).sum := octs_all es fun e he => by rw [(new e he).1]; decide
  refine (w_sendM que gX x1 (endv_sd ..) rfl rfl gsb x3 hs hst hpp sll hmt hr hdc hd0 hd (by rw [ho]; exact hoct) hcnt hn).mono ?_
  rintro v h' ⟨rfl, ⟨oq', en, q1, q2, q3, q4⟩, n1, low, gsb'⟩
  have hlen : en.length = (spl str sl[str] pp (pcs (mostN mt) d)).length := by
    have := congrArg List.length q2
    rw [List.length_map] at this
    rw [this]; unfold numd; rw [List.length_mapIdx]
  have hXQ : X ≠ Q := fun e => by rw [e, que.hq] at gX; cases gX
  have hXs : X ≠ sb := fun e => by rw [e, gsb] at gX; cases gX
  have hXo : ∀ q, oq = some q → X ≠ q.block := fun q hq e => by
    rcases que.ar with ⟨_, h2⟩ | ⟨k, h1, h2, h3⟩
    · rw [h2] at hq; cases hq
    · rw [h1] at hq; cases hq; rw [e, h3] at gX; cases gX
  refine ⟨rfl, en, ⟨⟨by have := keep.next; omega, fun z hz => ?_⟩, ?_, ⟨by omega, x2, by omega, x4, x5⟩, ⟨oq', ?_, fun q hq => ?_⟩, gsb', fun z hz => ?_, fun e he => ?_, ?_⟩, ?_, q2⟩
  · have := keep.next
    exact (low z (by omega) (by omega) (by omega) (fun q hq => by have := hoq q hq; omega)).trans (keep.get z hz)
  · rw [List.length_set]; exact (low X x1 hXQ hXs hXo).trans gX
  · rw [List.length_append, hlen]
    have e1 : ((a + es.length) % 4294967296 + (spl str sl[str] pp (pcs (mostN mt) d)).length) % 4294967296 = (a + (es.length + (spl str sl[str] pp (pcs (mostN mt) d)).length)) % 4294967296 := by omega
    rw [← e1]; exact q1
  · rcases q4 q hq with h1 | h1
    · exact hoq q h1
    · have := keep.next; omega
  · rcases List.mem_or_eq_of_mem_set hz with hz | rfl
    · exact sll z hz
    · exact Nat.mod_lt _ (by decide)
  · rcases List.mem_append.1 he with he | he
    · exact new e he
    · obtain ⟨h1, h2, h3⟩ := q3 e he
      exact ⟨h1, h2, by have := keep.next; omega⟩
  · rw [List.map_append, num, List.length_append, List.range_add, List.map_append]
    congr 1
    have e2 : en.map (fun e => e.c.A) = (en.map Ent.c).map Ck.A := by rw [List.map_map]; rfl
    rw [e2, q2]
    apply List.ext_getElem
    · unfold numd; rw [List.length_map, List.length_mapIdx, List.length_map, List.length_map, List.length_range, hlen]
    · intro i h1 h2
      rw [List.getElem_map, List.getElem_map, List.getElem_map, List.getElem_range]
      have e3 : (numd ((a + es.length) % 4294967296) (spl str sl[str] pp (pcs (mostN mt) d)))[i]'(by rw [List.length_map] at h1; exact h1) = { (spl str sl[str] pp (pcs (mostN mt) d))[i]'(by rw [List.length_map] at h1; unfold numd at h1; rw [List.length_mapIdx] at h1; exact h1) with A := ((a + es.length) % 4294967296 + i) % 4294967296 } := by simp only [numd, List.getElem_mapIdx]
      rw [e3]
      show ((a + es.length) % 4294967296 + i) % 4294967296 = (a + (es.length + i)) % 4294967296
      omega
  · have e2 : en.map (fun e => e.c.dt) = (en.map Ent.c).map Ck.dt := by rw [List.map_map]; rfl
    rw [e2, q2]
    apply List.ext_getElem
    · unfold numd spl; rw [List.length_map, List.length_mapIdx, List.length_mapIdx]
    · intro i h1 h2
      simp only [numd, spl, List.getElem_map, List.getElem_mapIdx]
      rfl
end
end Go.Proofs.YtmlagbknnngjjaaGreat

/-! The law XferFirst, walked. -/
set_option linter.unusedVariables false
namespace Go.Proofs.YtmlagbknnngjjaaGreat
open Go Vm
theorem cksv_cell : ∀ (ks : List (Nat × Ck)) (j r : Nat) (x : Nat × Ck), ks[j]? = some x → r < 12 → (cksv ks)[j * 12 + r]? = (ckv x.2 (some ⟨x.1, 0, some 1⟩) x.2.dt.length)[r]?
  | [], j, r, x, h, _ => by cases h
  | y :: ks, 0, r, x, h, hr => by
    cases h
    show (ckv y.2 _ _ ++ cksv ks)[_]? = _
    rw [Nat.zero_mul, Nat.zero_add, List.getElem?_append_left (by rw [ckv_length]; exact hr)]
  | y :: ks, j + 1, r, x, h, hr => by
    have ih := cksv_cell ks j r x h hr
    show (ckv y.2 _ _ ++ cksv ks)[_]? = _
    rw [List.getElem?_append_right (by rw [ckv_length]; omega), ckv_length, ← ih]
    congr 1
    omega
/-- what is taken of what waits -/
theorem takeF_pre (t : Int) : ∀ (es : List Ent) (r : Nat), (∀ e ∈ es, e.st = 0) → ∃ j, (takeF t r es).2 = es.take j ∧ (takeF t r es).1 = (es.take j).map (fly t) ++ es.drop j ∧ ((takeF t r es).2.map Ent.sz).sum ≤ r
  | [], r, _ => ⟨0, rfl, rfl, Nat.zero_le _⟩
  | e :: es, r, h => by
    have he := h e (List.mem_cons_self ..)
    unfold takeF
    rw [if_pos he]
    by_cases hr : r < e.sz
    · rw [if_pos hr]; exact ⟨0, rfl, rfl, Nat.zero_le _⟩
    · rw [if_neg hr]
      obtain ⟨j, h1, h2, h3⟩ := takeF_pre t es (r - e.sz) fun x hx => h x (List.mem_cons_of_mem _ hx)
      refine ⟨j + 1, by rw [h1]; rfl, by rw [h2]; rfl, ?_⟩
      rw [List.map_cons, List.sum_cons]; omega
theorem takeF_some (t : Int) {e : Ent} {es : List Ent} {r : Nat} (h0 : e.st = 0) (hr : e.sz ≤ r) : (takeF t r (e :: es)).2 ≠ [] := by
  unfold takeF
  rw [if_pos h0, if_neg (by omega)]
  exact fun h => by cases h
theorem pcs_one' {most : Nat} {d : List UInt8} (h1 : 1 ≤ most) (hd : d ≠ []) (hl : d.length ≤ most) : pcs most d = [d] := by
  rw [pcs_cons h1 hd, List.take_of_length_le hl, List.drop_eq_nil_of_le hl, pcs_nil]
theorem pcs_few {most : Nat} (h1 : 1 ≤ most) : ∀ (m : Nat) (b : List UInt8), b.length ≤ m * most → (pcs most b).length ≤ m
  | 0, b, hb => by
    have : b = [] := List.length_eq_zero_iff.1 (by omega)
    rw [this]; exact Nat.le_refl _
  | m + 1, b, hb => by
    by_cases h0 : b = []
    · rw [h0]; exact Nat.zero_le _
    · rw [pcs_cons h1 h0, List.length_cons]
      have := pcs_few h1 m (b.drop most) (by rw [List.length_drop]; rw [Nat.add_mul] at hb; omega)
      omega
theorem pcs_sum {most : Nat} (h1 : 1 ≤ most) : ∀ (n : Nat) (b : List UInt8), b.length ≤ n → ((pcs most b).map List.length).sum = b.length
  | 0, b, hb => by
    have : b = [] := List.length_eq_zero_iff.1 (by omega)
    rw [this]; rfl
  | n + 1, b, hb => by
    by_cases h0 : b = []
    · rw [h0]; rfl
    · have hl : 0 < b.length := List.length_pos_iff.2 h0
      rw [pcs_cons h1 h0, List.map_cons, List.sum_cons, pcs_sum h1 n (b.drop most) (by rw [List.length_drop]; omega), List.length_take, List.length_drop]
      omega
section
variable {h : Heap} {n : Nat}
theorem w_pair {a b mt : Nat} (ha : a < 4294967296) (hb : b < 4294967296) (h1 : 1 ≤ mt) (h2 : mt ≤ 65536) (hn : 20 ≤ n) :
    ResQ (callN Tryz.prog G0 n (.call 11 [.int .u32 (a : Int), .int .u32 (b : Int), nv mt]) h) (fun v h' => ∃ X Q sb S M N X2 Q2 sb2 S2 M2 N2 h1, v = .tuple #[pt X, pt X2] ∧ NwQ h h1 X Q sb S M N a b 65536 mt 4 4 ∧ NwQ h1 h' X2 Q2 sb2 S2 M2 N2 b a 65536 mt 4 4) := by
  obtain ⟨n, rfl⟩ : ∃ m, n = m + 1 := ⟨n - 1, by omega⟩
  refine res_enter rfl d11 rfl ?_; simp only [c11]
  refine gg ?_
  refine i_call1 (by exact sel_of rfl) (w_xnew (first := a) (pf := b) (pe := 65536) (ns := 4) (ni := 4) (mt := mt) h1 h2 (by decide) (by decide) (by decide) (by decide) ha hb (by decide) (by omega)) ?_
  rintro _ h3 ⟨X, Q, sb, S, M, N, rfl, W⟩
  refine gg ?_
  refine i_call1 (by exact sel_of rfl) (w_xnew (first := b) (pf := a) (pe := 65536) (ns := 4) (ni := 4) (mt := mt) h1 h2 (by decide) (by decide) (by decide) (by decide) hb ha (by decide) (by omega)) ?_
  rintro _ h4 ⟨X2, Q2, sb2, S2, M2, N2, rfl, W2⟩
  refine gg ?_
  exact ⟨X, Q, sb, S, M, N, X2, Q2, sb2, S2, M2, N2, h3, rfl, W, W2⟩
theorem w_due {X : Nat} {cs : List Value} {ru : Bool} {al : Int} (hX : h.get X = some (.cells 79 cs (.own false))) (h13 : cs[13]? = some (.bool ru)) (h14 : cs[14]? = some (.int .i64 al)) (hn : 1 ≤ n) :
    ResQ (callN Tryz.prog G0 n (.call 15 [pt X]) h) (fun v h' => (∃ w : Int, v = .tuple #[.int .i64 w, .bool ru]) ∧ h = h') := by
  obtain ⟨n, rfl⟩ : ∃ m, n = m + 1 := ⟨n - 1, by omega⟩
  refine res_enter rfl d15 rfl ?_; simp only [c15]
  refine gg ?_
  refine i_load1 (v := .bool ru) (by exact sel_of rfl) ((load1_own hX).trans h13) ?_
  cases ru with
  | true =>
    refine gg ?_
    refine i_load1 (v := .int .i64 al) (by exact sel_of rfl) ((load1_own hX).trans h14) ?_
    refine gg ?_
    exact ⟨⟨_, rfl⟩, rfl⟩
  | false =>
    refine gg ?_
    exact ⟨⟨_, rfl⟩, rfl⟩
theorem w_xnext {X Q nx : Nat} {oq : Option Addr} {es : List Ent} {cs : List Value} (x : Que h Q oq nx es) (hX : h.get X = some (.cells 79 cs (.own false))) (h0 : cs[0]? = some (pt Q)) (hn : 2 ≤ n) :
    ResQ (callN Tryz.prog G0 n (.call 17 [pt X]) h) (fun v h' => v = .int .u32 (nx : Int) ∧ h = h') := by
  obtain ⟨n, rfl⟩ : ∃ m, n = m + 1 := ⟨n - 1, by omega⟩
  refine res_enter rfl d17 rfl ?_; simp only [c17]
  refine gg ?_
  refine i_load1 (v := pt Q) (by exact sel_of rfl) ((load1_own hX).trans h0) ?_
  refine i_call1 (by exact sel_of rfl) (w_qnext x (by omega)) ?_
  rintro _ _ ⟨rfl, rfl⟩
  refine gg ?_
  exact ⟨rfl, rfl⟩
theorem w_dist {a b : Nat} (ha : a < 4294967296) (hn : 1 ≤ n) :
    ResQ (callN Tryz.prog G0 n (.call 16 [.int .u32 (a : Int), .int .u32 (b : Int)]) h) (fun v h' => v = .int .u32 (((b + 4294967296 - a) % 4294967296 : Nat) : Int) ∧ h = h') := by
  obtain ⟨n, rfl⟩ : ∃ m, n = m + 1 := ⟨n - 1, by omega⟩
  refine res_enter rfl d16 rfl ?_; simp only [c16]
  refine gg ?_
  refine i_subW (r := (((b + 4294967296 - a) % 4294967296 : Nat) : Int)) (by exact sel_of rfl) (by exact sel_of rfl) (sub32 b ha) ?_
  refine gg ?_
  exact ⟨rfl, rfl⟩
end
end Go.Proofs.YtmlagbknnngjjaaGreat

/-! The receiver: one whole chunk comes to a join. -/
set_option linter.unusedVariables false
namespace Go.Proofs.YtmlagbknnngjjaaGreat
open Go Vm
section
variable {h : Heap} {n N : Nat}
theorem w_jadd (j : Jn h N [0, 0, 0, 0] [] [] [] 0 none) {c : Ck} (wc : c.wf) (hfl : c.fl = 3) (hout : c.out = 3) (hinn : c.inn = 0) (hd0 : c.dt ≠ []) (hdl : c.dt.length ≤ 1172) {o : Option Addr} {cap : Nat} (hrow : Row h 1 o c.dt.length (u8s c.dt)) (hn : 100 ≤ n) :
    ResQ (callN Tryz.prog G0 n (.call 61 [.pointer (some ⟨N + 3, 0, none⟩), .agg (ckv c o cap).toArray]) h) (fun v h' => v = .int .i64 0 ∧ ∃ ro', Jn h' N [0, 0, 0, 1] [] [] [⟨3, false, c.pp, c.dt⟩] c.dt.length ro' ∧ Pres N h none h' ro') := by
  have hw : whole c [] = ⟨3, false, c.pp, c.dt⟩ := by
    unfold whole dts
    rw [hout, hfl]
    simp
  refine w_add j wc hd0 hrow (by rw [hout]; decide) rfl (by omega) (r := some [c]) (by omega) (fun m' h' v e j' hv => ?_) (S := fun h' ro' => Jn h' N [0, 0, 0, 1] [] [] [⟨3, false, c.pp, c.dt⟩] c.dt.length ro') (fun e => by cases e) (fun l e => ?_)
  · exact w_runF j' hv wc (m := 0) (b := c) (.here (by rw [hfl]; decide)) wc (m' := 0) (r := some []) (.here (by rw [hfl]; decide)) (by omega) (by omega)
  · cases e
    refine ⟨c, [], rfl, (fun d hd => ?_), trivial, (by rw [hfl]; decide), (fun d hd => ?_), by simp [dts]; omega, by simp, by simp; omega, fun m' h' v e j' hv => ?_⟩
    · simp only [List.mem_cons, List.not_mem_nil, or_false] at hd
      subst hd; exact ⟨wc, hd0⟩
    · simp only [List.getLast?_singleton, Option.some.injEq] at hd
      subst hd; rw [hfl]; decide
    · rw [hinn]
      rw [hw] at hv
      have hdel : delAll [c] ([] ++ [(c.A, c)]) = [] := by simp [delAll, delK]
      rw [hdel] at j'
      refine ResQ.mono (w_keepO j' hv rfl (ssn := 0) (x := 0) rfl rfl (by omega) (by decide) (by decide) (st' := []) (x' := 1) (rd' := [⟨3, false, c.pp, c.dt⟩]) (mm := 1) ?_ (by simp) (by omega)) ?_
      · exact .step (p := ((3, 0), ⟨3, false, c.pp, c.dt⟩)) rfl (by
          simp only [delS, List.nil_append, if_true]
          exact .done rfl)
      · rintro _ h'' ⟨ro', j'', p''⟩
        rw [Nat.zero_add] at j''
        exact ⟨ro', j'', p''⟩
end
end Go.Proofs.YtmlagbknnngjjaaGreat

/-! The receiver: the set of numbers. -/
set_option linter.unusedVariables false
namespace Vm
open Go
theorem out_scope {P : Program} {nt : Nat} {b c : Code} {rec : Rec} {n m : Nat} {a : Fr} {h : Heap} {Q : Ex → Fr → Heap → Prop} {s : Sem} (hc : den0 P nt false c = s) (hq : OutQ (s.f rec n a h) (fun e a h => match e with | .goto l => ∃ r, findLabel b l = some r ∧ OutQ (scopeGo P nt b rec n m r a h) Q | e => Q e a h)) : OutQ (scopeGo P nt b rec n (m + 1) c a h) Q := by
  obtain ⟨e1, a1, h1, he, hk⟩ := hq
  have e0 : scopeGo P nt b rec n (m + 1) c a h = (match (den0 P nt false c).f rec n a h with
    | .no => .no
    | .mk e a h => match e with
      | .goto l => (match findLabel b l with | some r => scopeGo P nt b rec n m r a h | none => .no)
      | e => .mk e a h) := rfl
  rw [hc, he] at e0
  cases e1 with
  | goto l =>
    obtain ⟨r, hr, e2, a2, h2, he2, hk2⟩ := hk
    simp only [hr] at e0
    exact ⟨e2, a2, h2, e0.trans he2, hk2⟩
  | _ => exact ⟨_, _, _, e0, hk⟩
end Vm
namespace Go.Proofs.YtmlagbknnngjjaaGreat
open Go Vm
noncomputable def q90 : Vm.Sem := sSeq (sEx .normal)
  (sSeq (sSeq (sRegion [iOp (put 2) (.v false (oEv (sel 0))),
      iOp (put 3) (.v false (oNilCheck (sel 2))),
      iOp (put 4) (.v false (oFieldAddr 1 (sel 3))),
      iOp (put 5) (.v true (oLoad1 (sel 4))),
      iOp (put 6) (.v false (oEv (sel 0))),
      iOp (put 7) (.v false (oNilCheck (sel 6))),
      iOp (put 8) (.v false (oFieldAddr 0 (sel 7))),
      iOp (put 9) (.v true (oLoad1 (sel 8))),
      iOp (put 10) (.v false (oInt2 fAdd (sel 9) ⟨fun _ => .int .u32 1⟩)),
      iOp (put 11) (.v true (oLookup (.one 1) (.bool false) false (sel 5) (sel 10))),
      iOp (put 12) (.v false (oNot (sel 11)))])
    (sCond (sel 12)
      (sEx .ret)
      (sEx .normal)))
   (sSeq (sRegion [iOp (put 13) (.v false (oEv (sel 0))),
      iOp (put 14) (.v false (oNilCheck (sel 13))),
      iOp (put 15) (.v false (oFieldAddr 0 (sel 14))),
      iOp (put 16) (.v true (oLoad1 (sel 15))),
      iOp (put 17) (.v false (oInt2 fAdd (sel 16) ⟨fun _ => .int .u32 1⟩)),
      iOp (put 18) (.v false (oNilCheck (sel 13))),
      iOp (put 19) (.v false (oFieldAddr 0 (sel 18))),
      iOp ⟨fun _ a => a⟩ (.e (eStore 1 (sel 19) (sel 17)))])
    (sSeq (sRegion [iOp (put 20) (.v false (oEv (sel 0))),
       iOp (put 21) (.v false (oNilCheck (sel 20))),
       iOp (put 22) (.v false (oFieldAddr 1 (sel 21))),
       iOp (put 23) (.v true (oLoad1 (sel 22))),
       iOp (put 24) (.v false (oEv (sel 0))),
       iOp (put 25) (.v false (oNilCheck (sel 24))),
       iOp (put 26) (.v false (oFieldAddr 0 (sel 25))),
       iOp (put 27) (.v true (oLoad1 (sel 26))),
       iOp ⟨fun _ a => a⟩ (.e (eDelete (.one 1) (sel 23) (sel 27)))])
     (sEx (.goto 0)))))
noncomputable def kClimb : Code := match bodyOf Tryz.prog 90 with | .scope b => b | _ => .skip
noncomputable def kClimbR : Code := (findLabel kClimb 0).getD .skip
theorem eClimb : den0 Tryz.prog 28 false kClimb = q90 := den0_of (by kernel_rfl)
theorem eClimbR : den0 Tryz.prog 28 false kClimbR = q90 := den0_of (by kernel_rfl)
theorem lClimb : findLabel kClimb 0 = some kClimbR := by kernel_rfl
noncomputable def c90 : CF := ⟨28, [], sScope Tryz.prog 28 kClimb⟩
theorem d90 : denF Tryz.prog 90 = some c90 := denF_of (by kernel_rfl)
/-- a set in memory -/
structure Gp (h : Heap) (S M cum : Nat) (ns : List Nat) (dv : Value) : Prop where
  gS : h.get S = some (.cells 97 [.int .u32 (cum : Int), .map (some M), dv] (.own false))
  gM : ∃ l c, h.get M = some (.map (ents .u32 l) c) ∧ l.map (·.1) = ns ∧ ∀ e ∈ l, e.2.1 = .bool true
  lt : S < h.next ∧ M < h.next ∧ cum < 4294967296
section
variable {h : Heap} {n S M cum : Nat} {dv : Value}
theorem Gp.keeps {h' : Heap} {ns : List Nat} (g : Gp h S M cum ns dv) (k : Keeps h h') : Gp h' S M cum ns dv := by
  obtain ⟨gS, ⟨l, c, gM, e⟩, l1, l2, l3⟩ := g
  have := k.next
  exact ⟨(k.get _ l1).trans gS, ⟨l, c, (k.get _ l2).trans gM, e⟩, by omega, by omega, l3⟩
theorem w_climb1 (g : Gp h S M cum [(cum + 1) % 4294967296] dv) (hn : 5 ≤ n) :
    ResQ (callN Tryz.prog G0 n (.call 90 [pt S]) h) (fun _ h' => Gp h' S M ((cum + 1) % 4294967296) [] dv ∧ h'.next = h.next ∧ ∀ d, d < h.next → d ≠ S → d ≠ M → h'.get d = h.get d) := by
  obtain ⟨gS, ⟨l, c, gM, hl, hv⟩, l1, l2, l3⟩ := g
  have hSM : S ≠ M := fun e => by rw [e, gM] at gS; cases gS
  obtain ⟨v, s, rfl⟩ : ∃ v s, l = [((cum + 1) % 4294967296, v, s)] := by
    cases l with
    | nil => cases hl
    | cons x l => cases l with
      | nil => obtain ⟨k, v, s⟩ := x; rw [List.map_cons, List.map_nil] at hl; have := (List.cons.inj hl).1; exact ⟨v, s, by rw [← this]⟩
      | cons y l => simp at hl
  have hv1 : v = .bool true := hv _ (List.mem_cons_self ..)
  subst hv1
  obtain ⟨n, rfl⟩ : ∃ m, n = m + 1 := ⟨n - 1, by omega⟩
  refine res_enter rfl d90 rfl ?_
  show OutQ (scopeGo Tryz.prog 28 kClimb (callN Tryz.prog G0 n) n n kClimb _ h) _
  obtain ⟨m, rfl⟩ : ∃ m, n = m + 2 := ⟨n - 2, by omega⟩
  generalize hN : m + 2 = N
  show OutQ (scopeGo Tryz.prog 28 kClimb (callN Tryz.prog G0 N) N N kClimb _ h) _
  rw [show scopeGo Tryz.prog 28 kClimb (callN Tryz.prog G0 N) N N = scopeGo Tryz.prog 28 kClimb (callN Tryz.prog G0 N) N (m + 1 + 1) by rw [← hN]]
  refine out_scope eClimb ?_
  unfold q90
  refine gg ?_
  refine i_load1 (v := .map (some M)) (by exact sel_of rfl) ((load1_own gS).trans (by rfl)) ?_
  refine gg ?_
  refine i_load1 (v := .int .u32 (cum : Int)) (by exact sel_of rfl) ((load1_own gS).trans (by rfl)) ?_
  refine i_addW (q := ((1 : Nat) : Int)) (r := (((cum + 1) % 4294967296 : Nat) : Int)) (by exact sel_of rfl) (by exact const_of) (add32 cum 1) ?_
  refine i_lookup (res := some (.bool true, s)) (by exact sel_of rfl) gM (by exact sel_of rfl) rfl ((ents_find .u32 _ _).trans (by simp)) ?_
  refine gg ?_
  refine i_load1 (v := .int .u32 (cum : Int)) (by exact sel_of rfl) ((load1_own gS).trans (by rfl)) ?_
  refine i_addW (q := ((1 : Nat) : Int)) (r := (((cum + 1) % 4294967296 : Nat) : Int)) (by exact sel_of rfl) (by exact const_of) (add32 cum 1) ?_
  refine gg ?_
  refine i_stB (b := S) (v := .int .u32 (((cum + 1) % 4294967296 : Nat) : Int)) (by exact sel_of rfl) (by rw [sel_of rfl]; rfl) gS (by show 0 < 3; decide) fun h1 k1 n1 g1 => ?_
  have g1 : h1.get S = some (.cells 97 [.int .u32 (((cum + 1) % 4294967296 : Nat) : Int), .map (some M), dv] (.own false)) := g1
  refine gg ?_
  refine i_load1 (v := .map (some M)) (by exact sel_of rfl) ((load1_own g1).trans (by rfl)) ?_
  refine gg ?_
  refine i_load1 (v := .int .u32 (((cum + 1) % 4294967296 : Nat) : Int)) (by exact sel_of rfl) ((load1_own g1).trans (by rfl)) ?_
  have gM1 := (k1.get M l2 (fun e => hSM e.symm)).trans gM
  refine i_mapDel (es' := ents .u32 []) (by exact sel_of rfl) gM1 (by exact sel_of rfl) rfl ((ents_del .u32 _ _).trans (by simp [delN])) ?_
  refine gg ?_
  refine ⟨kClimbR, lClimb, out_scope eClimbR ?_⟩
  unfold q90
  have g2 : (h1.put M (.map (ents .u32 []) c)).get S = some (.cells 97 [.int .u32 (((cum + 1) % 4294967296 : Nat) : Int), .map (some M), dv] (.own false)) := by rw [Heap.get_put, if_neg hSM]; exact g1
  have gM2 : (h1.put M (.map (ents .u32 []) c)).get M = some (.map (ents .u32 []) c) := by rw [Heap.get_put, if_pos rfl]
  refine gg ?_
  refine i_load1 (v := .map (some M)) (by exact sel_of rfl) ((load1_own g2).trans (by rfl)) ?_
  refine gg ?_
  refine i_load1 (v := .int .u32 (((cum + 1) % 4294967296 : Nat) : Int)) (by exact sel_of rfl) ((load1_own g2).trans (by rfl)) ?_
  refine i_addW (q := ((1 : Nat) : Int)) (r := ((((cum + 1) % 4294967296 + 1) % 4294967296 : Nat) : Int)) (by exact sel_of rfl) (by exact const_of) (add32 _ 1) ?_
  refine i_lookup (res := none) (by exact sel_of rfl) gM2 (by exact sel_of rfl) rfl rfl ?_
  refine gg ?_
  refine fin0 ⟨⟨g2, ⟨[], c, gM2, rfl, (fun e he => nomatch he)⟩, by rw [Heap.next_put]; omega, by rw [Heap.next_put]; omega, Nat.mod_lt _ (by decide)⟩, by rw [Heap.next_put]; omega, fun d hd h5 h6 => ?_⟩
  rw [Heap.get_put, if_neg h6]
  exact k1.get d hd h5
end
end Go.Proofs.YtmlagbknnngjjaaGreat

