/- Part of a proof by an abstract run of the program's code: SW. No condition. -/
import Derived.Test.YtmnhkjbplfkpfaaGreatGx
import Derived.Test.YtmnhkjbplfkpfaaGreatSF
/-! Start of an association, walked: with whatever is drawn. -/
set_option linter.unusedVariables false
namespace Go.Proofs.YtmnhkjbplfkpfaaGreat
open Go Vm
noncomputable abbrev GS : Sums := sumsOr G0 (crcSums 63 177 177)
theorem sumsS (B : Nat) : SumsOK Tryz.prog B GS := sums_or (sumsAwake B) (crcOK B)
noncomputable def maxI (a b : Int) : Int := Bool.rec a b (Bool.rec (ltI a b) (ltI b a) false)
noncomputable def minI (a b : Int) : Int := Bool.rec a b (Bool.rec (ltI a b) (ltI b a) true)
noncomputable def timeI (t : Int) : Int := minI (maxI t 0) 1099511627776
/-- a chunk that says who begins -/
def initV (tag : Int) : List Value := [.int .u8 1, .int .u8 0, .int .u32 tag, .int .u32 65536, .int .u16 4, .int .u16 4, .int .u32 tag, .slice none 0 0, .slice none 0 0, .slice none 0 0, .slice none 0 0, .slice none 0 0]
section
variable {h : Heap} {n : Nat}
theorem w_rto0 (hn : 1 ≤ n) : ResQ (callN Tryz.prog GS n (.call 64 []) h) (fun v h' => v = .agg #[.int .i64 0, .int .i64 0, .int .i64 3000, .bool false] ∧ h' = h.new (.cells 88 [.int .i64 0, .int .i64 0, .int .i64 3000, .bool false] (.own false))) := by
  obtain ⟨n, rfl⟩ : ∃ m, n = m + 1 := ⟨n - 1, by omega⟩
  refine res_enter rfl d64 rfl ?_; simp only [c64]
  refine gg ?_
  refine i_storeP (b := h.next) (s := none) (vs := [.int .i64 0, .int .i64 0, .int .i64 3000, .bool false]) (by exact sel_of rfl) (by rfl) (by rw [Heap.get_new, if_pos rfl]) rfl rfl ?_
  rw [new_put]
  refine gg ?_
  refine finA1 (by exact sel_of rfl) (loadN_all (by rw [Heap.get_new, if_pos rfl]) rfl) ?_
  exact ⟨rfl, rfl⟩
theorem w_time (t : Int) (hn : 1 ≤ n) : ResQ (callN Tryz.prog GS n (.call 34 [.int .i64 t]) h) (fun v h' => v = .int .i64 (timeI t) ∧ h = h') := by
  obtain ⟨n, rfl⟩ : ∃ m, n = m + 1 := ⟨n - 1, by omega⟩
  refine res_enter rfl d34 rfl ?_; simp only [c34]
  refine gg ?_
  refine i_v (v := .int .i64 (maxI t 0)) (by rfl) ?_
  refine i_v (v := .int .i64 (timeI t)) (by rfl) ?_
  refine gg ?_
  exact ⟨rfl, rfl⟩
/-- a set of timers' first one -/
theorem w_tstart (b o : Nat) (id T : Int) (hn : 1 ≤ n) {ty : Nat} {cs : List Value} (hb : h.get b = some (.cells ty cs (.own false))) (hbn : b < h.next) (hc : cs[o]? = some (.map none)) :
    ResQ (callN Tryz.prog GS n (.call 65 [.pointer (some ⟨b, o, none⟩), .int .i64 id, .int .i64 T]) h) (fun v h' => h' = ((h.new (.map [] 0)).put b (.cells ty (cs.set o (.map (some h.next))) (.own false))).put h.next (.map [(.int .i64 id, .int .i64 T, 0)] 1)) := by
  have ho : o < cs.length := (List.getElem?_eq_some_iff.1 hc).1
  obtain ⟨n, rfl⟩ : ∃ m, n = m + 1 := ⟨n - 1, by omega⟩
  refine res_enter rfl d65 rfl ?_; simp only [c65]
  refine gg ?_
  refine i_load1 (v := .map none) (by exact sel_of rfl) ((load1_own hb).trans (by rw [Nat.add_zero]; exact hc)) ?_
  refine gg ?_
  refine i_v (v := .bool true) (by rfl) ?_
  refine gg ?_
  refine i_makeMap ?_
  refine gg ?_
  have hne : b ≠ h.next := by omega
  have g1 : (h.new (.map [] 0)).get b = some (.cells ty cs (.own false)) := by rw [Heap.get_new, if_neg hne]; exact hb
  refine i_store1 (u := ⟨b, o + 0, none⟩) (v := .map (some h.next)) (by exact sel_of rfl) (by rfl) g1 (by show o + 0 < _; omega) ?_
  have g2 : ((h.new (.map [] 0)).put b (.cells ty (cs.set (o + 0) (.map (some h.next))) (.own false))).get b = some (.cells ty (cs.set (o + 0) (.map (some h.next))) (.own false)) := by rw [Heap.get_put, if_pos rfl]
  have g3 : ((h.new (.map [] 0)).put b (.cells ty (cs.set (o + 0) (.map (some h.next))) (.own false))).get h.next = some (.map [] 0) := by rw [Heap.get_put, if_neg (Ne.symm hne), Heap.get_new, if_pos rfl]
  show ItQ (runItems _ _ _ ((h.new (.map [] 0)).put b (.cells ty (cs.set (o + 0) (.map (some h.next))) (.own false)))) _
  refine gg ?_
  refine i_load1 (v := .map (some h.next)) (by exact sel_of rfl) ((load1_own g2).trans (by rw [Nat.add_zero, List.getElem?_set_self ho])) ?_
  refine gg ?_
  refine i_mapUpd (es := []) (c := 0) (by exact sel_of rfl) g3 (by exact sel_of rfl) (by exact sel_of rfl) rfl rfl ?_
  refine gg ?_
  rfl
/-- what is said, with how it waits -/
def sayV (tag : Int) : List Value := initV tag ++ [.int .i64 0, .int .i64 0, .int .i64 3000, .bool false, .int .i64 0, .bool true]
theorem sv_init (tag : Int) : sameV (.agg (initV tag).toArray) (.agg (initV tag).toArray) = true := by
  have e : ∀ z : Int, eqI z z = true := fun z => by rw [eqI_dec]; simp
  show sameL (initV tag) (initV tag) = true
  simp only [initV, sameL, same1, e]
  rfl
noncomputable def sayH3 (h : Heap) (tag : Int) : Heap := ((h.new (.cells 57 (initV tag) (.own false))).new (.cells 88 [.int .i64 0, .int .i64 0, .int .i64 3000, .bool false] (.own false))).new (.cells 90 (sayV tag) (.own false))
noncomputable def sayH4 (h : Heap) (S : Nat) (tag : Int) : Heap := (sayH3 h tag).put S (.map [(.int .i64 1, .pointer (some ⟨h.next + 2, 0, none⟩), 0)] 1)
noncomputable def sayH (h : Heap) (X S ty : Nat) (cs : List Value) (tag T : Int) : Heap :=
  (((sayH4 h S tag).new (.map [] 0)).put X (.cells ty (cs.set 11 (.map (some (h.next + 3)))) (.own false))).put (h.next + 3) (.map [(.int .i64 1, .int .i64 (wrap .i64 (T + 3000)), 0)] 1)
theorem sayH3_low {h : Heap} {tag : Int} {b : Nat} (hb : b < h.next) : (sayH3 h tag).get b = h.get b := by
  rw [sayH3, Heap.get_new, if_neg (by show b ≠ h.next + 2; omega), Heap.get_new, if_neg (by show b ≠ h.next + 1; omega), Heap.get_new, if_neg (by omega)]
theorem w_say (X S : Nat) (tag T : Int) (hn : 3 ≤ n) {ty : Nat} {cs : List Value} (hX : h.get X = some (.cells ty cs (.own false))) (hXn : X < h.next) (hS : h.get S = some (.map [] 0)) (hSn : S < h.next) (hXS : X ≠ S) (h11 : cs[11]? = some (.map none)) (h12 : cs[12]? = some (.map (some S))) :
    ResQ (callN Tryz.prog GS n (.call 33 [.pointer (some ⟨X, 0, none⟩), .int .i64 1, .agg (initV tag).toArray, .int .i64 T]) h) (fun v h' => h' = sayH h X S ty cs tag T) := by
  obtain ⟨n, rfl⟩ : ∃ m, n = m + 1 := ⟨n - 1, by omega⟩
  refine res_enter rfl d33 rfl ?_; simp only [c33]
  refine gg ?_
  refine i_loadN (v := initV tag) (by exact sel_of rfl) (loadN_all (by rw [Heap.get_new, if_pos rfl]) rfl) ?_
  refine gg ?_
  refine i_call0 (w_rto0 (by omega)) ?_
  rintro _ _ ⟨rfl, rfl⟩
  refine gg ?_
  refine i_v (v := .agg (sayV tag).toArray) (by rfl) ?_
  refine gg ?_
  have g0 : ((h.new (.cells 57 (initV tag) (.own false))).get h.next) = some (.cells 57 (initV tag) (.own false)) := by rw [Heap.get_new, if_pos rfl]
  have g1 : (((h.new (.cells 57 (initV tag) (.own false))).new (.cells 88 [.int .i64 0, .int .i64 0, .int .i64 3000, .bool false] (.own false))).get h.next) = some (.cells 57 (initV tag) (.own false)) := by
    rw [Heap.get_new, if_neg (by show h.next ≠ h.next + 1; omega)]; exact g0
  refine ⟨chk_cons (a := _) rfl (ldN (by exact sel_of rfl) (loadN_all g0 rfl)) (sv_init tag) (fun m hm => by
    simp only [List.mem_cons, List.not_mem_nil, or_false] at hm
    rcases hm with rfl | rfl
    · exact ⟨_, _, rfl, ldN (by exact sel_of rfl) (loadN_all g0 rfl)⟩
    · exact ⟨_, _, rfl, ldN (by exact sel_of rfl) (loadN_all g1 rfl)⟩) chk_nil, ?_⟩
  refine gg ?_
  show ItQ (runItems _ _ _ (sayH3 h tag)) _
  have gX := (sayH3_low (tag := tag) hXn).trans hX
  have gS := (sayH3_low (tag := tag) hSn).trans hS
  refine i_load1 (v := .map (some S)) (by exact sel_of rfl) ((load1_own gX).trans (by rw [Nat.zero_add]; exact h12)) ?_
  refine gg ?_
  refine i_mapUpd (kv := .int .i64 1) (v := .pointer (some ⟨h.next + 2, 0, none⟩)) (es := []) (c := 0) (by exact sel_of rfl) gS (by exact sel_of rfl) (by exact sel_of rfl) rfl rfl ?_
  show ItQ (runItems _ _ _ (sayH4 h S tag)) _
  have gX4 : (sayH4 h S tag).get X = some (.cells ty cs (.own false)) := by rw [sayH4, Heap.get_put, if_neg hXS]; exact gX
  have g24 : (sayH4 h S tag).get (h.next + 2) = some (.cells 90 (sayV tag) (.own false)) := by
    rw [sayH4, Heap.get_put, if_neg (by omega), sayH3, Heap.get_new, if_pos (by rfl)]
  have n4 : (sayH4 h S tag).next = h.next + 3 := rfl
  refine gg ?_
  refine i_load1 (v := .int .i64 3000) (by exact sel_of rfl) ((load1_own g24).trans (by rfl)) ?_
  refine gg ?_
  refine i_v (v := .int .i64 (wrap .i64 (T + 3000))) (by rfl) ?_
  refine i_call3 (by exact sel_of rfl) (by exact sel_of rfl) (by exact sel_of rfl) (w_tstart X 11 1 _ (by omega) gX4 (by rw [n4]; omega) h11) ?_
  rintro _ _ rfl
  refine gg ?_
  rfl
noncomputable def tagI (d : Int) : Int := maxI d 1
theorem w_drawn (d : Int) (hn : 1 ≤ n) : ResQ (callN Tryz.prog GS n (.call 32 [.int .u32 d]) h) (fun v h' => v = .int .u32 (tagI d) ∧ h = h') := by
  obtain ⟨n, rfl⟩ : ∃ m, n = m + 1 := ⟨n - 1, by omega⟩
  refine res_enter rfl d32 rfl ?_; simp only [c32]
  refine gg ?_
  refine i_v (v := .int .u32 (tagI d)) (by rfl) ?_
  refine gg ?_
  exact ⟨rfl, rfl⟩
noncomputable def bgn (h : Heap) (X ty : Nat) (cs : List Value) (tag : Int) : Heap := (h.put X (.cells ty (cs.set 7 (.int .i64 1)) (.own false))).put X (.cells ty ((cs.set 7 (.int .i64 1)).set 8 (.int .u32 tag)) (.own false))
theorem w_start (X S : Nat) (d T : Int) (hn : 5 ≤ n) {ty : Nat} {cs : List Value} (hX : h.get X = some (.cells ty cs (.own false))) (hXn : X < h.next) (hS : h.get S = some (.map [] 0)) (hSn : S < h.next) (hXS : X ≠ S)
    (h3 : cs[3]? = some (.int .i64 4)) (h7 : cs[7]? = some (.int .i64 0)) (hl : 12 < cs.length) (h11 : cs[11]? = some (.map none)) (h12 : cs[12]? = some (.map (some S))) :
    ResQ (callN Tryz.prog GS n (.call 11 [.pointer (some ⟨X, 0, none⟩), .int .i64 T, .int .u32 d]) h) (fun v h' => v = .int .i64 0 ∧ h' = sayH (bgn h X ty cs (tagI d)) X S ty ((cs.set 7 (.int .i64 1)).set 8 (.int .u32 (tagI d))) (tagI d) (timeI T)) := by
  obtain ⟨n, rfl⟩ : ∃ m, n = m + 1 := ⟨n - 1, by omega⟩
  refine res_enter rfl d11 rfl ?_; simp only [c11]
  refine gg ?_
  refine i_load1 (v := .int .i64 0) (by exact sel_of rfl) ((load1_own hX).trans (by rw [Nat.zero_add]; exact h7)) ?_
  refine gg ?_
  refine i_call1 (by exact sel_of rfl) (w_drawn d (by omega)) ?_
  rintro _ _ ⟨rfl, rfl⟩
  refine gg ?_
  refine i_store1 (u := ⟨X, 0 + 7, none⟩) (v := .int .i64 1) (by exact sel_of rfl) (by rfl) hX (by show 0 + 7 < _; omega) ?_
  rw [Nat.zero_add]
  refine gg ?_
  have e1 : (h.put X (.cells ty (cs.set 7 (.int .i64 1)) (.own false))).get X = some (.cells ty (cs.set 7 (.int .i64 1)) (.own false)) := by rw [Heap.get_put, if_pos rfl]
  refine i_store1 (u := ⟨X, 0 + 8, none⟩) (v := .int .u32 (tagI d)) (by exact sel_of rfl) (by rfl) e1 (by rw [List.length_set]; show 0 + 8 < _; omega) ?_
  rw [Nat.zero_add]
  show ItQ (runItems _ _ _ (bgn h X ty cs (tagI d))) _
  have e2 : (bgn h X ty cs (tagI d)).get X = some (.cells ty ((cs.set 7 (.int .i64 1)).set 8 (.int .u32 (tagI d))) (.own false)) := by rw [bgn, Heap.get_put, if_pos rfl]
  have g : ∀ i, i ≠ 7 → i ≠ 8 → ((cs.set 7 (.int .i64 1)).set 8 (.int .u32 (tagI d)))[i]? = cs[i]? := fun i a b => by rw [List.getElem?_set_ne (Ne.symm b), List.getElem?_set_ne (Ne.symm a)]
  have g8 : ((cs.set 7 (.int .i64 1)).set 8 (.int .u32 (tagI d)))[8]? = some (.int .u32 (tagI d)) := List.getElem?_set_self (by rw [List.length_set]; omega)
  refine gg ?_
  refine i_load1 (v := .int .i64 4) (by exact sel_of rfl) ((load1_own e2).trans (by show _[3]? = _; rw [g 3 (by decide) (by decide)]; exact h3)) ?_
  refine gg ?_
  have L8 := (load1_own (b := X) (off := 0 + 8) (s := none) e2).trans (by show _[8]? = _; exact g8)
  refine i_load1 (v := .int .u32 (tagI d)) (by exact sel_of rfl) L8 ?_
  refine gg ?_
  refine i_load1 (v := .int .u32 (tagI d)) (by exact sel_of rfl) L8 ?_
  refine gg ?_
  refine i_call1 (by exact sel_of rfl) (w_time T (by omega)) ?_
  rintro _ _ ⟨rfl, rfl⟩
  refine gg ?_
  refine i_call4 (by exact sel_of rfl) (by rfl) (by exact sel_of rfl) (by exact sel_of rfl) (w_say X S (tagI d) (timeI T) (by omega) e2 hXn (by rw [bgn, Heap.get_put, if_neg (Ne.symm hXS), Heap.get_put, if_neg (Ne.symm hXS)]; exact hS) hSn hXS (by rw [g 11 (by decide) (by decide)]; exact h11) (by rw [g 12 (by decide) (by decide)]; exact h12)) ?_
  rintro _ _ rfl
  refine gg ?_
  refine ⟨chk_cons (a := _) rfl (ld1 (by exact sel_of rfl) L8) (sv_int _ _) (fun m hm => by
    simp only [List.mem_cons, List.not_mem_nil, or_false] at hm
    rcases hm with rfl | rfl <;> exact ⟨_, _, rfl, ld1 (by exact sel_of rfl) L8⟩) (chk_cons (a := _) rfl (ld1 (by exact sel_of rfl) L8) (sv_int _ _) (fun m hm => by
    simp only [List.mem_cons, List.not_mem_nil, or_false] at hm
    rcases hm with rfl | rfl <;> exact ⟨_, _, rfl, ld1 (by exact sel_of rfl) L8⟩) chk_nil), ?_⟩
  refine gg ?_
  exact ⟨rfl, rfl⟩
end
end Go.Proofs.YtmnhkjbplfkpfaaGreat

