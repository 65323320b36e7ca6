/- Part of a proof by an abstract run of the program's code: TG. No condition. -/
import Derived.Test.YtmlagbknnngjjaaGreatTF
/-! The sender: Ack, Sample, Acked, sack. -/
set_option linter.unusedVariables false
namespace Go.Proofs.YtmlagbknnngjjaaGreat
open Go Vm
section
variable {h : Heap} {n Q nx : Nat} {oq : Option Addr} {e : Ent}
set_option maxHeartbeats 2000000 in
theorem w_ack {t : Int} {cum : Nat} (x : Que h Q oq nx [e]) (he : e.st = 1) (hse : e.sent = 1) (ht : e.tm = t) (hb : 0 ≤ t ∧ t ≤ 1099511627776) (hc : (cum + 4294967296 - floorN nx 1) % 4294967296 = 1) (hn : 40 ≤ n) :
    ResQ (callN Tryz.prog G0 n (.call 63 [pt Q, .int .u32 (cum : Int), .slice none 0 0, .int .i64 t]) h) (fun r h' => r = .tuple #[.agg #[nv e.sz, nv 0, .bool false, .bool true], .bool true] ∧ (∃ o, h'.get Q = some (.cells 93 [.slice o 0 0, .int .u32 (nx : Int)] (.own false))) ∧ h.next ≤ h'.next ∧ ∀ d, d < h.next → d ≠ Q → h'.get d = h.get d) := by
  have hql := x.ql
  have hle : e.sz ≤ 1172 := (x.en e (List.mem_cons_self ..)).le
  obtain ⟨n, rfl⟩ : ∃ m, n = m + 1 := ⟨n - 1, by omega⟩
  refine res_enter rfl d63 rfl ?_; simp only [c63]
  refine gg ?_
  obtain ⟨b1, k1, n1⟩ := box_one h (.cells 125 [.int .i64 0, .int .i64 0, .bool false, .bool false] (.own false))
  generalize (h.new (.cells 125 [.int .i64 0, .int .i64 0, .bool false, .bool false] (.own false))) = h1 at *
  have x1 := x.keeps k1
  refine i_call2 (by exact sel_of rfl) (by exact sel_of rfl) (w_reached x1 he hc (by omega)) ?_
  rintro _ _ ⟨rfl, rfl⟩
  refine gg ?_
  refine i_call3 (by exact sel_of rfl) (by exact sel_of rfl) (by exact sel_of rfl) (w_drop x1 he hse ht hb (by omega)) ?_
  rintro _ h2 ⟨rfl, ⟨o2, gq2, ro2, lo2⟩, n2, low2⟩
  refine gg ?_
  obtain ⟨d1, k3, n3⟩ := box_one h2 (.cells 125 [.int .i64 0, .int .i64 0, .bool false, .bool false] (.own false))
  generalize (h2.new (.cells 125 [.int .i64 0, .int .i64 0, .bool false, .bool false] (.own false))) = h3 at *
  refine i_storeP (b := h2.next) (vs := [nv e.sz, nv 0, .bool false, .bool true]) (by exact sel_of rfl) (by rw [sel_of rfl]; rfl) d1 rfl rfl ?_
  have d2 : (h3.put h2.next (.cells 125 [nv e.sz, nv 0, .bool false, .bool true] (.own false))).get h2.next = some (.cells 125 [nv e.sz, nv 0, .bool false, .bool true] (.own false)) := by rw [Heap.get_put, if_pos rfl]
  have k4 : Keeps h2 (h3.put h2.next (.cells 125 [nv e.sz, nv 0, .bool false, .bool true] (.own false))) := k3.put (Nat.le_refl _) _
  have n4 : (h3.put h2.next (.cells 125 [nv e.sz, nv 0, .bool false, .bool true] (.own false))).next = h2.next + 1 := n3
  clear d1 k3 n3
  generalize (h3.put h2.next (.cells 125 [nv e.sz, nv 0, .bool false, .bool true] (.own false))) = h4 at *
  have gq4 := (k4.get Q (by omega)).trans gq2
  refine gg ?_
  refine i_call2 (by exact sel_of rfl) (by exact sel_of rfl) (w_mark0 gq4 (by omega)) ?_
  rintro _ _ ⟨rfl, rfl⟩
  refine gg ?_
  refine i_load1 (v := nv e.sz) (by exact sel_of rfl) ((load1_own d2).trans (by rfl)) ?_
  refine gg ?_
  refine i_stB (b := h2.next) (v := nv e.sz) (by exact sel_of rfl) (by rw [sel_of rfl]; exact congrArg (fun x => some [Value.int .i64 x]) (by omega)) d2 (by show 0 < 4; decide) fun h5 k5 n5 d5 => ?_
  refine gg ?_
  have gq5 := (k5.get Q (by omega) (by omega)).trans gq4
  refine i_load1 (v := .slice o2 0 0) (by exact sel_of rfl) ((load1_own gq5).trans (by rfl)) ?_
  refine gg ?_
  have r5 : Row h5 1 o2 0 [] := rowG ro2 (by omega) fun q e => by
    have h8 : q.block < h2.next := by subst e; exact ro2.2.1
    rw [k5.get _ (by omega) (by omega), k4.get _ h8]
  refine i_sl_hi (i := 0) (by exact sel_of rfl) r5 (Nat.le_refl _) (by exact sel_of rfl) (Nat.le_refl _) fun _ => ?_
  refine i_call1 (by exact sel_of rfl) (w_miss0 (by omega)) ?_
  rintro _ _ ⟨rfl, rfl⟩
  refine gg ?_
  refine i_stB (b := h2.next) (v := .bool false) (by exact sel_of rfl) (by rw [sel_of rfl]; rfl) d5 (by show 2 < 4; decide) fun h6 k6 n6 d6 => ?_
  have d6 : h6.get h2.next = some (.cells 125 [nv e.sz, nv 0, .bool false, .bool true] (.own false)) := d6
  refine gg ?_
  refine i_loadN (v := [nv e.sz, nv 0, .bool false, .bool true]) (by exact sel_of rfl) (loadN_all d6 rfl) ?_
  have b6 : h6.get h.next = some (.cells 125 [.int .i64 0, .int .i64 0, .bool false, .bool false] (.own false)) := by
    rw [k6.get _ (by omega) (by omega), k5.get _ (by omega) (by omega), k4.get _ (by omega), low2 _ (by omega) (by omega)]; exact b1
  refine i_storeP (b := h.next) (vs := [nv e.sz, nv 0, .bool false, .bool true]) (by exact sel_of rfl) (by rw [sel_of rfl]; rfl) b6 rfl rfl ?_
  refine gg ?_
  refine finA2 (by exact sel_of rfl) (loadN_all (b := h.next) (by rw [Heap.get_put, if_pos rfl]) rfl) (by exact sel_of rfl) ⟨rfl, ⟨o2, ?_⟩, by rw [Heap.next_put]; omega, fun d hd hdq => ?_⟩
  · rw [Heap.get_put, if_neg (by omega), k6.get _ (by omega) (by omega)]; exact gq5
  · rw [Heap.get_put, if_neg (by omega), k6.get d (by omega) (by omega), k5.get d (by omega) (by omega), k4.get d (by omega), low2 d (by omega) hdq, k1.get d hd]
end
end Go.Proofs.YtmlagbknnngjjaaGreat

/-! The sender: Sample, Acked, sack. -/
set_option linter.unusedVariables false
namespace Go.Proofs.YtmlagbknnngjjaaGreat
open Go Vm
section
variable {h : Heap} {n Q nx : Nat} {oq : Option Addr} {e : Ent}
theorem w_right {x : Int} (h1 : 0 ≤ x) (h2 : x ≤ 2147483648) (hn : 1 ≤ n) : ResQ (callN Tryz.prog G0 n (.call 77 [.int .i64 x]) h) (fun v h' => v = .bool true ∧ h = h') := by
  obtain ⟨n, rfl⟩ : ∃ m, n = m + 1 := ⟨n - 1, by omega⟩
  refine res_enter rfl d77 rfl ?_; simp only [c77]
  refine gg ?_
  exact ⟨congrArg Value.bool (decide_eq_true h2), rfl⟩
theorem w_betw (hn : 1 ≤ n) : ResQ (callN Tryz.prog G0 n (.call 78 [.int .i64 1000, .int .i64 60000]) h) (fun v h' => v = .func (.func 107) #[] #[pt h.next, pt (h.next + 1)] ∧ h' = (h.new (.cells 3 [nv 1000] (.own false))).new (.cells 3 [nv 60000] (.own false))) := by
  obtain ⟨n, rfl⟩ : ∃ m, n = m + 1 := ⟨n - 1, by omega⟩
  refine res_enter rfl d78 rfl ?_; simp only [c78]
  refine gg ?_
  exact ⟨rfl, rfl⟩
theorem w_betw1 {x : Int} {a b : Nat} (ga : h.get a = some (.cells 3 [nv 1000] (.own false))) (gb : h.get b = some (.cells 3 [nv 60000] (.own false))) (hn : 1 ≤ n) : ResQ (callN Tryz.prog G0 n (.call 107 [.int .i64 x, pt a, pt b]) h) (fun v h' => v = .int .i64 (min (max x 1000) 60000) ∧ h = h') := by
  obtain ⟨n, rfl⟩ : ∃ m, n = m + 1 := ⟨n - 1, by omega⟩
  refine res_enter rfl d107 rfl ?_; simp only [c107]
  refine gg ?_
  refine i_load1 (v := nv 1000) (by exact sel_of rfl) ((load1_own ga).trans (by rfl)) ?_
  refine i_maxZ (t := max x 1000) (by exact sel_of rfl) (by exact sel_of rfl) rfl ?_
  refine i_load1 (v := nv 60000) (by exact sel_of rfl) ((load1_own gb).trans (by rfl)) ?_
  refine i_minZ (t := min (max x 1000) 60000) (by exact sel_of rfl) (by exact sel_of rfl) rfl ?_
  refine gg ?_
  exact ⟨rfl, rfl⟩
def rtow : List Value := [nv 0, nv 0, nv 1000, .bool true]
set_option maxHeartbeats 2000000 in
theorem w_sample (hn : 10 ≤ n) : ResQ (callN Tryz.prog G0 n (.call 64 [.agg rtov.toArray, nv 0]) h) (fun v h' => v = .agg rtow.toArray ∧ Keeps h h') := by
  obtain ⟨n, rfl⟩ : ∃ m, n = m + 1 := ⟨n - 1, by omega⟩
  refine res_enter rfl d64 rfl ?_; simp only [c64]
  refine gg ?_
  obtain ⟨b1, b2, k1, n1⟩ := box_two h (.cells 65 rtov (.own false)) (.cells 65 [.int .i64 0, .int .i64 0, .int .i64 0, .bool false] (.own false))
  change ItQ (runItems _ _ _ ((h.new (.cells 65 rtov (.own false))).new (.cells 65 [.int .i64 0, .int .i64 0, .int .i64 0, .bool false] (.own false)))) _
  generalize ((h.new (.cells 65 rtov (.own false))).new (.cells 65 [.int .i64 0, .int .i64 0, .int .i64 0, .bool false] (.own false))) = h1 at *
  refine i_load1 (v := nv 0) (by exact sel_of rfl) ((load1_own b1).trans (by rfl)) ?_
  refine gg ?_
  refine i_call1 (by exact sel_of rfl) (w_right (by decide) (by decide) (by omega)) ?_
  rintro _ _ ⟨rfl, rfl⟩
  refine gg ?_
  refine i_load1 (v := nv 0) (by exact sel_of rfl) ((load1_own b1).trans (by rfl)) ?_
  refine gg ?_
  refine i_call1 (by exact sel_of rfl) (w_right (by decide) (by decide) (by omega)) ?_
  rintro _ _ ⟨rfl, rfl⟩
  refine gg ?_
  refine i_load1 (v := nv 3000) (by exact sel_of rfl) ((load1_own b1).trans (by rfl)) ?_
  refine gg ?_
  refine i_call1 (by exact sel_of rfl) (w_right (by decide) (by decide) (by omega)) ?_
  rintro _ _ ⟨rfl, rfl⟩
  refine gg ?_
  refine i_load1 (v := .bool false) (by exact sel_of rfl) ((load1_own b1).trans (by rfl)) ?_
  refine gg ?_
  refine i_v (v := nv 0) (by rfl) ?_
  refine gg ?_
  refine i_stB (b := h.next) (v := nv 0) (by exact sel_of rfl) (by rw [sel_of rfl]; rfl) b1 (by show 0 < 4; decide) fun h2 k2 n2 g2 => ?_
  refine gg ?_
  refine i_stB (b := h.next) (v := nv 0) (by exact sel_of rfl) (by rw [sel_of rfl]; rfl) g2 (by show 1 < 4; decide) fun h3 k3 n3 g3 => ?_
  refine gg ?_
  refine i_stB (b := h.next) (v := .bool true) (by exact sel_of rfl) (by rfl) g3 (by show 3 < 4; decide) fun h4 k4 n4 g4 => ?_
  have g4 : h4.get h.next = some (.cells 65 [nv 0, nv 0, nv 3000, .bool true] (.own false)) := g4
  have o4 := ((k4.get (h.next + 1) (by omega) (by omega)).trans ((k3.get (h.next + 1) (by omega) (by omega)).trans (k2.get (h.next + 1) (by omega) (by omega)))).trans b2
  have low4 : ∀ d, d < h.next → h4.get d = h.get d := fun d hd => by
    rw [k4.get d (by omega) (by omega), k3.get d (by omega) (by omega), k2.get d (by omega) (by omega), k1.get d hd]
  have n4f : h4.next = h.next + 2 := by omega
  clear k2 k3 k4 g2 g3 n2 n3 n4 k1 b1 b2
  refine gg ?_
  refine i_call2 (by exact const_of) (by exact const_of) (w_betw (by omega)) ?_
  rintro _ _ ⟨rfl, rfl⟩
  obtain ⟨c1, c2, k5, n5⟩ := box_two h4 (.cells 3 [nv 1000] (.own false)) (.cells 3 [nv 60000] (.own false))
  generalize ((h4.new (.cells 3 [nv 1000] (.own false))).new (.cells 3 [nv 60000] (.own false))) = h5 at *
  have g5 := (k5.get h.next (by omega)).trans g4
  have l0 : ∀ g : Heap, g.get h.next = some (.cells 65 [nv 0, nv 0, nv 3000, .bool true] (.own false)) → load1 g.get ⟨h.next, 0 + 0, none⟩ = some (nv 0) := fun g hg => (load1_own hg).trans (by rfl)
  have l1 : ∀ g : Heap, g.get h.next = some (.cells 65 [nv 0, nv 0, nv 3000, .bool true] (.own false)) → load1 g.get ⟨h.next, 0 + 1, none⟩ = some (nv 0) := fun g hg => (load1_own hg).trans (by rfl)
  refine gg ?_
  refine i_load1 (v := nv 0) (by exact sel_of rfl) (l0 h5 g5) ?_
  refine gg ?_
  refine i_load1 (v := nv 0) (by exact sel_of rfl) (l1 h5 g5) ?_
  refine gg ?_
  refine i_mul64 (p := 4) (q := 0) (by exact const_of) (by exact sel_of rfl) (by decide) (by decide) ?_
  refine gg ?_
  refine i_maxZ (p := 1) (q := 4 * 0) (t := 1) (by exact const_of) (by exact sel_of rfl) (by decide) ?_
  refine gg ?_
  refine i_callc1 (by exact sel_of rfl) (by exact sel_of rfl) (w_betw1 c1 c2 (by omega)) ?_
  rintro _ _ ⟨rfl, rfl⟩
  refine gg ?_
  refine i_stB (b := h.next) (v := nv 1000) (by exact sel_of rfl) (by rw [sel_of rfl]; rfl) g5 (by show 2 < 4; decide) fun h6 k6 n6 g6 => ?_
  refine gg ?_
  refine ⟨chk_cons (a := _) rfl (ld1 (by exact sel_of rfl) (l0 h5 g5)) (sv_int _ _) (fun m hm => by
    simp only [List.mem_cons, List.not_mem_nil, or_false] at hm
    rcases hm with rfl | rfl
    · exact ⟨_, _, rfl, ld1 (by exact sel_of rfl) (l0 h4 g4)⟩
    · exact ⟨_, _, rfl, ld1 (by exact sel_of rfl) (l0 h5 g5)⟩) (chk_cons (a := _) rfl (ld1 (by exact sel_of rfl) (l1 h5 g5)) (sv_int _ _) (fun m hm => by
    simp only [List.mem_cons, List.not_mem_nil, or_false] at hm
    rcases hm with rfl | rfl
    · exact ⟨_, _, rfl, ld1 (by exact sel_of rfl) (l1 h4 g4)⟩
    · exact ⟨_, _, rfl, ld1 (by exact sel_of rfl) (l1 h5 g5)⟩) chk_nil), ?_⟩
  have g6 : h6.get h.next = some (.cells 65 rtow (.own false)) := g6
  refine gg ?_
  refine i_loadN (v := rtow) (by exact sel_of rfl) (loadN_all g6 rfl) ?_
  have o6 := ((k6.get (h.next + 1) (by omega) (by omega)).trans (k5.get (h.next + 1) (by omega))).trans o4
  refine i_storeP (b := h.next + 1) (vs := rtow) (by exact sel_of rfl) (by rw [sel_of rfl]; rfl) o6 rfl rfl ?_
  refine gg ?_
  refine finA1 (by exact sel_of rfl) (loadN_all (b := h.next + 1) (by rw [Heap.get_put, if_pos rfl]) rfl) ⟨rfl, ⟨by rw [Heap.next_put]; omega, fun d hd => ?_⟩⟩
  rw [Heap.get_put, if_neg (by omega), k6.get d (by omega) (by omega), k5.get d (by omega), low4 d hd]
set_option maxHeartbeats 2000000 in
theorem w_acked {cw mt by_ cum : Nat} (h1 : 1 ≤ mt) (h2 : mt ≤ 65536) (h3 : mt ≤ cw) (h4 : cw ≤ 1073741824) (hb : by_ ≤ 1000000) (hn : 10 ≤ n) : ResQ (callN Tryz.prog G0 n (.call 65 [.agg (wayv cw mt).toArray, nv by_, .bool false, .int .u32 (cum : Int)]) h) (fun v h' => v = .agg (wayv cw mt).toArray ∧ Keeps h h') := by
  obtain ⟨n, rfl⟩ : ∃ m, n = m + 1 := ⟨n - 1, by omega⟩
  refine res_enter rfl d65 rfl ?_; simp only [c65]
  refine gg ?_
  obtain ⟨b1, b2, k1, n1⟩ := box_two h (.cells 62 (wayv cw mt) (.own false)) (.cells 62 [.int .i64 0, .int .i64 0, .int .i64 0, .int .i64 0, .bool false, .int .u32 0] (.own false))
  change ItQ (runItems _ _ _ ((h.new (.cells 62 (wayv cw mt) (.own false))).new (.cells 62 [.int .i64 0, .int .i64 0, .int .i64 0, .int .i64 0, .bool false, .int .u32 0] (.own false)))) _
  generalize ((h.new (.cells 62 (wayv cw mt) (.own false))).new (.cells 62 [.int .i64 0, .int .i64 0, .int .i64 0, .int .i64 0, .bool false, .int .u32 0] (.own false))) = h1 at *
  refine i_loadN (v := wayv cw mt) (by exact sel_of rfl) (loadN_all b1 rfl) ?_
  refine i_call1 (by exact sel_of rfl) (w_may (by omega) h2 h3 h4 (by omega)) ?_
  rintro _ h2' ⟨rfl, k2⟩
  have hn2 := k2.next
  have c1 := (k2.get h.next (by omega)).trans b1
  have c2 := (k2.get (h.next + 1) (by omega)).trans b2
  refine gg ?_
  refine i_call3 (by exact const_of) (by exact sel_of rfl) (by exact const_of) (w_between (by omega) (by omega) (by omega)) ?_
  rintro _ _ ⟨rfl, rfl⟩
  refine gg ?_
  refine i_load1 (v := .bool false) (by exact sel_of rfl) ((load1_own c1).trans (by rfl)) ?_
  refine gg ?_
  have fin : ∀ (f : Fr) (L : List (Nat × Value)), True := fun _ _ => trivial
  by_cases h0 : 0 < by_
  · refine gg ?_
    refine i_loadN (v := wayv cw mt) (by exact sel_of rfl) (loadN_all c1 rfl) ?_
    refine i_storeP (b := h.next + 1) (vs := wayv cw mt) (by exact sel_of rfl) (by rw [sel_of rfl]; rfl) c2 rfl rfl ?_
    refine gg ?_
    refine finA1 (by exact sel_of rfl) (loadN_all (b := h.next + 1) (by rw [Heap.get_put, if_pos rfl]) rfl) ⟨rfl, ⟨by rw [Heap.next_put]; omega, fun d hd => ?_⟩⟩
    rw [Heap.get_put, if_neg (by omega), k2.get d (by omega), k1.get d hd]
  · refine gg ?_
    refine i_loadN (v := wayv cw mt) (by exact sel_of rfl) (loadN_all c1 rfl) ?_
    refine i_storeP (b := h.next + 1) (vs := wayv cw mt) (by exact sel_of rfl) (by rw [sel_of rfl]; rfl) c2 rfl rfl ?_
    refine gg ?_
    refine finA1 (by exact sel_of rfl) (loadN_all (b := h.next + 1) (by rw [Heap.get_put, if_pos rfl]) rfl) ⟨rfl, ⟨by rw [Heap.next_put]; omega, fun d hd => ?_⟩⟩
    rw [Heap.get_put, if_neg (by omega), k2.get d (by omega), k1.get d hd]
end
end Go.Proofs.YtmlagbknnngjjaaGreat

/-! The sender: sack; Idle. -/
set_option linter.unusedVariables false
namespace Go.Proofs.YtmlagbknnngjjaaGreat
open Go Vm
/-- an End's cells, in two states -/
def xva (Q pe sb ns S J : Nat) (al : Int) : List Value := [pt Q, nv 3600, nv 1073741824, nv 0, nv 1200, .bool false, .int .u32 ((0 : Nat) : Int), nv 0, nv 0, nv 3000, .bool false, nv pe, .slice (some ⟨sb, 0, none⟩) ns ns, .bool true, .int .i64 al, .bool false, .int .u32 ((0 : Nat) : Int), nv 0, pt S, pt J, .bool false]
def xvz (Q pe sb ns S J : Nat) : List Value := [pt Q, nv 3600, nv 1073741824, nv 0, nv 1200, .bool false, .int .u32 ((0 : Nat) : Int), nv 0, nv 0, nv 1000, .bool true, nv pe, .slice (some ⟨sb, 0, none⟩) ns ns, .bool false, nv 0, .bool false, .int .u32 ((0 : Nat) : Int), nv 0, pt S, pt J, .bool false]
section
variable {h : Heap} {n Q nx X pe sb ns S J : Nat} {oq : Option Addr} {e : Ent} {al t : Int}
theorem w_qlen0 {o : Option Addr} (hq : h.get Q = some (.cells 93 [.slice o 0 0, .int .u32 (nx : Int)] (.own false))) (hn : 1 ≤ n) : ResQ (callN Tryz.prog G0 n (.call 38 [pt Q]) h) (fun v h' => v = nv 0 ∧ h = h') := by
  obtain ⟨n, rfl⟩ : ∃ m, n = m + 1 := ⟨n - 1, by omega⟩
  refine res_enter rfl d38 rfl ?_; simp only [c38]
  refine gg ?_
  refine i_load1 (v := .slice o 0 0) (by exact sel_of rfl) ((load1_own hq).trans (by rfl)) ?_
  refine gg ?_
  exact ⟨rfl, rfl⟩
set_option maxHeartbeats 4000000 in
theorem w_sack {cum held md : Nat} {od : Option Addr} (x : Que h Q oq nx [e]) (hX : h.get X = some (.cells 79 (xva Q pe sb ns S J al) (.own false))) (hXl : X < h.next) (he : e.st = 1) (hse : e.sent = 1) (ht : e.tm = t) (hb : 0 ≤ t ∧ t ≤ 1099511627776) (hc : (cum + 4294967296 - floorN nx 1) % 4294967296 = 1) (hh : held ≤ 65535) (hn : 200 ≤ n) :
    ResQ (callN Tryz.prog G0 n (.call 35 [pt X, .agg (sackv cum held (.slice od md md)).toArray, .int .i64 t]) h) (fun r h' => r = .int .i64 0 ∧ h'.get X = some (.cells 79 (xvz Q (65536 - held) sb ns S J) (.own false)) ∧ ∃ o, h'.get Q = some (.cells 93 [.slice o 0 0, .int .u32 (nx : Int)] (.own false))) := by
  have hql := x.ql
  have en := x.en e (List.mem_cons_self ..)
  have hle : e.sz ≤ 1172 := en.le
  have hXQ : X ≠ Q := fun e1 => by rw [e1, x.hq] at hX; cases hX
  have hoc : octs [1] [e] = e.sz := by
    unfold octs
    rw [List.map_cons, List.sum_cons, if_pos (by rw [he]; decide)]
    rfl
  obtain ⟨n, rfl⟩ : ∃ m, n = m + 1 := ⟨n - 1, by omega⟩
  refine res_enter rfl d35 rfl ?_; simp only [c35]
  refine o_cut (fun f h1 => (Keeps h h1 ∧ h1.next = h.next + 1 ∧ h1.get h.next = some (.cells 42 (sackv cum held (.slice od md md)) (.own false))) ∧ Sl [(0, pt X), (2, .int .i64 t), (4, pt h.next), (6, .int .i64 0)] f) ?_ ?_
  · refine gg ?_
    exact ⟨rfl, ⟨Keeps.new h _, rfl, by rw [Heap.get_new, if_pos rfl]⟩, sel_of rfl, sel_of rfl, sel_of rfl, sel_of rfl, trivial⟩
  rintro f1 h1 ⟨⟨k1, n1, b1⟩, hs⟩
  obtain ⟨f0, rfl⟩ := hs.puts
  clear hs
  have x1 := x.keeps k1
  have X1 := (k1.get X hXl).trans hX
  have lX : ∀ (g : Heap) (i : Nat) (v : Value), g.get X = some (.cells 79 (xva Q pe sb ns S J al) (.own false)) → (xva Q pe sb ns S J al)[i]? = some v → load1 g.get ⟨X, i, none⟩ = some v := fun g i v hg hv => (load1_own hg).trans hv
  refine gg ?_
  refine i_load1 (v := pt Q) (by exact sel_of rfl) (lX h1 (0 + 0) _ X1 rfl) ?_
  refine gg ?_
  refine i_call1 (by exact sel_of rfl) (w_flying x1 (by rw [List.length_singleton]; omega)) ?_
  rintro _ h2 ⟨rfl, k2⟩
  rw [hoc]
  have hn2 := k2.next
  have x2 := x1.keeps k2
  have X2 := (k2.get X (by omega)).trans X1
  have b2 := (k2.get h.next (by omega)).trans b1
  refine gg ?_
  refine i_load1 (v := nv 3600) (by exact sel_of rfl) (lX h2 (0 + 1 + 0) _ X2 rfl) ?_
  refine gg ?_
  refine ⟨chk_cons (a := _) rfl (ld1 (by exact sel_of rfl) (lX h2 (0 + 1 + 0) _ X2 rfl)) (sv_int _ _) (fun m hm => by
    simp only [List.mem_cons, List.not_mem_nil, or_false] at hm
    rcases hm with rfl | rfl
    · exact ⟨_, _, rfl, ld1 (by exact sel_of rfl) (lX h1 (0 + 1 + 0) _ X1 rfl)⟩
    · exact ⟨_, _, rfl, ld1 (by exact sel_of rfl) (lX h2 (0 + 1 + 0) _ X2 rfl)⟩) chk_nil, ?_⟩
  refine gg ?_
  refine i_load1 (v := pt Q) (by exact sel_of rfl) (lX h2 (0 + 0) _ X2 rfl) ?_
  refine gg ?_
  refine i_load1 (v := .int .u32 (cum : Int)) (by exact sel_of rfl) ((load1_own b2).trans (by rfl)) ?_
  refine gg ?_
  refine i_load1 (v := .slice none 0 0) (by exact sel_of rfl) ((load1_own b2).trans (by rfl)) ?_
  refine gg ?_
  refine i_call4 (by exact sel_of rfl) (by exact sel_of rfl) (by exact sel_of rfl) (by exact sel_of rfl) (w_ack x2 he hse ht hb hc (by omega)) ?_
  rintro _ h3 ⟨rfl, ⟨oq3, q3⟩, n3, low3⟩
  have X3 := (low3 X (by omega) hXQ).trans X2
  have b3 := (low3 h.next (by omega) (by omega)).trans b2
  refine gg ?_
  obtain ⟨c1, k4, n4⟩ := box_one h3 (.cells 125 [.int .i64 0, .int .i64 0, .bool false, .bool false] (.own false))
  generalize (h3.new (.cells 125 [.int .i64 0, .int .i64 0, .bool false, .bool false] (.own false))) = h4 at *
  refine i_storeP (b := h3.next) (vs := [nv e.sz, nv 0, .bool false, .bool true]) (by exact sel_of rfl) (by rw [sel_of rfl]; rfl) c1 rfl rfl ?_
  have c5 : (h4.put h3.next (.cells 125 [nv e.sz, nv 0, .bool false, .bool true] (.own false))).get h3.next = some (.cells 125 [nv e.sz, nv 0, .bool false, .bool true] (.own false)) := by rw [Heap.get_put, if_pos rfl]
  have k5 : Keeps h3 (h4.put h3.next (.cells 125 [nv e.sz, nv 0, .bool false, .bool true] (.own false))) := k4.put (Nat.le_refl _) _
  have n5 : (h4.put h3.next (.cells 125 [nv e.sz, nv 0, .bool false, .bool true] (.own false))).next = h3.next + 1 := n4
  clear c1 k4 n4
  generalize (h4.put h3.next (.cells 125 [nv e.sz, nv 0, .bool false, .bool true] (.own false))) = h5 at *
  have X5 := (k5.get X (by omega)).trans X3
  have b5 := (k5.get h.next (by omega)).trans b3
  have q5 := (k5.get Q (by omega)).trans q3
  clear X3 b3 X2 b2 X1 b1 x1 x2 k1 k2 lX
  refine gg ?_
  refine i_load1 (v := .int .u32 ((65536 - held : Nat) : Int)) (by exact sel_of rfl) ((load1_own b5).trans (by rfl)) ?_
  refine i_cvZ (k' := .i64) (r := ((65536 - held : Nat) : Int)) (by exact sel_of rfl) (wrap_i64 (by omega) (by omega)) ?_
  refine gg ?_
  refine i_stB (b := X) (v := nv (65536 - held)) (by exact sel_of rfl) (by rw [sel_of rfl]; rfl) X5 (by show 11 < 21; decide) fun h6 k6 n6 X6 => ?_
  have c6 := (k6.get h3.next (by omega) (by omega)).trans c5
  have b6 := (k6.get h.next (by omega) (by omega)).trans b5
  have q6 := (k6.get Q (by omega) (Ne.symm hXQ)).trans q5
  have X6 : h6.get X = some (.cells 79 (xva Q (65536 - held) sb ns S J al) (.own false)) := X6
  refine gg ?_
  refine i_load1 (v := nv 0) (by exact sel_of rfl) ((load1_own c6).trans (by rfl)) ?_
  refine gg ?_
  refine i_loadN (v := rtov) (by exact sel_of rfl) ((loadN_of (q := ⟨X, 0 + 7, none⟩) X6 (by simp) (by show 11 ≤ 21; decide)).trans (by rfl)) ?_
  refine gg ?_
  refine i_load1 (v := nv 0) (by exact sel_of rfl) ((load1_own c6).trans (by rfl)) ?_
  refine i_call2 (by exact sel_of rfl) (by exact sel_of rfl) (w_sample (by omega)) ?_
  rintro _ h7 ⟨rfl, k7⟩
  have n7 := k7.next
  refine gg ?_
  refine i_storeG (b := X) (off := 0 + 7) (vs := rtow) (by exact sel_of rfl) (by rw [sel_of rfl]; rfl) ((k7.get X (by omega)).trans X6) rfl (by show 11 ≤ 21; decide) ?_
  have X8 : (h7.put X (.cells 79 (putAt (xva Q (65536 - held) sb ns S J al) (0 + 7) rtow) (.own false))).get X = some (.cells 79 (putAt (xva Q (65536 - held) sb ns S J al) 7 rtow) (.own false)) := by rw [Heap.get_put, if_pos rfl]
  have c8 : (h7.put X (.cells 79 (putAt (xva Q (65536 - held) sb ns S J al) (0 + 7) rtow) (.own false))).get h3.next = some (.cells 125 [nv e.sz, nv 0, .bool false, .bool true] (.own false)) := by rw [Heap.get_put, if_neg (by omega), k7.get _ (by omega)]; exact c6
  have b8 : (h7.put X (.cells 79 (putAt (xva Q (65536 - held) sb ns S J al) (0 + 7) rtow) (.own false))).get h.next = some (.cells 42 (sackv cum held (.slice od md md)) (.own false)) := by rw [Heap.get_put, if_neg (by omega), k7.get _ (by omega)]; exact b6
  have q8 : (h7.put X (.cells 79 (putAt (xva Q (65536 - held) sb ns S J al) (0 + 7) rtow) (.own false))).get Q = some (.cells 93 [.slice oq3 0 0, .int .u32 (nx : Int)] (.own false)) := by rw [Heap.get_put, if_neg (Ne.symm hXQ), k7.get _ (by omega)]; exact q6
  have n8 : (h7.put X (.cells 79 (putAt (xva Q (65536 - held) sb ns S J al) (0 + 7) rtow) (.own false))).next = h7.next := rfl
  generalize (h7.put X (.cells 79 (putAt (xva Q (65536 - held) sb ns S J al) (0 + 7) rtow) (.own false))) = h8 at *
  refine gg ?_
  refine i_loadN (v := wayv 3600 1200) (by exact sel_of rfl) ((loadN_of (q := ⟨X, 0 + 1, none⟩) X8 (by simp) (by show 7 ≤ 21; decide)).trans (by rfl)) ?_
  refine gg ?_
  refine i_load1 (v := nv e.sz) (by exact sel_of rfl) ((load1_own c8).trans (by rfl)) ?_
  refine gg ?_
  refine i_load1 (v := .int .u32 (cum : Int)) (by exact sel_of rfl) ((load1_own b8).trans (by rfl)) ?_
  refine i_call4 (by exact sel_of rfl) (by exact sel_of rfl) (by exact (sel_of rfl).trans (congrArg Value.bool (decide_eq_false (by omega)))) (by exact sel_of rfl) (w_acked (by decide) (by decide) (by decide) (by decide) (by omega) (by omega)) ?_
  rintro _ h9 ⟨rfl, k9⟩
  have n9 := k9.next
  refine gg ?_
  refine i_storeG (b := X) (off := 0 + 1) (vs := wayv 3600 1200) (by exact sel_of rfl) (by rw [sel_of rfl]; rfl) ((k9.get X (by omega)).trans X8) rfl (by show 7 ≤ 21; decide) ?_
  have XA : (h9.put X (.cells 79 (putAt (putAt (xva Q (65536 - held) sb ns S J al) 7 rtow) (0 + 1) (wayv 3600 1200)) (.own false))).get X = some (.cells 79 (putAt (xva Q (65536 - held) sb ns S J al) 7 rtow) (.own false)) := by rw [Heap.get_put, if_pos rfl]; rfl
  have cA : (h9.put X (.cells 79 (putAt (putAt (xva Q (65536 - held) sb ns S J al) 7 rtow) (0 + 1) (wayv 3600 1200)) (.own false))).get h3.next = some (.cells 125 [nv e.sz, nv 0, .bool false, .bool true] (.own false)) := by rw [Heap.get_put, if_neg (by omega), k9.get _ (by omega)]; exact c8
  have qA : (h9.put X (.cells 79 (putAt (putAt (xva Q (65536 - held) sb ns S J al) 7 rtow) (0 + 1) (wayv 3600 1200)) (.own false))).get Q = some (.cells 93 [.slice oq3 0 0, .int .u32 (nx : Int)] (.own false)) := by rw [Heap.get_put, if_neg (Ne.symm hXQ), k9.get _ (by omega)]; exact q8
  have nA : (h9.put X (.cells 79 (putAt (putAt (xva Q (65536 - held) sb ns S J al) 7 rtow) (0 + 1) (wayv 3600 1200)) (.own false))).next = h9.next := rfl
  generalize (h9.put X (.cells 79 (putAt (putAt (xva Q (65536 - held) sb ns S J al) 7 rtow) (0 + 1) (wayv 3600 1200)) (.own false))) = hA at *
  refine gg ?_
  refine i_load1 (v := .bool false) (by exact sel_of rfl) ((load1_own cA).trans (by rfl)) ?_
  refine gg ?_
  refine i_load1 (v := .bool true) (by exact sel_of rfl) ((load1_own cA).trans (by rfl)) ?_
  refine gg ?_
  refine i_stB (b := X) (v := nv 0) (by exact sel_of rfl) (by rfl) XA (by show 17 < 21; decide) fun hB kB nB XB => ?_
  have XB : hB.get X = some (.cells 79 (putAt (xva Q (65536 - held) sb ns S J al) 7 rtow) (.own false)) := XB
  have vB : SdV (putAt (xva Q (65536 - held) sb ns S J al) 7 rtow) Q 3600 1200 1000 ((65536 - held : Nat) : Int) true true := ⟨rfl, rfl, rfl, rfl, rfl, rfl⟩
  have qB := (kB.get Q (by omega) (Ne.symm hXQ)).trans qA
  refine gg ?_
  refine i_call2 (by exact sel_of rfl) (by exact sel_of rfl) (w_startA XB vB hb (by decide) (by omega)) ?_
  rintro _ _ rfl
  have XC : (hB.put X (.cells 79 (putAt (putAt (xva Q (65536 - held) sb ns S J al) 7 rtow) 13 [.bool true, .int .i64 (t + (1000 : Nat))]) (.own false))).get X = some (.cells 79 (putAt (putAt (xva Q (65536 - held) sb ns S J al) 7 rtow) 13 [.bool true, .int .i64 (t + (1000 : Nat))]) (.own false)) := by rw [Heap.get_put, if_pos rfl]
  have qC : (hB.put X (.cells 79 (putAt (putAt (xva Q (65536 - held) sb ns S J al) 7 rtow) 13 [.bool true, .int .i64 (t + (1000 : Nat))]) (.own false))).get Q = some (.cells 93 [.slice oq3 0 0, .int .u32 (nx : Int)] (.own false)) := by rw [Heap.get_put, if_neg (Ne.symm hXQ)]; exact qB
  generalize (hB.put X (.cells 79 (putAt (putAt (xva Q (65536 - held) sb ns S J al) 7 rtow) 13 [.bool true, .int .i64 (t + (1000 : Nat))]) (.own false))) = hC at *
  refine gg ?_
  refine i_load1 (v := pt Q) (by exact sel_of rfl) ((load1_own XC).trans (by rfl)) ?_
  refine i_call1 (by exact sel_of rfl) (w_qlen0 qC (by omega)) ?_
  rintro _ _ ⟨rfl, rfl⟩
  refine gg ?_
  refine i_storeG (b := X) (off := 0 + 13) (vs := [.bool false, nv 0]) (by exact sel_of rfl) (by rw [sel_of rfl]; rfl) XC rfl (by show 15 ≤ 21; decide) ?_
  refine gg ?_
  exact ⟨rfl, by rw [Heap.get_put, if_pos rfl]; rfl, oq3, by rw [Heap.get_put, if_neg (Ne.symm hXQ)]; exact qC⟩
theorem w_idle {cs : List Value} {o : Option Addr} (hX : h.get X = some (.cells 79 cs (.own false))) (h0 : cs[0]? = some (pt Q)) (h20 : cs[20]? = some (.bool false)) (hq : h.get Q = some (.cells 93 [.slice o 0 0, .int .u32 (nx : Int)] (.own false))) (hn : 3 ≤ n) :
    ResQ (callN Tryz.prog G0 n (.call 14 [pt X]) h) (fun v h' => v = .bool true ∧ h = h') := by
  obtain ⟨n, rfl⟩ : ∃ m, n = m + 1 := ⟨n - 1, by omega⟩
  refine res_enter rfl d14 rfl ?_; simp only [c14]
  refine gg ?_
  refine i_load1 (v := pt Q) (by exact sel_of rfl) ((load1_own hX).trans h0) ?_
  refine gg ?_
  refine i_call1 (by exact sel_of rfl) (w_qlen0 hq (by omega)) ?_
  rintro _ _ ⟨rfl, rfl⟩
  refine gg ?_
  refine i_load1 (v := .bool false) (by exact sel_of rfl) ((load1_own hX).trans h20) ?_
  refine gg ?_
  exact ⟨rfl, rfl⟩
end
end Go.Proofs.YtmlagbknnngjjaaGreat

