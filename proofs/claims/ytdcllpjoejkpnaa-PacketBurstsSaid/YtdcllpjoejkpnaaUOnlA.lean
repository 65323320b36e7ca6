/- Part of a proof by an abstract run of the program's code: UOnlA. No condition. -/
import Derived.Test.YtdcllpjoejkpnaaUChkA
/-! A chunk with just the fields of its kind, walked. -/
set_option linter.unusedVariables false
namespace Go.Proofs.Ytdcllpjoejkpnaa
open Go Vm
def onlyC (c : Chk) : Chk := ⟨c.k, c.fl, if 65 ∈ lets c.k then c.a else 0, if 66 ∈ lets c.k then c.b else 0, if 79 ∈ lets c.k then c.o else 0, if 73 ∈ lets c.k then c.i else 0, if 80 ∈ lets c.k then c.p else 0,
  if 67 ∈ lets c.k then c.bl else [], if 67 ∈ lets c.k then c.du else [], if 83 ∈ lets c.k then c.sk else [], if 84 ∈ lets c.k then c.pa else [], if 68 ∈ lets c.k then c.da else []⟩
theorem kinds_cases (k : Nat) : k = 0 ∨ k = 1 ∨ k = 2 ∨ k = 4 ∨ k = 5 ∨ k = 6 ∨ k = 9 ∨ k = 130 ∨ k = 3 ∨ k = 7 ∨ k = 8 ∨ k = 11 ∨ k = 14 ∨ k = 192 ∨ (k ≠ 0 ∧ k ≠ 1 ∧ k ≠ 2 ∧ k ≠ 4 ∧ k ≠ 5 ∧ k ≠ 6 ∧ k ≠ 9 ∧ k ≠ 130 ∧ k ≠ 3 ∧ k ≠ 7 ∧ k ≠ 8 ∧ k ≠ 11 ∧ k ≠ 14 ∧ k ≠ 192) := by omega
theorem ldO {a : Fr} {h : Heap} {x : Sel} {b off e : Nat} {s : Option Nat} {cs : List Value} {v : Value} {op : Bool} (hx : x.f a = .pointer (some ⟨b, off, s⟩)) (hg : h.get b = some (.cells e cs (.own op))) (hv : cs[off]? = some v) : (oLoad1 x).f a h.get = some v := ld1 hx ((load1_own hg).trans hv)
set_option maxHeartbeats 8000000 in
theorem w_only {h : Heap} {c : Chk} {v : List Value} (hv : ChV h c v) (n : Nat) (hn : 1 ≤ n) :
    ResQ (callN Try.prog G0 n (.call 71 [.agg v.toArray]) h) (fun u h' => Keeps h h' ∧ ∃ w, u = .agg w.toArray ∧ ChV h' (onlyC c) w) := by
  obtain ⟨n, rfl⟩ : ∃ m, n = m + 1 := ⟨n - 1, by omega⟩
  refine res_enter rfl d71 rfl ?_; simp only [c71]
  obtain ⟨g1, g2, k1, n1⟩ := box_two h (.cells 33 v.toArray.toList (.own false)) (.cells 33 [.int .u8 0, .int .u8 0, .int .u32 0, .int .u32 0, .int .u16 0, .int .u16 0, .int .u32 0, .slice none 0 0, .slice none 0 0, .slice none 0 0, .slice none 0 0, .slice none 0 0] (.own false))
  refine o_cut (fun a h' => h' = ((h.new (.cells 33 v.toArray.toList (.own false))).new (.cells 33 [.int .u8 0, .int .u8 0, .int .u32 0, .int .u32 0, .int .u16 0, .int .u16 0, .int .u32 0, .slice none 0 0, .slice none 0 0, .slice none 0 0, .slice none 0 0, .slice none 0 0] (.own false))) ∧ Sl [(1, .pointer (some ⟨h.next, 0, none⟩)), (2, .pointer (some ⟨h.next + 1, 0, none⟩))] a) ?_ ?_
  · refine gg ?_
    exact ⟨rfl, rfl, sel_of rfl, sel_of rfl, trivial⟩
  rintro a h1 ⟨hh, hs⟩
  rw [← hh] at g1 g2 k1 n1
  clear hh
  obtain ⟨o1, c1, o2, c2, o3, c3, o4, c4, o5, c5, ps, rfl, r1, r2, r3, ⟨r4, p4⟩, r5, ⟨b1, b2, b3, b4, b5⟩, hk256, hf256⟩ := hv
  obtain ⟨f0, rfl⟩ := hs.puts
  refine o_cut (fun a h' => Keeps h1 h' ∧ h1.next < h'.next ∧ h'.get h1.next = some (.cells 33 [.int .u8 (c.k : Int), .int .u8 (c.fl : Int), .int .u32 0, .int .u32 0, .int .u16 0, .int .u16 0, .int .u32 0, .slice none 0 0, .slice none 0 0, .slice none 0 0, .slice none 0 0, .slice none 0 0] (.own false)) ∧ Sl [(1, .pointer (some ⟨h.next, 0, none⟩)), (2, .pointer (some ⟨h.next + 1, 0, none⟩)), (3, .pointer (some ⟨h1.next, 0, none⟩))] a) ?_ ?_
  · refine gg ?_; repeat (refine i_ldown (by exact sel_of rfl) (by assumption) (by rfl) ?_; refine gg ?_)
    refine i_storeF (vs := [.int .u8 (c.k : Int), .int .u8 (c.fl : Int), .int .u32 0, .int .u32 0, .int .u16 0, .int .u16 0, .int .u32 0, .slice none 0 0, .slice none 0 0, .slice none 0 0, .slice none 0 0, .slice none 0 0]) (Keeps.new h1 _) (Nat.le_refl _) (by exact sel_of rfl) (by rfl) (by rw [Heap.get_new, if_pos rfl]) rfl rfl (Nat.lt_succ_self _) fun h2 k2 g lt => ?_
    refine gg ?_
    exact ⟨rfl, k2, lt, g, sel_of rfl, sel_of rfl, sel_of rfl, trivial⟩
  rintro a h2 ⟨k2, lt2, t2, hs⟩
  have a2 := (k2.get _ (by omega)).trans g1
  have z2 := (k2.get _ (by omega)).trans g2
  obtain ⟨f0, rfl⟩ := hs.puts
  have kk := k1.trans k2
  have x1 : h.next < h2.next := by omega
  have x2 : h.next + 1 < h2.next := by omega
  have y1 : h.next ≠ h1.next := by omega
  have y2 : h.next + 1 ≠ h1.next := by omega
  clear g1 g2
  refine o_cut (fun a h' => Keeps h h' ∧ h1.next < h'.next ∧ h'.get (h.next + 1) = some (.cells 33 [.int .u8 0, .int .u8 0, .int .u32 0, .int .u32 0, .int .u16 0, .int .u16 0, .int .u32 0, .slice none 0 0, .slice none 0 0, .slice none 0 0, .slice none 0 0, .slice none 0 0] (.own false)) ∧ ∃ w, h'.get h1.next = some (.cells 33 w (.own false)) ∧ ChV h (onlyC c) w ∧ Sl [(2, .pointer (some ⟨h.next + 1, 0, none⟩)), (3, .pointer (some ⟨h1.next, 0, none⟩))] a) ?_ ?_
  · have hc := kinds_cases c.k
    rcases hc with hk | hk | hk | hk | hk | hk | hk | hk | hk | hk | hk | hk | hk | hk | hk
    · have hl : lets c.k = [65, 79, 73, 80, 68] := by rw [hk]; rfl
      rw [hk] at a2
      refine gg ?_; repeat (refine i_ldown (by exact sel_of rfl) (by assumption) (by rfl) ?_; refine gg ?_)
      refine i_stB (by exact sel_of rfl) (by rfl) t2 (by exact (by decide : 2 < 12)) fun h3 kb3 nx3 t3 => ?_
      have a3 := (kb3.get _ (by omega) y1).trans a2
      have z3 := (kb3.get _ (by omega) y2).trans z2
      refine gg ?_
      refine i_stB (by exact sel_of rfl) (by rfl) t3 (by exact (by decide : 4 < 12)) fun h4 kb4 nx4 t4 => ?_
      have a4 := (kb4.get _ (by omega) y1).trans a3
      have z4 := (kb4.get _ (by omega) y2).trans z3
      refine gg ?_
      refine i_stB (by exact sel_of rfl) (by rfl) t4 (by exact (by decide : 5 < 12)) fun h5 kb5 nx5 t5 => ?_
      have a5 := (kb5.get _ (by omega) y1).trans a4
      have z5 := (kb5.get _ (by omega) y2).trans z4
      refine gg ?_
      refine i_stB (by exact sel_of rfl) (by rfl) t5 (by exact (by decide : 6 < 12)) fun h6 kb6 nx6 t6 => ?_
      have a6 := (kb6.get _ (by omega) y1).trans a5
      have z6 := (kb6.get _ (by omega) y2).trans z5
      refine gg ?_
      refine i_stB (by exact sel_of rfl) (by rfl) t6 (by exact (by decide : 11 < 12)) fun h7 kb7 nx7 t7 => ?_
      have a7 := (kb7.get _ (by omega) y1).trans a6
      have z7 := (kb7.get _ (by omega) y2).trans z6
      refine gg ?_
      refine ⟨chk_cons rfl (ldO (by exact sel_of rfl) (by assumption) (by rfl)) (by first | exact sv_int _ _ | exact sv_slice _ _ _) (fun m hm => by
        simp only [List.mem_cons, List.not_mem_nil, or_false] at hm
        rcases hm with rfl | rfl <;> exact ⟨_, _, rfl, ldO (by exact sel_of rfl) (by assumption) (by rfl)⟩) (chk_cons rfl (ldO (by exact sel_of rfl) (by assumption) (by rfl)) (by first | exact sv_int _ _ | exact sv_slice _ _ _) (fun m hm => by
        simp only [List.mem_cons, List.not_mem_nil, or_false] at hm
        rcases hm with rfl | rfl | rfl <;> exact ⟨_, _, rfl, ldO (by exact sel_of rfl) (by assumption) (by rfl)⟩) (chk_cons rfl (ldO (by exact sel_of rfl) (by assumption) (by rfl)) (by first | exact sv_int _ _ | exact sv_slice _ _ _) (fun m hm => by
        simp only [List.mem_cons, List.not_mem_nil, or_false] at hm
        rcases hm with rfl | rfl | rfl | rfl <;> exact ⟨_, _, rfl, ldO (by exact sel_of rfl) (by assumption) (by rfl)⟩) (chk_cons rfl (ldO (by exact sel_of rfl) (by assumption) (by rfl)) (by first | exact sv_int _ _ | exact sv_slice _ _ _) (fun m hm => by
        simp only [List.mem_cons, List.not_mem_nil, or_false] at hm
        rcases hm with rfl | rfl | rfl | rfl | rfl <;> exact ⟨_, _, rfl, ldO (by exact sel_of rfl) (by assumption) (by rfl)⟩) (chk_nil)))), ?_⟩
      refine gg ?_; repeat (refine i_ldown (by exact sel_of rfl) (by assumption) (by rfl) ?_; refine gg ?_)
      have eo : onlyC c = ⟨c.k, c.fl, c.a, 0, c.o, c.i, c.p, [], [], [], [], c.da⟩ := by simp [onlyC, hl]
      refine ⟨rfl, KeepsB.new ((((((KeepsB.refl h1.next h2).trans kb3).trans kb4).trans kb5).trans kb6).trans kb7) (by omega) kk, by omega, z7, _, t7, ?_, ⟨sel_of rfl, sel_of rfl, trivial⟩⟩
      rw [eo]
      exact ⟨none, 0, none, 0, none, 0, none, 0, o5, c5, [], rfl, Row.nil _ _, Row.nil _ _, Row.nil _ _, ⟨Row.nil _ _, trivial⟩, r5, ⟨Nat.le_refl _, Nat.le_refl _, Nat.le_refl _, Nat.le_refl _, b5⟩, hk256, hf256⟩
    · have hl : lets c.k = [65, 66, 79, 73, 80, 84] := by rw [hk]; rfl
      rw [hk] at a2
      refine gg ?_; repeat (refine i_ldown (by exact sel_of rfl) (by assumption) (by rfl) ?_; refine gg ?_)
      refine i_stB (by exact sel_of rfl) (by rfl) t2 (by exact (by decide : 2 < 12)) fun h3 kb3 nx3 t3 => ?_
      have a3 := (kb3.get _ (by omega) y1).trans a2
      have z3 := (kb3.get _ (by omega) y2).trans z2
      refine gg ?_
      refine i_stB (by exact sel_of rfl) (by rfl) t3 (by exact (by decide : 3 < 12)) fun h4 kb4 nx4 t4 => ?_
      have a4 := (kb4.get _ (by omega) y1).trans a3
      have z4 := (kb4.get _ (by omega) y2).trans z3
      refine gg ?_
      refine i_stB (by exact sel_of rfl) (by rfl) t4 (by exact (by decide : 4 < 12)) fun h5 kb5 nx5 t5 => ?_
      have a5 := (kb5.get _ (by omega) y1).trans a4
      have z5 := (kb5.get _ (by omega) y2).trans z4
      refine gg ?_
      refine i_stB (by exact sel_of rfl) (by rfl) t5 (by exact (by decide : 5 < 12)) fun h6 kb6 nx6 t6 => ?_
      have a6 := (kb6.get _ (by omega) y1).trans a5
      have z6 := (kb6.get _ (by omega) y2).trans z5
      refine gg ?_
      refine i_stB (by exact sel_of rfl) (by rfl) t6 (by exact (by decide : 6 < 12)) fun h7 kb7 nx7 t7 => ?_
      have a7 := (kb7.get _ (by omega) y1).trans a6
      have z7 := (kb7.get _ (by omega) y2).trans z6
      refine gg ?_
      refine ⟨chk_cons rfl (ldO (by exact sel_of rfl) (by assumption) (by rfl)) (by first | exact sv_int _ _ | exact sv_slice _ _ _) (fun m hm => by
        simp only [List.mem_cons, List.not_mem_nil, or_false] at hm
        rcases hm with rfl | rfl <;> exact ⟨_, _, rfl, ldO (by exact sel_of rfl) (by assumption) (by rfl)⟩) (chk_cons rfl (ldO (by exact sel_of rfl) (by assumption) (by rfl)) (by first | exact sv_int _ _ | exact sv_slice _ _ _) (fun m hm => by
        simp only [List.mem_cons, List.not_mem_nil, or_false] at hm
        rcases hm with rfl | rfl | rfl <;> exact ⟨_, _, rfl, ldO (by exact sel_of rfl) (by assumption) (by rfl)⟩) (chk_cons rfl (ldO (by exact sel_of rfl) (by assumption) (by rfl)) (by first | exact sv_int _ _ | exact sv_slice _ _ _) (fun m hm => by
        simp only [List.mem_cons, List.not_mem_nil, or_false] at hm
        rcases hm with rfl | rfl | rfl | rfl <;> exact ⟨_, _, rfl, ldO (by exact sel_of rfl) (by assumption) (by rfl)⟩) (chk_cons rfl (ldO (by exact sel_of rfl) (by assumption) (by rfl)) (by first | exact sv_int _ _ | exact sv_slice _ _ _) (fun m hm => by
        simp only [List.mem_cons, List.not_mem_nil, or_false] at hm
        rcases hm with rfl | rfl | rfl | rfl | rfl <;> exact ⟨_, _, rfl, ldO (by exact sel_of rfl) (by assumption) (by rfl)⟩) (chk_nil)))), ?_⟩
      refine gg ?_; repeat (refine i_ldown (by exact sel_of rfl) (by assumption) (by rfl) ?_; refine gg ?_)
      refine i_stB (by exact sel_of rfl) (by rfl) t7 (by exact (by decide : 10 < 12)) fun h8 kb8 nx8 t8 => ?_
      have a8 := (kb8.get _ (by omega) y1).trans a7
      have z8 := (kb8.get _ (by omega) y2).trans z7
      refine gg ?_
      have eo : onlyC c = ⟨c.k, c.fl, c.a, c.b, c.o, c.i, c.p, [], [], [], c.pa, []⟩ := by simp [onlyC, hl]
      refine ⟨rfl, KeepsB.new (((((((KeepsB.refl h1.next h2).trans kb3).trans kb4).trans kb5).trans kb6).trans kb7).trans kb8) (by omega) kk, by omega, z8, _, t8, ?_, ⟨sel_of rfl, sel_of rfl, trivial⟩⟩
      rw [eo]
      exact ⟨none, 0, none, 0, none, 0, o4, c4, none, 0, ps, rfl, Row.nil _ _, Row.nil _ _, Row.nil _ _, ⟨r4, p4⟩, Row.nil _ _, ⟨Nat.le_refl _, Nat.le_refl _, Nat.le_refl _, b4, Nat.le_refl _⟩, hk256, hf256⟩
    · have hl : lets c.k = [65, 66, 79, 73, 80, 84] := by rw [hk]; rfl
      rw [hk] at a2
      refine gg ?_; repeat (refine i_ldown (by exact sel_of rfl) (by assumption) (by rfl) ?_; refine gg ?_)
      refine i_stB (by exact sel_of rfl) (by rfl) t2 (by exact (by decide : 2 < 12)) fun h3 kb3 nx3 t3 => ?_
      have a3 := (kb3.get _ (by omega) y1).trans a2
      have z3 := (kb3.get _ (by omega) y2).trans z2
      refine gg ?_
      refine i_stB (by exact sel_of rfl) (by rfl) t3 (by exact (by decide : 3 < 12)) fun h4 kb4 nx4 t4 => ?_
      have a4 := (kb4.get _ (by omega) y1).trans a3
      have z4 := (kb4.get _ (by omega) y2).trans z3
      refine gg ?_
      refine i_stB (by exact sel_of rfl) (by rfl) t4 (by exact (by decide : 4 < 12)) fun h5 kb5 nx5 t5 => ?_
      have a5 := (kb5.get _ (by omega) y1).trans a4
      have z5 := (kb5.get _ (by omega) y2).trans z4
      refine gg ?_
      refine i_stB (by exact sel_of rfl) (by rfl) t5 (by exact (by decide : 5 < 12)) fun h6 kb6 nx6 t6 => ?_
      have a6 := (kb6.get _ (by omega) y1).trans a5
      have z6 := (kb6.get _ (by omega) y2).trans z5
      refine gg ?_
      refine i_stB (by exact sel_of rfl) (by rfl) t6 (by exact (by decide : 6 < 12)) fun h7 kb7 nx7 t7 => ?_
      have a7 := (kb7.get _ (by omega) y1).trans a6
      have z7 := (kb7.get _ (by omega) y2).trans z6
      refine gg ?_
      refine ⟨chk_cons rfl (ldO (by exact sel_of rfl) (by assumption) (by rfl)) (by first | exact sv_int _ _ | exact sv_slice _ _ _) (fun m hm => by
        simp only [List.mem_cons, List.not_mem_nil, or_false] at hm
        rcases hm with rfl | rfl <;> exact ⟨_, _, rfl, ldO (by exact sel_of rfl) (by assumption) (by rfl)⟩) (chk_cons rfl (ldO (by exact sel_of rfl) (by assumption) (by rfl)) (by first | exact sv_int _ _ | exact sv_slice _ _ _) (fun m hm => by
        simp only [List.mem_cons, List.not_mem_nil, or_false] at hm
        rcases hm with rfl | rfl | rfl <;> exact ⟨_, _, rfl, ldO (by exact sel_of rfl) (by assumption) (by rfl)⟩) (chk_cons rfl (ldO (by exact sel_of rfl) (by assumption) (by rfl)) (by first | exact sv_int _ _ | exact sv_slice _ _ _) (fun m hm => by
        simp only [List.mem_cons, List.not_mem_nil, or_false] at hm
        rcases hm with rfl | rfl | rfl | rfl <;> exact ⟨_, _, rfl, ldO (by exact sel_of rfl) (by assumption) (by rfl)⟩) (chk_cons rfl (ldO (by exact sel_of rfl) (by assumption) (by rfl)) (by first | exact sv_int _ _ | exact sv_slice _ _ _) (fun m hm => by
        simp only [List.mem_cons, List.not_mem_nil, or_false] at hm
        rcases hm with rfl | rfl | rfl | rfl | rfl <;> exact ⟨_, _, rfl, ldO (by exact sel_of rfl) (by assumption) (by rfl)⟩) (chk_nil)))), ?_⟩
      refine gg ?_; repeat (refine i_ldown (by exact sel_of rfl) (by assumption) (by rfl) ?_; refine gg ?_)
      refine i_stB (by exact sel_of rfl) (by rfl) t7 (by exact (by decide : 10 < 12)) fun h8 kb8 nx8 t8 => ?_
      have a8 := (kb8.get _ (by omega) y1).trans a7
      have z8 := (kb8.get _ (by omega) y2).trans z7
      refine gg ?_
      have eo : onlyC c = ⟨c.k, c.fl, c.a, c.b, c.o, c.i, c.p, [], [], [], c.pa, []⟩ := by simp [onlyC, hl]
      refine ⟨rfl, KeepsB.new (((((((KeepsB.refl h1.next h2).trans kb3).trans kb4).trans kb5).trans kb6).trans kb7).trans kb8) (by omega) kk, by omega, z8, _, t8, ?_, ⟨sel_of rfl, sel_of rfl, trivial⟩⟩
      rw [eo]
      exact ⟨none, 0, none, 0, none, 0, o4, c4, none, 0, ps, rfl, Row.nil _ _, Row.nil _ _, Row.nil _ _, ⟨r4, p4⟩, Row.nil _ _, ⟨Nat.le_refl _, Nat.le_refl _, Nat.le_refl _, b4, Nat.le_refl _⟩, hk256, hf256⟩
    · have hl : lets c.k = [84] := by rw [hk]; rfl
      rw [hk] at a2
      refine gg ?_; repeat (refine i_ldown (by exact sel_of rfl) (by assumption) (by rfl) ?_; refine gg ?_)
      refine i_stB (by exact sel_of rfl) (by rfl) t2 (by exact (by decide : 10 < 12)) fun h3 kb3 nx3 t3 => ?_
      have a3 := (kb3.get _ (by omega) y1).trans a2
      have z3 := (kb3.get _ (by omega) y2).trans z2
      refine gg ?_
      have eo : onlyC c = ⟨c.k, c.fl, 0, 0, 0, 0, 0, [], [], [], c.pa, []⟩ := by simp [onlyC, hl]
      refine ⟨rfl, KeepsB.new ((KeepsB.refl h1.next h2).trans kb3) (by omega) kk, by omega, z3, _, t3, ?_, ⟨sel_of rfl, sel_of rfl, trivial⟩⟩
      rw [eo]
      exact ⟨none, 0, none, 0, none, 0, o4, c4, none, 0, ps, rfl, Row.nil _ _, Row.nil _ _, Row.nil _ _, ⟨r4, p4⟩, Row.nil _ _, ⟨Nat.le_refl _, Nat.le_refl _, Nat.le_refl _, b4, Nat.le_refl _⟩, hk256, hf256⟩
    · have hl : lets c.k = [84] := by rw [hk]; rfl
      rw [hk] at a2
      refine gg ?_; repeat (refine i_ldown (by exact sel_of rfl) (by assumption) (by rfl) ?_; refine gg ?_)
      refine i_stB (by exact sel_of rfl) (by rfl) t2 (by exact (by decide : 10 < 12)) fun h3 kb3 nx3 t3 => ?_
      have a3 := (kb3.get _ (by omega) y1).trans a2
      have z3 := (kb3.get _ (by omega) y2).trans z2
      refine gg ?_
      have eo : onlyC c = ⟨c.k, c.fl, 0, 0, 0, 0, 0, [], [], [], c.pa, []⟩ := by simp [onlyC, hl]
      refine ⟨rfl, KeepsB.new ((KeepsB.refl h1.next h2).trans kb3) (by omega) kk, by omega, z3, _, t3, ?_, ⟨sel_of rfl, sel_of rfl, trivial⟩⟩
      rw [eo]
      exact ⟨none, 0, none, 0, none, 0, o4, c4, none, 0, ps, rfl, Row.nil _ _, Row.nil _ _, Row.nil _ _, ⟨r4, p4⟩, Row.nil _ _, ⟨Nat.le_refl _, Nat.le_refl _, Nat.le_refl _, b4, Nat.le_refl _⟩, hk256, hf256⟩
    · have hl : lets c.k = [84] := by rw [hk]; rfl
      rw [hk] at a2
      refine gg ?_; repeat (refine i_ldown (by exact sel_of rfl) (by assumption) (by rfl) ?_; refine gg ?_)
      refine i_stB (by exact sel_of rfl) (by rfl) t2 (by exact (by decide : 10 < 12)) fun h3 kb3 nx3 t3 => ?_
      have a3 := (kb3.get _ (by omega) y1).trans a2
      have z3 := (kb3.get _ (by omega) y2).trans z2
      refine gg ?_
      have eo : onlyC c = ⟨c.k, c.fl, 0, 0, 0, 0, 0, [], [], [], c.pa, []⟩ := by simp [onlyC, hl]
      refine ⟨rfl, KeepsB.new ((KeepsB.refl h1.next h2).trans kb3) (by omega) kk, by omega, z3, _, t3, ?_, ⟨sel_of rfl, sel_of rfl, trivial⟩⟩
      rw [eo]
      exact ⟨none, 0, none, 0, none, 0, o4, c4, none, 0, ps, rfl, Row.nil _ _, Row.nil _ _, Row.nil _ _, ⟨r4, p4⟩, Row.nil _ _, ⟨Nat.le_refl _, Nat.le_refl _, Nat.le_refl _, b4, Nat.le_refl _⟩, hk256, hf256⟩
    · have hl : lets c.k = [84] := by rw [hk]; rfl
      rw [hk] at a2
      refine gg ?_; repeat (refine i_ldown (by exact sel_of rfl) (by assumption) (by rfl) ?_; refine gg ?_)
      refine i_stB (by exact sel_of rfl) (by rfl) t2 (by exact (by decide : 10 < 12)) fun h3 kb3 nx3 t3 => ?_
      have a3 := (kb3.get _ (by omega) y1).trans a2
      have z3 := (kb3.get _ (by omega) y2).trans z2
      refine gg ?_
      have eo : onlyC c = ⟨c.k, c.fl, 0, 0, 0, 0, 0, [], [], [], c.pa, []⟩ := by simp [onlyC, hl]
      refine ⟨rfl, KeepsB.new ((KeepsB.refl h1.next h2).trans kb3) (by omega) kk, by omega, z3, _, t3, ?_, ⟨sel_of rfl, sel_of rfl, trivial⟩⟩
      rw [eo]
      exact ⟨none, 0, none, 0, none, 0, o4, c4, none, 0, ps, rfl, Row.nil _ _, Row.nil _ _, Row.nil _ _, ⟨r4, p4⟩, Row.nil _ _, ⟨Nat.le_refl _, Nat.le_refl _, Nat.le_refl _, b4, Nat.le_refl _⟩, hk256, hf256⟩
    · have hl : lets c.k = [84] := by rw [hk]; rfl
      rw [hk] at a2
      refine gg ?_; repeat (refine i_ldown (by exact sel_of rfl) (by assumption) (by rfl) ?_; refine gg ?_)
      refine i_stB (by exact sel_of rfl) (by rfl) t2 (by exact (by decide : 10 < 12)) fun h3 kb3 nx3 t3 => ?_
      have a3 := (kb3.get _ (by omega) y1).trans a2
      have z3 := (kb3.get _ (by omega) y2).trans z2
      refine gg ?_
      have eo : onlyC c = ⟨c.k, c.fl, 0, 0, 0, 0, 0, [], [], [], c.pa, []⟩ := by simp [onlyC, hl]
      refine ⟨rfl, KeepsB.new ((KeepsB.refl h1.next h2).trans kb3) (by omega) kk, by omega, z3, _, t3, ?_, ⟨sel_of rfl, sel_of rfl, trivial⟩⟩
      rw [eo]
      exact ⟨none, 0, none, 0, none, 0, o4, c4, none, 0, ps, rfl, Row.nil _ _, Row.nil _ _, Row.nil _ _, ⟨r4, p4⟩, Row.nil _ _, ⟨Nat.le_refl _, Nat.le_refl _, Nat.le_refl _, b4, Nat.le_refl _⟩, hk256, hf256⟩
    · have hl : lets c.k = [65, 66, 67] := by rw [hk]; rfl
      rw [hk] at a2
      refine gg ?_; repeat (refine i_ldown (by exact sel_of rfl) (by assumption) (by rfl) ?_; refine gg ?_)
      refine i_stB (by exact sel_of rfl) (by rfl) t2 (by exact (by decide : 2 < 12)) fun h3 kb3 nx3 t3 => ?_
      have a3 := (kb3.get _ (by omega) y1).trans a2
      have z3 := (kb3.get _ (by omega) y2).trans z2
      refine gg ?_
      refine i_stB (by exact sel_of rfl) (by rfl) t3 (by exact (by decide : 3 < 12)) fun h4 kb4 nx4 t4 => ?_
      have a4 := (kb4.get _ (by omega) y1).trans a3
      have z4 := (kb4.get _ (by omega) y2).trans z3
      refine gg ?_
      refine i_stB (by exact sel_of rfl) (by rfl) t4 (by exact (by decide : 7 < 12)) fun h5 kb5 nx5 t5 => ?_
      have a5 := (kb5.get _ (by omega) y1).trans a4
      have z5 := (kb5.get _ (by omega) y2).trans z4
      refine gg ?_
      refine i_stB (by exact sel_of rfl) (by rfl) t5 (by exact (by decide : 8 < 12)) fun h6 kb6 nx6 t6 => ?_
      have a6 := (kb6.get _ (by omega) y1).trans a5
      have z6 := (kb6.get _ (by omega) y2).trans z5
      refine gg ?_
      refine ⟨chk_cons rfl (ldO (by exact sel_of rfl) (by assumption) (by rfl)) (by first | exact sv_int _ _ | exact sv_slice _ _ _) (fun m hm => by
        simp only [List.mem_cons, List.not_mem_nil, or_false] at hm
        rcases hm with rfl | rfl <;> exact ⟨_, _, rfl, ldO (by exact sel_of rfl) (by assumption) (by rfl)⟩) (chk_cons rfl (ldO (by exact sel_of rfl) (by assumption) (by rfl)) (by first | exact sv_int _ _ | exact sv_slice _ _ _) (fun m hm => by
        simp only [List.mem_cons, List.not_mem_nil, or_false] at hm
        rcases hm with rfl | rfl | rfl <;> exact ⟨_, _, rfl, ldO (by exact sel_of rfl) (by assumption) (by rfl)⟩) (chk_cons rfl (ldO (by exact sel_of rfl) (by assumption) (by rfl)) (by first | exact sv_int _ _ | exact sv_slice _ _ _) (fun m hm => by
        simp only [List.mem_cons, List.not_mem_nil, or_false] at hm
        rcases hm with rfl | rfl | rfl | rfl <;> exact ⟨_, _, rfl, ldO (by exact sel_of rfl) (by assumption) (by rfl)⟩) (chk_nil))), ?_⟩
      refine gg ?_; repeat (refine i_ldown (by exact sel_of rfl) (by assumption) (by rfl) ?_; refine gg ?_)
      have eo : onlyC c = ⟨c.k, c.fl, c.a, c.b, 0, 0, 0, c.bl, c.du, [], [], []⟩ := by simp [onlyC, hl]
      refine ⟨rfl, KeepsB.new (((((KeepsB.refl h1.next h2).trans kb3).trans kb4).trans kb5).trans kb6) (by omega) kk, by omega, z6, _, t6, ?_, ⟨sel_of rfl, sel_of rfl, trivial⟩⟩
      rw [eo]
      exact ⟨o1, c1, o2, c2, none, 0, none, 0, none, 0, [], rfl, r1, r2, Row.nil _ _, ⟨Row.nil _ _, trivial⟩, Row.nil _ _, ⟨b1, b2, Nat.le_refl _, Nat.le_refl _, Nat.le_refl _⟩, hk256, hf256⟩
    · have hl : lets c.k = [65] := by rw [hk]; rfl
      rw [hk] at a2
      refine gg ?_; repeat (refine i_ldown (by exact sel_of rfl) (by assumption) (by rfl) ?_; refine gg ?_)
      refine i_stB (by exact sel_of rfl) (by rfl) t2 (by exact (by decide : 2 < 12)) fun h3 kb3 nx3 t3 => ?_
      have a3 := (kb3.get _ (by omega) y1).trans a2
      have z3 := (kb3.get _ (by omega) y2).trans z2
      refine gg ?_
      have eo : onlyC c = ⟨c.k, c.fl, c.a, 0, 0, 0, 0, [], [], [], [], []⟩ := by simp [onlyC, hl]
      refine ⟨rfl, KeepsB.new ((KeepsB.refl h1.next h2).trans kb3) (by omega) kk, by omega, z3, _, t3, ?_, ⟨sel_of rfl, sel_of rfl, trivial⟩⟩
      rw [eo]
      exact ⟨none, 0, none, 0, none, 0, none, 0, none, 0, [], rfl, Row.nil _ _, Row.nil _ _, Row.nil _ _, ⟨Row.nil _ _, trivial⟩, Row.nil _ _, ⟨Nat.le_refl _, Nat.le_refl _, Nat.le_refl _, Nat.le_refl _, Nat.le_refl _⟩, hk256, hf256⟩
    · have hl : lets c.k = [] := by rw [hk]; rfl
      rw [hk] at a2
      refine gg ?_; repeat (refine i_ldown (by exact sel_of rfl) (by assumption) (by rfl) ?_; refine gg ?_)
      have eo : onlyC c = ⟨c.k, c.fl, 0, 0, 0, 0, 0, [], [], [], [], []⟩ := by simp [onlyC, hl]
      refine ⟨rfl, KeepsB.new (KeepsB.refl h1.next h2) (by omega) kk, by omega, z2, _, t2, ?_, ⟨sel_of rfl, sel_of rfl, trivial⟩⟩
      rw [eo]
      exact ⟨none, 0, none, 0, none, 0, none, 0, none, 0, [], rfl, Row.nil _ _, Row.nil _ _, Row.nil _ _, ⟨Row.nil _ _, trivial⟩, Row.nil _ _, ⟨Nat.le_refl _, Nat.le_refl _, Nat.le_refl _, Nat.le_refl _, Nat.le_refl _⟩, hk256, hf256⟩
    · have hl : lets c.k = [] := by rw [hk]; rfl
      rw [hk] at a2
      refine gg ?_; repeat (refine i_ldown (by exact sel_of rfl) (by assumption) (by rfl) ?_; refine gg ?_)
      have eo : onlyC c = ⟨c.k, c.fl, 0, 0, 0, 0, 0, [], [], [], [], []⟩ := by simp [onlyC, hl]
      refine ⟨rfl, KeepsB.new (KeepsB.refl h1.next h2) (by omega) kk, by omega, z2, _, t2, ?_, ⟨sel_of rfl, sel_of rfl, trivial⟩⟩
      rw [eo]
      exact ⟨none, 0, none, 0, none, 0, none, 0, none, 0, [], rfl, Row.nil _ _, Row.nil _ _, Row.nil _ _, ⟨Row.nil _ _, trivial⟩, Row.nil _ _, ⟨Nat.le_refl _, Nat.le_refl _, Nat.le_refl _, Nat.le_refl _, Nat.le_refl _⟩, hk256, hf256⟩
    · have hl : lets c.k = [] := by rw [hk]; rfl
      rw [hk] at a2
      refine gg ?_; repeat (refine i_ldown (by exact sel_of rfl) (by assumption) (by rfl) ?_; refine gg ?_)
      have eo : onlyC c = ⟨c.k, c.fl, 0, 0, 0, 0, 0, [], [], [], [], []⟩ := by simp [onlyC, hl]
      refine ⟨rfl, KeepsB.new (KeepsB.refl h1.next h2) (by omega) kk, by omega, z2, _, t2, ?_, ⟨sel_of rfl, sel_of rfl, trivial⟩⟩
      rw [eo]
      exact ⟨none, 0, none, 0, none, 0, none, 0, none, 0, [], rfl, Row.nil _ _, Row.nil _ _, Row.nil _ _, ⟨Row.nil _ _, trivial⟩, Row.nil _ _, ⟨Nat.le_refl _, Nat.le_refl _, Nat.le_refl _, Nat.le_refl _, Nat.le_refl _⟩, hk256, hf256⟩
    · have hl : lets c.k = [65, 83] := by rw [hk]; rfl
      rw [hk] at a2
      refine gg ?_; repeat (refine i_ldown (by exact sel_of rfl) (by assumption) (by rfl) ?_; refine gg ?_)
      refine i_stB (by exact sel_of rfl) (by rfl) t2 (by exact (by decide : 2 < 12)) fun h3 kb3 nx3 t3 => ?_
      have a3 := (kb3.get _ (by omega) y1).trans a2
      have z3 := (kb3.get _ (by omega) y2).trans z2
      refine gg ?_
      refine i_stB (by exact sel_of rfl) (by rfl) t3 (by exact (by decide : 9 < 12)) fun h4 kb4 nx4 t4 => ?_
      have a4 := (kb4.get _ (by omega) y1).trans a3
      have z4 := (kb4.get _ (by omega) y2).trans z3
      refine gg ?_
      refine ⟨chk_cons rfl (ldO (by exact sel_of rfl) (by assumption) (by rfl)) (by first | exact sv_int _ _ | exact sv_slice _ _ _) (fun m hm => by
        simp only [List.mem_cons, List.not_mem_nil, or_false] at hm
        rcases hm with rfl | rfl <;> exact ⟨_, _, rfl, ldO (by exact sel_of rfl) (by assumption) (by rfl)⟩) (chk_nil), ?_⟩
      refine gg ?_; repeat (refine i_ldown (by exact sel_of rfl) (by assumption) (by rfl) ?_; refine gg ?_)
      have eo : onlyC c = ⟨c.k, c.fl, c.a, 0, 0, 0, 0, [], [], c.sk, [], []⟩ := by simp [onlyC, hl]
      refine ⟨rfl, KeepsB.new (((KeepsB.refl h1.next h2).trans kb3).trans kb4) (by omega) kk, by omega, z4, _, t4, ?_, ⟨sel_of rfl, sel_of rfl, trivial⟩⟩
      rw [eo]
      exact ⟨none, 0, none, 0, o3, c3, none, 0, none, 0, [], rfl, Row.nil _ _, Row.nil _ _, r3, ⟨Row.nil _ _, trivial⟩, Row.nil _ _, ⟨Nat.le_refl _, Nat.le_refl _, b3, Nat.le_refl _, Nat.le_refl _⟩, hk256, hf256⟩
    · have hl : lets c.k = [68] := by unfold lets; simp only [hk, if_false, or_self]
      refine gg ?_; repeat (refine i_ldown (by exact sel_of rfl) (by assumption) (by rfl) ?_; refine gg ?_)
      refine i_stB (by exact sel_of rfl) (by rfl) t2 (by exact (by decide : 11 < 12)) fun h3 kb3 nx3 t3 => ?_
      have a3 := (kb3.get _ (by omega) y1).trans a2
      have z3 := (kb3.get _ (by omega) y2).trans z2
      refine gg ?_
      have eo : onlyC c = ⟨c.k, c.fl, 0, 0, 0, 0, 0, [], [], [], [], c.da⟩ := by simp [onlyC, hl]
      refine ⟨rfl, KeepsB.new ((KeepsB.refl h1.next h2).trans kb3) (by omega) kk, by omega, z3, _, t3, ?_, ⟨sel_of rfl, sel_of rfl, trivial⟩⟩
      rw [eo]
      exact ⟨none, 0, none, 0, none, 0, none, 0, o5, c5, [], rfl, Row.nil _ _, Row.nil _ _, Row.nil _ _, ⟨Row.nil _ _, trivial⟩, r5, ⟨Nat.le_refl _, Nat.le_refl _, Nat.le_refl _, Nat.le_refl _, b5⟩, hk256, hf256⟩
  rintro a h3 ⟨k3, lt3, z3, w, t3, hw, hs⟩
  obtain ⟨f0, rfl⟩ := hs.puts
  have lw := hw.len
  refine gg ?_
  refine i_loadN (by exact sel_of rfl) (loadN_all (by assumption) (by first | rfl | assumption)) ?_
  refine gg ?_
  refine i_stA (by exact sel_of rfl) (by rfl) z3 lw rfl fun h4 kb4 nx4 z4 => ?_
  refine gg ?_
  exact finA1 (by exact sel_of rfl) (loadN_all z4 lw) ⟨KeepsB.new kb4 (by omega) k3, w, rfl, hw.keeps (KeepsB.new kb4 (by omega) k3)⟩
end Go.Proofs.Ytdcllpjoejkpnaa

