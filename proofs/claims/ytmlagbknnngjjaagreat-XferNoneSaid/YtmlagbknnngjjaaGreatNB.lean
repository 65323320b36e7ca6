/- Part of a proof by an abstract run of the program's code: NB. No condition. -/
import Derived.Test.YtmlagbknnngjjaaGreatNC
import Derived.Test.YtmlagbknnngjjaaGreatGx
/-! The law XferNone, walked. -/
set_option linter.unusedVariables false
namespace Go.Proofs.YtmlagbknnngjjaaGreat
open Go Vm
theorem w_awake (h : Heap) (n : Nat) (hn : 1 ≤ n) : ResQ (callN Tryz.prog G0 n (.call 7 []) h) (fun v h' => v = .bool true ∧ h = h') := by
  obtain ⟨m, rfl⟩ : ∃ m, n = m + 1 := ⟨n - 1, by omega⟩
  exact ⟨.bool true, h, by rw [callN_call]; rfl, rfl, rfl⟩
section
variable {h : Heap} {n : Nat}
theorem n_send (mv : List Value) (a b c : Int) (hl : mv.length = 4) (hn : 1 ≤ n) : ResQ (callN Tryz.prog G0 n (.call 9 [.pointer none, .agg mv.toArray, .int .i64 a, .int .i64 b, .int .i64 c]) h) (fun v h' => v = .int .i64 1 ∧ Keeps h h') := by
  obtain ⟨n, rfl⟩ : ∃ m, n = m + 1 := ⟨n - 1, by omega⟩
  refine res_enter rfl d9 rfl ?_; simp only [c9]
  refine gg ?_
  exact ⟨rfl, Keeps.new _ _⟩
theorem n_hear (mv : List Value) (a : Int) (hn : 1 ≤ n) : ResQ (callN Tryz.prog G0 n (.call 12 [.pointer none, .agg mv.toArray, .int .i64 a]) h) (fun v h' => v = .int .i64 1 ∧ Keeps h h') := by
  obtain ⟨n, rfl⟩ : ∃ m, n = m + 1 := ⟨n - 1, by omega⟩
  refine res_enter rfl d12 rfl ?_; simp only [c12]
  refine gg ?_
  exact ⟨rfl, Keeps.new _ _⟩
theorem n_tick (a : Int) (hn : 1 ≤ n) : ResQ (callN Tryz.prog G0 n (.call 19 [.pointer none, .int .i64 a]) h) (fun v h' => v = .bool false ∧ h = h') := by
  obtain ⟨n, rfl⟩ : ∃ m, n = m + 1 := ⟨n - 1, by omega⟩
  refine res_enter rfl d19 rfl ?_; simp only [c19]
  refine gg ?_
  refine ⟨chk_skip rfl (by exact sel_of rfl) rfl chk_nil, ?_⟩
  refine gg ?_
  exact ⟨rfl, rfl⟩
theorem n_tell (a : Int) (hn : 1 ≤ n) : ResQ (callN Tryz.prog G0 n (.call 10 [.pointer none, .int .i64 a]) h) (fun v h' => v = .slice none 0 0 ∧ h = h') := by
  obtain ⟨n, rfl⟩ : ∃ m, n = m + 1 := ⟨n - 1, by omega⟩
  refine res_enter rfl d10 rfl ?_; simp only [c10]
  refine gg ?_
  exact ⟨rfl, rfl⟩
theorem n_messages (hn : 1 ≤ n) : ResQ (callN Tryz.prog G0 n (.call 13 [.pointer none]) h) (fun v h' => v = .slice none 0 0 ∧ h = h') := by
  obtain ⟨n, rfl⟩ : ∃ m, n = m + 1 := ⟨n - 1, by omega⟩
  refine res_enter rfl d13 rfl ?_; simp only [c13]
  refine gg ?_
  exact ⟨rfl, rfl⟩
theorem n_idle (hn : 1 ≤ n) : ResQ (callN Tryz.prog G0 n (.call 14 [.pointer none]) h) (fun v h' => v = .bool true ∧ h = h') := by
  obtain ⟨n, rfl⟩ : ∃ m, n = m + 1 := ⟨n - 1, by omega⟩
  refine res_enter rfl d14 rfl ?_; simp only [c14]
  refine gg ?_
  exact ⟨rfl, rfl⟩
theorem n_due (hn : 1 ≤ n) : ResQ (callN Tryz.prog G0 n (.call 15 [.pointer none]) h) (fun v h' => v = .tuple #[.int .i64 0, .bool false] ∧ h = h') := by
  obtain ⟨n, rfl⟩ : ∃ m, n = m + 1 := ⟨n - 1, by omega⟩
  refine res_enter rfl d15 rfl ?_; simp only [c15]
  refine gg ?_
  exact ⟨rfl, rfl⟩
theorem n_failures (hn : 1 ≤ n) : ResQ (callN Tryz.prog G0 n (.call 20 [.pointer none]) h) (fun v h' => v = .int .i64 0 ∧ h = h') := by
  obtain ⟨n, rfl⟩ : ∃ m, n = m + 1 := ⟨n - 1, by omega⟩
  refine res_enter rfl d20 rfl ?_; simp only [c20]
  refine gg ?_
  exact ⟨rfl, rfl⟩
theorem n_cum (hn : 1 ≤ n) : ResQ (callN Tryz.prog G0 n (.call 21 [.pointer none]) h) (fun v h' => v = .int .u32 0 ∧ h = h') := by
  obtain ⟨n, rfl⟩ : ∃ m, n = m + 1 := ⟨n - 1, by omega⟩
  refine res_enter rfl d21 rfl ?_; simp only [c21]
  refine gg ?_
  exact ⟨rfl, rfl⟩
theorem n_next (hn : 1 ≤ n) : ResQ (callN Tryz.prog G0 n (.call 17 [.pointer none]) h) (fun v h' => v = .int .u32 0 ∧ h = h') := by
  obtain ⟨n, rfl⟩ : ∃ m, n = m + 1 := ⟨n - 1, by omega⟩
  refine res_enter rfl d17 rfl ?_; simp only [c17]
  refine gg ?_
  exact ⟨rfl, rfl⟩
theorem n_restart (s : Int) (b : Bool) (hn : 1 ≤ n) : ResQ (callN Tryz.prog G0 n (.call 18 [.pointer none, .int .u16 s, .bool b]) h) (fun v h' => h = h') := by
  obtain ⟨n, rfl⟩ : ∃ m, n = m + 1 := ⟨n - 1, by omega⟩
  refine res_enter rfl d18 rfl ?_; simp only [c18]
  refine gg ?_
  exact rfl
end
theorem w_lnone {h : Heap} {s pp : Int} {un : Bool} {x0 x1 x2 x3 x4 x5 x6 x7 x8 x9 x10 : Value} {om oc : Option Addr} {m cm c cc : Nat} (n_ : Int) (n : Nat) (hn : 3 ≤ n) :
    ResQ (callN Tryz.prog G0 n (.call 6 [.agg #[.int .u16 s, .bool un, .int .u32 pp, .slice om m cm], .agg #[x0, x1, x2, x3, x4, x5, x6, x7, x8, x9, x10, .slice oc c cc], .int .i64 n_]) h) (fun u h' => u = .bool true) := by
  obtain ⟨n, rfl⟩ : ∃ m, n = m + 1 := ⟨n - 1, by omega⟩
  refine res_enter rfl d6 rfl ?_; simp only [c6]
  obtain ⟨g1, g2, k1, n1⟩ := box_two h (.cells 34 [.int .u16 s, .bool un, .int .u32 pp, .slice om m cm] (.own false)) (.cells 42 [x0, x1, x2, x3, x4, x5, x6, x7, x8, x9, x10, .slice oc c cc] (.own false))
  refine o_cut (fun a h' => h' = (h.new (.cells 34 [.int .u16 s, .bool un, .int .u32 pp, .slice om m cm] (.own false))).new (.cells 42 [x0, x1, x2, x3, x4, x5, x6, x7, x8, x9, x10, .slice oc c cc] (.own false)) ∧ Sl [(3, .pointer (some ⟨h.next, 0, none⟩)), (4, .pointer (some ⟨h.next + 1, 0, none⟩)), (2, .int .i64 n_)] a) ?_ ?_
  · refine gg ?_
    exact ⟨rfl, rfl, sel_of rfl, sel_of rfl, sel_of rfl, trivial⟩
  rintro a h1 ⟨hh, hsl⟩
  rw [← hh] at g1 g2 k1 n1
  clear hh
  obtain ⟨f0, rfl⟩ := hsl.puts
  have b1 : h.next < h1.next := by omega
  have b2 : h.next + 1 < h1.next := by omega
  clear hsl
  refine gg ?_
  refine i_call0 (w_awake h1 n (by omega)) ?_
  rintro _ _ ⟨rfl, rfl⟩
  refine gg ?_; repeat (refine i_ldown (by exact sel_of rfl) (by assumption) (by rfl) ?_; refine gg ?_)
  by_cases h2 : 2000 < m
  · rw [decide_eq_true (p := (2000 : Int) < ((m : Nat) : Int)) (by omega)]
    refine gg ?_; repeat (refine i_ldown (by exact sel_of rfl) (by assumption) (by rfl) ?_; refine gg ?_)
    rfl
  rw [decide_eq_false (p := (2000 : Int) < ((m : Nat) : Int)) (by omega)]
  refine gg ?_; repeat (refine i_ldown (by exact sel_of rfl) (by assumption) (by rfl) ?_; refine gg ?_)
  by_cases h3 : 2000 < c
  · rw [decide_eq_true (p := (2000 : Int) < ((c : Nat) : Int)) (by omega)]
    refine gg ?_; repeat (refine i_ldown (by exact sel_of rfl) (by assumption) (by rfl) ?_; refine gg ?_)
    rfl
  rw [decide_eq_false (p := (2000 : Int) < ((c : Nat) : Int)) (by omega)]
  refine gg ?_; repeat (refine i_ldown (by exact sel_of rfl) (by assumption) (by rfl) ?_; refine gg ?_)
  refine i_call3 (by exact sel_of rfl) (by exact sel_of rfl) (by exact sel_of rfl) (n_restart s _ (by omega)) ?_
  rintro _ _ rfl
  refine gg ?_; repeat (refine i_ldown (by exact sel_of rfl) (by assumption) (by rfl) ?_; refine gg ?_)
  refine i_call1 (by exact sel_of rfl) (n_due (by omega)) ?_
  rintro _ _ ⟨rfl, rfl⟩
  refine gg ?_; repeat (refine i_ldown (by exact sel_of rfl) (by assumption) (by rfl) ?_; refine gg ?_)
  refine i_loadN (by exact sel_of rfl) (loadN_all (by assumption) (by first | rfl | assumption)) ?_
  refine gg ?_
  refine i_call5 (by exact sel_of rfl) (by exact sel_of rfl) (by exact sel_of rfl) (by exact sel_of rfl) (by exact sel_of rfl) (n_send [.int .u16 s, .bool un, .int .u32 pp, .slice om m cm] n_ n_ n_ rfl (by omega)) ?_
  rintro _ h4 ⟨rfl, k4⟩
  have g4 := (k4.get _ b2).trans g2
  refine gg ?_
  refine i_loadN (by exact sel_of rfl) (loadN_all (by assumption) (by first | rfl | assumption)) ?_
  refine gg ?_
  refine i_call3 (by exact sel_of rfl) (by exact sel_of rfl) (by exact sel_of rfl) (n_hear [x0, x1, x2, x3, x4, x5, x6, x7, x8, x9, x10, .slice oc c cc] n_ (by omega)) ?_
  rintro _ h5 ⟨rfl, k5⟩
  refine gg ?_
  refine i_call2 (by exact sel_of rfl) (by exact sel_of rfl) (n_tick n_ (by omega)) ?_
  rintro _ _ ⟨rfl, rfl⟩
  refine gg ?_
  refine i_call2 (by exact sel_of rfl) (by exact sel_of rfl) (n_tell n_ (by omega)) ?_
  rintro _ _ ⟨rfl, rfl⟩
  refine gg ?_
  refine i_call1 (by exact sel_of rfl) (n_messages (by omega)) ?_
  rintro _ _ ⟨rfl, rfl⟩
  refine gg ?_
  refine i_call1 (by exact sel_of rfl) (n_idle (by omega)) ?_
  rintro _ _ ⟨rfl, rfl⟩
  refine gg ?_
  refine i_call1 (by exact sel_of rfl) (n_failures (by omega)) ?_
  rintro _ _ ⟨rfl, rfl⟩
  refine gg ?_
  refine i_call1 (by exact sel_of rfl) (n_cum (by omega)) ?_
  rintro _ _ ⟨rfl, rfl⟩
  refine gg ?_
  refine i_call1 (by exact sel_of rfl) (n_next (by omega)) ?_
  rintro _ _ ⟨rfl, rfl⟩
  refine gg ?_
  rfl
end Go.Proofs.YtmlagbknnngjjaaGreat

