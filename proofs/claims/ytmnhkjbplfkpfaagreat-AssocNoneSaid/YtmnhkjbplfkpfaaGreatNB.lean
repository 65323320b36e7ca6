/- Part of a proof by an abstract run of the program's code: NB. No condition. -/
import Derived.Test.YtmnhkjbplfkpfaaGreatGx
import Derived.Test.YtmnhkjbplfkpfaaGreatNF
/-! The law AssocNone, walked. -/
set_option linter.unusedVariables false
namespace Go.Proofs.YtmnhkjbplfkpfaaGreat
open Go Vm
theorem w_awake (h : Heap) (n : Nat) (hn : 1 ≤ n) : ResQ (callN Tryz.prog G0 n (.call 9 []) h) (fun v h' => v = .bool true ∧ h = h') := by
  obtain ⟨m, rfl⟩ : ∃ m, n = m + 1 := ⟨n - 1, by omega⟩
  exact ⟨.bool true, h, by rw [callN_call]; rfl, rfl, rfl⟩
section
variable {h : Heap} {n : Nat}
theorem n_state (hn : 1 ≤ n) : ResQ (callN Tryz.prog G0 n (.call 14 [.pointer none]) h) (fun v' h' => v' = .int .i64 8 ∧ h = h') := by
  obtain ⟨n, rfl⟩ : ∃ m, n = m + 1 := ⟨n - 1, by omega⟩
  refine res_enter rfl d14 rfl ?_; simp only [c14]
  refine gg ?_
  exact ⟨rfl, rfl⟩
theorem n_times (hn : 1 ≤ n) : ResQ (callN Tryz.prog G0 n (.call 28 [.pointer none]) h) (fun v' h' => v' = .int .i64 0 ∧ h = h') := by
  obtain ⟨n, rfl⟩ : ∃ m, n = m + 1 := ⟨n - 1, by omega⟩
  refine res_enter rfl d28 rfl ?_; simp only [c28]
  refine gg ?_
  exact ⟨rfl, rfl⟩
theorem n_tags (hn : 1 ≤ n) : ResQ (callN Tryz.prog G0 n (.call 17 [.pointer none]) h) (fun v' h' => v' = .tuple #[.int .u32 0, .int .u32 0] ∧ h = h') := by
  obtain ⟨n, rfl⟩ : ∃ m, n = m + 1 := ⟨n - 1, by omega⟩
  refine res_enter rfl d17 rfl ?_; simp only [c17]
  refine gg ?_
  exact ⟨rfl, rfl⟩
theorem n_messages (hn : 1 ≤ n) : ResQ (callN Tryz.prog G0 n (.call 18 [.pointer none]) h) (fun v' h' => v' = .slice none 0 0 ∧ h = h') := by
  obtain ⟨n, rfl⟩ : ∃ m, n = m + 1 := ⟨n - 1, by omega⟩
  refine res_enter rfl d18 rfl ?_; simp only [c18]
  refine gg ?_
  exact ⟨rfl, rfl⟩
theorem n_restarted (hn : 1 ≤ n) : ResQ (callN Tryz.prog G0 n (.call 26 [.pointer none]) h) (fun v' h' => v' = .slice none 0 0 ∧ h = h') := by
  obtain ⟨n, rfl⟩ : ∃ m, n = m + 1 := ⟨n - 1, by omega⟩
  refine res_enter rfl d26 rfl ?_; simp only [c26]
  refine gg ?_
  exact ⟨rfl, rfl⟩
theorem n_performed (hn : 1 ≤ n) : ResQ (callN Tryz.prog G0 n (.call 27 [.pointer none]) h) (fun v' h' => v' = .slice none 0 0 ∧ h = h') := by
  obtain ⟨n, rfl⟩ : ∃ m, n = m + 1 := ⟨n - 1, by omega⟩
  refine res_enter rfl d27 rfl ?_; simp only [c27]
  refine gg ?_
  exact ⟨rfl, rfl⟩
theorem n_start (a b : Int) (hn : 1 ≤ n) : ResQ (callN Tryz.prog G0 n (.call 11 [.pointer none, .int .i64 a, .int .u32 b]) h) (fun v' h' => v' = .int .i64 1 ∧ h = h') := by
  obtain ⟨n, rfl⟩ : ∃ m, n = m + 1 := ⟨n - 1, by omega⟩
  refine res_enter rfl d11 rfl ?_; simp only [c11]
  refine gg ?_
  exact ⟨rfl, rfl⟩
theorem n_close (a : Int) (hn : 1 ≤ n) : ResQ (callN Tryz.prog G0 n (.call 23 [.pointer none, .int .i64 a]) h) (fun v' h' => v' = .int .i64 1 ∧ h = h') := by
  obtain ⟨n, rfl⟩ : ∃ m, n = m + 1 := ⟨n - 1, by omega⟩
  refine res_enter rfl d23 rfl ?_; simp only [c23]
  refine gg ?_
  exact ⟨rfl, rfl⟩
theorem n_hear (v : Value) (a b : Int) (hn : 1 ≤ n) : ResQ (callN Tryz.prog G0 n (.call 16 [.pointer none, v, .int .i64 a, .int .u32 b]) h) (fun v' h' => v' = .tuple #[.slice none 0 0, .int .i64 1] ∧ h = h') := by
  obtain ⟨n, rfl⟩ : ∃ m, n = m + 1 := ⟨n - 1, by omega⟩
  refine res_enter rfl d16 rfl ?_; simp only [c16]
  refine gg ?_
  exact ⟨rfl, rfl⟩
theorem n_send (mv : List Value) (a b c : Int) (hl : mv.length = 4) (hn : 1 ≤ n) : ResQ (callN Tryz.prog G0 n (.call 24 [.pointer none, .agg mv.toArray, .int .i64 a, .int .i64 b, .int .i64 c]) h) (fun v' h' => v' = .int .i64 1 ∧ Keeps h h') := by
  obtain ⟨n, rfl⟩ : ∃ m, n = m + 1 := ⟨n - 1, by omega⟩
  refine res_enter rfl d24 rfl ?_; simp only [c24]
  refine gg ?_
  exact ⟨rfl, Keeps.new _ _⟩
theorem n_restart (v : Value) (a : Int) (hn : 1 ≤ n) : ResQ (callN Tryz.prog G0 n (.call 25 [.pointer none, v, .int .i64 a]) h) (fun v' h' => v' = .int .i64 1 ∧ h = h') := by
  obtain ⟨n, rfl⟩ : ∃ m, n = m + 1 := ⟨n - 1, by omega⟩
  refine res_enter rfl d25 rfl ?_; simp only [c25]
  refine gg ?_
  exact ⟨rfl, rfl⟩
theorem w_has2 {x b : Nat} (hr : Row h 1 (some ⟨b, 0, none⟩) 2 [.int .i64 0, .int .i64 8]) (hn : 5 ≤ n) : ResQ (callN Tryz.prog G0 n (.call 110 [.slice (some ⟨b, 0, none⟩) 2 2, .int .i64 8]) h) (fun v' h' => v' = .int .i64 1 ∧ h = h') := by
  obtain ⟨n, rfl⟩ : ∃ m, n = m + 1 := ⟨n - 1, by omega⟩
  refine res_enter rfl d110 rfl ?_; simp only [c110]
  refine gg ?_
  refine o_up 2 (fun i f h' => Sl [(8, .int .i64 (i : Int)), (7, .int .i64 ((2 : Nat) : Int)), (0, .slice (some ⟨b, 0, none⟩) 2 2), (1, .int .i64 8)] f ∧ h = h' ∧ i ≤ 1) (by omega) ?_ ?_
  · exact ⟨⟨sel_of rfl, sel_of rfl, sel_of rfl, sel_of rfl, trivial⟩, rfl, by omega⟩
  rintro i f h' hi ⟨hs, rfl, hi1⟩
  obtain ⟨f0, rfl⟩ := hs.puts
  simp only [c110_0]
  have hi2 : i = 0 ∨ i = 1 := by omega
  rcases hi2 with rfl | rfl
  · refine gg ?_
    refine i_idx (by exact sel_of rfl) hr (i := 0) (by exact sel_of rfl) (by omega) fun u hu => ?_
    cases hu
    refine i_load1 (v := .int .i64 0) (by exact sel_of rfl) (by rw [hr.cell (by omega)]; rfl) ?_
    refine gg ?_
    exact rnd_up (by omega) ⟨⟨sel_of rfl, sel_of rfl, sel_of rfl, sel_of rfl, trivial⟩, rfl, by omega⟩
  · refine gg ?_
    refine i_idx (by exact sel_of rfl) hr (i := 1) (by exact sel_of rfl) (by omega) fun u hu => ?_
    cases hu
    refine i_load1 (v := .int .i64 8) (by exact sel_of rfl) (by rw [hr.cell (by omega)]; rfl) ?_
    refine gg ?_
    exact ⟨rfl, rfl⟩
theorem w_contains {b : Nat} (hr : Row h 1 (some ⟨b, 0, none⟩) 2 [.int .i64 0, .int .i64 8]) (hn : 6 ≤ n) : ResQ (callN Tryz.prog G0 n (.call 66 [.slice (some ⟨b, 0, none⟩) 2 2, .int .i64 8]) h) (fun v' h' => v' = .bool true ∧ h = h') := by
  obtain ⟨n, rfl⟩ : ∃ m, n = m + 1 := ⟨n - 1, by omega⟩
  refine res_enter rfl d66 rfl ?_; simp only [c66]
  refine gg ?_
  refine i_call2 (by exact sel_of rfl) (by exact sel_of rfl) (w_has2 (x := 0) hr (by omega)) ?_
  rintro _ _ ⟨rfl, rfl⟩
  refine gg ?_
  exact ⟨rfl, rfl⟩
theorem w_in {b : Nat} (hr : Row h 1 (some ⟨b, 0, none⟩) 2 [.int .i64 0, .int .i64 8]) (hn : 7 ≤ n) : ResQ (callN Tryz.prog G0 n (.call 35 [.pointer none, .slice (some ⟨b, 0, none⟩) 2 2]) h) (fun v' h' => v' = .bool true ∧ h = h') := by
  obtain ⟨n, rfl⟩ : ∃ m, n = m + 1 := ⟨n - 1, by omega⟩
  refine res_enter rfl d35 rfl ?_; simp only [c35]
  refine gg ?_
  refine i_call1 (by exact sel_of rfl) (n_state (by omega)) ?_
  rintro _ _ ⟨rfl, rfl⟩
  refine gg ?_
  refine i_call2 (by exact sel_of rfl) (by exact sel_of rfl) (w_contains hr (by omega)) ?_
  rintro _ _ ⟨rfl, rfl⟩
  refine gg ?_
  exact ⟨rfl, rfl⟩
theorem n_tell (a : Int) (hn : 8 ≤ n) : ResQ (callN Tryz.prog G0 n (.call 12 [.pointer none, .int .i64 a]) h) (fun v' h' => v' = .slice none 0 0 ∧ Keeps h h') := by
  obtain ⟨n, rfl⟩ : ∃ m, n = m + 1 := ⟨n - 1, by omega⟩
  refine res_enter rfl d12 rfl ?_; simp only [c12]
  refine gg ?_
  have k : Keeps h (h.new (.cells 3 [.int .i64 0, .int .i64 8] (.own false))) := Keeps.new _ _
  have r : Row (h.new (.cells 3 [.int .i64 0, .int .i64 8] (.own false))) 1 (some ⟨h.next, 0, none⟩) 2 [.int .i64 0, .int .i64 8] := Row.new (by simp) rfl (.inl rfl)
  show ItQ (runItems _ _ _ (h.new (.cells 3 [.int .i64 0, .int .i64 8] (.own false)))) _
  generalize h.new (.cells 3 [.int .i64 0, .int .i64 8] (.own false)) = h1 at *
  refine i_call2 (by exact sel_of rfl) (by exact sel_of rfl) (w_in r (by omega)) ?_
  rintro _ _ ⟨rfl, rfl⟩
  refine gg ?_
  exact ⟨rfl, k⟩
theorem n_abort (hn : 8 ≤ n) : ResQ (callN Tryz.prog G0 n (.call 22 [.pointer none]) h) (fun v' h' => v' = .slice none 0 0 ∧ Keeps h h') := by
  obtain ⟨n, rfl⟩ : ∃ m, n = m + 1 := ⟨n - 1, by omega⟩
  refine res_enter rfl d22 rfl ?_; simp only [c22]
  refine gg ?_
  have k : Keeps h (h.new (.cells 3 [.int .i64 0, .int .i64 8] (.own false))) := Keeps.new _ _
  have r : Row (h.new (.cells 3 [.int .i64 0, .int .i64 8] (.own false))) 1 (some ⟨h.next, 0, none⟩) 2 [.int .i64 0, .int .i64 8] := Row.new (by simp) rfl (.inl rfl)
  show ItQ (runItems _ _ _ (h.new (.cells 3 [.int .i64 0, .int .i64 8] (.own false)))) _
  generalize h.new (.cells 3 [.int .i64 0, .int .i64 8] (.own false)) = h1 at *
  refine i_call2 (by exact sel_of rfl) (by exact sel_of rfl) (w_in r (by omega)) ?_
  rintro _ _ ⟨rfl, rfl⟩
  refine gg ?_
  exact ⟨rfl, k⟩
theorem n_tick (a : Int) (hn : 8 ≤ n) : ResQ (callN Tryz.prog G0 n (.call 13 [.pointer none, .int .i64 a]) h) (fun v' h' => Keeps h h') := by
  obtain ⟨n, rfl⟩ : ∃ m, n = m + 1 := ⟨n - 1, by omega⟩
  refine res_enter rfl d13 rfl ?_; simp only [c13]
  refine gg ?_
  have k : Keeps h (h.new (.cells 3 [.int .i64 0, .int .i64 8] (.own false))) := Keeps.new _ _
  have r : Row (h.new (.cells 3 [.int .i64 0, .int .i64 8] (.own false))) 1 (some ⟨h.next, 0, none⟩) 2 [.int .i64 0, .int .i64 8] := Row.new (by simp) rfl (.inl rfl)
  show ItQ (runItems _ _ _ (h.new (.cells 3 [.int .i64 0, .int .i64 8] (.own false)))) _
  generalize h.new (.cells 3 [.int .i64 0, .int .i64 8] (.own false)) = h1 at *
  refine i_call2 (by exact sel_of rfl) (by exact sel_of rfl) (w_in r (by omega)) ?_
  rintro _ _ ⟨rfl, rfl⟩
  refine gg ?_
  exact k
end
set_option maxRecDepth 20000 in
theorem w_lnone {h : Heap} {s pp dr n_ : Int} {un : Bool} {ob om : Option Addr} {bl bc m cm : Nat} (n : Nat) (hn : 12 ≤ n) :
    ResQ (callN Tryz.prog G0 n (.call 8 [.slice ob bl bc, .agg #[.int .u16 s, .bool un, .int .u32 pp, .slice om m cm], .int .i64 n_, .int .u32 dr]) h) (fun u h' => u = .bool true) := by
  obtain ⟨n, rfl⟩ : ∃ m, n = m + 1 := ⟨n - 1, by omega⟩
  refine res_enter rfl d8 rfl ?_; simp only [c8]
  obtain ⟨g1, k1, n1⟩ := box_one h (.cells 63 [.int .u16 s, .bool un, .int .u32 pp, .slice om m cm] (.own false))
  refine o_cut (fun a h' => h' = h.new (.cells 63 [.int .u16 s, .bool un, .int .u32 pp, .slice om m cm] (.own false)) ∧ Sl [(5, .pointer (some ⟨h.next, 0, none⟩)), (0, .slice ob bl bc), (2, .int .i64 n_), (3, .int .u32 dr)] a) ?_ ?_
  · refine gg ?_
    exact ⟨rfl, rfl, sel_of rfl, sel_of rfl, sel_of rfl, sel_of rfl, trivial⟩
  rintro a h1 ⟨hh, hsl⟩
  rw [← hh] at g1 k1 n1
  clear hh
  obtain ⟨f0, rfl⟩ := hsl.puts
  have b1 : h.next < h1.next := by omega
  clear hsl
  refine gg ?_
  refine i_call0 (w_awake h1 n (by omega)) ?_
  rintro _ _ ⟨rfl, rfl⟩
  refine gg ?_; repeat (refine i_ldown (by exact sel_of rfl) (by assumption) (by rfl) ?_; refine gg ?_)
  by_cases h2 : 2000 < bl
  · rw [decide_eq_true (p := (2000 : Int) < ((bl : Nat) : Int)) (by omega)]
    refine gg ?_; repeat (refine i_ldown (by exact sel_of rfl) (by assumption) (by rfl) ?_; refine gg ?_)
    rfl
  rw [decide_eq_false (p := (2000 : Int) < ((bl : Nat) : Int)) (by omega)]
  refine gg ?_; repeat (refine i_ldown (by exact sel_of rfl) (by assumption) (by rfl) ?_; refine gg ?_)
  by_cases h3 : 2000 < m
  · rw [decide_eq_true (p := (2000 : Int) < ((m : Nat) : Int)) (by omega)]
    refine gg ?_; repeat (refine i_ldown (by exact sel_of rfl) (by assumption) (by rfl) ?_; refine gg ?_)
    rfl
  rw [decide_eq_false (p := (2000 : Int) < ((m : Nat) : Int)) (by omega)]
  refine gg ?_
  refine i_call4 (by exact sel_of rfl) (by exact sel_of rfl) (by exact sel_of rfl) (by exact sel_of rfl) (n_hear _ n_ dr (by omega)) ?_
  rintro _ _ ⟨rfl, rfl⟩
  refine gg ?_
  refine i_call2 (by exact sel_of rfl) (by exact sel_of rfl) (n_tick n_ (by omega)) ?_
  rintro _ h4 k4
  have g4 := (k4.get _ b1).trans g1
  have b4 := Nat.lt_of_lt_of_le b1 k4.next
  refine gg ?_
  refine i_call1 (by exact sel_of rfl) (n_tags (by omega)) ?_
  rintro _ _ ⟨rfl, rfl⟩
  refine gg ?_
  refine i_call3 (by exact sel_of rfl) (by exact sel_of rfl) (by exact sel_of rfl) (n_start n_ dr (by omega)) ?_
  rintro _ _ ⟨rfl, rfl⟩
  refine gg ?_
  refine i_call2 (by exact sel_of rfl) (by exact sel_of rfl) (n_tell n_ (by omega)) ?_
  rintro _ h5 ⟨rfl, k5⟩
  have g5 := (k5.get _ b4).trans g4
  refine gg ?_
  refine i_loadN (by exact sel_of rfl) (loadN_all (by assumption) (by first | rfl | assumption)) ?_
  refine gg ?_
  refine i_call5 (by exact sel_of rfl) (by exact sel_of rfl) (by exact sel_of rfl) (by exact sel_of rfl) (by exact sel_of rfl) (n_send [.int .u16 s, .bool un, .int .u32 pp, .slice om m cm] n_ n_ n_ rfl (by omega)) ?_
  rintro _ h6 ⟨rfl, k6⟩
  refine gg ?_
  refine i_call1 (by exact sel_of rfl) (n_messages (by omega)) ?_
  rintro _ _ ⟨rfl, rfl⟩
  refine gg ?_
  refine i_call2 (by exact sel_of rfl) (by exact sel_of rfl) (n_close n_ (by omega)) ?_
  rintro _ _ ⟨rfl, rfl⟩
  refine gg ?_
  refine i_call1 (by exact sel_of rfl) (n_abort (by omega)) ?_
  rintro _ h7 ⟨rfl, k7⟩
  refine gg ?_
  refine i_call3 (by exact sel_of rfl) (by exact sel_of rfl) (by exact sel_of rfl) (n_restart _ n_ (by omega)) ?_
  rintro _ _ ⟨rfl, rfl⟩
  refine gg ?_
  refine i_call1 (by exact sel_of rfl) (n_restarted (by omega)) ?_
  rintro _ _ ⟨rfl, rfl⟩
  refine gg ?_
  refine i_call1 (by exact sel_of rfl) (n_performed (by omega)) ?_
  rintro _ _ ⟨rfl, rfl⟩
  refine gg ?_
  refine i_call1 (by exact sel_of rfl) (n_state (by omega)) ?_
  rintro _ _ ⟨rfl, rfl⟩
  refine gg ?_
  refine i_call1 (by exact sel_of rfl) (n_times (by omega)) ?_
  rintro _ _ ⟨rfl, rfl⟩
  refine gg ?_
  rfl
end Go.Proofs.YtmnhkjbplfkpfaaGreat

