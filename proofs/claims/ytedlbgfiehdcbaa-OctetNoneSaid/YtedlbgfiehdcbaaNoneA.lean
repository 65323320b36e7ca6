/- Part of a proof by an abstract run of the program's code: NoneA. No condition. -/
import Derived.Test.YtedlbgfiehdcbaaOctR
import Derived.Test.YtedlbgfiehdcbaaPutsA
/-! OctetNone in the abstract run. -/
set_option linter.unusedVariables false
namespace Go.Proofs.Ytedlbgfiehdcbaa
open Go Vm
theorem n_take (k : Int) (h : Heap) (n : Nat) (hn : 1 ≤ n) : ResQ (callN Try.prog G0 n (.call 30 [.pointer none, .int .i64 k]) h) (fun v h' => v = .tuple #[.slice none 0 0, .int .i64 1] ∧ h = h') := by
  obtain ⟨n, rfl⟩ : ∃ m, n = m + 1 := ⟨n - 1, by omega⟩
  refine res_enter rfl d30 rfl ?_; simp only [c30]
  refine gg ?_
  exact ⟨rfl, rfl⟩
theorem n_get8 (h : Heap) (n : Nat) (hn : 2 ≤ n) : ResQ (callN Try.prog G0 n (.call 20 [.pointer none]) h) (fun v h' => v = .tuple #[.int .u8 ((0 : Nat) : Int), .int .i64 1] ∧ h = h') := by
  obtain ⟨n, rfl⟩ : ∃ m, n = m + 1 := ⟨n - 1, by omega⟩
  refine res_enter rfl d20 rfl ?_; simp only [c20]
  refine gg ?_
  refine i_call2 (by exact sel_of rfl) (by first | exact sel_of rfl | exact const_of) (n_take _ h n (by omega)) ?_
  rintro _ _ ⟨rfl, rfl⟩
  refine gg ?_
  exact ⟨rfl, rfl⟩
theorem n_get16 (h : Heap) (n : Nat) (hn : 2 ≤ n) : ResQ (callN Try.prog G0 n (.call 22 [.pointer none]) h) (fun v h' => v = .tuple #[.int .u16 ((0 : Nat) : Int), .int .i64 1] ∧ h = h') := by
  obtain ⟨n, rfl⟩ : ∃ m, n = m + 1 := ⟨n - 1, by omega⟩
  refine res_enter rfl d22 rfl ?_; simp only [c22]
  refine gg ?_
  refine i_call2 (by exact sel_of rfl) (by first | exact sel_of rfl | exact const_of) (n_take _ h n (by omega)) ?_
  rintro _ _ ⟨rfl, rfl⟩
  refine gg ?_
  exact ⟨rfl, rfl⟩
theorem n_get32 (h : Heap) (n : Nat) (hn : 2 ≤ n) : ResQ (callN Try.prog G0 n (.call 23 [.pointer none]) h) (fun v h' => v = .tuple #[.int .u32 ((0 : Nat) : Int), .int .i64 1] ∧ h = h') := by
  obtain ⟨n, rfl⟩ : ∃ m, n = m + 1 := ⟨n - 1, by omega⟩
  refine res_enter rfl d23 rfl ?_; simp only [c23]
  refine gg ?_
  refine i_call2 (by exact sel_of rfl) (by first | exact sel_of rfl | exact const_of) (n_take _ h n (by omega)) ?_
  rintro _ _ ⟨rfl, rfl⟩
  refine gg ?_
  exact ⟨rfl, rfl⟩
theorem n_clone (h : Heap) (n : Nat) (hn : 1 ≤ n) : ResQ (callN Try.prog G0 n (.call 29 [.slice none 0 0]) h) (fun v h' => v = .slice none 0 0 ∧ h = h') := by
  obtain ⟨n, rfl⟩ : ∃ m, n = m + 1 := ⟨n - 1, by omega⟩
  refine res_enter rfl d29 rfl ?_; simp only [c29]
  refine gg ?_
  exact ⟨rfl, rfl⟩
theorem n_bytes (k : Int) (h : Heap) (n : Nat) (hn : 2 ≤ n) : ResQ (callN Try.prog G0 n (.call 18 [.pointer none, .int .i64 k]) h) (fun v h' => v = .tuple #[.slice none 0 0, .int .i64 1] ∧ h = h') := by
  obtain ⟨n, rfl⟩ : ∃ m, n = m + 1 := ⟨n - 1, by omega⟩
  refine res_enter rfl d18 rfl ?_; simp only [c18]
  refine gg ?_
  refine i_call2 (by exact sel_of rfl) (by exact sel_of rfl) (n_take k h n (by omega)) ?_
  rintro _ _ ⟨rfl, rfl⟩
  refine gg ?_
  refine i_call1 (by exact sel_of rfl) (n_clone h n (by omega)) ?_
  rintro _ _ ⟨rfl, rfl⟩
  refine gg ?_
  exact ⟨rfl, rfl⟩
theorem n_left (h : Heap) (n : Nat) (hn : 1 ≤ n) : ResQ (callN Try.prog G0 n (.call 19 [.pointer none]) h) (fun v h' => v = .int .i64 0 ∧ h = h') := by
  obtain ⟨n, rfl⟩ : ∃ m, n = m + 1 := ⟨n - 1, by omega⟩
  refine res_enter rfl d19 rfl ?_; simp only [c19]
  refine gg ?_
  exact ⟨rfl, rfl⟩
theorem n_pad (k : Int) (h : Heap) (n : Nat) (hn : 1 ≤ n) : ResQ (callN Try.prog G0 n (.call 25 [.pointer none, .int .i64 k]) h) (fun v h' => v = .int .i64 1 ∧ h = h') := by
  obtain ⟨n, rfl⟩ : ∃ m, n = m + 1 := ⟨n - 1, by omega⟩
  refine res_enter rfl d25 rfl ?_; simp only [c25]
  refine gg ?_
  exact ⟨rfl, rfl⟩
set_option maxRecDepth 10000 in
theorem w_none {h : Heap} {o : Option Addr} {m c : Nat} {l : List UInt8} (ha : Row h 1 o m (u8s l)) (hlen : l.length ≤ 140737488351300) (v : Int) (n : Nat) (hn : 20 ≤ n) :
    ResQ (callN Try.prog G0 n (.call 8 [.int .i64 v, .slice o m c]) h) (fun r h' => r = .bool true) := by
  have hm : l.length = m := by simpa [u8s_length] using ha.1
  subst hm
  obtain ⟨n, rfl⟩ : ∃ m, n = m + 1 := ⟨n - 1, by omega⟩
  refine res_enter rfl d8 rfl ?_; simp only [c8]
  refine gg ?_
  refine i_call0 (w_awake h n (by omega)) ?_
  rintro _ _ ⟨rfl, rfl⟩
  refine gg ?_
  refine i_call1 (by exact sel_of rfl) (n_get8 h n (by omega)) ?_
  rintro _ _ ⟨rfl, rfl⟩
  refine gg ?_
  refine i_call1 (by exact sel_of rfl) (n_get16 h n (by omega)) ?_
  rintro _ _ ⟨rfl, rfl⟩
  refine gg ?_
  refine i_call1 (by exact sel_of rfl) (n_get32 h n (by omega)) ?_
  rintro _ _ ⟨rfl, rfl⟩
  refine gg ?_
  refine i_call2 (by exact sel_of rfl) (by exact sel_of rfl) (n_bytes v h n (by omega)) ?_
  rintro _ _ ⟨rfl, rfl⟩
  refine gg ?_
  refine refr [(5, _), (6, _), (7, _), (8, _), (9, _), (10, _), (11, _), (12, _), (13, _), (14, _), (0, _), (1, _)] ⟨sel_of rfl, sel_of rfl, sel_of rfl, sel_of rfl, sel_of rfl, sel_of rfl, sel_of rfl, sel_of rfl, sel_of rfl, sel_of rfl, sel_of rfl, sel_of rfl, trivial⟩ fun _ => ?_
  refine i_a (mk_slice (l := 0) (c := 16) const_of const_of (by omega) (by omega) (by omega)) ?_
  have k1 : Keeps h (h.new (.cells 5 (rep 16 [.int .u8 0]) (.own false))) := Keeps.new h _
  refine gg ?_
  generalize hh1 : h.new (.cells 5 (rep 16 [.int .u8 0]) (.own false)) = h1 at *
  have k2 : Keeps h1 (h1.new (.cells 5 (u8s [7]) (.own false))) := Keeps.new h1 _
  have hg : (h1.new (.cells 5 (u8s [7]) (.own false))).get h.next = some (.cells 5 (rep 16 [.int .u8 0]) (.own false)) := by
    rw [k2.get h.next (by subst hh1; exact Nat.lt_succ_self _)]
    subst hh1
    rw [Heap.get_new, if_pos rfl]
  refine i_e1 (app_row (b := h.next) (n := 0) (c := 16) (l := [7]) (by exact sel_of rfl) (by rw [sel_of rfl]; exact (row8 [7]).src8) hg (by rw [rep_length]; decide) (by decide) (by decide)) ?_
  rintro _ h2 ⟨rfl, t2⟩
  have k3 : Keeps h h2 := t2.keeps (k1.trans k2) (Nat.le_refl _)
  replace ha := ha.keeps k3
  have one : Row h2 1 (some ⟨h.next, 0, none⟩) 1 (u8s [7]) := by
    refine ⟨rfl, ?_, .inl rfl, ?_⟩
    · have e : h1.next = h.next + 1 := by subst hh1; rfl
      show h.next < h2.next
      rw [t2.next]
      show h.next < h1.next + 1
      omega
    · rw [loadN_of (q := ⟨h.next, 0, none⟩) t2.at_ (by simp) (by simp [u8s_length, rep_length])]
      simp [u8s_length]
  refine gg ?_
  refine i_call2 (by exact sel_of rfl) (by first | exact sel_of rfl | exact const_of) (w_put32 (l := [7]) one 5 (by simp) n (by omega)) ?_
  rintro _ h3 ⟨k4, o3, rfl, a3⟩
  replace ha := ha.keeps k4
  replace one := one.keeps k4
  refine gg ?_
  refine i_call1 (by exact sel_of rfl) (w_pad (l := [7]) one (by simp) n (by omega)) ?_
  rintro _ h4 ⟨k5, o4, rfl, a4⟩
  replace ha := ha.keeps k5
  replace one := one.keeps k5
  refine gg ?_
  refine i_call2 (by exact sel_of rfl) (by first | exact sel_of rfl | exact const_of) (w_put8 (l := [7]) one 9 (by simp) n (by omega)) ?_
  rintro _ h5 ⟨k6, o5, rfl, a5⟩
  replace ha := ha.keeps k6
  replace one := one.keeps k6
  have two := a5.row
  refine gg ?_
  refine i_call2 (by exact sel_of rfl) (by first | exact sel_of rfl | exact const_of) (w_put8 (l := [7]) one 8 (by simp) n (by omega)) ?_
  rintro _ h6 ⟨k7, o6, rfl, a6⟩
  replace ha := ha.keeps k7
  replace one := one.keeps k7
  replace two := two.keeps k7
  refine refr [(5, _), (6, _), (7, _), (8, _), (9, _), (10, _), (11, _), (12, _), (13, _), (14, _), (15, _), (16, _), (0, _), (1, _)] ⟨sel_of rfl, sel_of rfl, sel_of rfl, sel_of rfl, sel_of rfl, sel_of rfl, sel_of rfl, sel_of rfl, sel_of rfl, sel_of rfl, sel_of rfl, sel_of rfl, sel_of rfl, sel_of rfl, trivial⟩ fun _ => ?_
  refine gg ?_
  refine i_call1 (by exact sel_of rfl) (n_left h6 n (by omega)) ?_
  rintro _ _ ⟨rfl, rfl⟩
  refine gg ?_
  refine i_call2 (by exact sel_of rfl) (by exact sel_of rfl) (n_pad v h6 n (by omega)) ?_
  rintro _ _ ⟨rfl, rfl⟩
  refine gg ?_
  have k8 : Keeps h6 (h6.new (.cells 5 (u8s [7]) (.own false))) := Keeps.new h6 _
  refine i_call2 (by exact sel_of rfl) (by exact sel_of rfl) (w_same_eq (la := [7]) (one.keeps k8) (row8 [7]) n (by omega)) ?_
  rintro _ _ ⟨rfl, rfl⟩
  refine gg ?_
  generalize hh7 : h6.new (.cells 5 (u8s [7]) (.own false)) = h7 at *
  have k9 : Keeps h7 (h7.new (.cells 5 (u8s [7, 9]) (.own false))) := Keeps.new h7 _
  refine i_call2 (by exact sel_of rfl) (by exact sel_of rfl) (w_same_eq (la := [7, 9]) ((two.keeps k8).keeps k9) (row8 [7, 9]) n (by omega)) ?_
  rintro _ _ ⟨rfl, rfl⟩
  replace ha := (ha.keeps k8).keeps k9
  generalize hh8 : h7.new (.cells 5 (u8s [7, 9]) (.own false)) = h8 at *
  refine refr [(98, _), (95, _), (0, _), (1, _)] ⟨sel_of rfl, sel_of rfl, sel_of rfl, sel_of rfl, trivial⟩ fun _ => ?_
  refine gg ?_
  refine i_call2 (by exact sel_of rfl) (by first | exact sel_of rfl | exact const_of) (w_put8 ha 1 (by omega) n (by omega)) ?_
  rintro _ h9 ⟨k10, o9, rfl, a9⟩
  replace ha := ha.keeps k10
  refine gg ?_
  refine i_call3 (by exact sel_of rfl) (by first | exact sel_of rfl | exact const_of) (by first | exact sel_of rfl | exact const_of) (w_rput ha 1 1 (by omega) (by omega) n (by omega)) ?_
  rintro _ h10 ⟨k11, o10, rfl, a10⟩
  refine gg ?_
  refine i_call2 (by exact sel_of rfl) (by exact sel_of rfl) (w_same_eq (la := l ++ [1]) (a9.row.keeps k11) a10.row n (by omega)) ?_
  rintro _ _ ⟨rfl, rfl⟩
  refine gg ?_
  rfl
end Go.Proofs.Ytedlbgfiehdcbaa

