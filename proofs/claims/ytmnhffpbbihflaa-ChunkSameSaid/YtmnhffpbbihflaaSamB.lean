/- Part of a proof by an abstract run of the program's code: SamB. No condition. -/
import Derived.Test.YtmnhffpbbihflaaChkA
import Derived.Test.YtmnhffpbbihflaaSamA
import Derived.Test.YtmnhffpbbihflaaRefA
/-! The law ChunkSame, walked. -/
set_option linter.unusedVariables false
namespace Go.Proofs.Ytmnhffpbbihflaa
open Go Vm
theorem Chk.few.Few {c : Chk} (h : c.few) : c.Few := ⟨h.1.1, h.1.2.1, h.1.2.2.1, by have := h.1.2.2.2.1; omega, by have := h.1.2.2.2.2; omega, fun p hp => by have := h.2 p hp; omega⟩
theorem w_lsame {h : Heap} {x y : Chk} {v w : List Value} (hv : ChV h x v) (hw : ChV h y w) (n : Nat) (hn : 100400 ≤ n) :
    ResQ (callN Try.prog G0 n (.call 4 [.agg v.toArray, .agg w.toArray]) h) (fun u h' => u = .bool true) := by
  obtain ⟨n, rfl⟩ : ∃ m, n = m + 1 := ⟨n - 1, by omega⟩
  refine res_enter rfl d4 rfl ?_; simp only [c4]
  obtain ⟨g1, g2, k1, n1⟩ := box_two h (.cells 30 v.toArray.toList (.own false)) (.cells 30 w.toArray.toList (.own false))
  refine o_cut (fun a h' => h' = (h.new (.cells 30 v.toArray.toList (.own false))).new (.cells 30 w.toArray.toList (.own false)) ∧ Sl [(2, .pointer (some ⟨h.next, 0, none⟩)), (3, .pointer (some ⟨h.next + 1, 0, none⟩))] a) ?_ ?_
  · refine gg ?_
    exact ⟨rfl, rfl, sel_of rfl, sel_of rfl, trivial⟩
  rintro a h1 ⟨hh, hs⟩
  rw [← hh] at g1 g2 k1 n1
  clear hh
  have lv := hv.len
  have lw := hw.len
  have hv := hv.keeps k1
  have hw := hw.keeps k1
  have b1 : h.next < h1.next := by omega
  have b2 : h.next + 1 < h1.next := by omega
  clear k1
  obtain ⟨f0, rfl⟩ := hs.puts
  refine gg ?_
  refine i_call0 (w_awake h1 n (by omega)) ?_
  rintro _ _ ⟨rfl, rfl⟩
  refine gg ?_
  refine i_loadN (by exact sel_of rfl) (loadN_all (by assumption) (by first | rfl | assumption)) ?_
  refine i_call1 (by exact sel_of rfl) (w_few7 hv n (by omega)) ?_
  rintro _ h2 ⟨rfl, k2⟩
  by_cases fx : x.few
  case neg =>
    rw [decide_eq_false fx]
    refine gg ?_
    rfl
  rw [decide_eq_true fx]
  refine gg ?_
  have g1 := (k2.get _ b1).trans g1
  have g2 := (k2.get _ b2).trans g2
  have hv := hv.keeps k2
  have hw := hw.keeps k2
  have b1 := Nat.lt_of_lt_of_le b1 k2.next
  have b2 := Nat.lt_of_lt_of_le b2 k2.next
  clear k2
  refine i_loadN (by exact sel_of rfl) (loadN_all (by assumption) (by first | rfl | assumption)) ?_
  refine gg ?_
  refine i_call1 (by exact sel_of rfl) (w_few7 hw n (by omega)) ?_
  rintro _ h3 ⟨rfl, k3⟩
  by_cases fy : y.few
  case neg =>
    rw [decide_eq_false fy]
    refine gg ?_
    rfl
  rw [decide_eq_true fy]
  refine gg ?_
  have a1 := (k3.get _ b1).trans g1
  have a2 := (k3.get _ b2).trans g2
  clear g1 g2
  have hv := hv.keeps k3
  have hw := hw.keeps k3
  have b1 := Nat.lt_of_lt_of_le b1 k3.next
  have b2 := Nat.lt_of_lt_of_le b2 k3.next
  clear k3
  refine i_loadN (by exact sel_of rfl) (loadN_all (by assumption) (by first | rfl | assumption)) ?_
  refine gg ?_
  refine i_loadN (by exact sel_of rfl) (loadN_all (by assumption) (by first | rfl | assumption)) ?_
  refine gg ?_
  refine i_call2 (by exact sel_of rfl) (by exact sel_of rfl) (w_csame hv hw fx.Few n (by omega)) ?_
  rintro _ h4 ⟨rfl, k4⟩
  refine gg ?_
  have c1 := (k4.get _ b1).trans a1
  have c2 := (k4.get _ b2).trans a2
  have hv := hv.keeps k4
  have hw := hw.keeps k4
  have b1 := Nat.lt_of_lt_of_le b1 k4.next
  have b2 := Nat.lt_of_lt_of_le b2 k4.next
  refine i_loadN (by exact sel_of rfl) (loadN_all (by assumption) (by first | rfl | assumption)) ?_
  refine gg ?_
  refine i_loadN (by exact sel_of rfl) (loadN_all (by assumption) (by first | rfl | assumption)) ?_
  refine gg ?_
  refine i_call2 (by exact sel_of rfl) (by exact sel_of rfl) (w_rsame7 hv hw fx.Few n (by omega)) ?_
  rintro _ h5 ⟨rfl, k5⟩
  refine gg ?_
  have d1 := (k5.get _ b1).trans c1
  have d2 := (k5.get _ b2).trans c2
  have hv := hv.keeps k5
  have hw := hw.keeps k5
  have b1 := Nat.lt_of_lt_of_le b1 k5.next
  have b2 := Nat.lt_of_lt_of_le b2 k5.next
  refine i_loadN (by exact sel_of rfl) (loadN_all (by assumption) (by first | rfl | assumption)) ?_
  refine gg ?_
  refine i_loadN (by exact sel_of rfl) (loadN_all (by assumption) (by first | rfl | assumption)) ?_
  refine gg ?_
  refine i_call2 (by exact sel_of rfl) (by exact sel_of rfl) (w_csame hw hv fy.Few n (by omega)) ?_
  rintro _ h6 ⟨rfl, k6⟩
  refine gg ?_
  have q1 := (k6.get _ b1).trans d1
  have q2 := (k6.get _ b2).trans d2
  have hv := hv.keeps k6
  have hw := hw.keeps k6
  have b1 := Nat.lt_of_lt_of_le b1 k6.next
  have b2 := Nat.lt_of_lt_of_le b2 k6.next
  refine i_loadN (by exact sel_of rfl) (loadN_all (by assumption) (by first | rfl | assumption)) ?_
  refine gg ?_
  refine i_loadN (by exact sel_of rfl) (loadN_all (by assumption) (by first | rfl | assumption)) ?_
  refine gg ?_
  refine i_call2 (by exact sel_of rfl) (by exact sel_of rfl) (w_csame hv hw fx.Few n (by omega)) ?_
  rintro _ h7 ⟨rfl, k7⟩
  rw [show decide (y = x) = decide (x = y) from decide_eq_decide.2 ⟨Eq.symm, Eq.symm⟩]
  refine gg ?_
  have r1 := (k7.get _ b1).trans q1
  have r2 := (k7.get _ b2).trans q2
  have hv := hv.keeps k7
  refine i_loadN (by exact sel_of rfl) (loadN_all (by assumption) (by first | rfl | assumption)) ?_
  refine gg ?_
  refine i_loadN (by exact sel_of rfl) (loadN_all (by assumption) (by first | rfl | assumption)) ?_
  refine gg ?_
  refine i_call2 (by exact sel_of rfl) (by exact sel_of rfl) (w_csame hv hv fx.Few n (by omega)) ?_
  rintro _ h8 ⟨rfl, k8⟩
  rw [decide_eq_true (rfl : x = x)]
  refine gg ?_
  refine ⟨chk_live rfl (ldN (by exact sel_of rfl) (loadN_all (by assumption) (by first | rfl | assumption))) (by first | exact hv.sv | exact hw.sv) (fun m hm => by
    simp only [List.mem_cons, List.not_mem_nil, or_false] at hm
    rcases hm with rfl | rfl <;> exact ⟨_, _, rfl, ldN (by exact sel_of rfl) (loadN_all (by assumption) (by first | rfl | assumption))⟩) (chk_live rfl (ldN (by exact sel_of rfl) (loadN_all (by assumption) (by first | rfl | assumption))) (by first | exact hv.sv | exact hw.sv) (fun m hm => by
    simp only [List.mem_cons, List.not_mem_nil, or_false] at hm
    rcases hm with rfl | rfl <;> exact ⟨_, _, rfl, ldN (by exact sel_of rfl) (loadN_all (by assumption) (by first | rfl | assumption))⟩) (chk_live rfl (ldN (by exact sel_of rfl) (loadN_all (by assumption) (by first | rfl | assumption))) (by first | exact hv.sv | exact hw.sv) (fun m hm => by
    simp only [List.mem_cons, List.not_mem_nil, or_false] at hm
    rcases hm with rfl | rfl <;> exact ⟨_, _, rfl, ldN (by exact sel_of rfl) (loadN_all (by assumption) (by first | rfl | assumption))⟩) (chk_live rfl (ldN (by exact sel_of rfl) (loadN_all (by assumption) (by first | rfl | assumption))) (by first | exact hv.sv | exact hw.sv) (fun m hm => by
    simp only [List.mem_cons, List.not_mem_nil, or_false] at hm
    rcases hm with rfl | rfl <;> exact ⟨_, _, rfl, ldN (by exact sel_of rfl) (loadN_all (by assumption) (by first | rfl | assumption))⟩) (chk_nil)))), ?_⟩
  refine gg ?_
  rfl
end Go.Proofs.Ytmnhffpbbihflaa

