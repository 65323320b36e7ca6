/- Part of a proof by an abstract run of the program's code: EnL. No condition. -/
import Derived.Test.YtmnhffpbbihflaaRnA
/-! The law ChunkEncodes, walked. -/
set_option linter.unusedVariables false
namespace Go.Proofs.Ytmnhffpbbihflaa
open Go Vm
set_option maxHeartbeats 4000000 in
theorem w_lenc {h : Heap} {x : Chk} {v : List Value} (hv : ChV h x v) (ho : x.Ok) (n : Nat) (hn : 101000 ≤ n) :
    ResQ (callN Try.prog G0 n (.call 3 [.agg v.toArray]) h) (fun u h' => u = .bool true) := by
  have lv := hv.len
  obtain ⟨n, rfl⟩ : ∃ m, n = m + 1 := ⟨n - 1, by omega⟩
  refine res_enter rfl d3 rfl ?_; simp only [c3]
  obtain ⟨a1, k1, n1⟩ := box_one h (.cells 30 v.toArray.toList (.own false))
  refine o_cut (fun a h' => h' = (h.new (.cells 30 v.toArray.toList (.own false))) ∧ Sl [(1, .pointer (some ⟨h.next, 0, none⟩))] a) ?_ ?_
  · refine gg ?_
    exact ⟨rfl, rfl, sel_of rfl, trivial⟩
  rintro a h1 ⟨hh, hs⟩
  rw [← hh] at a1 k1 n1
  clear hh
  obtain ⟨f0, rfl⟩ := hs.puts
  have x1 : h.next < h1.next := by omega
  refine gg ?_
  refine i_call0 (w_awake h1 n (by omega)) ?_
  rintro _ _ ⟨rfl, rfl⟩
  refine gg ?_
  refine i_loadN (by exact sel_of rfl) (loadN_all (by assumption) (by first | rfl | assumption)) ?_
  refine gg ?_
  refine i_call1 (by exact sel_of rfl) (w_few7 (hv.keeps k1) n (by omega)) ?_
  rintro _ h2 ⟨rfl, k2⟩
  by_cases hf : x.few
  case neg =>
    rw [decide_eq_false hf]
    refine gg ?_
    rfl
  rw [decide_eq_true hf]
  have a2 := (k2.get _ x1).trans a1
  have x2 := Nat.lt_of_lt_of_le x1 k2.next
  have k12 := k1.trans k2
  have hf40 := hf.1.2.2.2.1
  refine gg ?_
  refine i_loadN (by exact sel_of rfl) (loadN_all (by assumption) (by first | rfl | assumption)) ?_
  refine gg ?_
  refine i_call1 (by exact sel_of rfl) (w_cencode (hv.keeps k12) (by omega) n (by omega)) ?_
  rintro _ h3 ⟨k3, oE, cE, rfl, rE, hcE⟩
  have a3 := (k3.get _ x2).trans a2
  have x3 := Nat.lt_of_lt_of_le x2 k3.next
  have k13 := k12.trans k3
  refine gg ?_
  refine i_loadN (by exact sel_of rfl) (loadN_all (by assumption) (by first | rfl | assumption)) ?_
  refine gg ?_
  refine i_call1 (by exact sel_of rfl) (w_rencode (hv.keeps k13) ho hf n (by omega)) ?_
  rintro _ h4 ⟨k4, oR, cR, rfl, rR, hcR⟩
  have a4 := (k4.get _ x3).trans a3
  have x4 := Nat.lt_of_lt_of_le x3 k4.next
  have k14 := k13.trans k4
  have rE4 := rE.keeps k4
  generalize encC x = E at *
  refine gg ?_
  refine i_loadN (by exact sel_of rfl) (loadN_all (by assumption) (by first | rfl | assumption)) ?_
  refine gg ?_
  refine i_call1 (by exact sel_of rfl) (w_shaped (hv.keeps k14) (by omega) n (by omega)) ?_
  rintro _ h5 ⟨rfl, k5⟩
  have a5 := (k5.get _ x4).trans a4
  have k15 := k14.trans k5
  have sv := hv.sv
  have hv5 := hv.keeps k15
  generalize hB : decide x.shaped = B at *
  refine gg ?_
  refine i_loadN (by exact sel_of rfl) (loadN_all (by assumption) (by first | rfl | assumption)) ?_
  refine gg ?_
  refine i_call1 (by exact sel_of rfl) (w_rshaped hv5 hf n (by omega)) ?_
  rintro _ h6 ⟨rfl, k6⟩
  rw [hB]
  refine gg ?_
  have rE6 := rE4.keeps (k5.trans k6)
  have rR6 := rR.keeps (k5.trans k6)
  refine i_call2 (by exact sel_of rfl) (by exact sel_of rfl) (w_same rE6 rR6 n (by omega)) ?_
  rintro _ _ ⟨rfl, rfl⟩
  rw [decide_eq_true (rfl : E.1 = E.1)]
  refine gg ?_
  refine ⟨chk_live rfl (ldN (by exact sel_of rfl) (loadN_all (by assumption) (by first | rfl | assumption))) (by exact sv) (fun m hm => by
    simp only [List.mem_cons, List.not_mem_nil, or_false] at hm
    rcases hm with rfl | rfl <;> exact ⟨_, _, rfl, ldN (by exact sel_of rfl) (loadN_all (by assumption) (by first | rfl | assumption))⟩) chk_nil, ?_⟩
  refine gg ?_
  rfl
end Go.Proofs.Ytmnhffpbbihflaa

