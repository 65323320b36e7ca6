/- Part of a proof by an abstract run of the program's code: CtL. No condition. -/
import Derived.Test.YtmnhffpbbihflaaLwA
/-! Cut off anywhere. -/
set_option linter.unusedVariables false
namespace Go.Proofs.Ytmnhffpbbihflaa
open Go Vm
set_option maxHeartbeats 4000000 in
theorem w_lcut {h : Heap} {x : Chk} {v : List Value} (hv : ChV h x v) (ho : x.Ok) (cut : Int) (n : Nat) (hn : 101000 ≤ n) :
    ResQ (callN Try.prog G0 n (.call 7 [.agg v.toArray, .int .i64 cut]) h) (fun u h' => u = .bool true) := by
  have lv := hv.len
  obtain ⟨n, rfl⟩ : ∃ m, n = m + 1 := ⟨n - 1, by omega⟩
  refine res_enter rfl d7 rfl ?_; simp only [c7]
  obtain ⟨a1, k1, n1⟩ := box_one h (.cells 30 v.toArray.toList (.own false))
  refine o_cut (fun a h' => h' = (h.new (.cells 30 v.toArray.toList (.own false))) ∧ Sl [(2, .pointer (some ⟨h.next, 0, none⟩)), (1, .int .i64 cut)] a) ?_ ?_
  · refine gg ?_
    exact ⟨rfl, rfl, sel_of rfl, sel_of rfl, trivial⟩
  rintro a h1 ⟨hh, hs⟩
  rw [← hh] at a1 k1 n1
  clear hh
  obtain ⟨f0, rfl⟩ := hs.puts
  have x1 : h.next < h1.next := by omega
  refine gg ?_
  refine i_call0 (w_awake h1 n (by omega)) ?_
  rintro _ _ ⟨rfl, rfl⟩
  refine gg ?_
  refine i_loadN (by exact sel_of rfl) (loadN_all (by assumption) (by first | rfl | assumption)) ?_
  refine gg ?_
  refine i_call1 (by exact sel_of rfl) (w_few7 (hv.keeps k1) n (by omega)) ?_
  rintro _ h2 ⟨rfl, k2⟩
  by_cases hf : x.few
  case neg =>
    rw [decide_eq_false hf]
    refine gg ?_
    rfl
  rw [decide_eq_true hf]
  have a2 := (k2.get _ x1).trans a1
  have x2 := Nat.lt_of_lt_of_le x1 k2.next
  have k12 := k1.trans k2
  have hf40 := hf.1.2.2.2.1
  refine gg ?_
  refine i_loadN (by exact sel_of rfl) (loadN_all (by assumption) (by first | rfl | assumption)) ?_
  refine gg ?_
  refine i_call1 (by exact sel_of rfl) (w_cencode (hv.keeps k12) (by omega) n (by omega)) ?_
  rintro _ h3 ⟨k3, oE, cE, rfl, rE, hcE⟩
  by_cases hsh : x.shaped
  case neg =>
    obtain ⟨e1, e2⟩ := encC_bad hsh
    refine gg ?_
    first
    | rfl
    | exact bool_true (by omega)
  have e2 := (encC_ok hsh).2
  obtain ⟨e3, e4, e5⟩ := encC_len hsh
  refine gg ?_
  refine i_mask (q := 65535) (by exact sel_of rfl) (by first | exact sel_of rfl | exact const_of) (by decide) fun r hr3 => ?_
  refine gg ?_
  refine i_remn (r % (encC x).1.length) (p := r) (q := (encC x).1.length) (by exact sel_of rfl) (by exact sel_of rfl) (by omega) rfl ?_
  refine gg ?_
  have hj : r % (encC x).1.length < (encC x).1.length := Nat.mod_lt _ (by omega)
  refine i_sl_hi (by exact sel_of rfl) rE hcE (by exact sel_of rfl) (by omega) fun r1 => ?_
  rw [Nat.mul_one, ← u8s_take] at r1
  refine gg ?_
  refine i_call1 (by exact sel_of rfl) (w_cdecode r1 (by rw [List.length_take]; omega) n (by omega)) ?_
  rintro _ h4 ⟨k4, w, rfl, cv⟩
  have lw := cv.len
  simp only [decC_cut hsh ho hj] at cv ⊢
  refine gg ?_
  refine i_storeF (vs := w) (Keeps.new h4 _) (Nat.le_refl _) (by exact sel_of rfl) (by rfl) (by rw [Heap.get_new, if_pos rfl]) lw rfl (Nat.lt_succ_self _) fun h5 k5 g5 lt5 => ?_
  refine gg ?_
  rfl
end Go.Proofs.Ytmnhffpbbihflaa

