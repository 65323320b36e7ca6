/- Part of a proof by an abstract run of the program's code: NB. No condition. -/
import Derived.Test.YtnffglfpjcbfaaaNA
import Derived.Test.YtnffglfpjcbfaaaGx
/-! The law JoinNone: by its guards, and by one computation of the kernel. -/
set_option linter.unusedVariables false
namespace Go.Proofs.Ytnffglfpjcbfaaa
open Go Vm
theorem w_awake (h : Heap) (n : Nat) (hn : 1 ≤ n) : ResQ (callN Try.prog G0 n (.call 8 []) h) (fun v h' => v = .bool true ∧ h = h') := by
  obtain ⟨m, rfl⟩ : ∃ m, n = m + 1 := ⟨n - 1, by omega⟩
  exact ⟨.bool true, h, by rw [callN_call]; rfl, rfl, rfl⟩
theorem w_lnone {x0 x1 x2 x3 x4 x5 x6 x7 x8 x9 x10 : Value} {oc os : Option Addr} {c cc m cs : Nat} {n_ : Nat} :
    ResQ (callN Try.prog G0 301 (.call 7 [.agg #[x0, x1, x2, x3, x4, x5, x6, x7, x8, x9, x10, .slice oc c cc], .int .u32 (n_ : Int), .slice os m cs]) ⟨0, .nil⟩) (fun u h' => u = .bool true ∧ h'.next ≤ 1000) := by
  refine res_enter rfl d7 rfl ?_; simp only [c7]
  refine gg ?_
  refine i_call0 (w_awake _ 300 (by omega)) ?_
  rintro _ _ ⟨rfl, rfl⟩
  refine gg ?_
  refine i_load1 (v := .slice oc c cc) (by exact sel_of rfl) (by rfl) ?_
  refine gg ?_
  by_cases h2 : 2000 < c
  · rw [decide_eq_true (p := (2000 : Int) < ((c : Nat) : Int)) (by omega)]
    refine gg ?_
    exact ⟨rfl, Nat.le_of_ble_eq_true rfl⟩
  rw [decide_eq_false (p := (2000 : Int) < ((c : Nat) : Int)) (by omega)]
  refine gg ?_
  by_cases h3 : 100 < m
  · rw [decide_eq_true (p := (100 : Int) < ((m : Nat) : Int)) (by omega)]
    refine gg ?_
    exact ⟨rfl, Nat.le_of_ble_eq_true rfl⟩
  rw [decide_eq_false (p := (100 : Int) < ((m : Nat) : Int)) (by omega)]
  refine gg ?_
  exact it_say (by kernel_rfl)
end Go.Proofs.Ytnffglfpjcbfaaa

