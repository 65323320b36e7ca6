/- Part of a proof by an abstract run of the program's code: TO. No condition. -/
import Derived.Test.YtoeienklpfbfmaaGreatDoorGx
import Derived.Test.YtoeienklpfbfmaaGreatDoorTN
/-! The law SfuNone: by its guards, and by one computation of the kernel. -/
set_option linter.unusedVariables false
namespace Go.Proofs.YtoeienklpfbfmaaGreatDoor
open Go Vm
theorem w_awake (h : Heap) (n : Nat) (hn : 1 ≤ n) : ResQ (callN Tryz.prog GS n (.call 4 []) h) (fun v h' => v = .bool true ∧ h = h') := by
  obtain ⟨m, rfl⟩ : ∃ m, n = m + 1 := ⟨n - 1, by omega⟩
  exact ⟨.bool true, h, by rw [callN_call]; rfl, rfl, rfl⟩
theorem w_lnone {ob : Option Addr} {c cc : Nat} {s : ByteArray} {n_ : Int} :
    ResQ (callN Tryz.prog GS 301 (.call 3 [.slice ob c cc, .string s, .int .i64 n_]) ⟨0, .nil⟩) (fun u h' => u = .bool true ∧ h'.next ≤ 1000) := by
  refine res_enter rfl d3 rfl ?_; simp only [c3]
  refine gg ?_
  refine i_call0 (w_awake _ 300 (by omega)) ?_
  rintro _ _ ⟨rfl, rfl⟩
  refine gg ?_
  by_cases h2 : 1500 < c
  · rw [decide_eq_true (p := (1500 : Int) < ((c : Nat) : Int)) (by omega)]
    refine gg ?_
    exact ⟨rfl, Nat.le_of_ble_eq_true rfl⟩
  rw [decide_eq_false (p := (1500 : Int) < ((c : Nat) : Int)) (by omega)]
  refine gg ?_
  refine i_v (v := .int .i64 (s.data.toList.length : Int)) (by rfl) ?_
  refine gg ?_
  generalize s.data.toList.length = sl
  by_cases h3 : 500 < sl
  · rw [decide_eq_true (p := (500 : Int) < ((sl : Nat) : Int)) (by omega)]
    refine gg ?_
    exact ⟨rfl, Nat.le_of_ble_eq_true rfl⟩
  rw [decide_eq_false (p := (500 : Int) < ((sl : Nat) : Int)) (by omega)]
  refine gg ?_
  exact it_say (by kernel_rfl)
end Go.Proofs.YtoeienklpfbfmaaGreatDoor

