/- Part of a proof by an abstract run of the program's code: ActA. No condition. -/
import Derived.Test.YtnnffmnbcealkaaOct
/-! TlvActions in the abstract run. -/
set_option linter.unusedVariables false
namespace Go.Proofs.Ytnnffmnbcealkaa
open Go Vm
theorem w_awake (h : Heap) (n : Nat) (hn : 1 ≤ n) : ResQ (callN Try.prog G0 n (.call 10 []) h) (fun v h' => v = .bool true ∧ h = h') := by
  obtain ⟨n, rfl⟩ : ∃ m, n = m + 1 := ⟨n - 1, by omega⟩
  exact ⟨_, _, rfl, rfl, rfl⟩
theorem w_action (k : Nat) (hk : k < 65536) (h : Heap) (n : Nat) (hn : 1 ≤ n) : ResQ (callN Try.prog G0 n (.call 20 [.int .u16 (k : Int)]) h) (fun v h' => v = .tuple #[.bool (decide (k / 16384 = 0 ∨ k / 16384 = 1)), .bool (decide (k / 16384 = 1 ∨ k / 16384 = 3))] ∧ h = h') := by
  obtain ⟨n, rfl⟩ : ∃ m, n = m + 1 := ⟨n - 1, by omega⟩
  refine res_enter rfl d20 rfl ?_; simp only [c20]
  refine gg ?_
  refine i_bit (q := 32768) 15 (by exact sel_of rfl) (by first | exact sel_of rfl | exact const_of) rfl (by decide) ?_
  refine gg ?_
  refine i_bit (q := 16384) 14 (by exact sel_of rfl) (by first | exact sel_of rfl | exact const_of) rfl (by decide) ?_
  refine gg ?_
  refine ⟨?_, rfl⟩
  congr 3
  · congr 1
    rw [decide_eq_decide]; omega
  · congr 2
    rw [decide_eq_decide]; omega
theorem w_cAction (k : Nat) (hk : k < 256) (h : Heap) (n : Nat) (hn : 1 ≤ n) : ResQ (callN Try.prog G0 n (.call 22 [.int .u8 (k : Int)]) h) (fun v h' => v = .tuple #[.bool (decide (k / 64 = 0 ∨ k / 64 = 1)), .bool (decide (k / 64 = 1 ∨ k / 64 = 3))] ∧ h = h') := by
  obtain ⟨n, rfl⟩ : ∃ m, n = m + 1 := ⟨n - 1, by omega⟩
  refine res_enter rfl d22 rfl ?_; simp only [c22]
  refine gg ?_
  refine i_bit (q := 128) 7 (by exact sel_of rfl) (by first | exact sel_of rfl | exact const_of) rfl (by decide) ?_
  refine gg ?_
  refine i_bit (q := 64) 6 (by exact sel_of rfl) (by first | exact sel_of rfl | exact const_of) rfl (by decide) ?_
  refine gg ?_
  refine ⟨?_, rfl⟩
  congr 3
  · congr 1
    rw [decide_eq_decide]; omega
  · congr 2
    rw [decide_eq_decide]; omega
theorem w_rAction (k b : Nat) (hk : k < 65536) (hb : 2 ≤ b) (hb' : b ≤ 16) (h : Heap) (n : Nat) (hn : 1 ≤ n) : ResQ (callN Try.prog G0 n (.call 21 [.int .i64 (k : Int), .int .i64 (b : Int)]) h) (fun v h' => v = .tuple #[.bool (decide (k / 2 ^ (b - 2) = 0 ∨ k / 2 ^ (b - 2) = 1)), .bool (decide (k / 2 ^ (b - 2) = 1 ∨ k / 2 ^ (b - 2) = 3))] ∧ h = h') := by
  obtain ⟨n, rfl⟩ : ∃ m, n = m + 1 := ⟨n - 1, by omega⟩
  refine res_enter rfl d21 rfl ?_; simp only [c21]
  refine gg ?_
  refine i_cvm (b - 2) (by exact sel_of rfl) (by omega) (by show _ < 18446744073709551616; omega) ?_
  refine gg ?_
  refine i_shr (by exact sel_of rfl) (by exact sel_of rfl) (by show b - 2 ≤ 64; omega) ?_
  generalize k / 2 ^ (b - 2) = t
  refine gg ?_
  by_cases h0 : t = 0
  · subst h0
    refine gg ?_
    exact ⟨rfl, rfl⟩
  by_cases h1 : t = 1
  · subst h1
    refine gg ?_
    exact ⟨rfl, rfl⟩
  refine gg ?_
  refine ⟨?_, rfl⟩
  congr 3
  · congr 1
    rw [decide_eq_decide]; omega
  · congr 2
    rw [decide_eq_decide]; omega
theorem w_actions (k : Nat) (hk : k < 65536) (h : Heap) (n : Nat) (hn : 3 ≤ n) : ResQ (callN Try.prog G0 n (.call 5 [.int .u16 (k : Int)]) h) (fun v h' => v = .bool true) := by
  obtain ⟨n, rfl⟩ : ∃ m, n = m + 1 := ⟨n - 1, by omega⟩
  refine res_enter rfl d5 rfl ?_; simp only [c5]
  refine gg ?_
  refine i_call0 (w_awake h n (by omega)) ?_
  rintro _ _ ⟨rfl, rfl⟩
  refine gg ?_
  refine i_call1 (by exact sel_of rfl) (w_action k hk h n (by omega)) ?_
  rintro _ _ ⟨rfl, rfl⟩
  refine gg ?_
  have h1 := w_rAction k 16 hk (by omega) (by omega) h n (by omega)
  rw [show (2 : Nat) ^ (16 - 2) = 16384 from rfl] at h1
  refine i_call2 (by exact sel_of rfl) (by first | exact sel_of rfl | exact const_of) h1 ?_
  rintro _ _ ⟨rfl, rfl⟩
  refine gg ?_
  have e8 : (UInt8.ofNat k).toNat < 256 := (UInt8.ofNat k).toNat_lt
  refine i_call1 (by exact sel_of rfl) (w_cAction _ e8 h n (by omega)) ?_
  rintro _ _ ⟨rfl, rfl⟩
  refine gg ?_
  have h2 := w_rAction (UInt8.ofNat k).toNat 8 (by omega) (by omega) (by omega) h n (by omega)
  rw [show (2 : Nat) ^ (8 - 2) = 64 from rfl] at h2
  refine i_call2 (by exact sel_of rfl) (by first | exact sel_of rfl | exact const_of) h2 ?_
  rintro _ _ ⟨rfl, rfl⟩
  refine gg ?_
  rfl
end Go.Proofs.Ytnnffmnbcealkaa

