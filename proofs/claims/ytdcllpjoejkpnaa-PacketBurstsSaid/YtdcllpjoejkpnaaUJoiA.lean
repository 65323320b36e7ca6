/- Part of a proof by an abstract run of the program's code: UJoiA. No condition. -/
import Derived.Test.YtdcllpjoejkpnaaUBckA
/-! Octets of parameters, one behind the other; and cut off. -/
set_option linter.unusedVariables false
namespace Go.Proofs.Ytdcllpjoejkpnaa
open Go Vm
theorem oneE_short (t : List UInt8) (h : t.length < 4) : (oneE t).1 = 2 := by
  unfold oneE
  by_cases h1 : t.length < 2
  · rw [if_pos h1]
  · rw [if_neg h1, if_pos h]
theorem decA_cut (t : List UInt8) (h1 : 0 < t.length) (h2 : t.length < 4) : ∀ (a : List Prm) (j : Nat), a.length < j → (∀ p ∈ a, p.1 < 65536 ∧ p.2.length ≤ 1200) → decA j (encL a ++ t) = (2, [])
  | [], j + 1, _, _ => by
    have hne : t ≠ [] := fun h => by rw [h] at h1; cases h1
    show decA (j + 1) t = _
    have h3 := oneE_short t h2
    rw [decA, if_neg hne, if_pos (by rw [h3]; decide), h3]
  | p :: a, 0, h, _ => by simp at h
  | p :: a, j + 1, h, hp => by
    have e : encL (p :: a) ++ t = encP p ++ (encL a ++ t) := by rw [← List.append_assoc]; rfl
    have hp1 := hp p (by simp)
    have hne : encP p ++ (encL a ++ t) ≠ [] := fun h => by
      have h3 : (encP p ++ (encL a ++ t)).length = 0 := by rw [h]; rfl
      have h4 := (encP_len p).2.2
      rw [List.length_append] at h3; omega
    have ih := decA_cut t h1 h2 a j (by simpa using h) (fun q hq => hp q (by simp [hq]))
    rw [e, decA, if_neg hne, oneE_enc p _ hp1.1 hp1.2, ih]
    simp
theorem encL_app (a b : List Prm) : encL (a ++ b) = encL a ++ encL b := by simp [encL, List.flatMap_append]
theorem encL_pos {b : List Prm} (h : b ≠ []) : 4 ≤ (encL b).length := by
  cases b with
  | nil => exact absurd rfl h
  | cons p b =>
    have := (encP_len p).2.2
    show 4 ≤ (encP p ++ encL b).length
    rw [List.length_append]; omega
/-- the octets of both, cut within the first head of the second -/
theorem decL_cut {a b : List Prm} {k : Nat} (hb : b ≠ []) (hl : a.length + b.length ≤ 32) (hp : ∀ p ∈ a, p.1 < 65536 ∧ p.2.length ≤ 1200) (h1 : (encL a).length < k) (h2 : k < (encL a).length + 4) : decL ((encL (a ++ b)).take k) = (2, []) := by
  have hb1 : 0 < b.length := List.length_pos_iff.2 hb
  have hb4 := encL_pos hb
  rw [encL_app, List.take_append, List.take_of_length_le (by omega)]
  exact decA_cut _ (by rw [List.length_take]; omega) (by rw [List.length_take]; omega) a 32 (by omega) hp
end Go.Proofs.Ytdcllpjoejkpnaa

