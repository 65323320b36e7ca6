/- Part of a proof by an abstract run of the program's code: TX. No condition. -/
import Derived.SevenTiedAt
import Derived.Test.YtoeienklpfbfmaaGreatDoorRows
/-! No function of the program starts a goroutine. -/
namespace Go.Proofs.YtoeienklpfbfmaaGreatDoor
open Go
theorem goes_none {P : Program} (h : P.funcs.toList.any Func.goes = false) (c : OpenClaim) (hs : c.start = .entering) : false = c.goesBy P := by
  have hm : ∀ fn ∈ P.funcs.toList, fn.goes = false := fun fn hf => by
    have := List.any_eq_false.1 h fn hf
    simpa using this
  have hg : ∀ f, P.goes f = false := by
    intro f
    have h1 : ((P.closure f).any fun g => (P.funcs[g]?).any Func.goes) = false := by
      rw [Bool.eq_false_iff]
      intro e
      have e : ∃ x, x ∈ P.closure f ∧ ((P.funcs[x]?).any Func.goes) = true := by simpa using e
      obtain ⟨g, _, hg⟩ := e
      cases hfg : P.funcs[g]? with
      | none => rw [hfg] at hg; cases hg
      | some fn =>
        rw [hfg] at hg
        have hg : fn.goes = true := hg
        have := hm fn (by
          have := Array.mem_of_getElem? hfg
          simpa using this)
        rw [hg] at this
        cases this
    have h2 : P.funcs.any Func.goes = false := by rw [← Array.any_toList]; exact h
    unfold Program.goes
    rw [h1, h2]
    simp
  unfold OpenClaim.goesBy Program.goesAt Program.goesFrom
  rw [hs]
  cases P.funcNamed c.func with
  | none => rfl
  | some f => show false = (P.goes f || false); rw [hg]; rfl
theorem noneGoes : Tryz.prog.funcs.toList.any Func.goes = false := by kernel_rfl
end Go.Proofs.YtoeienklpfbfmaaGreatDoor

