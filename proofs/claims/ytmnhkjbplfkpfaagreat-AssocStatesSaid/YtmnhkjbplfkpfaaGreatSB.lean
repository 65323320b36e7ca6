/- Part of a proof by an abstract run of the program's code: SB. No condition. -/
import Derived.Test.YtmnhkjbplfkpfaaGreatSW
/-! The law AssocStates: a closed side refuses, then it starts with whatever is drawn. -/
set_option linter.unusedVariables false
set_option maxRecDepth 100000
namespace Go.Proofs.YtmnhkjbplfkpfaaGreat
open Go Vm
theorem raw {rec : Rec} {l : List ISem} {a : Fr} {h : Heap} {K : Fr → Heap → Prop} (hq : ∀ F H, a = F → h = H → ItQ (runItems rec l (puts [] F) H) K) : ItQ (runItems rec l a h) K := hq a h rfl rfl
def xCells : List Value := [.int .u16 5000, .int .u16 6000, .slice (some ⟨34, 0, some 1⟩) 16 16, .int .i64 4, .int .i64 1200, .int .i64 1073741824, .slice (some ⟨35, 0, none⟩) 256 256, .int .i64 0, .int .u32 0, .int .u32 0, .pointer none, .map none, .map (some 36), .int .u32 0, .int .u32 0, .bool false, .slice none 0 0, .slice none 0 0, .slice none 0 0, .int .i64 0]
theorem w_lstates (d : Nat) (t : Int) : ResQ (callN Tryz.prog GS 400 (.call 7 [.int .u32 (d : Int), .int .i64 t]) ⟨0, .nil⟩) (fun u h' => u = .bool true ∧ h'.next ≤ 2000) := by
  refine res_enter (by rfl) d7 (by rfl) ?_
  refine o_jump (by kernel_rfl) ?_
  refine o_jump (by kernel_rfl) ?_
  refine o_jump (by kernel_rfl) ?_
  refine o_seq (o_reg ?_)
  refine raw fun F H eF eH => ?_
  have g6 : (sel 6).f F = .pointer (some ⟨37, 0, none⟩) := by rw [← eF]; kernel_rfl
  have g1 : (sel 1).f F = .int .i64 t := by rw [← eF]; kernel_rfl
  have g0 : (sel 0).f F = .int .u32 d := by rw [← eF]; kernel_rfl
  have gX : H.get 37 = some (.cells 79 xCells (.own false)) := by rw [← eH]; kernel_rfl
  have gS : H.get 36 = some (.map [] 0) := by rw [← eH]; kernel_rfl
  have gn : H.next = 81 := by rw [← eH]; kernel_rfl
  refine i_v (v := .pointer (some ⟨37, 0, none⟩)) (congrArg some g6) ?_
  refine i_v (v := .int .i64 t) (congrArg some g1) ?_
  refine i_v (v := .int .u32 d) (congrArg some g0) ?_
  refine i_call3 (by exact sel_of rfl) (by exact sel_of rfl) (by exact sel_of rfl) (w_start (ty := 79) (cs := xCells) 37 36 d t (by decide) gX (by rw [gn]; decide) gS (by rw [gn]; decide) (by decide) rfl rfl (by decide) rfl rfl) ?_
  rintro _ _ ⟨rfl, rfl⟩
  refine i_v (v := .int .i64 0) (by rfl) ?_
  refine i_nil ?_
  refine then_n ?_
  refine out_say ?_
  subst eF eH
  cases d with
  | zero => cases t with
    | ofNat a => kernel_rfl
    | negSucc a => kernel_rfl
  | succ k => cases t with
    | ofNat a => kernel_rfl
    | negSucc a => kernel_rfl
end Go.Proofs.YtmnhkjbplfkpfaaGreat

