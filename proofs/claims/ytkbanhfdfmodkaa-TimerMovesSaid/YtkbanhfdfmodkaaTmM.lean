/- Part of a proof by an abstract run of the program's code: TmM. No condition. -/
import Derived.Test.YtkbanhfdfmodkaaTmA
/-! The law TimerMoves. -/
set_option linter.unusedVariables false
namespace Go.Proofs.Ytkbanhfdfmodkaa
open Go Vm
theorem w_awake (h : Heap) (n : Nat) (hn : 1 ≤ n) : ResQ (callN Try.prog G0 n (.call 8 []) h) (fun v h' => v = .bool true ∧ h = h') := by
  obtain ⟨n, rfl⟩ : ∃ m, n = m + 1 := ⟨n - 1, by omega⟩
  exact .mk _ _ rfl ⟨rfl, rfl⟩
theorem stop_ins (x v : Int) : ∀ m : List En, stopP x (insP (x, v) m) = stopP x m
  | [] => by simp [insP, stopP]
  | e :: m => by
    have ih := stop_ins x v m
    rw [insP]
    unfold stopP at *
    split
    · rw [List.filter_cons, List.filter_cons, ih]
    · simp
theorem stop_start (x v : Int) (m : List En) : stopP x (startP x v m) = stopP x m := by
  rw [startP, stop_ins]
  simp [stopP]
theorem Ts.new (h : Heap) (e : Nat) : Ts (h.new (.cells e [.map none] (.own false))) h.next none [] :=
  ⟨Srt.nil, Nat.lt_succ_self _, ⟨e, by rw [Heap.get_new, if_pos rfl]⟩, [], rfl, List.Perm.refl _⟩
set_option maxHeartbeats 1000000 in
theorem w_lmoves {id a b other : Int} (hb : b ≤ 9223372036854775807) {h : Heap} (n : Nat) (hn : 400 ≤ n) :
    ResQ (callN Try.prog G0 n (.call 7 [iv id, iv a, iv b, iv other]) h) (fun v h' => v = .bool true) := by
  obtain ⟨n, rfl⟩ : ∃ m, n = m + 1 := ⟨n - 1, by omega⟩
  refine res_enter rfl d7 rfl ?_; simp only [c7]
  refine gg ?_
  refine i_call0 (w_awake h n (by omega)) ?_
  rintro _ _ ⟨rfl, rfl⟩
  refine gg ?_
  have t0 := Ts.new h 27
  show ItQ (runItems _ _ _ (h.new (.cells 27 [.map none] (.own false)))) _
  generalize h.new (.cells 27 [.map none] (.own false)) = h0 at *
  refine gg ?_
  refine i_call3 (by exact sel_of rfl) (by exact sel_of rfl) (by exact sel_of rfl) (w_start t0 (by omega)) ?_
  rintro _ h1 ⟨mv1, t1, -, -⟩
  refine gg ?_
  refine i_call3 (by exact sel_of rfl) (by exact sel_of rfl) (by exact sel_of rfl) (w_start t1 (by omega)) ?_
  rintro _ h2 ⟨mv2, t2, -, -⟩
  have e2 : startP id b (startP id a []) = [(id, b)] := by rw [startP, stop_start]; rfl
  rw [e2] at t2
  refine gg ?_
  refine i_call1 (by exact sel_of rfl) (w_tlen t2 (by omega)) ?_
  rintro _ _ ⟨rfl, rfl⟩
  refine gg ?_
  refine i_call2 (by exact sel_of rfl) (by exact sel_of rfl) (w_at (x := id) t2 (by omega)) ?_
  rintro _ _ ⟨rfl, rfl⟩
  have ea : atP [(id, b)] id = some b := by simp [atP]
  rw [ea]
  simp only [Option.getD_some, Option.isSome_some]
  refine gg ?_
  refine i_call3 (by exact sel_of rfl) (by exact sel_of rfl) (by exact sel_of rfl) (w_start (x := other) (v := a) t2 (by omega)) ?_
  rintro _ h3 ⟨mv3, t3, -, -⟩
  refine gg ?_
  refine i_call2 (by exact sel_of rfl) (by exact sel_of rfl) (w_stop (x := other) t3 (by omega)) ?_
  rintro _ h4 ⟨t4, -, -⟩
  rw [stop_start] at t4
  refine gg ?_
  by_cases ho : id = other
  · have e4 : stopP other [(id, b)] = [] := by simp [stopP, ho]
    rw [e4] at t4
    refine i_call2 (by exact sel_of rfl) (by exact const_of) (w_due (now := 9223372036854775807) t4 (by simp) (by simp; omega)) ?_
    rintro _ h5 ⟨oo, rfl, hr, t5, -, -⟩
    have e5 : dueI 9223372036854775807 [] = [] := rfl
    have e6 : dueR 9223372036854775807 [] = [] := rfl
    rw [e5, List.length_nil] at hr ⊢
    rw [e6] at t5
    refine gg ?_
    refine i_call1 (by exact sel_of rfl) (w_tlen t5 (by omega)) ?_
    rintro _ _ ⟨rfl, rfl⟩
    refine gg ?_
    rfl
  · have e4 : stopP other [(id, b)] = [(id, b)] := by simp [stopP, ho]
    rw [e4] at t4
    refine i_call2 (by exact sel_of rfl) (by exact const_of) (w_due (now := 9223372036854775807) t4 (by simp) (by simp; omega)) ?_
    rintro _ h5 ⟨oo, rfl, hr, t5, -, -⟩
    have e5 : dueI 9223372036854775807 [(id, b)] = [(id, b)] := by simp [dueI, hb]
    have e6 : dueR 9223372036854775807 [(id, b)] = [] := by simp [dueR, hb]
    rw [e5, List.length_singleton] at hr ⊢
    rw [e6] at t5
    refine gg ?_
    obtain ⟨u, rfl⟩ : ∃ u, oo = some u := by
      cases oo with
      | none => exact absurd hr.2 (by show ¬ (1 = 0); decide)
      | some u => exact ⟨u, rfl⟩
    refine i_idx (i := 0) (by exact sel_of rfl) hr (by exact const_of) (by decide) fun q hq => ?_
    cases hq
    refine gg ?_
    refine i_load1 (v := iv id) (by exact sel_of rfl) ((hr.cell (i := 0 * 1) (by decide) _).trans (by rfl)) ?_
    refine gg ?_
    refine i_call1 (by exact sel_of rfl) (w_tlen t5 (by omega)) ?_
    rintro _ _ ⟨rfl, rfl⟩
    refine gg ?_
    rfl
end Go.Proofs.Ytkbanhfdfmodkaa

