/- Part of a proof by an abstract run of the program's code: SE. No condition. -/
import Derived.Test.YtnffglfpjcbfaaaSD
/-! Ranges over maps, walked; join.skip where nothing is skipped but what is not there. -/
set_option linter.unusedVariables false
namespace Vm
open Go
theorem hasN_app (s : Nat) (t : Nat) : ∀ l : List Nat, hasN s (l ++ [t]) = (hasN s l || Nat.beq s t)
  | [] => by
    show (bif Nat.beq s t then true else false) = (false || _)
    cases Nat.beq s t <;> rfl
  | x :: l => by
    show (bif Nat.beq s x then true else hasN s (l ++ [t])) = ((bif Nat.beq s x then true else hasN s l) || _)
    rw [hasN_app s t l]
    cases Nat.beq s x <;> simp
theorem leftE_sub (seen : List Nat) : ∀ (es : List (Value × Value × Nat)), ∀ e ∈ leftE seen es, e ∈ es ∧ hasN e.2.2 seen = false
  | [], e, h => by cases h
  | x :: es, e, h => by
    have h : e ∈ (bif hasN x.2.2 seen then leftE seen es else x :: leftE seen es) := h
    cases hx : hasN x.2.2 seen with
    | true => rw [hx] at h; obtain ⟨a, b⟩ := leftE_sub seen es e h; exact ⟨List.mem_cons_of_mem _ a, b⟩
    | false =>
      rw [hx] at h
      rcases List.mem_cons.1 h with rfl | h
      · exact ⟨List.mem_cons_self .., hx⟩
      · obtain ⟨a, b⟩ := leftE_sub seen es e h; exact ⟨List.mem_cons_of_mem _ a, b⟩
theorem leftE_le (seen : List Nat) (t : Nat) : ∀ (es : List (Value × Value × Nat)), (leftE (seen ++ [t]) es).length ≤ (leftE seen es).length
  | [] => Nat.le_refl _
  | x :: es => by
    have ih := leftE_le seen t es
    show (bif hasN x.2.2 (seen ++ [t]) then leftE (seen ++ [t]) es else x :: leftE (seen ++ [t]) es).length ≤ (bif hasN x.2.2 seen then leftE seen es else x :: leftE seen es).length
    rw [hasN_app]
    cases hasN x.2.2 seen <;> cases Nat.beq x.2.2 t <;> simp <;> omega
theorem leftE_lt (seen : List Nat) : ∀ (es : List (Value × Value × Nat)) (e : Value × Value × Nat), e ∈ leftE seen es → (leftE (seen ++ [e.2.2]) es).length < (leftE seen es).length
  | [], e, h => by cases h
  | x :: es, e, h => by
    have h : e ∈ (bif hasN x.2.2 seen then leftE seen es else x :: leftE seen es) := h
    have hle := leftE_le seen e.2.2 es
    show (bif hasN x.2.2 (seen ++ [e.2.2]) then leftE (seen ++ [e.2.2]) es else x :: leftE (seen ++ [e.2.2]) es).length < (bif hasN x.2.2 seen then leftE seen es else x :: leftE seen es).length
    rw [hasN_app]
    cases hx : hasN x.2.2 seen with
    | true => rw [hx] at h; simpa using leftE_lt seen es e h
    | false =>
      rw [hx] at h
      rcases List.mem_cons.1 h with rfl | h
      · simp; omega
      · have := leftE_lt seen es e h
        cases Nat.beq x.2.2 e.2.2 <;> simp <;> omega
theorem stale_no {seen : List Nat} {c : Nat} {es : List (Value × Value × Nat)} (h : ∀ e ∈ es, e.2.2 < c) : stale seen c es = false := by
  cases seen with
  | nil => rfl
  | cons s seen =>
    cases es with
    | nil => rfl
    | cons e es =>
      show (bif Nat.ble c e.2.2 then allNew c es else false) = false
      have hl := h e (List.mem_cons_self ..)
      have : Nat.ble c e.2.2 = false := by rw [← Bool.not_eq_true]; exact fun e' => by have := Nat.le_of_ble_eq_true e'; omega
      rw [this]; rfl
theorem lastN_snoc (s : Nat) : ∀ l : List Nat, lastN (l ++ [s]) = some s := fun l => by rw [lastN_eq]; simp
theorem stampE_mem {s : Nat} : ∀ {es : List (Value × Value × Nat)}, (∃ e ∈ es, e.2.2 = s) → ∃ e ∈ es, stampE s es = some (e.1, e.2.1)
  | [], ⟨e, h, _⟩ => by cases h
  | x :: es, ⟨e, h, hs⟩ => by
    show ∃ e ∈ x :: es, (bif Nat.beq x.2.2 s then some (x.1, x.2.1) else stampE s es) = _
    cases hb : Nat.beq x.2.2 s with
    | true => exact ⟨x, List.mem_cons_self .., rfl⟩
    | false =>
      rcases List.mem_cons.1 h with rfl | h
      · rw [hs] at hb; simp at hb
      · obtain ⟨e', h1, h2⟩ := stampE_mem ⟨e, h, hs⟩
        exact ⟨e', List.mem_cons_of_mem _ h1, h2⟩
section
variable {rec : Rec} {L : List (Nat × Value)} {f : Fr} {dt : Nat} {h : Heap} {K : Fr → Heap → Prop} {l : List ISem} {rd : Bool} {x : Sel} {r c I since last : Nat} {es : List (Value × Value × Nat)} {seen : List Nat} {s : Option Nat}
theorem i_range (hx : x.f (puts L f) = .map (some r)) (hm : h.get r = some (.map es c)) (hq : ItQ (runItems rec l (puts ((dt, iterTo h.next) :: L) f) (h.new (.iter (some r) c [] c))) K) : ItQ (runItems rec (iOp (put dt) (.e (eRange x)) :: l) (puts L f) h) K :=
  items_cons (it_e (.mk (iterTo h.next) (h.new (.iter (some r) c [] c)) (by simp only [eRange, hx, hm]) hq))
/-- a step of a range: whichever entry comes -/
theorem i_next (hx : x.f (puts L f) = .pointer (some ⟨I, 0, s⟩)) (hg : h.get I = some (.iter (some r) since seen last)) (hm : h.get r = some (.map es c)) (hs : stale seen last es = false)
    (h0 : leftE seen es = [] → ItQ (runItems rec l (puts ((dt, .tuple #[.bool false]) :: L) f) h) K)
    (h1 : ∀ e ∈ leftE seen es, e.2.2 < since ∧ ItQ (runItems rec l (puts ((dt, .tuple #[.bool true, e.1, e.2.1]) :: L) f) (h.put I (.iter (some r) since (seen ++ [e.2.2]) c))) K) : ItQ (runItems rec (iOp (put dt) (.e (eNext x)) :: l) (puts L f) h) K := by
  refine items_cons (it_e (.of ?_))
  simp only [eNext, hx, hg, hm, hs, Nat.beq_refl, cond_true, cond_false]
  cases hl : leftE seen es with
  | nil => exact h0 hl
  | cons e es' =>
    refine orE_all.2 fun e' he' => ?_
    obtain ⟨h2, h3⟩ := h1 e' (by rw [hl]; exact he')
    have : Nat.blt e'.2.2 since = true := by simpa using h2
    simp only [this, cond_true]
    exact h3
theorem i_entry {k v : Value} {t : Nat} (hx : x.f (puts L f) = .pointer (some ⟨I, 0, s⟩)) (hg : h.get I = some (.iter (some r) since seen last)) (hl : lastN seen = some t) (hm : h.get r = some (.map es last)) (he : stampE t es = some (k, v))
    (hq : ItQ (runItems rec l (puts ((dt, .tuple #[k, v]) :: L) f) h) K) : ItQ (runItems rec (iOp (put dt) (.v rd (oEntry x)) :: l) (puts L f) h) K :=
  i_v (by simp only [oEntry, hx, hg, hl, hm, he, Nat.beq_refl, cond_true]) hq
theorem tr_cons1 {a : Fr} {K : List (Fr × Heap) → Fr → Heap → Prop} {i : ISem} {l : List ISem} (hd : ∀ x y, i.f rec a h ≠ .or x y) (hs : ItQ (runItems rec [i] a h) (fun a1 h1 => TrQ rec l a1 h1 (fun st => K ((a, h) :: st)))) : TrQ rec (i :: l) a h K := by
  have h1 := hs.a
  rw [runItems_cons] at h1
  have h1 := ItP.it.1 h1
  cases hi : i.f rec a h with
  | no => rw [hi] at h1; exact h1.elim
  | or u v => exact absurd hi (hd u v)
  | mk a1 h1' =>
    rw [hi] at h1
    obtain ⟨st, a', h', e2, hl, hk⟩ : TrQ rec l a1 h1' (fun st => K ((a, h) :: st)) := h1
    refine ⟨(a, h) :: st, a', h', ?_, ?_, hk⟩
    · rw [runStates_cons, hi]
      show (match runStates rec l a1 h1' with | some l => some ((a, h) :: l) | none => none) = _
      rw [e2]
    · cases st with
      | nil => cases hl
      | cons x st => rw [List.getLast?_cons_cons]; exact hl
theorem det_gcall {P : Program} {Γ : Sums} {n : Nat} {sg cp : Sel} {want : Bool} {d : Put} {args : List Sel} {g : FuncId} {fs cap : Array Value} {a : Fr} {h : Heap} [hg : FDet P Γ g] (hc : cp.f a = .func (.func g) fs cap) : ∀ x y, (iGuard sg want d (iOp d (.e (eCall cp args)))).f (callN P Γ n) a h ≠ .or x y := by
  intro x y e
  have hi : ∀ x y, (iOp d (.e (eCall cp args))).f (callN P Γ n) a h ≠ .or x y := by
    intro x y e
    simp only [iOp, eCall, hc] at e
    cases hx : callN P Γ n (.call g (fs.toList ++ evs a args ++ cap.toList)) h with
    | no => rw [hx] at e; cases e
    | ok v h' => rw [hx] at e; cases e
    | or u v => exact hg.det n _ h u v hx
  simp only [iGuard] at e
  split at e
  · rename_i b _
    cases b <;> cases want <;> first | (cases e; done) | exact hi x y e
  · cases e
end
end Vm
namespace Go.Proofs.Ytnffglfpjcbfaaa
open Go Vm
theorem StL.mem {h : Heap} {N : Nat} {ro : Option Addr} : ∀ {es : List (Value × Value × Nat)} {st : List ((Nat × Nat) × Mg)}, StL h N ro es st → ∀ e ∈ es, ∃ p ∈ st, e.1 = nkey p.1
  | [], [], _, e, he => by cases he
  | [], _ :: _, x, _, _ => x.elim
  | _ :: _, [], x, _, _ => x.elim
  | x :: es, p :: st, ⟨⟨e1, _⟩, r⟩, e, he => by
    rcases List.mem_cons.1 he with rfl | he
    · exact ⟨p, List.mem_cons_self .., e1⟩
    · obtain ⟨q, h1, h2⟩ := StL.mem r e he
      exact ⟨q, List.mem_cons_of_mem _ h1, h2⟩
theorem StL.len {h : Heap} {N : Nat} {ro : Option Addr} : ∀ {es : List (Value × Value × Nat)} {st : List ((Nat × Nat) × Mg)}, StL h N ro es st → es.length = st.length
  | [], [], _ => rfl
  | [], _ :: _, x => x.elim
  | _ :: _, [], x => x.elim
  | x :: es, p :: st, ⟨_, r⟩ => by rw [List.length_cons, List.length_cons, StL.len r]
theorem leftE_all : ∀ (es : List (Value × Value × Nat)), (leftE [] es).length = es.length
  | [] => rfl
  | x :: es => by
    show (x :: leftE [] es).length = _
    rw [List.length_cons, List.length_cons, leftE_all es]
theorem detS : detFns Try.prog [34] = true := by kernel_rfl
instance : FDet Try.prog G0 34 := ⟨fun n args h x y => fns_det detS g0det n _ (by decide) args h x y⟩
section
variable {h : Heap} {n : Nat} {N : Nat} {nx : List Nat} {ch : List (Nat × Ck)} {st : List ((Nat × Nat) × Mg)} {rd : List Mg} {held : Nat} {ro : Option Addr}
theorem w_held (j : Jn h N nx ch st rd held ro) (hn : 1 ≤ n) :
    ResQ (callN Try.prog G0 n (.call 17 [.pointer (some ⟨N + 3, 0, none⟩)]) h) (fun v h' => v = .int .i64 (held : Int) ∧ h = h') := by
  have top := j.top
  obtain ⟨n, rfl⟩ : ∃ m, n = m + 1 := ⟨n - 1, by omega⟩
  refine res_enter rfl d17 rfl ?_; simp only [c17]
  refine gg ?_; repeat (refine i_ldown (by exact sel_of rfl) (by assumption) (by rfl) ?_; refine gg ?_)
  exact ⟨rfl, rfl⟩
theorem w_far {a b x C : Nat} (hg : h.get C = some (.cells 27 [.int .u16 (x : Int)] (.own false))) (hC : C < h.next) (hx : x < 65536) (hn : 1 ≤ n) :
    ResQ (callN Try.prog G0 n (.call 34 [.agg #[.int .u16 (a : Int), .int .u16 (b : Int)], .pointer (some ⟨C, 0, none⟩)]) h) (fun v h' => v = .int .u16 (((b + 65536 - x) % 65536 : Nat) : Int) ∧ Keeps h h') := by
  obtain ⟨n, rfl⟩ : ∃ m, n = m + 1 := ⟨n - 1, by omega⟩
  refine res_enter rfl d34 rfl ?_; simp only [c34]
  refine gg ?_
  have k1 : Keeps h (h.new (.cells 78 #[Value.int .u16 (a : Int), Value.int .u16 (b : Int)].toList (.own false))) := Keeps.new h _
  have g1 : (h.new (.cells 78 #[Value.int .u16 (a : Int), Value.int .u16 (b : Int)].toList (.own false))).get h.next = some (.cells 78 #[Value.int .u16 (a : Int), Value.int .u16 (b : Int)].toList (.own false)) := by rw [Heap.get_new, if_pos rfl]
  generalize h.new (.cells 78 #[Value.int .u16 (a : Int), Value.int .u16 (b : Int)].toList (.own false)) = h1 at *
  refine i_load1 (v := .int .u16 (b : Int)) (by exact sel_of rfl) ((load1_own g1).trans (by rfl)) ?_
  refine i_load1 (v := .int .u16 (x : Int)) (by exact sel_of rfl) ((load1_own ((k1.get _ hC).trans hg)).trans (by rfl)) ?_
  refine i_subW (r := (((b + 65536 - x) % 65536 : Nat) : Int)) (by exact sel_of rfl) (by exact sel_of rfl) (sub16 b hx) ?_
  refine gg ?_
  exact ⟨rfl, k1⟩
theorem w_sort0 {fv : Value} (hn : 20 ≤ n) : ResQ (callN Try.prog G0 n (.call 35 [.slice none 0 0, fv]) h) (fun v h' => h = h') := by
  obtain ⟨m, rfl⟩ : ∃ m, n = m + 20 := ⟨n - 20, by omega⟩
  exact res_jump (by kernel_rfl) (by kernel_rfl)
theorem w_del0 {fv : Value} {M c : Nat} (hg : h.get M = some (.map [] c)) (hM : M < h.next) (hn : 3 ≤ n) : ResQ (callN Try.prog G0 n (.call 24 [.map (some M), fv]) h) (fun v h' => Keeps h h') := by
  obtain ⟨n, rfl⟩ : ∃ m, n = m + 1 := ⟨n - 1, by omega⟩
  refine res_enter rfl d24 rfl ?_; simp only [c24]
  refine gg ?_
  refine i_range (by exact sel_of rfl) hg ?_
  refine gg ?_
  have k1 : Keeps h (h.new (.iter (some M) c [] c)) := Keeps.new h _
  have g1 : (h.new (.iter (some M) c [] c)).get h.next = some (.iter (some M) c [] c) := by rw [Heap.get_new, if_pos rfl]
  have gm : (h.new (.iter (some M) c [] c)).get M = some (.map [] c) := by rw [Heap.get_new, if_neg (by omega)]; exact hg
  generalize h.new (.iter (some M) c [] c) = h1 at *
  refine o_while (fun _ f h' => h1 = h' ∧ Sl [(7, iterTo h.next)] f) 0 (by omega) ⟨rfl, sel_of rfl, trivial⟩ ?_
  rintro _ f _ ⟨rfl, hs⟩
  obtain ⟨f0, rfl⟩ := hs.puts
  simp only [c24_0]
  refine gg ?_
  refine i_next (by exact sel_of rfl) g1 gm rfl (fun _ => ?_) (fun e he => by cases he)
  refine gg ?_
  exact k1
set_option maxHeartbeats 2000000 in
/-- nothing of the stash is skipped: what stands there lies behind -/
theorem w_skip {x : Nat} (j : Jn h N [x] ch st rd held ro) (hx : x < 65536) (hst : ∀ p ∈ st, p.1.1 = 0 ∧ p.1.2 < 65536 ∧ p.1.2 ≠ x) {d x' : Nat} {st' : List ((Nat × Nat) × Mg)} {rd' : List Mg} (t : Tel 0 st' x' rd' d st ((x + 1) % 65536) rd) (hbig : rd.length + d ≤ 1000000) (hl : st.length + d + 30 ≤ n) :
    ResQ (callN Try.prog G0 n (.call 27 [.pointer (some ⟨N + 3, 0, none⟩), .agg #[.int .u16 ((0 : Nat) : Int), .int .u16 (x : Int)]]) h) (fun _ h' => ∃ ro', Jn h' N [x'] ch st' rd' held ro' ∧ Pres N h ro h' ro') := by
  have jup := j.up
  obtain ⟨n, rfl⟩ : ∃ m, n = m + 1 := ⟨n - 1, by omega⟩
  refine res_enter rfl d27 rfl ?_; simp only [c27]
  refine o_cut (fun f h1 => (Keeps h h1 ∧ h.next < h1.next ∧ h1.get h.next = some (.cells 51 [.int .u16 ((0 : Nat) : Int), .int .u16 (x : Int)] (.own false))) ∧ Sl [(0, .pointer (some ⟨N + 3, 0, none⟩)), (3, .pointer (some ⟨h.next, 0, none⟩))] f) ?_ ?_
  · refine gg ?_
    exact ⟨rfl, ⟨Keeps.new h _, Nat.lt_succ_self _, by rw [Heap.get_new, if_pos rfl]⟩, sel_of rfl, sel_of rfl, trivial⟩
  rintro f1 h1 ⟨⟨k1, lt1, g1⟩, hs⟩
  obtain ⟨f0, rfl⟩ := hs.puts
  clear hs
  have j1 := j.keeps k1
  have top := j1.top
  have hrow : Row h1 1 (some ⟨N, 0, none⟩) 1 [.int .u16 (x : Int)] := ⟨rfl, by have := j1.up; show N < _; omega, .inl rfl, loadN_all j1.nxt rfl⟩
  refine o_cut (fun f h2 => h1 = h2 ∧ Sl [(0, .pointer (some ⟨N + 3, 0, none⟩)), (3, .pointer (some ⟨h.next, 0, none⟩))] f) ?_ ?_
  · refine gg ?_; repeat (refine i_ldown (by exact sel_of rfl) (by assumption) (by rfl) ?_; refine gg ?_)
    refine i_call2 (by exact sel_of rfl) (by exact sel_of rfl) (w_knows j1 (by show 0 < 1; decide) (by decide) (by omega)) ?_
    rintro _ _ ⟨rfl, rfl⟩
    refine gg ?_; repeat (refine i_ldown (by exact sel_of rfl) (by assumption) (by rfl) ?_; refine gg ?_)
    refine i_idx (i := 0) (by exact sel_of rfl) hrow (by exact sel_of rfl) (by decide) fun q hq => ?_
    cases hq
    refine gg ?_
    refine i_load1 (v := .int .u16 (x : Int)) (by exact sel_of rfl) ((hrow.cell (i := 0 * 1) (by decide) _).trans (by rfl)) ?_
    refine gg ?_
    refine i_call2 (by exact sel_of rfl) (by exact sel_of rfl) (w_less hx hx (by omega)) ?_
    rintro _ _ ⟨rfl, rfl⟩
    rw [decide_eq_false (by simp)]
    refine gg ?_
    exact ⟨rfl, rfl, sel_of rfl, sel_of rfl, trivial⟩
  rintro f2 _ ⟨rfl, hs⟩
  obtain ⟨f0, rfl⟩ := hs.puts
  clear hs
  refine o_cut (fun f h2 => (Keeps h1 h2 ∧ h1.next < h2.next ∧ h2.get h1.next = some (.cells 27 [.int .u16 (x : Int)] (.own false))) ∧ Sl [(0, .pointer (some ⟨N + 3, 0, none⟩)), (3, .pointer (some ⟨h.next, 0, none⟩)), (4, .pointer (some ⟨h1.next, 0, none⟩))] f) ?_ ?_
  · refine gg ?_; repeat (refine i_ldown (by exact sel_of rfl) (by assumption) (by rfl) ?_; refine gg ?_)
    refine i_idx (i := 0) (by exact sel_of rfl) hrow (by exact sel_of rfl) (by decide) fun q hq => ?_
    cases hq
    refine gg ?_
    refine i_load1 (v := .int .u16 (x : Int)) (by exact sel_of rfl) ((hrow.cell (i := 0 * 1) (by decide) _).trans (by rfl)) ?_
    refine gg ?_
    refine i_storeF (vs := [.int .u16 (x : Int)]) (Keeps.new h1 _) (Nat.le_refl _) (by exact sel_of rfl) (by rw [sel_of rfl]; rfl) (by rw [Heap.get_new, if_pos rfl]) rfl rfl (Nat.lt_succ_self _) fun h2 k2 g2 lt2 => ?_
    refine gg ?_
    exact ⟨rfl, ⟨k2, lt2, g2⟩, sel_of rfl, sel_of rfl, sel_of rfl, trivial⟩
  rintro f2 h2 ⟨⟨k2, lt2, g2⟩, hs⟩
  obtain ⟨f0, rfl⟩ := hs.puts
  clear hs
  refine o_cut (fun f h3 => (Keeps h2 h3 ∧ h2.next < h3.next ∧ h3.get h2.next = some (.cells 82 [.func (.func 34) #[] #[.pointer (some ⟨h1.next, 0, none⟩)]] (.own false))) ∧ Sl [(0, .pointer (some ⟨N + 3, 0, none⟩)), (3, .pointer (some ⟨h.next, 0, none⟩)), (4, .pointer (some ⟨h1.next, 0, none⟩)), (5, .pointer (some ⟨h2.next, 0, none⟩))] f) ?_ ?_
  · refine gg ?_
    refine i_storeF (vs := [.func (.func 34) #[] #[.pointer (some ⟨h1.next, 0, none⟩)]]) (Keeps.new h2 _) (Nat.le_refl _) (by exact sel_of rfl) (by rw [sel_of rfl]; rfl) (by rw [Heap.get_new, if_pos rfl]) rfl rfl (Nat.lt_succ_self _) fun h3 k3 g3 lt3 => ?_
    refine gg ?_
    exact ⟨rfl, ⟨k3, lt3, g3⟩, sel_of rfl, sel_of rfl, sel_of rfl, sel_of rfl, trivial⟩
  rintro f3 h3 ⟨⟨k3, lt3, g3⟩, hs⟩
  obtain ⟨f0, rfl⟩ := hs.puts
  clear hs
  have j3 := j1.keeps (k2.trans k3)
  have g23 := (k3.get _ lt2).trans g2
  have g13 := ((k2.trans k3).get _ lt1).trans g1
  have n13 := (k2.trans k3).next
  obtain ⟨es, cc, gm, hsc⟩ := j3.sts
  clear top
  have top := j3.top
  have jup3 := j3.up
  refine gg ?_; repeat (refine i_ldown (by exact sel_of rfl) (by assumption) (by rfl) ?_; refine gg ?_)
  refine i_range (by exact sel_of rfl) gm ?_
  have kI : Keeps h3 (h3.new (.iter (some (N + 2)) cc [] cc)) := Keeps.new h3 _
  have gI : (h3.new (.iter (some (N + 2)) cc [] cc)).get h3.next = some (.iter (some (N + 2)) cc [] cc) := by rw [Heap.get_new, if_pos rfl]
  have nI : h3.next < (h3.new (.iter (some (N + 2)) cc [] cc)).next := Nat.lt_succ_self _
  generalize h3.new (.iter (some (N + 2)) cc [] cc) = hI at *
  refine i_nil (then_n ?_)
  have memst : ∀ e ∈ es, ∃ p ∈ st, e.1 = nkey p.1 := hsc.l.mem
  refine o_while (fun k f h' => ∃ seen, (KeepsB h3.next hI h' ∧ h'.get h3.next = some (.iter (some (N + 2)) cc seen cc) ∧ (leftE seen es).length = k) ∧ Sl [(6, .slice none 0 0), (41, iterTo h3.next), (0, .pointer (some ⟨N + 3, 0, none⟩)), (3, .pointer (some ⟨h.next, 0, none⟩)), (4, .pointer (some ⟨h1.next, 0, none⟩)), (5, .pointer (some ⟨h2.next, 0, none⟩))] f) (leftE [] es).length ?_ ⟨[], ⟨KeepsB.refl _ _, gI, rfl⟩, sel_of rfl, sel_of rfl, sel_of rfl, sel_of rfl, sel_of rfl, sel_of rfl, trivial⟩ ?_
  · have := hsc.l.len
    have := leftE_all es
    omega
  rintro k f h' ⟨seen, ⟨kB, gi, hk⟩, hs⟩
  obtain ⟨f0, rfl⟩ := hs.puts
  clear hs
  have gm' : h'.get (N + 2) = some (.map es cc) := (kB.get _ (by have := kI.next; omega) (by omega)).trans ((kI.get _ (by omega)).trans gm)
  simp only [c27_0]
  refine gg ?_
  refine i_next (by exact sel_of rfl) gi gm' (stale_no hsc.lt) (fun _ => ?_) (fun e he => ⟨hsc.lt e (leftE_sub _ _ e he).1, ?_⟩)
  · refine gg ?_
    refine i_call2 (by exact sel_of rfl) (by exact sel_of rfl) (w_sort0 (by omega)) ?_
    rintro _ _ rfl
    refine gg ?_
    refine o_up 0 (fun _ f h1' => h' = h1' ∧ Sl [(70, .int .i64 ((0 : Nat) : Int)), (69, .int .i64 ((0 : Nat) : Int)), (0, .pointer (some ⟨N + 3, 0, none⟩)), (3, .pointer (some ⟨h.next, 0, none⟩))] f) (by omega) ⟨rfl, sel_of rfl, sel_of rfl, sel_of rfl, sel_of rfl, trivial⟩ ?_
    rintro i f _ hi ⟨rfl, hs⟩
    obtain ⟨f0, rfl⟩ := hs.puts
    clear hs
    simp only [c27_1]
    refine gg ?_
    have k3' : Keeps h3 h' := ⟨by have := kB.next; have := kI.next; omega, fun d hd => (kB.get d (by have := kI.next; omega) (by omega)).trans (kI.get d hd)⟩
    have j' := j3.keeps k3'
    have top' := j'.top
    have gs' := (k3'.get h.next (by omega)).trans g13
    have hrow' : Row h' 1 (some ⟨N, 0, none⟩) 1 [.int .u16 (x : Int)] := ⟨rfl, by have := j'.up; show N < _; omega, .inl rfl, loadN_all j'.nxt rfl⟩
    clear top
    refine gg ?_; repeat (refine i_ldown (by exact sel_of rfl) (by assumption) (by rfl) ?_; refine gg ?_)
    refine i_addW (by exact sel_of rfl) (by rfl) (wrap_u16 (x + 1)) ?_
    refine i_idx (i := 0) (by exact sel_of rfl) hrow' (by exact sel_of rfl) (by decide) fun q hq => ?_
    cases hq
    refine i_store1 (u := ⟨N, 0 + 0 * 1, some 0⟩) (v := .int .u16 (((x + 1) % 65536 : Nat) : Int)) (by exact sel_of rfl) (by rw [sel_of rfl]; rfl) j'.nxt (by show 0 + 0 * 1 < 1; decide) ?_
    have p4 : Pres N h' ro (h'.put N (.cells 27 (([x].map fun (x : Nat) => Value.int .u16 (x : Int)).set (0 + 0 * 1) (.int .u16 (((x + 1) % 65536 : Nat) : Int))) (.own false))) ro := Pres.put (Nat.le_refl _) (by omega) _
    have kd := p4.kd
    have jup' := j'.up
    obtain ⟨es1, c1, a1, b1⟩ := j'.chs
    obtain ⟨es2, c2, a2, b2⟩ := j'.sts
    obtain ⟨cs, ap, hrd⟩ := j'.rdy
    have j4 : Jn (h'.put N (.cells 27 (([x].map fun (x : Nat) => Value.int .u16 (x : Int)).set (0 + 0 * 1) (.int .u16 (((x + 1) % 65536 : Nat) : Int))) (.own false))) N [(x + 1) % 65536] ch st rd held ro := by
      refine ⟨j'.up, ?_, ?_, ⟨es1, c1, ?_, b1.mono kd⟩, ⟨es2, c2, ?_, b2.mono kd⟩, ⟨cs, apB ap (putB h' N _) (fun q e => by have := j'.ofr q e; omega), hrd.mono kd⟩, j'.ofr⟩
      · rw [Heap.get_put, if_neg (by show N + 3 ≠ N; omega)]; exact j'.top
      · rw [Heap.get_put, if_pos rfl]; rfl
      · rw [Heap.get_put, if_neg (by show N + 1 ≠ N; omega)]; exact a1
      · rw [Heap.get_put, if_neg (by show N + 2 ≠ N; omega)]; exact a2
    have gs4 : (h'.put N (.cells 27 (([x].map fun (x : Nat) => Value.int .u16 (x : Int)).set (0 + 0 * 1) (.int .u16 (((x + 1) % 65536 : Nat) : Int))) (.own false))).get h.next = some (.cells 51 [.int .u16 ((0 : Nat) : Int), .int .u16 (x : Int)] (.own false)) := by
      rw [Heap.get_put, if_neg (by omega)]; exact gs'
    generalize h'.put N (.cells 27 (([x].map fun (x : Nat) => Value.int .u16 (x : Int)).set (0 + 0 * 1) (.int .u16 (((x + 1) % 65536 : Nat) : Int))) (.own false)) = h4 at *
    clear top'
    refine gg ?_; repeat (refine i_ldown (by exact sel_of rfl) (by assumption) (by rfl) ?_; refine gg ?_)
    refine i_call2 (by exact sel_of rfl) (by exact sel_of rfl) (w_tell j4 (s := 0) rfl t hbig (by omega)) ?_
    rintro _ h5 ⟨ro', j5, p5⟩
    refine gg ?_
    exact ⟨ro', j5, ((Pres.keeps (((k1.trans k2).trans k3).trans k3')).trans p4).trans p5⟩
  · have hlt := leftE_lt seen es e he
    have kB2 : KeepsB h3.next hI (h'.put h3.next (.iter (some (N + 2)) cc (seen ++ [e.2.2]) cc)) := ⟨kB.next, fun d hd hne => by rw [Heap.get_put, if_neg hne]; exact kB.get d hd hne⟩
    have gi2 : (h'.put h3.next (.iter (some (N + 2)) cc (seen ++ [e.2.2]) cc)).get h3.next = some (.iter (some (N + 2)) cc (seen ++ [e.2.2]) cc) := by rw [Heap.get_put, if_pos rfl]
    have gm2 : (h'.put h3.next (.iter (some (N + 2)) cc (seen ++ [e.2.2]) cc)).get (N + 2) = some (.map es cc) := by rw [Heap.get_put, if_neg (by omega)]; exact gm'
    generalize h'.put h3.next (.iter (some (N + 2)) cc (seen ++ [e.2.2]) cc) = h4 at *
    obtain ⟨e', he', hst'⟩ := stampE_mem ⟨e, (leftE_sub _ _ e he).1, rfl⟩
    obtain ⟨p, hp, hkey⟩ := memst e' he'
    obtain ⟨hp0, hp16, hpx⟩ := hst p hp
    refine gg ?_
    refine i_entry (k := nkey p.1) (v := e'.2.1) (by exact sel_of rfl) gi2 (lastN_snoc _ _) gm2 (by rw [hst', hkey]) ?_
    refine gg ?_
    have n13' := kI.next
    refine i_storeF (vs := [.int .u16 (p.1.1 : Int), .int .u16 (p.1.2 : Int)]) (Keeps.new h4 _) (Nat.le_refl _) (by exact sel_of rfl) (by rw [sel_of rfl]; rfl) (by rw [Heap.get_new, if_pos rfl]) rfl rfl (Nat.lt_succ_self _) fun h5 k5 g5 lt5 => ?_
    refine i_nil (then_n ?_)
    have n4 := kB2.next
    have gs5 := (k5.get h.next (by omega)).trans ((kB2.get h.next (by omega) (by omega)).trans ((kI.get h.next (by omega)).trans g13))
    have gC5 := (k5.get h1.next (by omega)).trans ((kB2.get h1.next (by omega) (by omega)).trans ((kI.get h1.next (by omega)).trans g23))
    have gD5 := (k5.get h2.next (by omega)).trans ((kB2.get h2.next (by omega) (by omega)).trans ((kI.get h2.next (by omega)).trans g3))
    have gi5 := (k5.get h3.next (by omega)).trans gi2
    refine o_cut (fun f h6 => Keeps h5 h6 ∧ Sl [(60, .bool false), (6, .slice none 0 0), (41, iterTo h3.next), (0, .pointer (some ⟨N + 3, 0, none⟩)), (3, .pointer (some ⟨h.next, 0, none⟩)), (4, .pointer (some ⟨h1.next, 0, none⟩)), (5, .pointer (some ⟨h2.next, 0, none⟩))] f) ?_ ?_
    · refine gg ?_; repeat (refine i_ldown (by exact sel_of rfl) (by assumption) (by rfl) ?_; refine gg ?_)
      rw [decide_eq_true (p := ((p.1.1 : Nat) : Int) = ((0 : Nat) : Int)) (by omega)]
      refine i_loadN (v := [.int .u16 (p.1.1 : Int), .int .u16 (p.1.2 : Int)]) (by exact sel_of rfl) (loadN_all g5 rfl) ?_
      refine it_one ?_
      refine tr_cons1 (det_gcall (by exact sel_of rfl)) ?_
      refine i_live (by exact sel_of rfl) ?_
      refine i_callc1 (by exact sel_of rfl) (by exact sel_of rfl) (w_far gC5 (by omega) hx (by omega)) ?_
      rintro _ h6 ⟨rfl, k6⟩
      have gs6 := (k6.get _ (by omega)).trans gs5
      have gC6 := (k6.get _ (by omega)).trans gC5
      clear gD5 gi5
      refine gg ?_; repeat (refine i_ldown (by exact sel_of rfl) (by assumption) (by rfl) ?_; refine gg ?_)
      refine i_subW (r := ((0 : Nat) : Int)) (by exact sel_of rfl) (by exact sel_of rfl) (by rw [sub16 x hx]; congr 1; omega) ?_
      refine gg ?_
      rw [decide_eq_false (p := (((p.1.2 + 65536 - x) % 65536 : Nat) : Int) ≤ ((0 : Nat) : Int)) (by omega)]
      refine gg ?_
      refine ⟨chk_live rfl (ld1 (by exact sel_of rfl) ((load1_own gs6).trans (by rfl))) (sv_int _ _) (fun m hm => by
        simp only [List.mem_cons, List.not_mem_nil, or_false] at hm
        rcases hm with rfl | rfl
        · exact ⟨_, _, rfl, ld1 (by exact sel_of rfl) ((load1_own gs5).trans (by rfl))⟩
        · exact ⟨_, _, rfl, ld1 (by exact sel_of rfl) ((load1_own gs6).trans (by rfl))⟩) (chk_live rfl (ld1 (by exact sel_of rfl) ((load1_own gC6).trans (by rfl))) (sv_int _ _) (fun m hm => by
        simp only [List.mem_cons, List.not_mem_nil, or_false] at hm
        rcases hm with rfl | rfl
        · exact ⟨_, _, rfl, ld1 (by exact sel_of rfl) ((load1_own gC5).trans (by rfl))⟩
        · exact ⟨_, _, rfl, ld1 (by exact sel_of rfl) ((load1_own gC6).trans (by rfl))⟩) chk_nil), ?_⟩
      exact ⟨rfl, k6, sel_of rfl, sel_of rfl, sel_of rfl, sel_of rfl, sel_of rfl, sel_of rfl, sel_of rfl, trivial⟩
    rintro f6 h6 ⟨k6, hs⟩
    obtain ⟨f0, rfl⟩ := hs.puts
    clear hs
    refine gg ?_
    exact rnd_n (leftE (seen ++ [e.2.2]) es).length (by omega) ⟨seen ++ [e.2.2], ⟨(kB2.trans (k5.but _)).trans (k6.but _), (k6.get _ (by have := k5.next; omega)).trans gi5, rfl⟩, sel_of rfl, sel_of rfl, sel_of rfl, sel_of rfl, sel_of rfl, sel_of rfl, trivial⟩
end
end Go.Proofs.Ytnffglfpjcbfaaa

/-! The law's piece, walked. -/
set_option linter.unusedVariables false
namespace Go.Proofs.Ytnffglfpjcbfaaa
open Go Vm
section
variable {h : Heap} {n : Nat}
theorem w_piece {t s x fl b : Nat} (hn : 1 ≤ n) :
    ResQ (callN Try.prog G0 n (.call 14 [.int .u32 (t : Int), .int .u16 (s : Int), .int .u16 (x : Int), .int .u8 (fl : Int), .int .u8 (b : Int)]) h) (fun v h' => v = .agg (ckv ⟨fl, t, s, x, 0, [UInt8.ofNat b], 0, .slice none 0 0, .slice none 0 0, .slice none 0 0, .slice none 0 0⟩ (some ⟨h.next + 1, 0, none⟩) 1).toArray ∧ Keeps h h' ∧ Row h' 1 (some ⟨h.next + 1, 0, none⟩) 1 [.int .u8 (b : Int)]) := by
  obtain ⟨n, rfl⟩ : ∃ m, n = m + 1 := ⟨n - 1, by omega⟩
  refine res_enter rfl d14 rfl ?_; simp only [c14]
  refine gg ?_
  refine i_storeP (b := h.next) (s := none) (vs := ckv ⟨fl, t, s, x, 0, [UInt8.ofNat b], 0, .slice none 0 0, .slice none 0 0, .slice none 0 0, .slice none 0 0⟩ (some ⟨h.next + 1, 0, none⟩) 1) (by exact sel_of rfl) (by rw [sel_of rfl]; rfl) (by rw [Heap.get_new, if_neg (by show h.next ≠ h.next + 1; omega), Heap.get_new, if_pos rfl]) rfl rfl ?_
  refine gg ?_
  refine finA1 (by exact sel_of rfl) (loadN_all (by rw [Heap.get_put, if_pos rfl]) rfl) ?_
  refine ⟨rfl, ((Keeps.new h _).trans (Keeps.new _ _)).put (Nat.le_refl _) _, ?_⟩
  exact (Row.new (h := h.new _) (by simp) rfl (.inl rfl)).keepsB (putB _ h.next _) (fun q e => by cases e; show h.next + 1 ≠ h.next; omega)
end
end Go.Proofs.Ytnffglfpjcbfaaa

/-! join.Forward with one skip and no chunks; the law JoinSkips. -/
set_option linter.unusedVariables false
namespace Go.Proofs.Ytnffglfpjcbfaaa
open Go Vm
section
variable {h : Heap} {n : Nat} {N : Nat} {nx : List Nat} {ch : List (Nat × Ck)} {st : List ((Nat × Nat) × Mg)} {rd : List Mg} {held : Nat} {ro : Option Addr}
set_option maxHeartbeats 1000000 in
theorem w_forward {x w : Nat} {q : Addr} (j : Jn h N [x] [] st rd held ro) (hq : Row h 2 (some q) 1 [.int .u16 ((0 : Nat) : Int), .int .u16 (x : Int)]) (hx : x < 65536) (hst : ∀ p ∈ st, p.1.1 = 0 ∧ p.1.2 < 65536 ∧ p.1.2 ≠ x) {d x' : Nat} {st' : List ((Nat × Nat) × Mg)} {rd' : List Mg} (t : Tel 0 st' x' rd' d st ((x + 1) % 65536) rd) (hbig : rd.length + d ≤ 1000000) (hl : st.length + d + 32 ≤ n) :
    ResQ (callN Try.prog G0 n (.call 16 [.pointer (some ⟨N + 3, 0, none⟩), .int .u32 (w : Int), .slice (some q) 1 1]) h) (fun _ h' => ∃ ro', Jn h' N [x'] [] st' rd' held ro' ∧ Pres N h ro h' ro') := by
  have jup := j.up
  obtain ⟨n, rfl⟩ : ∃ m, n = m + 1 := ⟨n - 1, by omega⟩
  refine res_enter rfl d16 rfl ?_; simp only [c16]
  refine o_cut (fun f h1 => (Keeps h h1 ∧ h.next + 1 < h1.next ∧ h1.get h.next = some (.cells 34 [.pointer (some ⟨N + 3, 0, none⟩)] (.own false))) ∧ Sl [(2, .slice (some q) 1 1), (3, .pointer (some ⟨h.next, 0, none⟩)), (4, .pointer (some ⟨h.next + 1, 0, none⟩))] f) ?_ ?_
  · refine gg ?_
    obtain ⟨g1, g2, k1, n1⟩ := box_two h (.cells 34 [.pointer (some ⟨N + 3, 0, none⟩)] (.own false)) (.cells 22 [.int .u32 (w : Int)] (.own false))
    exact ⟨rfl, ⟨k1, by rw [n1]; omega, g1⟩, sel_of rfl, sel_of rfl, sel_of rfl, trivial⟩
  rintro f1 h1 ⟨⟨k1, lt1, g1⟩, hs⟩
  obtain ⟨f0, rfl⟩ := hs.puts
  clear hs
  have j1 := j.keeps k1
  have top := j1.top
  have jup1 := j1.up
  obtain ⟨es, cc, gm, hes⟩ := j1.chs
  have he : es = [] := by
    cases es with
    | nil => rfl
    | cons e es => exact hes.elim
  subst he
  refine gg ?_; repeat (refine i_ldown (by exact sel_of rfl) (by assumption) (by rfl) ?_; refine gg ?_)
  refine i_call2 (by exact sel_of rfl) (by exact sel_of rfl) (w_del0 gm (by omega) (by omega)) ?_
  rintro v2 h2 k2
  refine gg ?_
  have k12 := k1.trans k2
  have j2 := j.keeps k12
  have g2 := (k2.get _ (by omega)).trans g1
  have n2 := k2.next
  refine o_up 1 (fun i f h' => (∃ ro', (i = 0 ∧ h' = h2 ∧ ro' = ro) ∨ (i = 1 ∧ Jn h' N [x'] [] st' rd' held ro' ∧ Pres N h ro h' ro')) ∧ Sl [(16, .slice (some q) 1 1), (17, .int .i64 ((1 : Nat) : Int)), (18, .int .i64 (i : Int)), (3, .pointer (some ⟨h.next, 0, none⟩))] f) (by omega) ⟨⟨ro, .inl ⟨rfl, rfl, rfl⟩⟩, sel_of rfl, sel_of rfl, sel_of rfl, sel_of rfl, trivial⟩ ?_
  rintro i f h' hi ⟨⟨ro', hc⟩, hs⟩
  obtain ⟨f0, rfl⟩ := hs.puts
  clear hs
  simp only [c16_0]
  rcases hc with ⟨rfl, rfl, rfl⟩ | ⟨rfl, j', p'⟩
  · refine gg ?_
    refine i_idx (i := 0) (by exact sel_of rfl) (hq.keeps k12) (by exact sel_of rfl) (by decide) fun q' hq' => ?_
    cases hq'
    refine i_loadN (v := [.int .u16 ((0 : Nat) : Int), .int .u16 (x : Int)]) (by exact sel_of rfl) (by rw [(hq.keeps k12).cells (m := 2) (by decide)]; rfl) ?_
    refine gg ?_
    refine i_storeF (vs := [.int .u16 ((0 : Nat) : Int), .int .u16 (x : Int)]) (Keeps.new h' _) (Nat.le_refl _) (by exact sel_of rfl) (by rw [sel_of rfl]; rfl) (by rw [Heap.get_new, if_pos rfl]) rfl rfl (Nat.lt_succ_self _) fun h3 k3 g3 lt3 => ?_
    refine gg ?_
    refine i_load1 (v := .pointer (some ⟨N + 3, 0, none⟩)) (by exact sel_of rfl) ((load1_own ((k3.get _ (by omega)).trans g2)).trans (by rfl)) ?_
    refine i_loadN (v := [.int .u16 ((0 : Nat) : Int), .int .u16 (x : Int)]) (by exact sel_of rfl) (loadN_all g3 rfl) ?_
    refine i_call2 (by exact sel_of rfl) (by exact sel_of rfl) (w_skip (j2.keeps k3) hx hst t hbig (by omega)) ?_
    rintro _ h4 ⟨ro4, j4, p4⟩
    refine gg ?_
    exact rnd_up (by decide) ⟨⟨ro4, .inr ⟨rfl, j4, (Pres.keeps (k12.trans k3)).trans p4⟩⟩, sel_of rfl, sel_of rfl, sel_of rfl, sel_of rfl, trivial⟩
  · refine gg ?_
    exact ⟨ro', j', p'⟩
end
end Go.Proofs.Ytnffglfpjcbfaaa

