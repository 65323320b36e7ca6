/- Part of a proof by an abstract run of the program's code: TmQ. No condition. -/
import Derived.Test.YtkbanhfdfmodkaaTmU
import Derived.Test.YtkbanhfdfmodkaaTmR
/-! The law TimerPlays. -/
set_option linter.unusedVariables false
namespace Vm
open Go
abbrev OpPT : PT := .pair (.int .i64) (.pair (.int .i64) (.pair (.int .i64) .unit))
theorem ops_of : ∀ (els : List (List Value)) {h : Heap}, (∀ c ∈ els, Rep h OpPT c) → ∃ l : List (Int × Int × Int), els.flatten = l.flatMap (fun e => [Value.int .i64 e.1, .int .i64 e.2.1, .int .i64 e.2.2]) ∧ l.length = els.length
  | [], _, _ => ⟨[], rfl, rfl⟩
  | x :: els, h, hx => by
    obtain ⟨l, hl, hn⟩ := ops_of els (fun c hc => hx c (by simp [hc]))
    cases hx x (by simp) with
    | pair _ ha hb =>
      cases ha with
      | @int _ a _ =>
        cases hb with
        | pair _ hb hc =>
          cases hb with
          | @int _ b _ =>
            cases hc with
            | pair _ hc hd =>
              cases hc with
              | @int _ c _ =>
                cases hd
                exact ⟨(a, b, c) :: l, by rw [List.flatten_cons, hl]; rfl, by rw [List.length_cons, List.length_cons, hn]⟩
theorem RepV.ops {h : Heap} {v : Value} (r : RepV h (.slice OpPT) v) : ∃ (o : Option Addr) (c : Nat) (l : List (Int × Int × Int)), v = .slice o l.length c ∧ Row h 3 o l.length (l.flatMap (fun e => [Value.int .i64 e.1, .int .i64 e.2.1, .int .i64 e.2.2])) ∧ l.length ≤ c := by
  obtain ⟨o, m, c, els, h1, h2, h3, h4, h5, h6, h7⟩ := Rep.row r
  obtain ⟨l, hl, hn⟩ := ops_of els h5
  have : m = l.length := by rw [hn, h3]
  subst this
  exact ⟨o, c, l, h1, by rw [← hl]; exact h2, h6⟩
end Vm
namespace Go.Proofs.Ytkbanhfdfmodkaa
open Go Vm
def encO (l : List (Int × Int × Int)) : List Value := l.flatMap (fun e => [iv e.1, iv e.2.1, iv e.2.2])
theorem encO_at : ∀ (l : List (Int × Int × Int)) (i : Nat) (h : i < l.length), (encO l)[i * 3 + 0]? = some (iv l[i].1) ∧ (encO l)[i * 3 + 1]? = some (iv l[i].2.1) ∧ (encO l)[i * 3 + 2]? = some (iv l[i].2.2)
  | e :: l, 0, _ => ⟨rfl, rfl, rfl⟩
  | e :: l, i + 1, h => by
    obtain ⟨a, b, c⟩ := encO_at l i (by simpa using h)
    rw [show (i + 1) * 3 + 0 = i * 3 + 0 + 1 + 1 + 1 by omega, show (i + 1) * 3 + 1 = i * 3 + 1 + 1 + 1 + 1 by omega, show (i + 1) * 3 + 2 = i * 3 + 2 + 1 + 1 + 1 by omega]
    exact ⟨a, b, c⟩
section
variable {rec : Rec} {L : List (Nat × Value)} {f : Fr} {dt : Nat} {h : Heap} {K : Fr → Heap → Prop} {l : List ISem} {rd : Bool} {x y : Sel} {c : Nat} {o : Option Addr} {z : Int} {ops : List (Int × Int × Int)}
theorem i_atO (i : Nat) (hr : Row h 3 o ops.length (encO ops)) (hx : x.f (puts L f) = .slice o ops.length c) (hy : y.f (puts L f) = .int .i64 z) (hz : z = (i : Int)) (hi : i < ops.length)
    (hq : ∀ u : Addr, load1 h.get ⟨u.block, u.off + 0, u.spot⟩ = some (iv ops[i].1) → load1 h.get ⟨u.block, u.off + 1, u.spot⟩ = some (iv ops[i].2.1) → load1 h.get ⟨u.block, u.off + 2, u.spot⟩ = some (iv ops[i].2.2) → ItQ (runItems rec l (puts ((dt, .pointer (some u)) :: L) f) h) K) : ItQ (runItems rec (iOp (put dt) (.v rd (oIndexAddrS 3 x y)) :: l) (puts L f) h) K := by
  subst hz
  refine i_idx hx hr hy hi fun u hu => ?_
  subst hu
  obtain ⟨h1, h2, h3⟩ := encO_at ops i hi
  refine hq _ ?_ ?_ ?_
  · exact (by rw [Nat.add_assoc]; exact (hr.cell (i := i * 3 + 0) (by omega) _).trans h1)
  · exact (by rw [Nat.add_assoc]; exact (hr.cell (i := i * 3 + 1) (by omega) _).trans h2)
  · exact (by rw [Nat.add_assoc]; exact (hr.cell (i := i * 3 + 2) (by omega) _).trans h3)
end
theorem i_nebF {rec : Rec} {L : List (Nat × Value)} {f : Fr} {dt : Nat} {h : Heap} {K : Fr → Heap → Prop} {l : List ISem} {rd : Bool} {x y : Sel} {a b : Bool} (hx : x.f (puts L f) = .bool a) (hy : y.f (puts L f) = .bool b) (e : (a != b) = false) (hq : ItQ (runItems rec l (puts ((dt, .bool false) :: L) f) h) K) : ItQ (runItems rec (iOp (put dt) (.v rd (oNe (.one 0) x y)) :: l) (puts L f) h) K :=
  i_neb hx hy (by rw [e]; exact hq)
theorem detP : detFns Try.prog [9, 13, 15] = true := by kernel_rfl
instance : FDet Try.prog G0 9 := ⟨fun n args h x y => fns_det detP g0det n _ (by decide) args h x y⟩
instance : FDet Try.prog G0 13 := ⟨fun n args h x y => fns_det detP g0det n _ (by decide) args h x y⟩
theorem start_len (x v : Int) (m : List En) : (startP x v m).length ≤ m.length + 1 := by
  rw [startP, (insP_perm _ _).length_eq, List.length_cons]
  have : (stopP x m).length ≤ m.length := List.length_filter_le ..
  omega
/-- the set and the document's list side by side -/
def Pl (h0 h : Heap) (S : Nat) (ms : Option Nat) (m : List En) (om : Option Addr) (cm i : Nat) : Prop :=
  Ts h S ms m ∧ Row h 2 om m.length (encE m) ∧ m.length ≤ cm ∧ (∀ q, om = some q → q.block ≠ S ∧ ms ≠ some q.block) ∧ m.length ≤ i ∧ h0.next ≤ S ∧ (∀ M, ms = some M → h0.next ≤ M) ∧ Keeps h0 h
set_option maxRecDepth 10000 in
set_option maxHeartbeats 8000000 in
theorem w_lplays {ops : List (Int × Int × Int)} {h : Heap} {o : Option Addr} {c : Nat} (hr : Row h 3 o ops.length (encO ops)) (n : Nat) (hn : 1500 ≤ n) :
    ResQ (callN Try.prog G0 n (.call 5 [.slice o ops.length c]) h) (fun v h' => v = .bool true) := by
  obtain ⟨n, rfl⟩ : ∃ m, n = m + 1 := ⟨n - 1, by omega⟩
  refine res_enter rfl d5 rfl ?_; simp only [c5]
  refine gg ?_
  refine i_call0 (w_awake h n (by omega)) ?_
  rintro _ _ ⟨rfl, rfl⟩
  refine gg ?_
  by_cases hbig : 100 < ops.length
  · refine gg ?_
    rfl
  refine gg ?_
  obtain ⟨a1, k1, n1⟩ := box_one h (.cells 27 #[Value.map none].toList (.own false))
  have t1 : Ts (h.new (.cells 27 #[Value.map none].toList (.own false))) h.next none [] := Ts.new h 27
  generalize h.new (.cells 27 #[Value.map none].toList (.own false)) = h1 at *
  refine o_up ops.length (fun i f h' => ∃ ms m om cm, Pl h h' h.next ms m om cm i ∧ Sl [(6, .int .i64 (i : Int)), (5, .slice om m.length cm), (4, .pointer (some ⟨h.next, 0, none⟩)), (3, .bool true), (0, .slice o ops.length c)] f) (by omega) ⟨none, [], none, 0, ⟨t1, Row.nil _ _, Nat.le_refl _, (fun q e => nomatch e), Nat.le_refl _, Nat.le_refl _, (fun M e => nomatch e), k1⟩, sel_of rfl, sel_of rfl, sel_of rfl, sel_of rfl, sel_of rfl, trivial⟩ ?_
  clear t1 a1
  rintro i f h2 hi ⟨ms, m, om, cm, ⟨t, rm, hcm, hof, hmi, hS, hms, k2⟩, hs⟩
  obtain ⟨f0, rfl⟩ := hs.puts
  clear hs
  simp only [c5_0]
  refine gg ?_
  by_cases hil : i < ops.length
  · have ro := hr.keeps k2
    refine gg ?_
    refine i_cutE (fun f h' => ∃ ms m om cm, Pl h h' h.next ms m om cm (i + 1) ∧ Sl [(6, .int .i64 (i : Int)), (5, .slice om m.length cm), (4, .pointer (some ⟨h.next, 0, none⟩)), (3, .bool true), (0, .slice o ops.length c)] f) ?_ ?_
    · refine i_atO i ro (by exact sel_of rfl) (by exact sel_of rfl) rfl hil (fun u l0 l1 l2 => ?_)
      refine gg ?_
      refine i_load1 (by exact sel_of rfl) l0 ?_
      refine gg ?_
      by_cases w0 : ops[i].1 = 0
      · refine gg ?_
        refine i_atO i ro (by exact sel_of rfl) (by exact sel_of rfl) rfl hil (fun u l0 l1 l2 => ?_)
        refine gg ?_
        refine i_load1 (by exact sel_of rfl) l1 ?_
        refine gg ?_
        refine i_atO i ro (by exact sel_of rfl) (by exact sel_of rfl) rfl hil (fun u l0 l1 l2 => ?_)
        refine gg ?_
        refine i_load1 (by exact sel_of rfl) l2 ?_
        refine i_call3 (by exact sel_of rfl) (by exact sel_of rfl) (by exact sel_of rfl) (w_start t (by omega)) ?_
        rintro _ h3 ⟨ms', t3, kT, nx⟩
        have k3 := Keeps.stepT k2 kT hS hms
        have rm3 := Row.keepsT rm kT hof
        have hms3 := nx.ge hms k2.next
        have hof3 : ∀ q, om = some q → q.block ≠ h.next ∧ ms' ≠ some q.block := fun q e => by
          refine ⟨(hof q e).1, ?_⟩
          rcases nx with rfl | ⟨M, rfl, hM⟩
          · exact (hof q e).2
          · subst e
            have := rm.2.1
            intro e'; cases e'; omega
        have ro3 := hr.keeps k3
        refine gg ?_
        refine i_atO i ro3 (by exact sel_of rfl) (by exact sel_of rfl) rfl hil (fun u l0 l1 l2 => ?_)
        refine gg ?_
        refine i_load1 (by exact sel_of rfl) l1 ?_
        refine gg ?_
        refine i_atO i ro3 (by exact sel_of rfl) (by exact sel_of rfl) rfl hil (fun u l0 l1 l2 => ?_)
        refine gg ?_
        refine i_load1 (by exact sel_of rfl) l2 ?_
        refine i_call3 (by exact sel_of rfl) (by exact sel_of rfl) (by exact sel_of rfl) (w_rstart rm3 (by omega) (by omega)) ?_
        rintro _ h4 ⟨o4, rfl, r4, k4, ho4⟩
        have hlt := t3.lt
        have hsl := start_len ops[i].2.1 ops[i].2.2 m
        refine gg ?_
        refine .inl ⟨rfl, ms', startP ops[i].2.1 ops[i].2.2 m, o4, (startP ops[i].2.1 ops[i].2.2 m).length, ⟨t3.keeps k4, r4, Nat.le_refl _, fun q e => ⟨by have := ho4 q e; omega, fun e' => by have := ho4 q e; have := hlt.2 _ e'; omega⟩, by omega, hS, hms3, k3.trans k4⟩, sel_of rfl, sel_of rfl, sel_of rfl, sel_of rfl, sel_of rfl, trivial⟩
      · refine gg ?_
        by_cases w1 : ops[i].1 = 1
        · refine gg ?_
          refine i_atO i ro (by exact sel_of rfl) (by exact sel_of rfl) rfl hil (fun u l0 l1 l2 => ?_)
          refine gg ?_
          refine i_load1 (by exact sel_of rfl) l1 ?_
          refine i_call2 (by exact sel_of rfl) (by exact sel_of rfl) (w_stop t (by omega)) ?_
          rintro _ h3 ⟨t3, kT, n3⟩
          have k3 := Keeps.stepT k2 kT hS hms
          have rm3 := Row.keepsT rm kT hof
          have ro3 := hr.keeps k3
          refine gg ?_
          refine i_atO i ro3 (by exact sel_of rfl) (by exact sel_of rfl) rfl hil (fun u l0 l1 l2 => ?_)
          refine gg ?_
          refine i_load1 (by exact sel_of rfl) l1 ?_
          refine i_call2 (by exact sel_of rfl) (by exact sel_of rfl) (w_rstop rm3 (by omega) (by omega)) ?_
          rintro _ h4 ⟨o4, rfl, r4, k4, ho4⟩
          have hlt := t3.lt
          have hsl : (stopP ops[i].2.1 m).length ≤ m.length := List.length_filter_le ..
          refine gg ?_
          refine .inl ⟨rfl, ms, stopP ops[i].2.1 m, o4, (stopP ops[i].2.1 m).length, ⟨t3.keeps k4, r4, Nat.le_refl _, fun q e => ⟨by have := ho4 q e; omega, fun e' => by have := ho4 q e; have := hlt.2 _ e'; omega⟩, by omega, hS, hms, k3.trans k4⟩, sel_of rfl, sel_of rfl, sel_of rfl, sel_of rfl, sel_of rfl, trivial⟩
        · refine gg ?_
          refine i_atO i ro (by exact sel_of rfl) (by exact sel_of rfl) rfl hil (fun u l0 l1 l2 => ?_)
          refine gg ?_
          refine i_load1 (by exact sel_of rfl) l2 ?_
          refine i_call2 (by exact sel_of rfl) (by exact sel_of rfl) (w_due t (by omega) (by omega)) ?_
          rintro _ h3 ⟨oo, rfl, ap3, t3, kT, ho3⟩
          have k3 := Keeps.stepT k2 kT hS hms
          have rm3 := Row.keepsT rm kT hof
          have ro3 := hr.keeps k3
          refine gg ?_
          refine i_atO i ro3 (by exact sel_of rfl) (by exact sel_of rfl) rfl hil (fun u l0 l1 l2 => ?_)
          refine gg ?_
          refine i_load1 (by exact sel_of rfl) l2 ?_
          refine i_call2 (by exact sel_of rfl) (by exact sel_of rfl) (w_rdue rm3 hcm (by omega) (by omega)) ?_
          rintro _ h4 ⟨o5, o6, c6, rfl, r5, r6, hc6, k4, ho5, ho6⟩
          have hdl : (dueI ops[i].2.2 m).length ≤ m.length := (List.takeWhile_sublist _).length_le
          have hrl : (dueR ops[i].2.2 m).length ≤ m.length := (List.dropWhile_sublist _).length_le
          have hKl : ((dueI ops[i].2.2 m).map keyP).length = (dueI ops[i].2.2 m).length := List.length_map ..
          have rA : Row h4 1 oo ((dueI ops[i].2.2 m).map keyP).length (((dueI ops[i].2.2 m).map keyP).map fun z => iv z) := by
            rw [List.length_map, List.map_map]; exact ap3.row.keeps k4
          have rB : Row h4 1 o5 ((dueI ops[i].2.2 m).map keyP).length (((dueI ops[i].2.2 m).map keyP).map fun z => iv z) := by
            rw [List.length_map, List.map_map]; exact r5
          rw [← hKl]
          refine gg ?_
          refine i_call2 (by exact sel_of rfl) (by exact sel_of rfl) (w_same rA rB (by omega) (by omega)) ?_
          rintro _ _ ⟨rfl, rfl⟩
          rw [decide_eq_true rfl]
          refine gg ?_
          refine .inl ⟨rfl, ms, dueR ops[i].2.2 m, o6, c6, ⟨t3.keeps k4, r6, hc6, fun q e => ?_, by omega, hS, hms, k3.trans k4⟩, sel_of rfl, sel_of rfl, sel_of rfl, sel_of rfl, sel_of rfl, trivial⟩
          obtain ⟨q0, e0, eb⟩ := ho6 q e
          rw [eb]
          exact hof q0 e0
    clear t rm hcm hof hmi hms k2 ro
    rintro f h2 ⟨ms, m, om, cm, ⟨t, rm, hcm, hof, hmi, hS, hms, k2⟩, hs⟩
    obtain ⟨f0, rfl⟩ := hs.puts
    clear hs
    have ro := hr.keeps k2
    refine gg ?_
    refine i_atO i ro (by exact sel_of rfl) (by exact sel_of rfl) rfl hil (fun u l0 l1 l2 => ?_)
    refine gg ?_
    refine i_load1 (by exact sel_of rfl) l1 ?_
    refine i_call2 (by exact sel_of rfl) (by exact sel_of rfl) (w_at t (by omega)) ?_
    rintro _ _ ⟨rfl, rfl⟩
    refine gg ?_
    refine i_atO i ro (by exact sel_of rfl) (by exact sel_of rfl) rfl hil (fun u l0 l1 l2 => ?_)
    refine gg ?_
    refine i_load1 (by exact sel_of rfl) l1 ?_
    refine i_call2 (by exact sel_of rfl) (by exact sel_of rfl) (w_rat rm (by omega) (by omega)) ?_
    rintro _ _ ⟨rfl, rfl⟩
    refine gg ?_
    refine i_call1 (by exact sel_of rfl) (w_tnext t (by omega) (by omega)) ?_
    rintro _ h3 ⟨rfl, k3⟩
    have t3 := t.keeps k3
    have rm3 := rm.keeps k3
    generalize (atP m ops[i].2.1).getD 0 = av at *
    generalize (atP m ops[i].2.1).isSome = ab at *
    refine gg ?_
    refine i_neb (by exact sel_of rfl) (by exact sel_of rfl) ?_
    rw [bne_self_eq_false]
    refine gg ?_
    refine i_call1 (by exact sel_of rfl) (w_tlen t3 (by omega)) ?_
    rintro _ _ ⟨rfl, rfl⟩
    have k4 := k2.trans k3
    cases m with
    | nil =>
      simp only [List.head?_nil, Option.map_none, Option.getD_none, Option.isSome_none]
      refine gg ?_
      refine i_nebF (by exact sel_of rfl) (by exact sel_of rfl) (by simp) ?_
      refine gg ?_
      exact rnd_up hil ⟨ms, [], om, cm, ⟨t3, rm3, hcm, hof, hmi, hS, hms, k4⟩, (sel_z rfl (by omega)), sel_of rfl, sel_of rfl, sel_of rfl, sel_of rfl, trivial⟩
    | cons p m =>
      simp only [List.head?_cons, Option.map_some, Option.getD_some, Option.isSome_some]
      refine gg ?_
      refine i_nebF (by exact sel_of rfl) (by exact sel_of rfl) (by rw [decide_eq_true (by simp only [List.length_cons]; omega)]; rfl) ?_
      refine gg ?_
      refine i_atE 0 rm3 (by exact sel_of rfl) (by exact const_of) rfl (by simp) (fun u l0 l1 lN => ?_)
      rw [List.getElem_cons_zero] at l0
      refine gg ?_
      refine i_load1 (by exact sel_of rfl) l0 ?_
      refine gg ?_
      refine i_atE 0 rm3 (by exact sel_of rfl) (by exact const_of) rfl (by simp) (fun u l0 l1 lN => ?_)
      rw [List.getElem_cons_zero] at l1
      refine gg ?_
      refine i_load1 (by exact sel_of rfl) l1 ?_
      refine gg ?_
      exact rnd_up hil ⟨ms, p :: m, om, cm, ⟨t3, rm3, hcm, hof, hmi, hS, hms, k4⟩, (sel_z rfl (by omega)), sel_of rfl, sel_of rfl, sel_of rfl, sel_of rfl, trivial⟩
  · refine gg ?_
    rfl
end Go.Proofs.Ytkbanhfdfmodkaa

