/- Part of a proof by an abstract run of the program's code: UDecA. No condition. -/
import Derived.Test.YtdcllpjoejkpnaaPar
import Derived.Test.YtdcllpjoejkpnaaUTlvA
/-! Ranges over functions; appends that say what they touch. -/
set_option linter.unusedVariables false
namespace Vm
open Go
section
variable {P : Program} {Γ : Sums} {n : Nat}
/-- after a round's body -/
inductive YB (L nt : Nat) (ps : List Tmp) (s b : Code) (a : Fr) (R : Value → Heap → Prop) : Ex → Fr → Heap → Prop
  | go {a2 : Fr} {h2 : Heap} (hg : h2.get L = some (.loop nt ps s b a .busy none)) (hr : R (.bool true) (h2.put L (.loop nt ps s b a .ready none))) : YB L nt ps s b a R .normal a2 h2
  | ret {a2 : Fr} {h2 : Heap} (hg : h2.get L = some (.loop nt ps s b a .busy none)) (hr : R (.bool false) (h2.put L (.loop nt ps s b a .done (some .ret)))) : YB L nt ps s b a R .ret a2 h2
/-- after the left sides -/
inductive YA (P : Program) (Γ : Sums) (n : Nat) (sB : Sem) (L nt : Nat) (ps : List Tmp) (s b : Code) (a : Fr) (R : Value → Heap → Prop) : Ex → Fr → Heap → Prop
  | mk {a1 : Fr} {h1 : Heap} (hg : h1.get L = some (.loop nt ps s b a .ready none)) (hq : OutQ (sB.f (callN P Γ n) n a1 (h1.put L (.loop nt ps s b a .busy none))) (YB L nt ps s b a R)) : YA P Γ n sB L nt ps s b a R .normal a1 h1
theorem res_yield {L nt : Nat} {args : List Value} {ps : List Tmp} {s b : Code} {a : Fr} {sA sB : Sem} {h : Heap} {R : Value → Heap → Prop} (hg : h.get L = some (.loop nt ps s b a .ready none)) (hl : Nat.beq args.length ps.length = true)
    (ha : den0 P nt true s = sA) (hb : den0 P nt true b = sB) (hq : OutQ (sA.f (callN P Γ n) n (setAll ps args a) h) (YA P Γ n sB L nt ps s b a R)) : ResQ (callN P Γ (n + 1) (.yield L args) h) R := by
  have e : callN P Γ (n + 1) (.yield L args) h = (match h.get L with | some (.loop nt ps s b a _ _) => bif Nat.beq args.length ps.length then roundGo P (callN P Γ n) n nt s b L (setAll ps args a) h else .no | _ => .no) := rfl
  rw [e, hg]
  simp only [hl, cond_true]
  unfold roundGo
  rw [ha, hb]
  obtain ⟨e1, a1, h1, eq1, hk1⟩ := hq
  rw [eq1]
  cases hk1 with
  | mk hg1 hq1 =>
    simp only [hg1]
    obtain ⟨e2, a2, h2, eq2, hk2⟩ := hq1
    rw [eq2]
    cases hk2 with
    | go hg2 hr => simp only [roundEnd, hg2]; exact ⟨_, _, rfl, hr⟩
    | ret hg2 hr => simp only [roundEnd, hg2]; exact ⟨_, _, rfl, hr⟩
/-- after the call that ranges -/
inductive RgQ (L nt : Nat) (ps : List Tmp) (s b : Code) (a : Fr) (Q : Ex → Fr → Heap → Prop) (h' : Heap) : Prop
  | none {a' : Fr} (hg : h'.get L = some (.loop nt ps s b a' .ready none)) (hq : Q .normal a (h'.put L (.loop nt ps s b a' .exhausted none)))
  | ret {a' : Fr} (hg : h'.get L = some (.loop nt ps s b a' .done (some .ret))) (hq : Q .ret a (h'.put L (.loop nt ps s b a' .exhausted (some .ret))))
theorem out_range {rec : Rec} {nt : Nat} {f : Sel} {ps : List Tmp} {s b : Code} {a : Fr} {h : Heap} {g : FuncId} {cap : Array Value} {Q : Ex → Fr → Heap → Prop} (hf : f.f a = .func (.func g) #[] cap)
    (hc : ResQ (rec (.call g (Value.func (.yield h.next) #[] #[] :: cap.toList)) (h.new (.loop nt ps s b a .ready none))) (fun _ h' => RgQ h.next nt ps s b a Q h')) : OutQ ((sRangeFunc nt f ps s b).f rec n a h) Q := by
  obtain ⟨v, h', e, hk⟩ := hc
  have e' : rec (.call g ((#[] : Array Value).toList ++ [Value.func (.yield h.next) #[] #[]] ++ cap.toList)) (h.new (.loop nt ps s b a .ready none)) = .ok v h' := e
  cases hk with
  | none hg hq => refine ⟨_, _, _, ?_, hq⟩; simp only [sRangeFunc, hf, e', hg]
  | ret hg hq => refine ⟨_, _, _, ?_, hq⟩; simp only [sRangeFunc, hf, e', hg]
end
/-- a call of a yield -/
theorem i_yield2 {rec : Rec} {L : List (Nat × Value)} {f : Fr} {h : Heap} {K : Fr → Heap → Prop} {l : List ISem} {dt q : Nat} {c x1 x2 : Sel} {v1 v2 : Value} {R : Value → Heap → Prop} (hc : c.f (puts L f) = .func (.yield q) #[] #[]) (h1 : x1.f (puts L f) = v1) (h2 : x2.f (puts L f) = v2) (hv : ResQ (rec (.yield q [v1, v2]) h) R)
    (hq : ∀ v h', R v h' → ItQ (runItems rec l (puts ((dt, v) :: L) f) h') K) : ItQ (runItems rec (iOp (put dt) (.e (eCall c [x1, x2])) :: l) (puts L f) h) K := by
  subst h1 h2
  refine items_cons (it_e (ResQ.mono ?_ hq))
  simp only [eCall, hc]
  exact hv
section
variable {rec : Rec} {a : Fr} {h : Heap} {K : Fr → Heap → Prop} {L : List (Nat × Value)} {f : Fr} {dt : Nat} {x y : Sel} {l : List ISem} {sz m n c e by_ B : Nat} {o : Option Addr} {cs ds : List Value}
/-- append, and what it touches -/
theorem i_appF {t : Nat} {es : List Value} (hm : 0 < m) (hB : B ≤ h.next) (hx : x.f (puts L f) = .slice o n c) (hp : Ap B h e sz o n c cs) (hy : srcCells h.get sz (y.f (puts L f)) = some (m, ds)) (hd : ds.length = m * sz) (hbig : (n + m) * by_ ≤ 140737488355328)
    (ht : n + m = t) (he : cs ++ ds = es)
    (hq : ∀ h', h'.next = h.next + 1 → (∀ d, d < h.next → (∀ q, o = some q → d ≠ q.block ∨ q.spot = none) → h'.get d = h.get d) → Ap B h' e sz (some ⟨h.next, 0, some sz⟩) t t es → ItQ (runItems rec l (puts ((dt, (.slice (some ⟨h.next, 0, some sz⟩) t t)) :: L) f) h') K) : ItQ (runItems rec (iOp (put dt) (.e (eAppend e sz by_ x y)) :: l) (puts L f) h) K := by
  subst ht
  subst he
  obtain ⟨rfl, hr, ho⟩ := hp
  have hb1 : Nat.ble ((c + m) * by_) 140737488355328 = true := Nat.ble_eq_true_of_le hbig
  have hb2 : Nat.ble (c + m) c = false := by rw [← Bool.not_eq_true]; exact fun e => by have := Nat.le_of_ble_eq_true e; omega
  cases o with
  | none =>
    have hc0 : c = 0 := hr.2
    subst hc0
    have hcs : cs = [] := List.length_eq_zero_iff.1 (by simpa using hr.1)
    subst hcs
    refine i_e ⟨.slice (some ⟨h.next, 0, some sz⟩) (0 + m) (0 + m), h.new (.cells e ds (.own true)), ?_, hq _ rfl (fun d hd _ => by rw [Heap.get_new, if_neg (by omega)]) ⟨rfl, Row.new (by simp) (by simpa using hd) (.inr rfl), fun q hq' => .inr ⟨h.next, by cases hq'; rfl, hB, by rw [Heap.get_new, if_pos rfl]; rfl⟩⟩⟩
    simp only [eAppend, hx, hy, hb1, hb2, cond_true, cond_false]
    rfl
  | some q =>
    have hold : loadN h.get q (c * sz) = some cs := hr.2.2.2
    have hlen : (cs ++ ds).length = (c + m) * sz := by rw [List.length_append, hr.1, hd, Nat.add_mul]
    rcases ho q rfl with hs | ⟨b, rfl, hB', hg⟩
    · refine i_e ⟨.slice (some ⟨h.next, 0, some sz⟩) (c + m) (c + m), h.new (.cells e (cs ++ ds) (.own true)), ?_, hq _ rfl (fun d hd _ => by rw [Heap.get_new, if_neg (by omega)]) ⟨rfl, Row.new (by simp) hlen (.inr rfl), fun q hq' => .inr ⟨h.next, by cases hq'; rfl, hB, by rw [Heap.get_new, if_pos rfl]⟩⟩⟩
      simp only [eAppend, hx, hy, hb1, hb2, cond_true, cond_false, hold, hs]
      rfl
    · have hsz' : (Nat.beq sz sz && Nat.beq e e) = true := by simp
      refine i_e ⟨.slice (some ⟨h.next, 0, some sz⟩) (c + m) (c + m), (h.put b (.cells e cs .dead)).new (.cells e (cs ++ ds) (.own true)), ?_, hq _ rfl (fun d hd ho => ?_) ⟨rfl, Row.new (h := h.put b (.cells e cs .dead)) (by simp) hlen (.inr rfl), fun q hq' => .inr ⟨h.next, by cases hq'; rfl, hB, by rw [Heap.get_new, Heap.next_put, if_pos rfl]⟩⟩⟩
      · simp only [eAppend, hx, hy, hb1, hb2, cond_true, cond_false, hold, hg, hsz']
      · rcases ho _ rfl with h1 | h1
        · rw [Heap.get_new, Heap.next_put, if_neg (by omega), Heap.get_put, if_neg h1]
        · cases h1
end
end Vm

/-! What reads one parameter, walked. -/
set_option linter.unusedVariables false
namespace Vm
open Go
theorem finA2 {x1 x2 : Sel} {a : Fr} {h : Heap} {u : Addr} {k : Nat} {cs : List Value} {v2 : Value} {R : Value → Heap → Prop} (h1 : x1.f a = .pointer (some u)) (hl : loadN h.get u k = some cs) (h2 : x2.f a = v2) (hr : R (.tuple #[.agg cs.toArray, v2]) h) : Fin [.agg x1 k, .tmp x2] R .ret a h := by
  subst h2; exact ⟨.inr rfl, _, _, by simp only [rvs, rv, h1, hl], .inr ⟨by simp, rfl⟩, hr⟩
theorem finA3 {x1 x2 x3 : Sel} {a : Fr} {h : Heap} {u : Addr} {k : Nat} {cs : List Value} {v2 v3 : Value} {R : Value → Heap → Prop} (h1 : x1.f a = .pointer (some u)) (hl : loadN h.get u k = some cs) (h2 : x2.f a = v2) (h3 : x3.f a = v3) (hr : R (.tuple #[.agg cs.toArray, v2, v3]) h) : Fin [.agg x1 k, .tmp x2, .tmp x3] R .ret a h := by
  subst h2 h3; exact ⟨.inr rfl, _, _, by simp only [rvs, rv, h1, hl], .inr ⟨by simp, rfl⟩, hr⟩
theorem finO2 {x1 x2 : Sel} {a : Fr} {h : Heap} {u1 u2 : Addr} {v1 v2 : Value} {R : Value → Heap → Prop} (h1 : x1.f a = .pointer (some u1)) (l1 : load1 h.get u1 = some v1) (h2 : x2.f a = .pointer (some u2)) (l2 : load1 h.get u2 = some v2) (hr : R (.tuple #[v1, v2]) h) : Fin [.one x1, .one x2] R .ret a h :=
  ⟨.inr rfl, _, _, by simp only [rvs, rv, h1, l1, h2, l2], .inr ⟨by simp, rfl⟩, hr⟩
end Vm
namespace Go.Proofs.Ytdcllpjoejkpnaa
open Go Vm
/-- what stands behind a length: error, octets, the rest -/
def valE (n : Nat) (l : List UInt8) : Nat × List UInt8 × List UInt8 :=
  if n < 4 then (3, [], l) else if 1204 < n then (10, [], l) else
  if l.length < n - 4 then (2, [], l) else
  ((padR (l.drop (n - 4)) n).2, l.take (n - 4), (padR (l.drop (n - 4)) n).1)
theorem w_value {h : Heap} {b : Nat} {l : List UInt8} (hr : Rd h b l) (hlen : l.length ≤ 1000000) (k : Nat) (hk : k < 65536) {e : Nat} {t r : List UInt8} (he : valE k l = (e, t, r)) (n : Nat) (hn : 20 ≤ n) :
    ResQ (callN Try.prog G0 n (.call 104 [.pointer (some ⟨b, 0, none⟩), .int .i64 (k : Int)]) h) (fun v h' => KeepsB b h h' ∧ Rd h' b r ∧ ∃ o, v = .tuple #[.slice o t.length t.length, .int .i64 (e : Int)] ∧ Row h' 1 o t.length (u8s t) ∧ ∀ q, o = some q → h.next ≤ q.block) := by
  rw [valE] at he
  obtain ⟨n, rfl⟩ : ∃ m, n = m + 1 := ⟨n - 1, by omega⟩
  refine res_enter rfl d104 rfl ?_; simp only [c104]
  refine gg ?_
  by_cases h4 : k < 4
  · rw [if_pos h4] at he
    cases he
    refine gg ?_
    exact ⟨KeepsB.refl b h, hr, none, rfl, Row.nil _ _, fun q e => by cases e⟩
  rw [if_neg h4] at he
  by_cases h5 : 1204 < k
  · rw [if_pos h5] at he
    cases he
    refine gg ?_
    exact ⟨KeepsB.refl b h, hr, none, rfl, Row.nil _ _, fun q e => by cases e⟩
  rw [if_neg h5] at he
  refine gg ?_
  have et := takeR_nat l (k - 4)
  rw [show (((k - 4 : Nat)) : Int) = (k : Int) - 4 by omega] at et
  by_cases hs : l.length < k - 4
  · rw [if_pos hs] at he et
    cases he
    refine i_call2 (by exact sel_of rfl) (by exact sel_of rfl) (w_bytes hr hlen _ et n (by omega)) ?_
    rintro _ h1 ⟨kb, r1, o1, rfl, a1, fr⟩
    refine gg ?_
    exact ⟨kb, r1, none, rfl, Row.nil _ _, fun q e => by cases e⟩
  · rw [if_neg hs] at he et
    cases he
    refine i_call2 (by exact sel_of rfl) (by exact sel_of rfl) (w_bytes hr hlen _ et n (by omega)) ?_
    rintro _ h1 ⟨kb, r1, o1, rfl, a1, fr⟩
    refine gg ?_
    refine i_call2 (by exact sel_of rfl) (by exact sel_of rfl) (w_rpadR r1 (k : Int) (by omega) rfl n (by omega)) ?_
    rintro _ h2 ⟨kb2, nx, r2, rfl⟩
    refine gg ?_
    exact ⟨kb.trans kb2, r2, o1, rfl, a1.row.keepsB kb2 (fun q e => by have := fr q e; have := r1; obtain ⟨_, _, _, hb, _⟩ := hr; omega), fr⟩
/-- the first parameter: error, it, the rest -/
def oneE (l : List UInt8) : Nat × Prm × List UInt8 :=
  if l.length < 2 then (2, (0, []), l) else if l.length < 4 then (2, (0, []), l) else
  ((valE (num ((l.drop 2).take 2)) (l.drop 4)).1, (num (l.take 2), (valE (num ((l.drop 2).take 2)) (l.drop 4)).2.1), (valE (num ((l.drop 2).take 2)) (l.drop 4)).2.2)
def OneQ (h : Heap) (b : Nat) (l : List UInt8) (v : Value) (h' : Heap) : Prop :=
  KeepsB b h h' ∧ ∃ (p : Prm) (o : Option Addr) (c : Nat) (r : List UInt8), v = .tuple #[.agg #[.int .u16 (p.1 : Int), .slice o p.2.length c], .int .i64 ((oneE l).1 : Int)] ∧ Rd h' b r ∧ Pr h' p (.int .u16 (p.1 : Int)) (.slice o p.2.length c) ∧ (∀ q, o = some q → h.next ≤ q.block) ∧ ((oneE l).1 = 0 → p = (oneE l).2.1 ∧ r = (oneE l).2.2)
theorem _root_.Vm.KeepsB.putNew {b : Nat} {h h' : Heap} (k : KeepsB b h h') {c : Nat} (hc : h.next ≤ c) (x : Blk) : KeepsB b h (h'.put c x) := ⟨k.next, fun d hd hb => by rw [Heap.get_put, if_neg (by omega)]; exact k.get d hd hb⟩
theorem Row.top {h : Heap} {sz n : Nat} {o : Option Addr} {cs : List Value} (r : Row h sz o n cs) {c : Nat} (hc : ∀ q, o = some q → q.block ≠ c) (x : Blk) : Row (h.put c x) sz o n cs :=
  r.keepsB (b := c) ⟨Nat.le_refl _, fun d _ hd => by rw [Heap.get_put, if_neg hd]⟩ hc
theorem Rd.top {h : Heap} {b : Nat} {l : List UInt8} (r : Rd h b l) {c : Nat} (hc : b < c) (x : Blk) : Rd (h.put c x) b l := by
  obtain ⟨e, o, c', hb, hg, hrow, hc', hbel⟩ := r
  exact ⟨e, o, c', hb, by rw [Heap.get_put, if_neg (by omega)]; exact hg, Row.top hrow (fun q e => by have := hbel q e; omega) x, hc', hbel⟩
theorem i_storeP {rec : Rec} {L : List (Nat × Value)} {f : Fr} {h : Heap} {K : Fr → Heap → Prop} {x y : Sel} {l : List ISem} {b e n : Nat} {s : Option Nat} {cs vs : List Value} {op : Bool} (hx : x.f (puts L f) = .pointer (some ⟨b, 0, s⟩)) (hy : cellsL (y.f (puts L f)) = some vs) (hg : h.get b = some (.cells e cs (.own op))) (hv : vs.length = n) (hl : cs.length = n)
    (hq : ItQ (runItems rec l (puts L f) (h.put b (.cells e vs (.own op)))) K) : ItQ (runItems rec (iOp ⟨fun _ a => a⟩ (.e (eStore n x y)) :: l) (puts L f) h) K := by
  refine items_cons (it_e ⟨Vm.undef, h.put b (.cells e vs (.own op)), ?_, hq⟩)
  have h1 := storeN_own (s := s) (off := 0) (vs := vs) hg (by omega)
  rw [putAt_eq _ _ _ (Nat.zero_le _), List.take_zero, List.nil_append, Nat.zero_add, List.drop_eq_nil_of_le (by omega), List.append_nil] at h1
  simp only [eStore, hx, hy]
  rw [h1, hv, Nat.beq_refl]; rfl
theorem loadN_put {h : Heap} {b e n : Nat} {s : Option Nat} {vs : List Value} {op : Bool} (hn : vs.length = n) : loadN (h.put b (.cells e vs (.own op))).get ⟨b, 0, s⟩ n = some vs := by
  rw [loadN_of (q := ⟨b, 0, s⟩) (e := e) (l := vs) (st := .own op) (by rw [Heap.get_put, if_pos rfl]) (by simp) (by show 0 + n ≤ _; omega)]
  show some ((vs.drop 0).take n) = _
  rw [List.drop_zero, List.take_of_length_le (by omega)]
theorem OneQ.mk {h h2 : Heap} {b e : Nat} {l r : List UInt8} {p : Prm} {o : Option Addr} {c : Nat} {x : Blk} (k : KeepsB b h h2) (hb : b < h.next) (hr : Rd h2 b r) (hp : p.1 < 65536) (row : Row h2 1 o p.2.length (u8s p.2)) (hc : p.2.length ≤ c) (fr : ∀ q, o = some q → h.next < q.block) (he : (oneE l).1 = e) (hok : e = 0 → p = (oneE l).2.1 ∧ r = (oneE l).2.2) :
    OneQ h b l (.tuple #[.agg #[.int .u16 (p.1 : Int), .slice o p.2.length c], .int .i64 (e : Int)]) (h2.put h.next x) := by
  subst he
  exact ⟨k.putNew (Nat.le_refl _) _, p, o, c, r, rfl, Rd.top hr hb _, ⟨rfl, hp, o, _, c, rfl, Row.top row (fun q e => by have := fr q e; omega) _, hc⟩, fun q e => Nat.le_of_lt (fr q e), hok⟩
theorem num_two (l : List UInt8) : num (l.take 2) < 65536 := by
  have h1 := num_lt (l.take 2)
  have h2 : (l.take 2).length ≤ 2 := by rw [List.length_take]; omega
  exact Nat.lt_of_lt_of_le h1 (Nat.pow_le_pow_right (by omega) h2)
set_option maxHeartbeats 1000000 in
theorem w_one {h : Heap} {b : Nat} {l : List UInt8} (hr : Rd h b l) (hlen : l.length ≤ 1000000) (n : Nat) (hn : 30 ≤ n) :
    ResQ (callN Try.prog G0 n (.call 103 [.pointer (some ⟨b, 0, none⟩)]) h) (OneQ h b l) := by
  have hb : b < h.next := by obtain ⟨e, o, c, hb, _⟩ := hr; exact hb
  obtain ⟨n, rfl⟩ : ∃ m, n = m + 1 := ⟨n - 1, by omega⟩
  refine res_enter rfl d103 rfl ?_; simp only [c103]
  refine gg ?_
  have k1 : Keeps h (h.new (.cells 58 [.int .u16 0, .slice none 0 0] (.own false))) := Keeps.new h _
  have g1 : (h.new (.cells 58 [.int .u16 0, .slice none 0 0] (.own false))).get h.next = some (.cells 58 [.int .u16 0, .slice none 0 0] (.own false)) := by rw [Heap.get_new, if_pos rfl]
  have x1 : h.next < (h.new (.cells 58 [.int .u16 0, .slice none 0 0] (.own false))).next := Nat.lt_succ_self _
  have r1 := hr.keeps k1
  have hnb : h.next ≠ b := by omega
  generalize h.new (.cells 58 [.int .u16 0, .slice none 0 0] (.own false)) = h1 at *
  by_cases hl2 : l.length < 2
  · have eg : getR l 2 = (0, l, 2) := by rw [getR, if_pos hl2]
    refine i_call1 (by exact sel_of rfl) (w_get16 r1 eg n (by omega)) ?_
    rintro _ h2 ⟨kb, nx, r2, rfl⟩
    have g2 := (kb.get _ x1 hnb).trans g1
    refine gg ?_
    refine i_storeP (vs := [.int .u16 0, .slice none 0 0]) (by exact sel_of rfl) (by rfl) g2 rfl rfl ?_
    refine gg ?_
    refine finA2 (by exact sel_of rfl) (loadN_put rfl) (by exact sel_of rfl) ?_
    have he : oneE l = (2, (0, []), l) := by rw [oneE, if_pos hl2]
    exact OneQ.mk (p := (0, [])) ((k1.but b).trans kb) hb r2 (by decide) (Row.nil _ _) (Nat.le_refl _) (fun q e => by cases e) (by rw [he]) (fun e => by cases e)
  have eg : getR l 2 = (num (l.take 2), l.drop 2, 0) := by rw [getR, if_neg hl2]
  have hn1 := num_two l
  refine i_call1 (by exact sel_of rfl) (w_get16 r1 eg n (by omega)) ?_
  rintro _ h2 ⟨kb, nx, r2, rfl⟩
  have g2 := (kb.get _ x1 hnb).trans g1
  have x2 : h.next < h2.next := by omega
  refine gg ?_
  by_cases hl4 : l.length < 4
  · have eg2 : getR (l.drop 2) 2 = (0, l.drop 2, 2) := by rw [getR, if_pos (by rw [List.length_drop]; omega)]
    refine i_call1 (by exact sel_of rfl) (w_get16 r2 eg2 n (by omega)) ?_
    rintro _ h3 ⟨kb3, nx3, r3, rfl⟩
    have g3 := (kb3.get _ x2 hnb).trans g2
    refine gg ?_
    refine i_storeP (vs := [.int .u16 0, .slice none 0 0]) (by exact sel_of rfl) (by rfl) g3 rfl rfl ?_
    refine gg ?_
    refine finA2 (by exact sel_of rfl) (loadN_put rfl) (by exact sel_of rfl) ?_
    have he : oneE l = (2, (0, []), l) := by rw [oneE, if_neg hl2, if_pos hl4]
    exact OneQ.mk (p := (0, [])) (((k1.but b).trans kb).trans kb3) hb r3 (by decide) (Row.nil _ _) (Nat.le_refl _) (fun q e => by cases e) (by rw [he]) (fun e => by cases e)
  have eg2 : getR (l.drop 2) 2 = (num ((l.drop 2).take 2), l.drop 4, 0) := by rw [getR, if_neg (by rw [List.length_drop]; omega), List.drop_drop]
  have hn2 := num_two (l.drop 2)
  refine i_call1 (by exact sel_of rfl) (w_get16 r2 eg2 n (by omega)) ?_
  rintro _ h3 ⟨kb3, nx3, r3, rfl⟩
  have g3 := (kb3.get _ x2 hnb).trans g2
  have x3 : h.next < h3.next := by omega
  refine gg ?_
  have he : oneE l = ((valE (num ((l.drop 2).take 2)) (l.drop 4)).1, (num (l.take 2), (valE (num ((l.drop 2).take 2)) (l.drop 4)).2.1), (valE (num ((l.drop 2).take 2)) (l.drop 4)).2.2) := by rw [oneE, if_neg hl2, if_neg hl4]
  rcases ev : valE (num ((l.drop 2).take 2)) (l.drop 4) with ⟨e, t, r⟩
  rw [ev] at he
  refine i_call2 (by exact sel_of rfl) (by exact sel_of rfl) (w_value r3 (by rw [List.length_drop]; omega) _ hn2 ev n (by omega)) ?_
  rintro _ h4 ⟨kb4, r4, o4, rfl, row4, fr4⟩
  have g4 := (kb4.get _ x3 hnb).trans g3
  refine gg ?_
  refine i_storeP (vs := [.int .u16 (num (l.take 2) : Int), .slice o4 t.length t.length]) (by exact sel_of rfl) (by rfl) g4 rfl rfl ?_
  refine gg ?_
  refine finA2 (by exact sel_of rfl) (loadN_put rfl) (by exact sel_of rfl) ?_
  exact OneQ.mk (p := (num (l.take 2), t)) ((((k1.but b).trans kb).trans kb3).trans kb4) hb r4 hn1 row4 (Nat.le_refl _) (fun q e => by have := fr4 q e; omega) (by rw [he]) (fun _ => by rw [he]; exact ⟨rfl, rfl⟩)
end Go.Proofs.Ytdcllpjoejkpnaa

/-! The rounds of tlv.Decode, walked. -/
set_option linter.unusedVariables false
namespace Go.Proofs.Ytdcllpjoejkpnaa
open Go Vm
theorem row_low {h h' : Heap} {sz n : Nat} {o : Option Addr} {cs : List Value} (r : Row h sz o n cs) (hn : h.next ≤ h'.next) (hg : ∀ q, o = some q → h'.get q.block = h.get q.block) : Row h' sz o n cs := by
  obtain ⟨h1, h2⟩ := r
  refine ⟨h1, ?_⟩
  cases o with
  | none => exact h2
  | some q =>
    obtain ⟨h3, h4, h5⟩ := h2
    refine ⟨Nat.lt_of_lt_of_le h3 hn, h4, ?_⟩
    obtain ⟨e, l, st, g, hst, hlen, hcs⟩ := loadN_dead h5
    rw [loadN_of (q := q) (by rw [hg q rfl]; exact g) hst hlen, hcs]
theorem rd_low {h h' : Heap} {b : Nat} {l : List UInt8} (r : Rd h b l) (hn : h.next ≤ h'.next) (hg : ∀ d, d ≤ b → h'.get d = h.get d) : Rd h' b l := by
  obtain ⟨e, o, c', hb, hg', hrow, hc', hbel⟩ := r
  exact ⟨e, o, c', Nat.lt_of_lt_of_le hb hn, (hg b (Nat.le_refl _)).trans hg', row_low hrow hn (fun q e => hg _ (Nat.le_of_lt (hbel q e))), hc', hbel⟩
theorem prl_low {h h' : Heap} (hn : h.next ≤ h'.next) : ∀ {l : List Prm} {cs : List Value}, PrL h l cs → (∀ q m c, Value.slice (some q) m c ∈ cs → q.block < h.next → h'.get q.block = h.get q.block) → PrL h' l cs
  | [], [], _, _ => trivial
  | p :: l, x :: y :: r, ⟨⟨h1, h2, o, m, c, h3, h4, h5⟩, hr⟩, hg => by
    refine ⟨⟨h1, h2, o, m, c, h3, row_low h4 hn (fun q e => hg q m c (by rw [h3, e]; simp) ?_), h5⟩, prl_low hn hr (fun q m c hm => hg q m c (by simp [hm]))⟩
    subst e; exact h4.2.1
theorem prl_snoc {h : Heap} {p : Prm} {x y : Value} (hp : Pr h p x y) : ∀ {l : List Prm} {cs : List Value}, PrL h l cs → PrL h (l ++ [p]) (cs ++ [x, y])
  | [], [], _ => ⟨hp, trivial⟩
  | q :: l, x' :: y' :: r, ⟨h1, h2⟩ => ⟨h1, prl_snoc hp h2⟩
theorem prl_mem {h : Heap} {q : Addr} {m c : Nat} : ∀ {l : List Prm} {cs : List Value}, PrL h l cs → Value.slice (some q) m c ∈ cs → q.block < h.next
  | [], [], _, hm => by simp at hm
  | p :: l, x :: y :: r, ⟨⟨h1, h2, o, m, c, h3, h4, h5⟩, hr⟩, hm => by
    simp only [List.mem_cons] at hm
    rcases hm with e | e | e
    · rw [h1] at e; cases e
    · rw [h3] at e; cases e; exact h4.2.1
    · exact prl_mem hr e
theorem row_putNB {h : Heap} {c e m : Nat} {v v' : Value} {op : Bool} {o : Option Addr} {l : List UInt8} (r : Row h 1 o m (u8s l)) (hg : h.get c = some (.cells e [v] (.own op))) (hv : ∀ n, v ≠ .int .u8 n) : Row (h.put c (.cells e [v'] (.own op))) 1 o m (u8s l) := by
  cases o with
  | none => exact Row.top r (fun q e => by cases e) _
  | some q =>
    by_cases hb : q.block = c
    · obtain ⟨h1, h2, h3, h4⟩ := r
      obtain ⟨e', l', st, g, hst, hlen, hcs⟩ := loadN_dead h4
      rw [hb, hg] at g
      cases g
      have hm : m = 0 := by
        rcases Nat.eq_zero_or_pos m with hm | hm
        · exact hm
        · exfalso
          simp only [List.length_cons, List.length_nil, Nat.mul_one] at hlen
          have h0 : q.off = 0 := by omega
          rw [h0, List.drop_zero, List.take_of_length_le (by simp only [List.length_cons, List.length_nil]; omega)] at hcs
          cases l with
          | nil => rw [u8s_eq] at hcs; cases hcs
          | cons x l => rw [u8s_eq] at hcs; simp at hcs; exact hv _ hcs.1.symm
      subst hm
      refine ⟨h1, h2, h3, ?_⟩
      rw [loadN_of (q := q) (e := e) (l := [v']) (st := .own op) (by rw [hb, Heap.get_put, if_pos rfl]) (by simp) (by simpa using hlen), hcs]
      simp
    · exact Row.top r (fun q' e => by cases e; exact hb) _
theorem rd_putNB {h : Heap} {b c e : Nat} {v v' : Value} {op : Bool} {l : List UInt8} (r : Rd h b l) (hg : h.get c = some (.cells e [v] (.own op))) (hv : ∀ n, v ≠ .int .u8 n) (hbc : b ≠ c) : Rd (h.put c (.cells e [v'] (.own op))) b l := by
  obtain ⟨e', o, c', hb, hg', hrow, hc', hbel⟩ := r
  exact ⟨e', o, c', hb, by rw [Heap.get_put, if_neg hbc]; exact hg', row_putNB hrow hg hv, hc', hbel⟩
/-- the state between two rounds -/
structure St (h0 : Heap) (a : Fr) (B b X L : Nat) (h : Heap) (acc : List Prm) (l : List UInt8) : Prop where
  ord : h0.next ≤ B ∧ B + 2 < b ∧ b < X ∧ X < L ∧ L < h.next
  fr : Sl [(2, .pointer (some ⟨B, 0, none⟩)), (3, .pointer (some ⟨B + 1, 0, none⟩)), (4, .pointer (some ⟨B + 2, 0, none⟩))] a
  keep : Keeps h0 h
  c2 : h.get B = some (.cells 30 [.slice none 0 0] (.own false))
  c3 : h.get (B + 1) = some (.cells 37 [.int .i64 0] (.own false))
  rd : Rd h b l
  bx : h.get X = some (.cells 75 [.pointer (some ⟨b, 0, none⟩)] (.own false))
  lp : h.get L = some (.loop 20 [10, 11] k99_0.1 k99_0.2 a .ready none)
  out : ∃ o cs, h.get (B + 2) = some (.cells 30 [.slice o acc.length acc.length] (.own false)) ∧ Ap (L + 1) h 58 2 o acc.length acc.length cs ∧ PrL h acc cs ∧ (∀ q m c, Value.slice (some q) m c ∈ cs → L < q.block ∧ ∀ q', o = some q' → q.block ≠ q'.block) ∧ (∀ q, o = some q → q.spot ≠ none)
/-- the reader has read on -/
theorem St.next {h0 : Heap} {a : Fr} {B b X L : Nat} {h h' : Heap} {acc : List Prm} {l r : List UInt8} (s : St h0 a B b X L h acc l) (k : KeepsB b h h') (hr : Rd h' b r) : St h0 a B b X L h' acc r := by
  obtain ⟨⟨h1, h2, h3, h4, h5⟩, fr, keep, c2, c3, rd, bx, lp, o, cs, g4, ap, prl, apart, spot⟩ := s
  refine ⟨⟨h1, h2, h3, h4, Nat.lt_of_lt_of_le h5 k.next⟩, fr, k.new (by omega) keep, (k.get _ (by omega) (by omega)).trans c2, (k.get _ (by omega) (by omega)).trans c3, hr, (k.get _ (by omega) (by omega)).trans bx, (k.get _ h5 (by omega)).trans lp, o, cs, (k.get _ (by omega) (by omega)).trans g4, ?_, ?_, apart, spot⟩
  · obtain ⟨e1, row, hq⟩ := ap
    have hall : ∀ q, o = some q → q.block < h.next ∧ q.block ≠ b := fun q e => by
      subst e
      rcases hq q rfl with e | ⟨k', e2, e3, _⟩
      · exact absurd e (spot q rfl)
      · have := row.2.1; rw [e2] at this ⊢; exact ⟨this, by show k' ≠ b; omega⟩
    exact ⟨e1, row_low row k.next (fun q e => k.get _ (hall q e).1 (hall q e).2), fun q e => (hq q e).imp id fun ⟨k', e1, e2, e3⟩ => ⟨k', e1, e2, by rw [k.get k' (by have := (hall q e).1; rw [e1] at this; exact this) (by omega)]; exact e3⟩⟩
  · exact prl_low k.next prl (fun q m c hm hlt => k.get _ hlt (by have := (apart q m c hm).1; omega))
set_option maxHeartbeats 1000000 in
theorem w_round {h0 h : Heap} {a : Fr} {B b X L : Nat} {acc : List Prm} {l : List UInt8} (s : St h0 a B b X L h acc l) {p : Prm} {o1 : Option Addr} {c1 : Nat} (hp : Pr h p (.int .u16 (p.1 : Int)) (.slice o1 p.2.length c1)) (hv : ∀ q, o1 = some q → L < q.block ∧ ∀ (o : Option Addr) m c, h.get (B + 2) = some (.cells 30 [.slice o m c] (.own false)) → ∀ q', o = some q' → q.block ≠ q'.block) (hlen : acc.length ≤ 1000) (n : Nat) (hn : 2 ≤ n) :
    ResQ (callN Try.prog G0 n (.yield L [.agg #[.int .u16 (p.1 : Int), .slice o1 p.2.length c1], .int .i64 0]) h) (fun v h' => v = .bool true ∧ St h0 a B b X L h' (acc ++ [p]) l) := by
  obtain ⟨⟨b1, b2, b3, b4, b5⟩, fr, keep, c2, c3, rd, bx, lp, o, cs, g4, ap, prl, apart, spot⟩ := s
  have frs := fr
  obtain ⟨n, rfl⟩ : ∃ m, n = m + 1 := ⟨n - 1, by omega⟩
  refine res_yield lp rfl ea99_0 eb99_0 ?_
  obtain ⟨f0, hfa⟩ := fr.puts
  rw [show setAll [10, 11] [.agg #[.int .u16 (p.1 : Int), .slice o1 p.2.length c1], .int .i64 0] a = puts [(11, .int .i64 0), (10, .agg #[.int .u16 (p.1 : Int), .slice o1 p.2.length c1]), (2, .pointer (some ⟨B, 0, none⟩)), (3, .pointer (some ⟨B + 1, 0, none⟩)), (4, .pointer (some ⟨B + 2, 0, none⟩))] f0 by rw [hfa]; rfl]
  simp only [a99_0]
  refine gg ?_
  refine i_storeP (vs := [.int .u16 (p.1 : Int), .slice o1 p.2.length c1]) (by exact sel_of rfl) (by rfl) (by rw [Heap.get_new, if_pos rfl]) rfl rfl ?_
  refine gg ?_
  have harr : ∀ q, o = some q → L < q.block ∧ q.block < h.next := fun q e => by
    subst e
    rcases ap.2.2 q rfl with e | ⟨k', e2, e3, _⟩
    · exact absurd e (spot q rfl)
    · have := ap.row.2.1; rw [e2] at this ⊢; exact ⟨e3, this⟩
  refine YA.mk (by rw [Heap.get_put, if_neg (by omega), Heap.get_new, if_neg (by omega)]; exact lp) ?_
  simp only [b99_0]
  generalize hh : (((h.new (.cells 58 [.int .u16 0, .slice none 0 0] (.own false))).put h.next (.cells 58 [.int .u16 (p.1 : Int), .slice o1 p.2.length c1] (.own false))).put L (.loop 20 [10, 11] k99_0.1 k99_0.2 a .busy none)) = h3
  have n3 : h3.next = h.next + 1 := by rw [← hh]; rfl
  have e3 : ∀ d, d < h.next → d ≠ L → h3.get d = h.get d := fun d hd hL => by rw [← hh, Heap.get_put, if_neg hL, Heap.get_put, if_neg (by omega), Heap.get_new, if_neg (by omega)]
  have e3x : h3.get h.next = some (.cells 58 [.int .u16 (p.1 : Int), .slice o1 p.2.length c1] (.own false)) := by rw [← hh, Heap.get_put, if_neg (by omega), Heap.get_put, if_pos rfl]
  have e3L : h3.get L = some (.loop 20 [10, 11] k99_0.1 k99_0.2 a .busy none) := by rw [← hh, Heap.get_put, if_pos rfl]
  clear hh
  refine gg ?_
  refine i_load1 (v := .slice o acc.length acc.length) (by exact sel_of rfl) (by rw [load1_own (b := B + 2) ((e3 _ (by omega) (by omega)).trans g4)]; rfl) ?_
  refine i_loadN (v := [.int .u16 (p.1 : Int), .slice o1 p.2.length c1]) (by exact sel_of rfl) (by rw [loadN_of (q := ⟨h.next, 0, none⟩) e3x (by simp) (by simp)]; rfl) ?_
  refine i_bslice (cs := [.int .u16 (p.1 : Int), .slice o1 p.2.length c1]) (by rfl) ?_
  have e4 : ∀ d, d < h3.next → (h3.new (.cells 58 [.int .u16 (p.1 : Int), .slice o1 p.2.length c1] (.own false))).get d = h3.get d := fun d hd => by rw [Heap.get_new, if_neg (by omega)]
  have n4 : (h3.new (.cells 58 [.int .u16 (p.1 : Int), .slice o1 p.2.length c1] (.own false))).next = h.next + 2 := by rw [Heap.next_new, n3]
  have src4 : srcCells (h3.new (.cells 58 [.int .u16 (p.1 : Int), .slice o1 p.2.length c1] (.own false))).get 2 (.slice (some ⟨h3.next, 0, none⟩) 1 1) = some (1, [.int .u16 (p.1 : Int), .slice o1 p.2.length c1]) := (Row.new (by simp) rfl (.inl rfl)).src (c := 1)
  generalize (h3.new (.cells 58 [.int .u16 (p.1 : Int), .slice o1 p.2.length c1] (.own false))) = h4 at *
  have ap4 : Ap (L + 1) h4 58 2 o acc.length acc.length cs := by
    refine ⟨ap.1, row_low ap.row (by omega) (fun q e => ?_), fun q e => (ap.2.2 q e).imp id fun ⟨k', e1, e2, e5⟩ => ⟨k', e1, e2, ?_⟩⟩
    · have := harr q e
      rw [e4 _ (by omega), e3 _ (by omega) (by omega)]
    · have := harr q e
      rw [e1] at this
      have h1 : k' < h.next := this.2
      rw [e4 _ (by omega), e3 _ h1 (by omega)]; exact e5
  refine i_appF (B := L + 1) (m := 1) (t := acc.length + 1) (es := cs ++ [.int .u16 (p.1 : Int), .slice o1 p.2.length c1]) (by decide) (by omega) (by exact sel_of rfl) ap4 src4 rfl (by omega) rfl rfl fun h5 n5 k5 a5 => ?_
  have e5 : ∀ d, d < h.next → d ≠ L → (∀ q, o = some q → d ≠ q.block) → h5.get d = h.get d := fun d hd hL ho => by
    rw [k5 d (by omega) (fun q e => .inl (ho q e)), e4 d (by omega), e3 d hd hL]
  have hB2 : h5.get (B + 2) = some (.cells 30 [.slice o acc.length acc.length] (.own false)) := (e5 _ (by omega) (by omega) (fun q e => by have := harr q e; omega)).trans g4
  refine i_storeP (vs := [.slice (some ⟨h4.next, 0, some 2⟩) (acc.length + 1) (acc.length + 1)]) (by exact sel_of rfl) (by rfl) hB2 rfl rfl ?_
  refine gg ?_
  have e5L : h5.get L = some (.loop 20 [10, 11] k99_0.1 k99_0.2 a .busy none) := by
    rw [k5 L (by omega) (fun q e => .inl (by have := harr q e; omega)), e4 L (by omega)]; exact e3L
  refine YB.go (by rw [Heap.get_put, if_neg (by omega)]; exact e5L) ⟨rfl, ?_⟩
  generalize hh : ((h5.put (B + 2) (.cells 30 [.slice (some ⟨h4.next, 0, some 2⟩) (acc.length + 1) (acc.length + 1)] (.own false))).put L (.loop 20 [10, 11] k99_0.1 k99_0.2 a .ready none)) = h6
  have n6 : h6.next = h.next + 3 := by rw [← hh, Heap.next_put, Heap.next_put]; omega
  have e65 : ∀ d, d ≠ L → d ≠ B + 2 → h6.get d = h5.get d := fun d h1 h2 => by rw [← hh, Heap.get_put, if_neg h1, Heap.get_put, if_neg h2]
  have e6 : ∀ d, d < h.next → d ≠ L → d ≠ B + 2 → (∀ q, o = some q → d ≠ q.block) → h6.get d = h.get d := fun d hd h1 h2 ho => by rw [e65 d h1 h2, e5 d hd h1 ho]
  have low : ∀ d, d < L → d ≠ B + 2 → h6.get d = h.get d := fun d hd h2 => e6 d (by omega) (by omega) h2 (fun q e => by have := harr q e; omega)
  have prl2 := prl_snoc hp prl
  have apart2 : ∀ q m c, Value.slice (some q) m c ∈ cs ++ [.int .u16 (p.1 : Int), .slice o1 p.2.length c1] → L < q.block ∧ ∀ q', o = some q' → q.block ≠ q'.block := fun q m c hm => by
    rw [List.mem_append] at hm
    rcases hm with hm | hm
    · exact apart q m c hm
    · simp only [List.mem_cons, List.not_mem_nil, or_false] at hm
      rcases hm with hm | hm
      · cases hm
      · cases hm
        have := hv q rfl
        exact ⟨this.1, this.2 o _ _ g4⟩
  have hlen2 : (acc ++ [p]).length = acc.length + 1 := by simp
  refine ⟨⟨b1, b2, b3, b4, by omega⟩, frs, ⟨by have := keep.next; omega, fun d hd => (low d (by omega) (by omega)).trans (keep.get d hd)⟩, (low _ (by omega) (by omega)).trans c2, (low _ (by omega) (by omega)).trans c3, ?_, (low _ (by omega) (by omega)).trans bx, by rw [← hh, Heap.get_put, if_pos rfl], some ⟨h4.next, 0, some 2⟩, cs ++ [.int .u16 (p.1 : Int), .slice o1 p.2.length c1], ?_, ?_, ?_, ?_, ?_⟩
  · have rd5 : Rd h5 b l := rd_low rd (by omega) (fun d hd => e5 d (by omega) (by omega) (fun q e => by have := harr q e; omega))
    rw [← hh]
    exact Rd.top (rd_putNB rd5 hB2 (fun n e => by cases e) (by omega)) (by omega) _
  · rw [hlen2, ← hh, Heap.get_put, if_neg (by omega), Heap.get_put, if_pos rfl]
  · rw [hlen2]
    refine ⟨rfl, row_low a5.row (by omega) (fun q e => by cases e; exact e65 _ (by show h4.next ≠ L; omega) (by show h4.next ≠ B + 2; omega)), fun q e => ?_⟩
    cases e
    rcases a5.2.2 _ rfl with e | ⟨k', e1, e2, e7⟩
    · cases e
    · cases e1
      exact .inr ⟨h4.next, rfl, by omega, (e65 _ (by omega) (by omega)).trans e7⟩
  · refine prl_low (by omega) prl2 (fun q m c hm hlt => ?_)
    have := apart2 q m c hm
    exact e6 _ hlt (by omega) (by omega) (fun q' e => this.2 q' e)
  · intro q m c hm
    refine ⟨(apart2 q m c hm).1, fun q' e => ?_⟩
    cases e
    have := prl_mem prl2 hm
    show q.block ≠ h4.next
    omega
  · intro q e; cases e; simp
end Go.Proofs.Ytdcllpjoejkpnaa

/-! tlv.Decode, walked. -/
set_option linter.unusedVariables false
namespace Go.Proofs.Ytdcllpjoejkpnaa
open Go Vm
/-- the loop was left by a return with an error -/
def Bad (h0 : Heap) (a : Fr) (B L e : Nat) (h : Heap) : Prop := Keeps h0 h ∧ h.get B = some (.cells 30 [.slice none 0 0] (.own false)) ∧ h.get (B + 1) = some (.cells 37 [.int .i64 (e : Int)] (.own false)) ∧ h.get L = some (.loop 20 [10, 11] k99_0.1 k99_0.2 a .done (some .ret)) ∧ L < h.next ∧ B + 1 < L ∧ h0.next ≤ B
set_option maxHeartbeats 1000000 in
theorem w_roundBad {h0 h : Heap} {a : Fr} {B b X L : Nat} {acc : List Prm} {l : List UInt8} (s : St h0 a B b X L h acc l) {j m c e : Nat} {o1 : Option Addr} (he : e ≠ 0) (n : Nat) (hn : 2 ≤ n) :
    ResQ (callN Try.prog G0 n (.yield L [.agg #[.int .u16 (j : Int), .slice o1 m c], .int .i64 (e : Int)]) h) (fun v h' => v = .bool false ∧ Bad h0 a B L e h') := by
  obtain ⟨⟨b1, b2, b3, b4, b5⟩, fr, keep, c2, c3, rd, bx, lp, o, cs, g4, ap, prl, apart, spot⟩ := s
  obtain ⟨n, rfl⟩ : ∃ m, n = m + 1 := ⟨n - 1, by omega⟩
  refine res_yield lp rfl ea99_0 eb99_0 ?_
  obtain ⟨f0, hfa⟩ := fr.puts
  rw [show setAll [10, 11] [.agg #[.int .u16 (j : Int), .slice o1 m c], .int .i64 (e : Int)] a = puts [(11, .int .i64 (e : Int)), (10, .agg #[.int .u16 (j : Int), .slice o1 m c]), (2, .pointer (some ⟨B, 0, none⟩)), (3, .pointer (some ⟨B + 1, 0, none⟩)), (4, .pointer (some ⟨B + 2, 0, none⟩))] f0 by rw [hfa]; rfl]
  simp only [a99_0]
  refine gg ?_
  refine i_storeP (vs := [.int .u16 (j : Int), .slice o1 m c]) (by exact sel_of rfl) (by rfl) (by rw [Heap.get_new, if_pos rfl]) rfl rfl ?_
  refine gg ?_
  refine YA.mk (by rw [Heap.get_put, if_neg (by omega), Heap.get_new, if_neg (by omega)]; exact lp) ?_
  simp only [b99_0]
  generalize hh : (((h.new (.cells 58 [.int .u16 0, .slice none 0 0] (.own false))).put h.next (.cells 58 [.int .u16 (j : Int), .slice o1 m c] (.own false))).put L (.loop 20 [10, 11] k99_0.1 k99_0.2 a .busy none)) = h3
  have n3 : h3.next = h.next + 1 := by rw [← hh]; rfl
  have e3 : ∀ d, d < h.next → d ≠ L → h3.get d = h.get d := fun d hd hL => by rw [← hh, Heap.get_put, if_neg hL, Heap.get_put, if_neg (by omega), Heap.get_new, if_neg (by omega)]
  have e3L : h3.get L = some (.loop 20 [10, 11] k99_0.1 k99_0.2 a .busy none) := by rw [← hh, Heap.get_put, if_pos rfl]
  clear hh
  refine gg ?_
  refine i_storeP (vs := [.slice none 0 0]) (by exact sel_of rfl) (by rfl) ((e3 _ (by omega) (by omega)).trans c2) rfl rfl ?_
  refine i_storeP (vs := [.int .i64 (e : Int)]) (by exact sel_of rfl) (by rfl) (by rw [Heap.get_put, if_neg (by omega)]; exact (e3 _ (by omega) (by omega)).trans c3) rfl rfl ?_
  refine gg ?_
  refine YB.ret (by rw [Heap.get_put, if_neg (by omega), Heap.get_put, if_neg (by omega)]; exact e3L) ⟨rfl, ⟨by have := keep.next; simp only [Heap.next_put]; omega, fun d hd => ?_⟩, ?_, ?_, ?_, ?_, by omega, b1⟩
  · rw [Heap.get_put, if_neg (by omega), Heap.get_put, if_neg (by omega), Heap.get_put, if_neg (by omega), e3 d (by have := keep.next; omega) (by omega)]; exact keep.get d hd
  · rw [Heap.get_put, if_neg (by omega), Heap.get_put, if_neg (by omega), Heap.get_put, if_pos rfl]
  · rw [Heap.get_put, if_neg (by omega), Heap.get_put, if_pos rfl]
  · rw [Heap.get_put, if_pos rfl]
  · simp only [Heap.next_put]; omega
theorem padR_len (l : List UInt8) (k : Int) : (padR l k).1.length ≤ l.length := by
  unfold padR
  split
  · simp
  · split
    · simp
    · split <;> simp
theorem valE_len (n : Nat) (l : List UInt8) : (valE n l).2.2.length ≤ l.length := by
  unfold valE
  split
  · simp
  · split
    · simp
    · split
      · simp
      · have := padR_len (l.drop (n - 4)) n
        rw [List.length_drop] at this
        show (padR _ _).1.length ≤ _
        omega
theorem oneE_len (l : List UInt8) : (oneE l).2.2.length ≤ l.length := by
  unfold oneE
  split
  · simp
  · split
    · simp
    · have := valE_len (num ((l.drop 2).take 2)) (l.drop 4)
      rw [List.length_drop] at this
      show (valE _ _).2.2.length ≤ _
      omega
/-- octets as parameters; so many more may be -/
def decA : Nat → List UInt8 → Nat × List Prm
  | 0, l => if l = [] then (0, []) else (10, [])
  | j + 1, l => if l = [] then (0, []) else if (oneE l).1 ≠ 0 then ((oneE l).1, []) else if (decA j (oneE l).2.2).1 ≠ 0 then ((decA j (oneE l).2.2).1, []) else (0, (oneE l).2.1 :: (decA j (oneE l).2.2).2)
def decL (l : List UInt8) : Nat × List Prm := decA 32 l
/-- what was read and what is to be read -/
def Split (l : List UInt8) (acc : List Prm) (r : List UInt8) : Prop := decL l = if (decA (32 - acc.length) r).1 ≠ 0 then ((decA (32 - acc.length) r).1, []) else (0, acc ++ (decA (32 - acc.length) r).2)
theorem decA_nil (j : Nat) : decA j [] = (0, []) := by cases j <;> simp [decA]
theorem decA_bad (j : Nat) (l : List UInt8) (h : (decA j l).1 ≠ 0) : (decA j l).2 = [] := by
  cases j with
  | zero => unfold decA; split <;> rfl
  | succ j =>
    unfold decA at h ⊢
    split
    · rfl
    · split
      · rfl
      · split
        · rfl
        · rename_i h1 h2 h3
          rw [if_neg h1, if_neg h2, if_neg h3] at h
          exact absurd rfl h
theorem Split.init (l : List UInt8) : Split l [] l := by
  show decA 32 l = _
  by_cases h : (decA (32 - ([] : List Prm).length) l).1 ≠ 0
  · rw [if_pos h]
    have := decA_bad _ _ h
    exact Prod.ext rfl this
  · rw [if_neg h]
    exact Prod.ext (by simpa using h) rfl
theorem Split.step {l r : List UInt8} {acc : List Prm} (s : Split l acc r) (hr : r ≠ []) (ha : acc.length < 32) (he : (oneE r).1 = 0) : Split l (acc ++ [(oneE r).2.1]) (oneE r).2.2 := by
  unfold Split at s ⊢
  rw [s, List.length_append, List.length_singleton]
  obtain ⟨j, hj⟩ : ∃ j, 32 - acc.length = j + 1 := ⟨31 - acc.length, by omega⟩
  rw [hj, show 32 - (acc.length + 1) = j by omega]
  have he' : ¬(oneE r).1 ≠ 0 := fun h => h he
  rw [decA, if_neg hr, if_neg he']
  by_cases h : (decA j (oneE r).2.2).1 ≠ 0
  · simp only [if_pos h]
  · simp only [if_neg h]; simp
theorem Split.bad {l r : List UInt8} {acc : List Prm} (s : Split l acc r) (hr : r ≠ []) (ha : acc.length < 32) (he : (oneE r).1 ≠ 0) : decL l = ((oneE r).1, []) := by
  unfold Split at s
  obtain ⟨j, hj⟩ : ∃ j, 32 - acc.length = j + 1 := ⟨31 - acc.length, by omega⟩
  rw [hj, decA, if_neg hr, if_pos he] at s
  rw [s, if_pos he]
theorem Split.large {l r : List UInt8} {acc : List Prm} (s : Split l acc r) (hr : r ≠ []) (ha : acc.length = 32) : decL l = (10, []) := by
  unfold Split at s
  rw [ha, show 32 - 32 = 0 from rfl, decA, if_neg hr] at s
  rw [s]; rfl
theorem Split.done {l : List UInt8} {acc : List Prm} (s : Split l acc []) : decL l = (0, acc) := by
  unfold Split at s
  rw [decA_nil] at s
  rw [s]; simp
theorem St.arr {h0 h : Heap} {a : Fr} {B b X L : Nat} {acc : List Prm} {l : List UInt8} (s : St h0 a B b X L h acc l) {o : Option Addr} {m c : Nat} (hg : h.get (B + 2) = some (.cells 30 [.slice o m c] (.own false))) {q : Addr} (e : o = some q) : q.block < h.next := by
  obtain ⟨_, _, _, _, _, _, _, _, o', cs, g4, ap, _, _, _⟩ := s
  rw [g4] at hg
  cases hg
  subst e
  exact ap.row.2.1
/-- what the loop leaves -/
def Left (h0 : Heap) (a : Fr) (B b X L : Nat) (l : List UInt8) (h : Heap) : Prop := (St h0 a B b X L h (decL l).2 [] ∧ (decL l).1 = 0) ∨ ((decL l).1 ≠ 0 ∧ (decL l).2 = [] ∧ Bad h0 a B L (decL l).1 h)
set_option maxHeartbeats 1000000 in
theorem w_all1 {h0 h : Heap} {a : Fr} {B b X L : Nat} {l : List UInt8} (s : St h0 a B b X L h [] l) (hlen : l.length ≤ 1000000) (n : Nat) (hn : 60 ≤ n) :
    ResQ (callN Try.prog G0 n (.call 102 [.func (.yield L) #[] #[], .pointer (some ⟨X, 0, none⟩)]) h) (fun v h' => Left h0 a B b X L l h') := by
  obtain ⟨n, rfl⟩ : ∃ m, n = m + 1 := ⟨n - 1, by omega⟩
  refine res_enter rfl d102 rfl ?_; simp only [c102]
  refine gg ?_
  refine o_up 32 (fun i f h' => ∃ acc r, Sl [(3, .int .i64 (i : Int)), (0, .func (.yield L) #[] #[]), (1, .pointer (some ⟨X, 0, none⟩))] f ∧ St h0 a B b X L h' acc r ∧ acc.length = i ∧ Split l acc r ∧ r.length ≤ 1000000) (by omega) ?_ ?_
  · exact ⟨[], l, ⟨sel_of rfl, sel_of rfl, sel_of rfl, trivial⟩, s, rfl, Split.init l, hlen⟩
  rintro i f h' hi ⟨acc, r, hs, st, rfl, sp, hrl⟩
  obtain ⟨f0, rfl⟩ := hs.puts
  simp only [c102_0]
  refine o_seq ?_
  refine gg ?_
  refine i_load1 (v := .pointer (some ⟨b, 0, none⟩)) (by exact sel_of rfl) (by rw [load1_own st.bx]; rfl) ?_
  refine i_call1 (by exact sel_of rfl) (w_left st.rd n (by omega)) ?_
  rintro _ _ ⟨rfl, rfl⟩
  by_cases hr : r = []
  · subst hr
    refine gg ?_
    have e := sp.done
    exact .inl ⟨by rw [e]; exact st, by rw [e]⟩
  have hpos : 0 < r.length := List.length_pos_iff.2 hr
  refine gg ?_
  by_cases h32 : acc.length = 32
  · refine gg ?_
    refine i_yield2 (by exact sel_of rfl) (by exact sel_of rfl) (by first | exact sel_of rfl | exact const_of) (w_roundBad (j := 0) (m := 0) (c := 0) (o1 := none) (e := 10) st (by decide) n (by omega)) ?_
    rintro _ h2 ⟨rfl, bad⟩
    refine gg ?_
    have e := sp.large hr h32
    exact .inr ⟨by rw [e]; decide, by rw [e], by rw [e]; exact bad⟩
  refine gg ?_
  refine i_load1 (v := .pointer (some ⟨b, 0, none⟩)) (by exact sel_of rfl) (by rw [load1_own st.bx]; rfl) ?_
  refine i_call1 (by exact sel_of rfl) (w_one st.rd hrl n (by omega)) ?_
  rintro _ h2 ⟨kb, p, o1, c1, r2, rfl, rd2, pr2, fr2, ok2⟩
  have st2 := st.next kb rd2
  refine gg ?_
  by_cases he : (oneE r).1 = 0
  · obtain ⟨rfl, rfl⟩ := ok2 he
    rw [he]
    refine i_yield2 (by exact sel_of rfl) (by exact sel_of rfl) (by exact sel_of rfl) (w_round st2 pr2 (fun q e => ?_) (by omega) n (by omega)) ?_
    · have h5 := st.ord.2.2.2.2
      have h6 := fr2 q e
      refine ⟨by omega, fun o m c hg q' e' => ?_⟩
      rw [kb.get _ (by have := st.ord; omega) (by have := st.ord; omega)] at hg
      have := st.arr hg e'
      omega
    rintro _ h3 ⟨rfl, st3⟩
    refine gg ?_
    refine rnd_up (by omega) ⟨_, _, ⟨sel_of rfl, sel_of rfl, sel_of rfl, trivial⟩, st3, by simp, sp.step hr (by omega) he, Nat.le_trans (oneE_len r) hrl⟩
  · refine i_yield2 (by exact sel_of rfl) (by exact sel_of rfl) (by exact sel_of rfl) (w_roundBad st2 he n (by omega)) ?_
    rintro _ h3 ⟨rfl, bad⟩
    refine gg ?_
    have e := sp.bad hr (by omega) he
    exact .inr ⟨by rw [e]; exact he, by rw [e], by rw [e]; exact bad⟩
end Go.Proofs.Ytdcllpjoejkpnaa

