/- Part of a proof by an abstract run of the program's code: Gx. No condition. -/
import Derived.Test.YtnffglfpjcbfaaaVmD
import Derived.Test.YtnffglfpjcbfaaaPar
/-! Ranges over functions; appends that say what they touch. -/
set_option linter.unusedVariables false
namespace Vm
open Go
section
variable {P : Program} {Γ : Sums} {n : Nat}
/-- after a round's body -/
inductive YB (L nt : Nat) (ps : List Tmp) (s b : Code) (a : Fr) (R : Value → Heap → Prop) : Ex → Fr → Heap → Prop
  | go {a2 : Fr} {h2 : Heap} (hg : h2.get L = some (.loop nt ps s b a .busy none)) (hr : R (.bool true) (h2.put L (.loop nt ps s b a .ready none))) : YB L nt ps s b a R .normal a2 h2
  | ret {a2 : Fr} {h2 : Heap} (hg : h2.get L = some (.loop nt ps s b a .busy none)) (hr : R (.bool false) (h2.put L (.loop nt ps s b a .done (some .ret)))) : YB L nt ps s b a R .ret a2 h2
/-- after the left sides -/
inductive YA (P : Program) (Γ : Sums) (n : Nat) (sB : Sem) (L nt : Nat) (ps : List Tmp) (s b : Code) (a : Fr) (R : Value → Heap → Prop) : Ex → Fr → Heap → Prop
  | mk {a1 : Fr} {h1 : Heap} (hg : h1.get L = some (.loop nt ps s b a .ready none)) (hq : OutQ (sB.f (callN P Γ n) n a1 (h1.put L (.loop nt ps s b a .busy none))) (YB L nt ps s b a R)) : YA P Γ n sB L nt ps s b a R .normal a1 h1
theorem res_yield {L nt : Nat} {args : List Value} {ps : List Tmp} {s b : Code} {a : Fr} {sA sB : Sem} {h : Heap} {R : Value → Heap → Prop} (hg : h.get L = some (.loop nt ps s b a .ready none)) (hl : Nat.beq args.length ps.length = true)
    (ha : den0 P nt true s = sA) (hb : den0 P nt true b = sB) (hq : OutQ (sA.f (callN P Γ n) n (setAll ps args a) h) (YA P Γ n sB L nt ps s b a R)) : ResQ (callN P Γ (n + 1) (.yield L args) h) R := by
  have e : callN P Γ (n + 1) (.yield L args) h = (match h.get L with | some (.loop nt ps s b a _ _) => bif Nat.beq args.length ps.length then roundGo P (callN P Γ n) n nt s b L (setAll ps args a) h else .no | _ => .no) := rfl
  rw [e, hg]
  simp only [hl, cond_true]
  unfold roundGo
  rw [ha]
  refine .of (OutP.res.2 (hq.a.mono fun e1 a1 h1 hk1 => ?_))
  cases hk1 with
  | mk hg1 hq1 =>
    simp only [roundK, hg1, hb]
    refine OutP.res.2 (hq1.a.mono fun e2 a2 h2 hk2 => ?_)
    cases hk2 with
    | go hg2 hr => simp only [roundK2, roundEnd, hg2]; exact hr
    | ret hg2 hr => simp only [roundK2, roundEnd, hg2]; exact hr
/-- after the call that ranges -/
inductive RgQ (L nt : Nat) (ps : List Tmp) (s b : Code) (a : Fr) (Q : Ex → Fr → Heap → Prop) (h' : Heap) : Prop
  | none {a' : Fr} (hg : h'.get L = some (.loop nt ps s b a' .ready none)) (hq : Q .normal a (h'.put L (.loop nt ps s b a' .exhausted none)))
  | ret {a' : Fr} (hg : h'.get L = some (.loop nt ps s b a' .done (some .ret))) (hq : Q .ret a (h'.put L (.loop nt ps s b a' .exhausted (some .ret))))
theorem out_range {rec : Rec} {nt : Nat} {f : Sel} {ps : List Tmp} {s b : Code} {a : Fr} {h : Heap} {g : FuncId} {cap : Array Value} {Q : Ex → Fr → Heap → Prop} (hf : f.f a = .func (.func g) #[] cap)
    (hc : ResQ (rec (.call g (Value.func (.yield h.next) #[] #[] :: cap.toList)) (h.new (.loop nt ps s b a .ready none))) (fun _ h' => RgQ h.next nt ps s b a Q h')) : OutQ ((sRangeFunc nt f ps s b).f rec n a h) Q := by
  refine .of ?_
  simp only [sRangeFunc, hf]
  refine ResP.out.2 (hc.a.mono fun v h' hk => ?_)
  cases hk with
  | none hg hq => simp only [hg]; exact hq
  | ret hg hq => simp only [hg]; exact hq
end
/-- a call of a yield -/
theorem i_yield2 {rec : Rec} {L : List (Nat × Value)} {f : Fr} {h : Heap} {K : Fr → Heap → Prop} {l : List ISem} {dt q : Nat} {c x1 x2 : Sel} {v1 v2 : Value} {R : Value → Heap → Prop} (hc : c.f (puts L f) = .func (.yield q) #[] #[]) (h1 : x1.f (puts L f) = v1) (h2 : x2.f (puts L f) = v2) (hv : ResQ (rec (.yield q [v1, v2]) h) R)
    (hq : ∀ v h', R v h' → ItQ (runItems rec l (puts ((dt, v) :: L) f) h') K) : ItQ (runItems rec (iOp (put dt) (.e (eCall c [x1, x2])) :: l) (puts L f) h) K := by
  subst h1 h2
  refine items_cons (it_e (ResQ.mono ?_ hq))
  simp only [eCall, hc]
  exact hv
section
variable {rec : Rec} {a : Fr} {h : Heap} {K : Fr → Heap → Prop} {L : List (Nat × Value)} {f : Fr} {dt : Nat} {x y : Sel} {l : List ISem} {sz m n c e by_ B : Nat} {o : Option Addr} {cs ds : List Value}
/-- append, and what it touches -/
theorem i_appF {t : Nat} {es : List Value} (hm : 0 < m) (hB : B ≤ h.next) (hx : x.f (puts L f) = .slice o n c) (hp : Ap B h e sz o n c cs) (hy : srcCells h.get sz (y.f (puts L f)) = some (m, ds)) (hd : ds.length = m * sz) (hbig : (n + m) * by_ ≤ 140737488355328)
    (ht : n + m = t) (he : cs ++ ds = es)
    (hq : ∀ h', h'.next = h.next + 1 → (∀ d, d < h.next → (∀ q, o = some q → d ≠ q.block ∨ q.spot = none) → h'.get d = h.get d) → Ap B h' e sz (some ⟨h.next, 0, some sz⟩) t t es → ItQ (runItems rec l (puts ((dt, (.slice (some ⟨h.next, 0, some sz⟩) t t)) :: L) f) h') K) : ItQ (runItems rec (iOp (put dt) (.e (eAppend e sz by_ x y)) :: l) (puts L f) h) K := by
  subst ht
  subst he
  obtain ⟨rfl, hr, ho⟩ := hp
  have hb1 : Nat.ble ((c + m) * by_) 140737488355328 = true := Nat.ble_eq_true_of_le hbig
  have hb2 : Nat.ble (c + m) c = false := by rw [← Bool.not_eq_true]; exact fun e => by have := Nat.le_of_ble_eq_true e; omega
  cases o with
  | none =>
    have hc0 : c = 0 := hr.2
    subst hc0
    have hcs : cs = [] := List.length_eq_zero_iff.1 (by simpa using hr.1)
    subst hcs
    refine i_e (.mk (.slice (some ⟨h.next, 0, some sz⟩) (0 + m) (0 + m)) (h.new (.cells e ds (.own true))) (?_) (hq _ rfl (fun d hd _ => by rw [Heap.get_new, if_neg (by omega)]) ⟨rfl, Row.new (by simp) (by simpa using hd) (.inr rfl), fun q hq' => .inr ⟨h.next, by cases hq'; rfl, hB, by rw [Heap.get_new, if_pos rfl]; rfl⟩⟩))
    simp only [eAppend, hx, hy, hb1, hb2, cond_true, cond_false]
    rfl
  | some q =>
    have hold : loadN h.get q (c * sz) = some cs := hr.2.2.2
    have hlen : (cs ++ ds).length = (c + m) * sz := by rw [List.length_append, hr.1, hd, Nat.add_mul]
    rcases ho q rfl with hs | ⟨b, rfl, hB', hg⟩
    · refine i_e (.mk (.slice (some ⟨h.next, 0, some sz⟩) (c + m) (c + m)) (h.new (.cells e (cs ++ ds) (.own true))) (?_) (hq _ rfl (fun d hd _ => by rw [Heap.get_new, if_neg (by omega)]) ⟨rfl, Row.new (by simp) hlen (.inr rfl), fun q hq' => .inr ⟨h.next, by cases hq'; rfl, hB, by rw [Heap.get_new, if_pos rfl]⟩⟩))
      simp only [eAppend, hx, hy, hb1, hb2, cond_true, cond_false, hold, hs]
      rfl
    · have hsz' : (Nat.beq sz sz && Nat.beq e e) = true := by simp
      refine i_e (.mk (.slice (some ⟨h.next, 0, some sz⟩) (c + m) (c + m)) ((h.put b (.cells e cs .dead)).new (.cells e (cs ++ ds) (.own true))) (?_) (hq _ rfl (fun d hd ho => ?_) ⟨rfl, Row.new (h := h.put b (.cells e cs .dead)) (by simp) hlen (.inr rfl), fun q hq' => .inr ⟨h.next, by cases hq'; rfl, hB, by rw [Heap.get_new, Heap.next_put, if_pos rfl]⟩⟩))
      · simp only [eAppend, hx, hy, hb1, hb2, cond_true, cond_false, hold, hg, hsz']
      · rcases ho _ rfl with h1 | h1
        · rw [Heap.get_new, Heap.next_put, if_neg (by omega), Heap.get_put, if_neg h1]
        · cases h1
end
end Vm

/-! Rules for walks that came up on the way, gathered. -/
set_option linter.unusedVariables false
namespace Vm
open Go
theorem bytesL_u8s (l : List UInt8) : bytesL (u8s l) = some l := by
  induction l with
  | nil => rfl
  | cons b l ih =>
    show (match bytesL (u8s l) with | some l => some (UInt8.ofNat b.toNat :: l) | none => none) = _
    rw [ih]
    simp
theorem Row.str {h : Heap} {o : Option Addr} {m c : Nat} {l : List UInt8} {a : Fr} {x : Sel} (r : Row h 1 o m (u8s l)) (hx : x.f a = .slice o m c) : (oToString x).f a h.get = some (.string ⟨l.toArray⟩) := by
  have hm : l.length = m := by simpa [u8s_length] using r.1
  cases o with
  | none =>
    have h0 : m = 0 := r.2
    have : l = [] := List.length_eq_zero_iff.1 (by omega)
    subst this
    simp only [oToString, hx]
  | some q =>
    have h3 := r.2.2.2
    rw [Nat.mul_one] at h3
    simp only [oToString, hx, h3, bytesL_u8s]
theorem Row.src8 {h : Heap} {o : Option Addr} {m c : Nat} {l : List UInt8} (r : Row h 1 o m (u8s l)) : srcCells h.get 1 (.slice o m c) = some (l.length, u8s l) := by
  have hm : l.length = m := by simpa [u8s_length] using r.1
  rw [hm]; exact r.src
theorem rep_zero (n : Nat) : rep n [Value.int .u8 0] = u8s (List.replicate n 0) := by
  induction n with
  | zero => rfl
  | succ n ih => rw [rep_succ, ih, List.replicate_succ]; rfl
theorem gap_val (m : Nat) (hm : m ≤ 9223372036854775807) : wrap .i64 (.ofNat (Nat.land (bitsOf .i64 (wrap .i64 (0 - (m : Int)))) (bitsOf .i64 3))) = (((4 - m % 4) % 4 : Nat) : Int) := by
  have e1 : wrap .i64 (0 - (m : Int)) = -(m : Int) := by rw [wrap_i64 (by omega) (by omega)]; omega
  have e2 : Nat.land (bitsOf .i64 (-(m : Int))) (bitsOf .i64 3) = (4 - m % 4) % 4 := by
    have h3 : ∀ x : Nat, Nat.land x (bitsOf .i64 3) = x % 4 := fun x => Nat.and_two_pow_sub_one_eq_mod x 2
    rw [h3]
    cases m with
    | zero => rfl
    | succ k =>
      have : -((k + 1 : Nat) : Int) = Int.negSucc k := rfl
      rw [this]
      have hb : bitsOf .i64 (Int.negSucc k) = (Int.negSucc k % (2 ^ IntKind.i64.bits : Int)).toNat := rfl
      rw [hb, show IntKind.i64.bits = 64 from rfl]
      have h4 : (Int.negSucc k % (2 ^ 64 : Int)) = ((18446744073709551616 - (k + 1) : Nat) : Int) := by
        rw [Int.negSucc_eq]
        omega
      rw [h4, Int.toNat_natCast]
      omega
  rw [e1, e2]
  exact wrap_nat (by show _ < 9223372036854775808; omega)
theorem wrap_u8 (m : Nat) : wrap .u8 (m : Int) = (((UInt8.ofNat m).toNat : Nat) : Int) := by
  rw [wrap_eq]
  unfold IntKind.wrap
  simp [IntKind.bits, IntKind.signed]
theorem i_cv8 {rec : Rec} {L : List (Nat × Value)} {f : Fr} {dt : Nat} {h : Heap} {K : Fr → Heap → Prop} {rd : Bool} {x : Sel} {l : List ISem} {k : IntKind} {m : Nat} (hx : x.f (puts L f) = .int k (m : Int)) (hq : ItQ (runItems rec l (puts ((dt, (.int .u8 (((UInt8.ofNat m).toNat : Nat) : Int))) :: L) f) h) K) : ItQ (runItems rec (iOp (put dt) (.v rd (oConvInt .u8 x)) :: l) (puts L f) h) K := i_v (by simp only [oConvInt, hx, wrap_u8]) hq
theorem i_shr {rec : Rec} {L : List (Nat × Value)} {f : Fr} {dt : Nat} {h : Heap} {K : Fr → Heap → Prop} {rd : Bool} {x y : Sel} {l : List ISem} {k j : IntKind} {m i : Nat} (hx : x.f (puts L f) = .int k (m : Int)) (hy : y.f (puts L f) = .int j (i : Int)) (hi : i ≤ k.bits) (hq : ItQ (runItems rec l (puts ((dt, (.int k (((m / 2 ^ i : Nat)) : Int))) :: L) f) h) K) : ItQ (runItems rec (iOp (put dt) (.v rd (oSh fShr x y)) :: l) (puts L f) h) K := by
  refine i_v ?_ hq
  have hb : Nat.ble i k.bits = true := Nat.ble_eq_true_of_le hi
  have e : fShr.f k (m : Int) (i : Int) = some (.int k (((m / 2 ^ i : Nat)) : Int)) := by
    show some (Value.int k (Int.ofNat (m / 2 ^ (bif Nat.ble i k.bits then i else k.bits)))) = _
    rw [hb]; rfl
  simp only [oSh, hx, hy, e]
end Vm

namespace Vm
open Go
/-- what was there is as it was, but for one block -/
structure KeepsB (b : Nat) (h h' : Heap) : Prop where
  next : h.next ≤ h'.next
  get : ∀ c, c < h.next → c ≠ b → h'.get c = h.get c
theorem Keeps.but {h h' : Heap} (k : Keeps h h') (b : Nat) : KeepsB b h h' := ⟨k.next, fun c hc _ => k.get c hc⟩
theorem KeepsB.refl (b : Nat) (h : Heap) : KeepsB b h h := ⟨Nat.le_refl _, fun _ _ _ => rfl⟩
theorem KeepsB.trans {b : Nat} {h h' h'' : Heap} (k : KeepsB b h h') (k' : KeepsB b h' h'') : KeepsB b h h'' := ⟨Nat.le_trans k.next k'.next, fun c hc hb => (k'.get c (Nat.lt_of_lt_of_le hc k.next) hb).trans (k.get c hc hb)⟩
theorem KeepsB.new {b : Nat} {h0 h h' : Heap} (k : KeepsB b h h') (hb : h0.next ≤ b) (k0 : Keeps h0 h) : Keeps h0 h' := ⟨Nat.le_trans k0.next k.next, fun c hc => (k.get c (Nat.lt_of_lt_of_le hc k0.next) (by omega)).trans (k0.get c hc)⟩
/-- a row lies elsewhere -/
def Off (b : Nat) (o : Option Addr) : Prop := ∀ q, o = some q → q.block ≠ b
theorem Off.none (b : Nat) : Off b none := fun q e => by cases e
theorem Row.keepsB {h h' : Heap} {sz n b : Nat} {o : Option Addr} {cs : List Value} (r : Row h sz o n cs) (k : KeepsB b h h') (ho : Off b o) : Row h' sz o n cs := by
  obtain ⟨h1, h2⟩ := r
  refine ⟨h1, ?_⟩
  cases o with
  | none => exact h2
  | some q =>
    refine ⟨Nat.lt_of_lt_of_le h2.1 k.next, h2.2.1, ?_⟩
    have := h2.2.2
    unfold loadN at this ⊢
    rw [k.get _ h2.1 (ho q rfl)]
    exact this
theorem Off.of {b : Nat} {o o' : Option Addr} (ho : Off b o) (h : ∀ q', o' = some q' → ∃ q, o = some q ∧ q'.block = q.block) : Off b o' := fun q' e => by
  obtain ⟨q, h1, h2⟩ := h q' e
  rw [h2]; exact ho q h1
theorem Row.off {h : Heap} {sz n : Nat} {o : Option Addr} {cs : List Value} (r : Row h sz o n cs) {b : Nat} (hb : h.next ≤ b) : Off b o := fun q e => by
  subst e
  have := r.2.1
  omega
/-- a reader: what is left in it -/
def Bel (b : Nat) (o : Option Addr) : Prop := ∀ q, o = some q → q.block < b
theorem Bel.off {b : Nat} {o : Option Addr} (h : Bel b o) : Off b o := fun q e => Nat.ne_of_lt (h q e)
theorem Bel.of {b : Nat} {o o' : Option Addr} (ho : Bel b o) (h : ∀ q', o' = some q' → ∃ q, o = some q ∧ q'.block = q.block) : Bel b o' := fun q' e => by
  obtain ⟨q, e1, e2⟩ := h q' e
  rw [e2]; exact ho q e1
theorem Row.bel {h : Heap} {sz n : Nat} {o : Option Addr} {cs : List Value} (r : Row h sz o n cs) {b : Nat} (hb : h.next ≤ b) : Bel b o := fun q e => by
  subst e; exact Nat.lt_of_lt_of_le r.2.1 hb
def Rd (h : Heap) (b : Nat) (l : List UInt8) : Prop := ∃ e o c, b < h.next ∧ h.get b = some (.cells e [.slice o l.length c] (.own false)) ∧ Row h 1 o l.length (u8s l) ∧ l.length ≤ c ∧ Bel b o
theorem Rd.keeps {h h' : Heap} {b : Nat} {l : List UInt8} (r : Rd h b l) (k : Keeps h h') : Rd h' b l := by
  obtain ⟨e, o, c, h1, h2, h3, h4, h5⟩ := r
  exact ⟨e, o, c, Nat.lt_of_lt_of_le h1 k.next, by rw [k.get b h1]; exact h2, h3.keeps k, h4, h5⟩
theorem load1_own {h : Heap} {b e off : Nat} {cs : List Value} {op : Bool} {s : Option Nat} (hg : h.get b = some (.cells e cs (.own op))) : load1 h.get ⟨b, off, s⟩ = cs[off]? := load1_of (q := ⟨b, off, s⟩) hg (by simp)
/-- a number's octets, the greatest first -/
def num (l : List UInt8) : Nat := l.foldl (fun a b => a * 256 + b.toNat) 0
theorem u8s_get (l : List UInt8) (i : Nat) : (u8s l)[i]? = (l[i]?).map fun b => Value.int .u8 ((b.toNat : Nat) : Int) := by rw [u8s_eq, List.getElem?_map]
theorem u8s_take (l : List UInt8) (k : Nat) : u8s (l.take k) = (u8s l).take k := by rw [u8s_eq, u8s_eq, List.map_take]
theorem u8s_drop (l : List UInt8) (k : Nat) : u8s (l.drop k) = (u8s l).drop k := by rw [u8s_eq, u8s_eq, List.map_drop]
/-- an octet is read -/
theorem i_byte {rec : Rec} {L : List (Nat × Value)} {f : Fr} {dt : Nat} {h : Heap} {K : Fr → Heap → Prop} {rd : Bool} {x : Sel} {ls : List ISem} {m i : Nat} {l : List UInt8} {u : Addr} {s : Option Nat} (b : UInt8) (hx : x.f (puts L f) = .pointer (some ⟨u.block, u.off + i, s⟩)) (hr : Row h 1 (some u) m (u8s l)) (hi : l[i]? = some b)
    (hq : ItQ (runItems rec ls (puts ((dt, (.int .u8 ((b.toNat : Nat) : Int))) :: L) f) h) K) : ItQ (runItems rec (iOp (put dt) (.v rd (oLoad1 x)) :: ls) (puts L f) h) K := by
  have hm : l.length = m := by simpa [u8s_length] using hr.1
  refine i_load1 hx ?_ hq
  rw [hr.cell (by have := (List.getElem?_eq_some_iff.1 hi).1; omega), u8s_get, hi]; rfl
end Vm

namespace Vm
open Go
theorem finA2 {x1 x2 : Sel} {a : Fr} {h : Heap} {u : Addr} {k : Nat} {cs : List Value} {v2 : Value} {R : Value → Heap → Prop} (h1 : x1.f a = .pointer (some u)) (hl : loadN h.get u k = some cs) (h2 : x2.f a = v2) (hr : R (.tuple #[.agg cs.toArray, v2]) h) : Fin [.agg x1 k, .tmp x2] R .ret a h := by
  subst h2; exact ⟨.inr rfl, _, _, by simp only [rvs, rv, h1, hl], .inr ⟨by simp, rfl⟩, hr⟩
theorem finA3 {x1 x2 x3 : Sel} {a : Fr} {h : Heap} {u : Addr} {k : Nat} {cs : List Value} {v2 v3 : Value} {R : Value → Heap → Prop} (h1 : x1.f a = .pointer (some u)) (hl : loadN h.get u k = some cs) (h2 : x2.f a = v2) (h3 : x3.f a = v3) (hr : R (.tuple #[.agg cs.toArray, v2, v3]) h) : Fin [.agg x1 k, .tmp x2, .tmp x3] R .ret a h := by
  subst h2 h3; exact ⟨.inr rfl, _, _, by simp only [rvs, rv, h1, hl], .inr ⟨by simp, rfl⟩, hr⟩
theorem finO2 {x1 x2 : Sel} {a : Fr} {h : Heap} {u1 u2 : Addr} {v1 v2 : Value} {R : Value → Heap → Prop} (h1 : x1.f a = .pointer (some u1)) (l1 : load1 h.get u1 = some v1) (h2 : x2.f a = .pointer (some u2)) (l2 : load1 h.get u2 = some v2) (hr : R (.tuple #[v1, v2]) h) : Fin [.one x1, .one x2] R .ret a h :=
  ⟨.inr rfl, _, _, by simp only [rvs, rv, h1, l1, h2, l2], .inr ⟨by simp, rfl⟩, hr⟩
end Vm

namespace Vm
open Go
theorem i_ldown {rec : Rec} {L : List (Nat × Value)} {f : Fr} {dt : Nat} {h : Heap} {K : Fr → Heap → Prop} {rd : Bool} {x : Sel} {ls : List ISem} {b e off : Nat} {s : Option Nat} {cs : List Value} {op : Bool} {v : Value} (hx : x.f (puts L f) = .pointer (some ⟨b, off, s⟩)) (hg : h.get b = some (.cells e cs (.own op))) (hv : cs[off]? = some v)
    (hq : ItQ (runItems rec ls (puts ((dt, v) :: L) f) h) K) : ItQ (runItems rec (iOp (put dt) (.v rd (oLoad1 x)) :: ls) (puts L f) h) K := i_load1 hx ((load1_own hg).trans hv) hq
theorem i_nea {rec : Rec} {L : List (Nat × Value)} {f : Fr} {dt : Nat} {h : Heap} {K : Fr → Heap → Prop} {rd : Bool} {x y : Sel} {ls : List ISem} {k k' : IntKind} {a b c d : Int} (hx : x.f (puts L f) = .agg #[.int k a, .int k' b]) (hy : y.f (puts L f) = .agg #[.int k c, .int k' d])
    (hq : ItQ (runItems rec ls (puts ((dt, .bool (decide ¬(a = c ∧ b = d))) :: L) f) h) K) : ItQ (runItems rec (iOp (put dt) (.v rd (oNe (.agg [1, 1]) x y)) :: ls) (puts L f) h) K := i_v (by
  simp only [oNe, hx, hy]
  show (match eqL [1, 1] [.int k a, .int k' b] [.int k c, .int k' d] with | some b => some (Value.bool !b) | none => none) = _
  have e1 : ∀ (k : IntKind) (p q : Int), eqP 1 (.int k p) (.int k q) = some (eqI p q) := fun k p q => by
    show (bif Nat.beq (kc k) (kc k) then some (eqI p q) else none) = _
    rw [Nat.beq_refl]; rfl
  have e2 : ∀ p q : Int, eqI p q = decide (p = q) := eqI_eq
  have e3 : eqL [1, 1] [.int k a, .int k' b] [.int k c, .int k' d] = (match eqP 1 (.int k a) (.int k c) with | some true => (match eqP 1 (.int k' b) (.int k' d) with | some true => some true | some false => some false | none => none) | some false => some false | none => none) := rfl
  rw [e3, e1, e1, e2, e2]
  by_cases h1 : a = c <;> by_cases h2 : b = d <;> simp [h1, h2]) hq
/-- a code is cut in two -/
theorem o_cut {rec : Rec} {n : Nat} {a : Fr} {h : Heap} {Q : Ex → Fr → Heap → Prop} {x y : Sem} (Mid : Fr → Heap → Prop) (h1 : OutQ (x.f rec n a h) (fun e a h => e = .normal ∧ Mid a h)) (h2 : ∀ a h, Mid a h → OutQ (y.f rec n a h) Q) : OutQ ((sSeq x y).f rec n a h) Q :=
  out_seq (h1.mono fun e a h ⟨he, hm⟩ => by subst he; exact h2 a h hm)
/-- pairs of numbers of 16 bits, and numbers of 32 bits, as cells -/
def pr16 (l : List (Nat × Nat)) : List Value := l.flatMap fun p => [.int .u16 (p.1 : Int), .int .u16 (p.2 : Int)]
def n32 (l : List Nat) : List Value := l.map fun (x : Nat) => .int .u32 (x : Int)
theorem pr16_length : ∀ (l : List (Nat × Nat)), (pr16 l).length = l.length * 2
  | [] => rfl
  | p :: l => by
    have := pr16_length l
    simp only [pr16, List.flatMap_cons, List.length_append, List.length_cons, List.length_nil] at this ⊢
    omega
theorem n32_length (l : List Nat) : (n32 l).length = l.length := by simp [n32]
theorem pr16_drop : ∀ (l : List (Nat × Nat)) (i : Nat), (pr16 l).drop (i * 2) = pr16 (l.drop i)
  | l, 0 => by simp
  | [], i + 1 => by simp [pr16]
  | p :: l, i + 1 => by
    rw [show (i + 1) * 2 = i * 2 + 2 by omega, List.drop_succ_cons, ← pr16_drop l i]
    rfl
theorem pr16_at {l : List (Nat × Nat)} {i : Nat} {p : Nat × Nat} (h : l[i]? = some p) : ((pr16 l).drop (i * 2)).take 2 = [.int .u16 (p.1 : Int), .int .u16 (p.2 : Int)] := by
  rw [pr16_drop, drop_cons h]; rfl
theorem pr16_at0 {l : List (Nat × Nat)} {i : Nat} {p : Nat × Nat} (h : l[i]? = some p) : (pr16 l)[i * 2]? = some (.int .u16 (p.1 : Int)) := by
  have e : (pr16 l)[i * 2 + 0]? = ((pr16 l).drop (i * 2))[0]? := List.getElem?_drop.symm
  refine e.trans ?_
  rw [pr16_drop, drop_cons h]; rfl
theorem pr16_at1 {l : List (Nat × Nat)} {i : Nat} {p : Nat × Nat} (h : l[i]? = some p) : (pr16 l)[i * 2 + 1]? = some (.int .u16 (p.2 : Int)) := by
  have e : (pr16 l)[i * 2 + 1]? = ((pr16 l).drop (i * 2))[1]? := List.getElem?_drop.symm
  refine e.trans ?_
  rw [pr16_drop, drop_cons h]; rfl
theorem n32_at {l : List Nat} {i : Nat} {p : Nat} (h : l[i]? = some p) : (n32 l)[i]? = some (.int .u32 (p : Int)) := by
  rw [n32, List.getElem?_map, h]; rfl
theorem pr16_app (l m : List (Nat × Nat)) : pr16 (l ++ m) = pr16 l ++ pr16 m := by simp [pr16, List.flatMap_append]
theorem n32_app (l m : List Nat) : n32 (l ++ m) = n32 l ++ n32 m := by simp [n32]
theorem take_snoc {α : Type} {l m : List α} {i : Nat} {x : α} (h : l.take i = m.take i) (hl : l[i]? = some x) (hm : m[i]? = some x) : l.take (i + 1) = m.take (i + 1) := by
  rw [List.take_add_one, List.take_add_one, h, hl, hm]
theorem take_ne {α : Type} {l m : List α} {i : Nat} {x y : α} (hl : l[i]? = some x) (hm : m[i]? = some y) (hn : x ≠ y) : l ≠ m := fun e => by
  subst e; rw [hl] at hm; cases hm; exact hn rfl
end Vm

namespace Vm
open Go
theorem box_two (h : Heap) (A B : Blk) : ((h.new A).new B).get h.next = some A ∧ ((h.new A).new B).get (h.next + 1) = some B ∧ Keeps h ((h.new A).new B) ∧ ((h.new A).new B).next = h.next + 2 := by
  refine ⟨?_, ?_, (Keeps.new h A).trans (Keeps.new _ B), rfl⟩
  · rw [Heap.get_new, if_neg (by simp only [Heap.next_new]; omega), Heap.get_new, if_pos rfl]
  · rw [Heap.get_new, if_pos (by simp only [Heap.next_new])]
theorem box_one (h : Heap) (A : Blk) : (h.new A).get h.next = some A ∧ Keeps h (h.new A) ∧ (h.new A).next = h.next + 1 :=
  ⟨by rw [Heap.get_new, if_pos rfl], Keeps.new h A, rfl⟩
section
variable {rec : Rec} {a : Fr} {h : Heap}
theorem chk_skip {st : List (Fr × Heap)} {i : Nat} {s : VSem} {ms : List Nat} {r : List (Nat × Option (Sel × Bool) × VSem × List Nat)} {g : Sel} {b want : Bool} (h1 : st[i]? = some (a, h)) (hg : g.f a = .bool b) (hb : (b == want) = false) (hr : r.all (chkOne st) = true) : List.all ((i, some (g, want), s, ms) :: r) (chkOne st) = true := by
  rw [List.all_cons, hr, Bool.and_true]
  unfold chkOne
  simp only [h1, hg, hb, cond_false, Bool.true_or]
theorem chk_live {st : List (Fr × Heap)} {i : Nat} {s : VSem} {ms : List Nat} {r : List (Nat × Option (Sel × Bool) × VSem × List Nat)} {g : Sel × Bool} {v : Value} (h1 : st[i]? = some (a, h)) (h2 : s.f a h.get = some v) (hv : sameV v v = true)
    (h3 : ∀ m ∈ ms, ∃ a' h', st[m]? = some (a', h') ∧ s.f a h'.get = some v) (hr : r.all (chkOne st) = true) : List.all ((i, some g, s, ms) :: r) (chkOne st) = true := by
  rw [List.all_cons, hr, Bool.and_true]
  unfold chkOne
  simp only [h1, h2]
  rw [Bool.or_eq_true]
  right
  rw [List.all_eq_true]
  intro m hm
  obtain ⟨a', h', e1, e2⟩ := h3 m hm
  simp only [e1, e2, hv]
theorem ldN {x : Sel} {n : Nat} {p : Addr} {v : List Value} {g : G} (hx : x.f a = .pointer (some p)) (hl : loadN g p n = some v) : (oLoadN n x).f a g = some (.agg v.toArray) := by simp only [oLoadN, hx, hl]
theorem finA1 {x1 : Sel} {u : Addr} {k : Nat} {cs : List Value} {R : Value → Heap → Prop} (h1 : x1.f a = .pointer (some u)) (hl : loadN h.get u k = some cs) (hr : R (.agg cs.toArray) h) : Fin [.agg x1 k] R .ret a h :=
  ⟨.inr rfl, _, _, by simp only [rvs, rv, h1, hl], .inl rfl, hr⟩
end
/-- one cell of a block is set -/
theorem i_stB {rec : Rec} {L : List (Nat × Value)} {f : Fr} {h : Heap} {K : Fr → Heap → Prop} {x y : Sel} {l : List ISem} {b e off : Nat} {s : Option Nat} {cs : List Value} {v : Value} {op : Bool} (hx : x.f (puts L f) = .pointer (some ⟨b, off, s⟩)) (hy : cellsL (y.f (puts L f)) = some [v]) (hg : h.get b = some (.cells e cs (.own op))) (hl : off < cs.length)
    (hq : ∀ h2, KeepsB b h h2 → h2.next = h.next → h2.get b = some (.cells e (cs.set off v) (.own op)) → ItQ (runItems rec l (puts L f) h2) K) : ItQ (runItems rec (iOp ⟨fun _ a => a⟩ (.e (eStore 1 x y)) :: l) (puts L f) h) K :=
  i_store1 (u := ⟨b, off, s⟩) hx hy hg hl (hq _ ⟨Nat.le_refl _, fun d _ hd => by rw [Heap.get_put, if_neg hd]⟩ rfl (by rw [Heap.get_put, if_pos rfl]))
theorem loadN_all {h : Heap} {b e : Nat} {cs : List Value} {op : Bool} {s : Option Nat} {n : Nat} (hg : h.get b = some (.cells e cs (.own op))) (hn : cs.length = n) : loadN h.get ⟨b, 0, s⟩ n = some cs := by
  rw [loadN_of (q := ⟨b, 0, s⟩) hg (by simp) (by show 0 + n ≤ _; omega)]
  show some ((cs.drop 0).take n) = _
  rw [List.drop_zero, List.take_of_length_le (by omega)]
/-- a list of operations is cut in two -/
theorem i_cut {rec : Rec} {l : List ISem} {a : Fr} {h : Heap} {K : Fr → Heap → Prop} (k : Nat) (Mid : Fr → Heap → Prop) (h1 : ItQ (runItems rec (l.take k) a h) Mid) (h2 : ∀ a h, Mid a h → ItQ (runItems rec (l.drop k) a h) K) : ItQ (runItems rec l a h) K := by
  have key : ∀ (l m : List ISem) (a : Fr) (h : Heap), ItQ (runItems rec l a h) Mid → (∀ a h, Mid a h → ItQ (runItems rec m a h) K) → ItQ (runItems rec (l ++ m) a h) K := by
    intro l
    induction l with
    | nil =>
      intro m a h h1 h2
      exact h2 _ _ (show Mid a h from h1.a)
    | cons i l ih =>
      intro m a h h1 h2
      have h3 := h1.a
      rw [runItems_cons] at h3
      exact items_cons (.of ((ItP.it.1 h3).mono fun a1 h1 hk => ih m a1 h1 (.of hk) h2))
  have := key (l.take k) (l.drop k) a h h1 h2
  rwa [List.take_append_drop] at this
theorem st_t {E φ : Prop} (h : true = true ↔ ¬E) : true = true ↔ ¬(E ∧ φ) := ⟨fun _ e => h.1 rfl e.1, fun _ => rfl⟩
theorem st_f {E φ : Prop} {b : Bool} (h : false = true ↔ ¬E) (hb : b = true ↔ ¬φ) : b = true ↔ ¬(E ∧ φ) := by
  have hE : E := Classical.byContradiction fun hn => by have := h.2 hn; cases this
  exact ⟨fun e hc => hb.1 e hc.2, fun hn => hb.2 fun hp => hn ⟨hE, hp⟩⟩
theorem dec_ne (a b : Nat) : decide ((a : Int) ≠ (b : Int)) = true ↔ ¬a = b := by rw [decide_eq_true_iff]; exact ⟨fun h e => h (by rw [e]), fun h e => h (by omega)⟩
theorem dec_ne' {α : Type} [DecidableEq α] (a b : α) : decide (a ≠ b) = true ↔ ¬a = b := by simp
theorem dec_not {φ : Prop} [Decidable φ] : (!decide φ) = true ↔ ¬φ := by simp
end Vm

namespace Vm
open Go
theorem wrap_lt {k : IntKind} {r : Nat} (h : r < lim k) : wrap k (.ofNat r) = (r : Int) := by
  show (bif Nat.blt r (lim k) then Int.ofNat r else k.wrap (.ofNat r)) = _
  have e : Nat.blt r (lim k) = true := by simpa [Nat.blt_eq] using h
  rw [e]; rfl
theorem i_xorn {rec : Rec} {L : List (Nat × Value)} {f : Fr} {dt : Nat} {h : Heap} {K : Fr → Heap → Prop} {rd : Bool} {x y : Sel} {l : List ISem} {k : IntKind} {m q : Nat} (b : Nat) (hx : x.f (puts L f) = .int k (m : Int)) (hy : y.f (puts L f) = .int k (q : Int)) (hb : lim k = 2 ^ b) (hm : m < 2 ^ b) (hq' : q < 2 ^ b)
    (hq : ItQ (runItems rec l (puts ((dt, .int k ((m ^^^ q : Nat) : Int)) :: L) f) h) K) : ItQ (runItems rec (iOp (put dt) (.v rd (oInt2 fXor x y)) :: l) (puts L f) h) K :=
  i_v (int2w _ hx hy (by
    show some (Value.int k (wrap k (.ofNat (Nat.xor m q)))) = _
    rw [wrap_lt (by rw [hb]; exact Nat.xor_lt_two_pow hm hq')]; rfl)) hq
theorem i_com32 {rec : Rec} {L : List (Nat × Value)} {f : Fr} {dt : Nat} {h : Heap} {K : Fr → Heap → Prop} {rd : Bool} {x : Sel} {l : List ISem} {m : Nat} (hx : x.f (puts L f) = .int .u32 (m : Int)) (hm : m < 4294967296)
    (hq : ItQ (runItems rec l (puts ((dt, .int .u32 ((4294967295 ^^^ m : Nat) : Int)) :: L) f) h) K) : ItQ (runItems rec (iOp (put dt) (.v rd (oCom x)) :: l) (puts L f) h) K :=
  i_v (by
    simp only [oCom, hx]
    exact congrArg (fun z => some (Value.int .u32 z)) (wrap_lt (k := .u32) (r := 4294967295 ^^^ m) (Nat.xor_lt_two_pow (n := 32) (by decide) hm))) hq
end Vm

namespace Vm
open Go
theorem i_quo32 {rec : Rec} {L : List (Nat × Value)} {f : Fr} {dt : Nat} {h : Heap} {K : Fr → Heap → Prop} {rd : Bool} {x y : Sel} {l : List ISem} {m q : Nat} (hx : x.f (puts L f) = .int .u32 (m : Int)) (hy : y.f (puts L f) = .int .u32 (q : Int)) (h0 : q ≠ 0) (hm : m < 4294967296)
    (hq : ItQ (runItems rec l (puts ((dt, .int .u32 ((m / q : Nat) : Int)) :: L) f) h) K) : ItQ (runItems rec (iOp (put dt) (.v rd (oInt2 fQuo x y)) :: l) (puts L f) h) K :=
  i_v (int2w _ hx hy (by
    show (bif eqI (q : Int) 0 then none else some (Value.int .u32 (wrap .u32 (Int.tdiv (m : Int) (q : Int))))) = _
    rw [eqI_dec, decide_eq_false (by omega)]
    show some (Value.int .u32 (wrap .u32 (.ofNat (m / q)))) = _
    rw [wrap_lt (k := .u32) (Nat.lt_of_le_of_lt (Nat.div_le_self _ _) hm)])) hq
end Vm

namespace Vm
open Go
theorem i_slX {rec : Rec} {L : List (Nat × Value)} {f : Fr} {dt : Nat} {h : Heap} {K : Fr → Heap → Prop} {rd : Bool} {x lo hi : Sel} {l : List ISem} {q : Addr} {m c b t sz : Nat} {k k' : IntKind} (hx : x.f (puts L f) = .slice (some q) m c) (hs : q.spot = none ∨ q.spot = some sz) (hz : lo.f (puts L f) = .int k' (b : Int)) (hy : hi.f (puts L f) = .int k (t : Int)) (hb : b ≤ t) (ht : t ≤ c) (hcb : c ≠ b)
    (hq : ItQ (runItems rec l (puts ((dt, (.slice (some ⟨q.block, q.off + b * sz, q.spot⟩) (t - b) (c - b))) :: L) f) h) K) : ItQ (runItems rec (iOp (put dt) (.v rd (oSlice sz x (some lo) (some hi) none)) :: l) (puts L f) h) K := by
  refine i_v (v := .slice (some ⟨q.block, q.off + b * sz, q.spot⟩) (t - b) (c - b)) ?_ hq
  have e : Nat.beq c b = false := by
    cases h : Nat.beq c b with
    | true => exact absurd (Nat.eq_of_beq_eq_true h) hcb
    | false => rfl
  simp only [oSlice, hx, bnd_none, bnd_nat hz hb, bnd_nat hy ht, cutSpot_lo hs ht, e, cond_false]
/-- a part of a block is made nothing -/
theorem i_clear {rec : Rec} {L : List (Nat × Value)} {f : Fr} {h : Heap} {K : Fr → Heap → Prop} {x : Sel} {l : List ISem} {b off n c e : Nat} {s : Option Nat} {z cs : List Value} {op : Bool} (hx : x.f (puts L f) = .slice (some ⟨b, off, s⟩) n c) (hn : n ≠ 0) (hg : h.get b = some (.cells e cs (.own op))) (hl : off + (rep n z).length ≤ cs.length)
    (hq : ItQ (runItems rec l (puts L f) (h.put b (.cells e (cs.take off ++ rep n z ++ cs.drop (off + (rep n z).length)) (.own op)))) K) : ItQ (runItems rec (iOp ⟨fun _ a => a⟩ (.e (eClearS z x)) :: l) (puts L f) h) K := by
  refine items_cons (it_e (.mk (.tuple #[]) (h.put b (.cells e (cs.take off ++ rep n z ++ cs.drop (off + (rep n z).length)) (.own op))) (?_) (hq)))
  have h1 := storeN_own (s := none) (off := off) (vs := rep n z) hg hl
  rw [putAt_eq _ _ _ (by omega)] at h1
  have e1 : Nat.beq n 0 = false := by
    cases h : Nat.beq n 0 with
    | true => exact absurd (Nat.eq_of_beq_eq_true h) hn
    | false => rfl
  simp only [eClearS, hx, e1, cond_false]
  rw [h1]
end Vm

namespace Vm
open Go
theorem i_orN {rec : Rec} {L : List (Nat × Value)} {f : Fr} {dt : Nat} {h : Heap} {K : Fr → Heap → Prop} {rd : Bool} {x y : Sel} {l : List ISem} {k : IntKind} {m q : Nat} (b : Nat) (hx : x.f (puts L f) = .int k (m : Int)) (hy : y.f (puts L f) = .int k (q : Int)) (hb : lim k = 2 ^ b) (hm : m < 2 ^ b) (hq' : q < 2 ^ b)
    (hq : ItQ (runItems rec l (puts ((dt, .int k ((m ||| q : Nat) : Int)) :: L) f) h) K) : ItQ (runItems rec (iOp (put dt) (.v rd (oInt2 fOr x y)) :: l) (puts L f) h) K :=
  i_v (int2w _ hx hy (by
    show some (Value.int k (wrap k (.ofNat (Nat.lor m q)))) = _
    rw [wrap_lt (by rw [hb]; exact Nat.or_lt_two_pow hm hq')]; rfl)) hq
end Vm

namespace Vm
open Go
theorem rep_int {h : Heap} {k : IntKind} {r : PT} {cs : List Value} (x : Rep h (.pair (.int k) r) cs) : ∃ (n : Int) (rest : List Value), cs = .int k n :: rest ∧ (Lit.int k n).wf = true ∧ Rep h r rest := by
  cases x with
  | pair h1 hf hr =>
    cases hf with
    | int hn => exact ⟨_, _, rfl, hn, hr⟩
theorem rep_sl {h : Heap} {e r : PT} {cs : List Value} (x : Rep h (.pair (.slice e) r) cs) : ∃ (v : Value) (rest : List Value), cs = v :: rest ∧ RepV h (.slice e) v ∧ Rep h r rest := by
  cases x with
  | pair h1 hf hr =>
    cases hf with
    | nil => exact ⟨_, _, rfl, .nil _, hr⟩
    | slice hb hg hlen hl hbd hsz each => exact ⟨_, _, rfl, .slice hb hg hlen hl hbd hsz each, hr⟩
theorem rep_unit {h : Heap} {cs : List Value} (x : Rep h .unit cs) : cs = [] := by cases x; rfl
theorem wf_nat {k : IntKind} {n : Int} (hk : k = .u8 ∨ k = .u16 ∨ k = .u32) (h : (Lit.int k n).wf = true) : ∃ m : Nat, n = (m : Int) ∧ m < lim k := by
  rcases hk with rfl | rfl | rfl <;> simp [Lit.wf, IntKind.min, IntKind.max, IntKind.bits, IntKind.signed] at h <;> exact ⟨n.toNat, by omega, by simp only [lim]; omega⟩
theorem pr16_of : ∀ (els : List (List Value)) {h : Heap}, (∀ c ∈ els, Rep h (.pair (.int .u16) (.pair (.int .u16) .unit)) c) → ∃ l : List (Nat × Nat), els.flatten = pr16 l ∧ l.length = els.length ∧ ∀ p ∈ l, p.1 < 65536 ∧ p.2 < 65536
  | [], _, _ => ⟨[], rfl, rfl, fun p hp => by cases hp⟩
  | x :: els, h, hx => by
    obtain ⟨l, hl, hlen, hr⟩ := pr16_of els (fun c hc => hx c (by simp [hc]))
    obtain ⟨n1, r1, rfl, w1, hx1⟩ := rep_int (hx x (by simp))
    obtain ⟨n2, r2, rfl, w2, hx2⟩ := rep_int hx1
    obtain rfl := rep_unit hx2
    obtain ⟨m1, rfl, b1⟩ := wf_nat (.inr (.inl rfl)) w1
    obtain ⟨m2, rfl, b2⟩ := wf_nat (.inr (.inl rfl)) w2
    refine ⟨(m1, m2) :: l, ?_, by simp [hlen], fun p hp => ?_⟩
    · rw [List.flatten_cons, hl]; rfl
    · rcases List.mem_cons.1 hp with rfl | hp
      · exact ⟨b1, b2⟩
      · exact hr p hp
theorem n32_of : ∀ (els : List (List Value)) {h : Heap}, (∀ c ∈ els, Rep h (.int .u32) c) → ∃ l : List Nat, els.flatten = n32 l ∧ l.length = els.length ∧ ∀ p ∈ l, p < 4294967296
  | [], _, _ => ⟨[], rfl, rfl, fun p hp => by cases hp⟩
  | x :: els, h, hx => by
    obtain ⟨l, hl, hlen, hr⟩ := n32_of els (fun c hc => hx c (by simp [hc]))
    cases hx x (by simp) with
    | @int k n1 w1 =>
      obtain ⟨m1, rfl, b1⟩ := wf_nat (.inr (.inr rfl)) w1
      refine ⟨m1 :: l, ?_, by simp [hlen], fun p hp => ?_⟩
      · rw [List.flatten_cons, hl]; rfl
      · rcases List.mem_cons.1 hp with rfl | hp
        · exact b1
        · exact hr p hp
theorem RepV.p16 {h : Heap} {v : Value} (r : RepV h (.slice (.pair (.int .u16) (.pair (.int .u16) .unit))) v) : ∃ (o : Option Addr) (c : Nat) (l : List (Nat × Nat)), v = .slice o l.length c ∧ Row h 2 o l.length (pr16 l) ∧ l.length ≤ c ∧ ∀ p ∈ l, p.1 < 65536 ∧ p.2 < 65536 := by
  obtain ⟨o, m, c, els, h1, h2, h3, h4, h5, h6, h7⟩ := Rep.row r
  obtain ⟨l, hl, hlen, hb⟩ := pr16_of els h5
  have hm : l.length = m := by rw [hlen, h3]
  subst hm
  exact ⟨o, c, l, h1, by rw [← hl]; exact h2, h6, hb⟩
theorem RepV.u32s {h : Heap} {v : Value} (r : RepV h (.slice (.int .u32)) v) : ∃ (o : Option Addr) (c : Nat) (l : List Nat), v = .slice o l.length c ∧ Row h 1 o l.length (n32 l) ∧ l.length ≤ c ∧ ∀ p ∈ l, p < 4294967296 := by
  obtain ⟨o, m, c, els, h1, h2, h3, h4, h5, h6, h7⟩ := Rep.row r
  obtain ⟨l, hl, hlen, hb⟩ := n32_of els h5
  have hm : l.length = m := by rw [hlen, h3]
  subst hm
  exact ⟨o, c, l, h1, by rw [← hl]; exact h2, h6, hb⟩
end Vm
namespace Vm
open Go
section
variable {rec : Rec} {L : List (Nat × Value)} {f : Fr} {dt : Nat} {h : Heap} {K : Fr → Heap → Prop} {l : List ISem}
theorem i_call5 {g : FuncId} {x1 x2 x3 x4 x5 : Sel} {v1 v2 v3 v4 v5 : Value} {R : Value → Heap → Prop} (h1 : x1.f (puts L f) = v1) (h2 : x2.f (puts L f) = v2) (h3 : x3.f (puts L f) = v3) (h4 : x4.f (puts L f) = v4) (h5 : x5.f (puts L f) = v5) (hv : ResQ (rec (.call g [v1, v2, v3, v4, v5]) h) R) (hq : ∀ v h', R v h' → ItQ (runItems rec l (puts ((dt, v) :: L) f) h') K) : ItQ (runItems rec (iOp (put dt) (.e (eCallF g [x1, x2, x3, x4, x5])) :: l) (puts L f) h) K := by
  subst h1 h2 h3 h4 h5; exact items_cons (it_e (ResQ.mono hv hq))
theorem i_call6 {g : FuncId} {x1 x2 x3 x4 x5 x6 : Sel} {v1 v2 v3 v4 v5 v6 : Value} {R : Value → Heap → Prop} (h1 : x1.f (puts L f) = v1) (h2 : x2.f (puts L f) = v2) (h3 : x3.f (puts L f) = v3) (h4 : x4.f (puts L f) = v4) (h5 : x5.f (puts L f) = v5) (h6 : x6.f (puts L f) = v6) (hv : ResQ (rec (.call g [v1, v2, v3, v4, v5, v6]) h) R) (hq : ∀ v h', R v h' → ItQ (runItems rec l (puts ((dt, v) :: L) f) h') K) : ItQ (runItems rec (iOp (put dt) (.e (eCallF g [x1, x2, x3, x4, x5, x6])) :: l) (puts L f) h) K := by
  subst h1 h2 h3 h4 h5 h6; exact items_cons (it_e (ResQ.mono hv hq))
theorem i_call7 {g : FuncId} {x1 x2 x3 x4 x5 x6 x7 : Sel} {v1 v2 v3 v4 v5 v6 v7 : Value} {R : Value → Heap → Prop} (h1 : x1.f (puts L f) = v1) (h2 : x2.f (puts L f) = v2) (h3 : x3.f (puts L f) = v3) (h4 : x4.f (puts L f) = v4) (h5 : x5.f (puts L f) = v5) (h6 : x6.f (puts L f) = v6) (h7 : x7.f (puts L f) = v7) (hv : ResQ (rec (.call g [v1, v2, v3, v4, v5, v6, v7]) h) R) (hq : ∀ v h', R v h' → ItQ (runItems rec l (puts ((dt, v) :: L) f) h') K) : ItQ (runItems rec (iOp (put dt) (.e (eCallF g [x1, x2, x3, x4, x5, x6, x7])) :: l) (puts L f) h) K := by
  subst h1 h2 h3 h4 h5 h6 h7; exact items_cons (it_e (ResQ.mono hv hq))
end
end Vm
namespace Vm
open Go
theorem rep_bool {h : Heap} {r : PT} {cs : List Value} (x : Rep h (.pair .bool r) cs) : ∃ (b : Bool) (rest : List Value), cs = .bool b :: rest ∧ Rep h r rest := by
  cases x with
  | pair h1 hf hr =>
    cases hf with
    | bool b => exact ⟨_, _, rfl, hr⟩
theorem rep_str {h : Heap} {r : PT} {cs : List Value} (x : Rep h (.pair .str r) cs) : ∃ (s : ByteArray) (rest : List Value), cs = .string s :: rest ∧ Rep h r rest := by
  cases x with
  | pair h1 hf hr =>
    cases hf with
    | str s => exact ⟨_, _, rfl, hr⟩
theorem RepV.sl {h : Heap} {e : PT} {v : Value} (r : RepV h (.slice e) v) : ∃ (o : Option Addr) (m c : Nat), v = .slice o m c := by
  obtain ⟨o, m, c, els, h1, _⟩ := Rep.row r
  exact ⟨o, m, c, h1⟩
abbrev PTp : PT := .pair (.int .u16) (.pair (.int .u16) .unit)
abbrev PTc : PT := .pair (.int .u8) (.pair (.int .u8) (.pair (.int .u32) (.pair (.int .u32) (.pair (.int .u16) (.pair (.int .u16) (.pair (.int .u32) (.pair (.slice PTp) (.pair (.slice (.int .u32)) (.pair (.slice PTp) (.pair (.slice (.pair (.int .u16) (.pair (.slice (.int .u8)) .unit))) (.pair (.slice (.int .u8)) .unit)))))))))))
abbrev PTm : PT := .pair (.int .u16) (.pair .bool (.pair (.int .u32) (.pair (.slice (.int .u8)) .unit)))
/-- a message that is an argument -/
theorem repV_msg {h : Heap} {v : Value} (r : RepV h PTm v) : ∃ (s pp : Nat) (b : Bool) (d : Value), v = .agg #[.int .u16 (s : Int), .bool b, .int .u32 (pp : Int), d] ∧ s < 65536 ∧ pp < 4294967296 ∧ RepV h (.slice (.int .u8)) d := by
  obtain ⟨cs, rfl, r0⟩ := (show ∃ cs : List Value, v = .agg cs.toArray ∧ Rep h PTm cs from r)
  obtain ⟨n1, t1, rfl, w1, r1⟩ := rep_int r0
  obtain ⟨b, t2, rfl, r2⟩ := rep_bool r1
  obtain ⟨n3, t3, rfl, w3, r3⟩ := rep_int r2
  obtain ⟨d, t4, rfl, rd, r4⟩ := rep_sl r3
  obtain rfl := rep_unit r4
  obtain ⟨m1, rfl, b1⟩ := wf_nat (.inr (.inl rfl)) w1
  obtain ⟨m3, rfl, b3⟩ := wf_nat (.inr (.inr rfl)) w3
  exact ⟨m1, m3, b, d, rfl, b1, b3, rd⟩
/-- a chunk that is an argument, as cells -/
theorem repV_chk {h : Heap} {v : Value} (r : RepV h PTc v) : ∃ (x0 x1 x2 x3 x4 x5 x6 : Nat) (x7 x8 x9 x10 x11 : Value), v = .agg #[.int .u8 (x0 : Int), .int .u8 (x1 : Int), .int .u32 (x2 : Int), .int .u32 (x3 : Int), .int .u16 (x4 : Int), .int .u16 (x5 : Int), .int .u32 (x6 : Int), x7, x8, x9, x10, x11] ∧
    (x0 < 256 ∧ x1 < 256 ∧ x2 < 4294967296 ∧ x3 < 4294967296 ∧ x4 < 65536 ∧ x5 < 65536 ∧ x6 < 4294967296) ∧ RepV h (.slice PTp) x7 ∧ RepV h (.slice (.int .u32)) x8 ∧ RepV h (.slice PTp) x9 ∧ RepV h (.slice (.pair (.int .u16) (.pair (.slice (.int .u8)) .unit))) x10 ∧ RepV h (.slice (.int .u8)) x11 := by
  obtain ⟨cs, rfl, r0⟩ := (show ∃ cs : List Value, v = .agg cs.toArray ∧ Rep h PTc cs from r)
  obtain ⟨n0, t0, rfl, w0, r1⟩ := rep_int r0
  obtain ⟨n1, t1, rfl, w1, r2⟩ := rep_int r1
  obtain ⟨n2, t2, rfl, w2, r3⟩ := rep_int r2
  obtain ⟨n3, t3, rfl, w3, r4⟩ := rep_int r3
  obtain ⟨n4, t4, rfl, w4, r5⟩ := rep_int r4
  obtain ⟨n5, t5, rfl, w5, r6⟩ := rep_int r5
  obtain ⟨n6, t6, rfl, w6, r7⟩ := rep_int r6
  obtain ⟨d7, t7, rfl, e7, r8⟩ := rep_sl r7
  obtain ⟨d8, t8, rfl, e8, r9⟩ := rep_sl r8
  obtain ⟨d9, t9, rfl, e9, r10⟩ := rep_sl r9
  obtain ⟨d10, t10, rfl, e10, r11⟩ := rep_sl r10
  obtain ⟨d11, t11, rfl, e11, r12⟩ := rep_sl r11
  obtain rfl := rep_unit r12
  obtain ⟨m0, rfl, b0⟩ := wf_nat (.inl rfl) w0
  obtain ⟨m1, rfl, b1⟩ := wf_nat (.inl rfl) w1
  obtain ⟨m2, rfl, b2⟩ := wf_nat (.inr (.inr rfl)) w2
  obtain ⟨m3, rfl, b3⟩ := wf_nat (.inr (.inr rfl)) w3
  obtain ⟨m4, rfl, b4⟩ := wf_nat (.inr (.inl rfl)) w4
  obtain ⟨m5, rfl, b5⟩ := wf_nat (.inr (.inl rfl)) w5
  obtain ⟨m6, rfl, b6⟩ := wf_nat (.inr (.inr rfl)) w6
  exact ⟨m0, m1, m2, m3, m4, m5, m6, d7, d8, d9, d10, d11, rfl, ⟨b0, b1, b2, b3, b4, b5, b6⟩, e7, e8, e9, e10, e11⟩
end Vm

/-! Laws that read nothing of their arguments' memory: a run from an empty heap, by the kernel. -/
set_option linter.unusedVariables false
namespace Vm
open Go Go.ChangeShapes Go.WideShapes Go.ChangeAt Go.RowKit
/-- true, within N blocks -/
noncomputable def okB (N : Nat) (r : Res) : Bool := r.all fun v h => match v with
  | .bool b => bif b then Nat.ble h.next N else false
  | _ => false
theorem okB_some {N : Nat} {r : Res} (h : okB N r = true) : ResA r fun v h' => v = .bool true ∧ h'.next ≤ N := by
  refine (Res.all_A h).mono fun v h' e => ?_
  split at e
  · rename_i b
    cases b with
    | true => exact ⟨rfl, Nat.le_of_ble_eq_true e⟩
    | false => cases e
  · cases e
noncomputable def sayB (rs : List RV) (N : Nat) (o : Out) : Bool := okB N (finish rs o)
/-- code that ends a call with true, by one computation -/
theorem out_say {s : Sem} {rec : Rec} {n : Nat} {a : Fr} {h : Heap} {rs : List RV} {N : Nat} (hb : sayB rs N (s.f rec n a h) = true) : OutQ (s.f rec n a h) (Fin rs (fun r h' => r = .bool true ∧ h'.next ≤ N)) := by
  refine .of ((finish_A (okB_some hb)).mono fun e a' h' hk => ?_)
  obtain ⟨v, l, he, hl, hv, rfl, hN⟩ := hk.resolve_left id
  refine ⟨he, l, .bool true, hl, ?_, rfl, hN⟩
  rcases hv with ⟨u, rfl, rfl⟩ | ⟨hne, hv⟩
  · exact .inl rfl
  · exact .inr ⟨hne, hv⟩
theorem res_say {r : Res} {N : Nat} (hb : okB N r = true) : ResQ r (fun v h' => v = .bool true ∧ h'.next ≤ N) := by
  exact .of (okB_some hb)
theorem tie_at (w : World) (N M : Nat) (hM : N ≤ M) : Tie (fun _ => none) w.heap.size M (fun _ => none) ⟨N, .nil⟩ w :=
  ⟨⟨(fun b i h => by cases h), (fun b c i j x y _ h => by cases h), (fun b i h => by cases h), Nat.le_refl _⟩, fun b _ => rfl, hM, fun b _ _ => rfl⟩
/-- a law's call from an empty heap: the arguments' memory lies behind N blocks -/
theorem law_call_far {H : Type} {enc : TypeId × Value → H} {P : Program} {W : World} {base : Nat} {f : FuncId} {fn : Func} {args : Array Value} {ds : List (DataW H)} {ps : List MemPlace} (hm : P.follows .mixedOrders = true) (pts : List PT)
    (hchk : (Nat.beq fn.params.size pts.length && (fn.params.toList.zip pts).all fun x => chk P x.2 (.inl x.1)) = true) (hd : HasCells W)
    (hv : ∀ (j : Nat) t v, fn.params[j]? = some t → args[j]? = some v → Value.okWide P W .any base t v) (hT : DataW.TrodAll enc P W 0 (fun _ => true) true fn.params.toList args.toList ds ps) (hsz : (DataW.weightsEach P fn.params.toList ds).all (· ≤ reachBytes) = true)
    {Γ : Sums} (hΓ : SumsOK P W.heap.size Γ) (N : Nat) (walk : ∀ (h : Heap) (us : List Value), RepVs h pts us → ∃ n, ResQ (callN P Γ n (.call f us) ⟨0, .nil⟩) (fun r h' => r = .bool true ∧ h'.next ≤ N)) :
    Calls P f args W fun e W' => e = .returned (.bool true) ∧ Below W.heap.size W W' := by
  rw [Bool.and_eq_true] at hchk
  have hl : fn.params.toList.length = pts.length := by have := Nat.eq_of_beq_eq_true hchk.1; simpa using this
  obtain ⟨h, us, k, r, T⟩ := argsV (base := base) hl (fun j t pt h1 h2 => List.all_eq_true.1 hchk.2 (t, pt) (List.mem_of_getElem? (List.getElem?_zip_eq_some.2 ⟨h1, h2⟩))) hd (fun j t v h1 h2 => hv j t v (by simpa using h1) (by simpa using h2)) hT (fun n hn => by simpa using List.all_eq_true.1 hsz n hn) ⟨N, .nil⟩
  obtain ⟨n, hw⟩ := walk h us r
  have kN : N ≤ h.next := k.next
  obtain ⟨ρ, T', _, vr⟩ := T (fun _ => none) h.next (fun _ => none) (tie_at W N _ kN) (Nat.le_refl _)
  have hnone : ∀ b, b < N → ρ b = none := fun b hb => by
    cases hρ : ρ b with
    | none => rfl
    | some i =>
      obtain ⟨x, hx, _⟩ := T'.hr.blk b i hρ
      have h1 : mix h.next h (fun _ => none) b = h.get b := by unfold mix; rw [if_pos (by omega)]
      have h2 : h.get b = none := (k.get b hb).trans rfl
      rw [h1, h2] at hx
      cases hx
  have T2 : Tie ρ W.heap.size N (mix h.next h (fun _ => none)) ⟨0, .nil⟩ W := by
    refine ⟨T'.hr.congr fun b i hb => ?_, fun b _ => rfl, Nat.zero_le _, fun b _ hb => hnone b hb⟩
    rcases Nat.lt_or_ge b N with h1 | h1
    · rw [hnone b h1] at hb; cases hb
    · show mix N ⟨0, .nil⟩ _ b = _
      unfold mix; rw [if_neg (by omega)]
  exact call_true hm T2 hΓ vr hw.a
end Vm
namespace Vm
open Go
/-- and in the midst of a region -/
theorem it_say {l : List ISem} {y : Sem} {rec : Rec} {n : Nat} {a : Fr} {h : Heap} {rs : List RV} {N : Nat} (hb : sayB rs N ((sSeq (sRegion l) y).f rec n a h) = true) : ItQ (runItems rec l a h) (Nrm (Then y rec n (Fin rs (fun r h' => r = .bool true ∧ h'.next ≤ N)))) := by
  have ho := (out_say hb).a
  exact .of ((ItP.out.1 (OutP.out.1 ho)).mono fun a1 h1 hk => (show OutQ _ _ from .of hk))
end Vm
namespace Vm
theorem and2 {a b : Bool} (h : a = true) (h' : b = true) : (a && b) = true := by rw [h, h']; rfl
end Vm
namespace Vm
open Go
/-! jumps: a piece of code by the kernel, what it leaves taken as it is -/
def outN (o : Out) : Bool := match o with
  | .mk e _ _ => (match e with | .normal => true | _ => false)
  | _ => false
noncomputable def outA (o : Out) : Fr := match o with | .mk _ a _ => a | _ => fr0
def outH (o : Out) : Heap := match o with | .mk _ _ h => h | _ => ⟨0, .nil⟩
theorem o_jump {x y : Sem} {rec : Rec} {n : Nat} {a : Fr} {h : Heap} {Q : Ex → Fr → Heap → Prop} (hb : outN (x.f rec n a h) = true) (hq : OutQ (y.f rec n (outA (x.f rec n a h)) (outH (x.f rec n a h))) Q) : OutQ ((sSeq x y).f rec n a h) Q := by
  cases hx : x.f rec n a h with
  | no => rw [hx] at hb; cases hb
  | or u v => rw [hx] at hb; cases hb
  | mk e a' h' =>
    rw [hx] at hb hq
    cases e with
    | normal =>
      refine .of ?_
      simp only [sSeq, hx]
      exact hq.a
    | _ => cases hb
def resB (r : Res) : Bool := match r with | .ok _ _ => true | _ => false
noncomputable def resV (r : Res) : Value := match r with | .ok v _ => v | _ => Vm.undef
def resH (r : Res) : Heap := match r with | .ok _ h => h | _ => ⟨0, .nil⟩
theorem res_jump {r : Res} {R : Value → Heap → Prop} (hb : resB r = true) (hq : R (resV r) (resH r)) : ResQ r R := by
  cases hx : r with
  | no => rw [hx] at hb; cases hb
  | or u v => rw [hx] at hb; cases hb
  | ok v h => rw [hx] at hq; exact .mk v h rfl hq
end Vm

/-! Maps, walked: looked up, set, deleted; stores of whole blocks. -/
set_option linter.unusedVariables false
namespace Vm
open Go
theorem i_storeF {rec : Rec} {L : List (Nat × Value)} {f : Fr} {h0 h : Heap} {K : Fr → Heap → Prop} {x y : Sel} {l : List ISem} {b e n : Nat} {s : Option Nat} {cs vs : List Value} {op : Bool} (k0 : Keeps h0 h) (hb : h0.next ≤ b) (hx : x.f (puts L f) = .pointer (some ⟨b, 0, s⟩)) (hy : cellsL (y.f (puts L f)) = some vs) (hg : h.get b = some (.cells e cs (.own op))) (hv : vs.length = n) (hl : cs.length = n) (hlt : b < h.next)
    (hq : ∀ h2, Keeps h0 h2 → h2.get b = some (.cells e vs (.own op)) → b < h2.next → ItQ (runItems rec l (puts L f) h2) K) : ItQ (runItems rec (iOp ⟨fun _ a => a⟩ (.e (eStore n x y)) :: l) (puts L f) h) K := by
  refine items_cons (it_e (.mk (Vm.undef) (h.put b (.cells e vs (.own op))) (?_) (hq _ (k0.put hb _) (by rw [Heap.get_put, if_pos rfl]) hlt)))
  have h1 := storeN_own (s := s) (off := 0) (vs := vs) hg (by omega)
  rw [putAt_eq _ _ _ (Nat.zero_le _), List.take_zero, List.nil_append, Nat.zero_add, List.drop_eq_nil_of_le (by omega), List.append_nil] at h1
  simp only [eStore, hx, hy]
  rw [h1, hv, Nat.beq_refl]; rfl
theorem i_storeP {rec : Rec} {L : List (Nat × Value)} {f : Fr} {h : Heap} {K : Fr → Heap → Prop} {x y : Sel} {l : List ISem} {b e n : Nat} {s : Option Nat} {cs vs : List Value} {op : Bool} (hx : x.f (puts L f) = .pointer (some ⟨b, 0, s⟩)) (hy : cellsL (y.f (puts L f)) = some vs) (hg : h.get b = some (.cells e cs (.own op))) (hv : vs.length = n) (hl : cs.length = n)
    (hq : ItQ (runItems rec l (puts L f) (h.put b (.cells e vs (.own op)))) K) : ItQ (runItems rec (iOp ⟨fun _ a => a⟩ (.e (eStore n x y)) :: l) (puts L f) h) K := by
  refine items_cons (it_e (.mk (Vm.undef) (h.put b (.cells e vs (.own op))) (?_) (hq)))
  have h1 := storeN_own (s := s) (off := 0) (vs := vs) hg (by omega)
  rw [putAt_eq _ _ _ (Nat.zero_le _), List.take_zero, List.nil_append, Nat.zero_add, List.drop_eq_nil_of_le (by omega), List.append_nil] at h1
  simp only [eStore, hx, hy]
  rw [h1, hv, Nat.beq_refl]; rfl
section
variable {rec : Rec} {L : List (Nat × Value)} {f : Fr} {dt : Nat} {h : Heap} {K : Fr → Heap → Prop} {l : List ISem} {rd : Bool} {m k x : Sel} {r c c' : Nat} {es es' : List (Value × Value × Nat)} {N : KT} {z kv : Value}
theorem i_lookup {ok : Bool} {res : Option (Value × Nat)} (hm : m.f (puts L f) = .map (some r)) (hg : h.get r = some (.map es c)) (hk : k.f (puts L f) = kv) (ho : keyOk N kv = true) (hf : mFind N kv es = some res)
    (hq : ItQ (runItems rec l (puts ((dt, match res with
      | some (v, _) => (Bool.rec v (.tuple #[v, .bool true]) ok : Value)
      | none => (Bool.rec z (.tuple #[z, .bool false]) ok : Value)) :: L) f) h) K) : ItQ (runItems rec (iOp (put dt) (.v rd (oLookup N z ok m k)) :: l) (puts L f) h) K := by
  refine i_v ?_ hq
  have hmo : mapOf h.get (some r) = some es := by simp only [mapOf, hg]
  simp only [oLookup, hm, hmo, hk, ho, cond_true, hf]
  cases res with
  | none => rfl
  | some p => obtain ⟨v, s⟩ := p; rfl
theorem i_lookupNil {ok : Bool} (hm : m.f (puts L f) = .map none) (hk : k.f (puts L f) = kv) (ho : keyOk N kv = true)
    (hq : ItQ (runItems rec l (puts ((dt, (Bool.rec z (.tuple #[z, .bool false]) ok : Value)) :: L) f) h) K) : ItQ (runItems rec (iOp (put dt) (.v rd (oLookup N z ok m k)) :: l) (puts L f) h) K := by
  refine i_v ?_ hq
  simp only [oLookup, hm, mapOf, hk, ho, cond_true]
  rfl
theorem i_mapUpd {v : Value} (hm : m.f (puts L f) = .map (some r)) (hg : h.get r = some (.map es c)) (hk : k.f (puts L f) = kv) (hx : x.f (puts L f) = v) (ho : keyOk N kv = true) (hp : mPut N kv v c es = some (es', c'))
    (hq : ItQ (runItems rec l (puts L f) (h.put r (.map es' c'))) K) : ItQ (runItems rec (iOp ⟨fun _ a => a⟩ (.e (eMapUpdate N m k x)) :: l) (puts L f) h) K := by
  refine items_cons (it_e (.mk (Vm.undef) (h.put r (.map es' c')) (?_) (hq)))
  simp only [eMapUpdate, hm, hg, hk, hx, ho, cond_true, hp]
theorem i_mapDel (hm : m.f (puts L f) = .map (some r)) (hg : h.get r = some (.map es c)) (hk : k.f (puts L f) = kv) (ho : keyOk N kv = true) (hp : mDel N kv es = some es')
    (hq : ItQ (runItems rec l (puts L f) (h.put r (.map es' c))) K) : ItQ (runItems rec (iOp ⟨fun _ a => a⟩ (.e (eDelete N m k)) :: l) (puts L f) h) K := by
  refine items_cons (it_e (.mk (.tuple #[]) (h.put r (.map es' c)) (?_) (hq)))
  simp only [eDelete, hm, hg, hk, ho, cond_true, hp]
theorem i_makeMap (hq : ItQ (runItems rec l (puts ((dt, .map (some h.next)) :: L) f) (h.new (.map [] 0))) K) : ItQ (runItems rec (iOp (put dt) (.a aMakeMap) :: l) (puts L f) h) K :=
  items_cons (it_a rfl hq)
end
/-! maps of numbers -/
def ents (kd : IntKind) (l : List (Nat × Value × Nat)) : List (Value × Value × Nat) := l.map fun e => (.int kd (e.1 : Int), e.2)
theorem eqV_int (kd : IntKind) (a b : Nat) : eqV (.one 1) (.int kd (a : Int)) (.int kd (b : Int)) = some (Nat.beq a b) := by
  show (bif Nat.beq 1 1 then (bif Nat.beq (kc kd) (kc kd) then some (eqI (a : Int) (b : Int)) else none) else none) = _
  rw [Nat.beq_refl, Nat.beq_refl]; rfl
theorem ents_find (kd : IntKind) (k : Nat) : ∀ l : List (Nat × Value × Nat), mFind (.one 1) (.int kd (k : Int)) (ents kd l) = some ((l.find? fun e => e.1 == k).map (·.2))
  | [] => rfl
  | (a, v, s) :: l => by
    show (match eqV (.one 1) (Value.int kd (k : Int)) (Value.int kd (a : Int)) with | some true => some (some (v, s)) | some false => mFind (.one 1) (.int kd (k : Int)) (ents kd l) | none => none) = _
    rw [eqV_int, List.find?_cons]
    cases hb : Nat.beq k a with
    | true => rw [Nat.eq_of_beq_eq_true hb]; simp
    | false =>
      have : (a == k) = false := by rw [← Bool.not_eq_true, beq_iff_eq]; intro e; rw [e] at hb; simp at hb
      simp only [this, ents_find kd k l]
/-- a number's entry set -/
def putN (k : Nat) (v : Value) (c : Nat) : List (Nat × Value × Nat) → List (Nat × Value × Nat) × Nat
  | [] => ([(k, v, c)], c + 1)
  | (a, u, s) :: l => if k = a then ((k, v, s) :: l, c) else ((a, u, s) :: (putN k v c l).1, (putN k v c l).2)
theorem ents_put (kd : IntKind) (k : Nat) (v : Value) (c : Nat) : ∀ l : List (Nat × Value × Nat), mPut (.one 1) (.int kd (k : Int)) v c (ents kd l) = some (ents kd (putN k v c l).1, (putN k v c l).2)
  | [] => rfl
  | (a, u, s) :: l => by
    show (match eqV (.one 1) (Value.int kd (k : Int)) (Value.int kd (a : Int)) with
      | some true => some ((Value.int kd (k : Int), v, s) :: ents kd l, c)
      | some false => (match mPut (.one 1) (.int kd (k : Int)) v c (ents kd l) with | some (r, c) => some ((Value.int kd (a : Int), u, s) :: r, c) | none => none)
      | none => none) = _
    rw [eqV_int, putN]
    cases hb : Nat.beq k a with
    | true => rw [if_pos (Nat.eq_of_beq_eq_true hb)]; rfl
    | false =>
      have : k ≠ a := by intro e; rw [e] at hb; simp at hb
      rw [if_neg this, ents_put kd k v c l]; rfl
def delN (k : Nat) : List (Nat × Value × Nat) → List (Nat × Value × Nat)
  | [] => []
  | (a, u, s) :: l => if k = a then l else (a, u, s) :: delN k l
theorem ents_del (kd : IntKind) (k : Nat) : ∀ l : List (Nat × Value × Nat), mDel (.one 1) (.int kd (k : Int)) (ents kd l) = some (ents kd (delN k l))
  | [] => rfl
  | (a, u, s) :: l => by
    show (match eqV (.one 1) (Value.int kd (k : Int)) (Value.int kd (a : Int)) with
      | some true => some (ents kd l)
      | some false => (match mDel (.one 1) (.int kd (k : Int)) (ents kd l) with | some r => some ((Value.int kd (a : Int), u, s) :: r) | none => none)
      | none => none) = _
    rw [eqV_int, delN]
    cases hb : Nat.beq k a with
    | true => rw [if_pos (Nat.eq_of_beq_eq_true hb)]
    | false =>
      have : k ≠ a := by intro e; rw [e] at hb; simp at hb
      rw [if_neg this, ents_del kd k l]; rfl
end Vm

/-! Ranges over maps, walked. -/
set_option linter.unusedVariables false
namespace Vm
open Go
theorem hasN_app (s : Nat) (t : Nat) : ∀ l : List Nat, hasN s (l ++ [t]) = (hasN s l || Nat.beq s t)
  | [] => by
    show (bif Nat.beq s t then true else false) = (false || _)
    cases Nat.beq s t <;> rfl
  | x :: l => by
    show (bif Nat.beq s x then true else hasN s (l ++ [t])) = ((bif Nat.beq s x then true else hasN s l) || _)
    rw [hasN_app s t l]
    cases Nat.beq s x <;> simp
theorem leftE_sub (seen : List Nat) : ∀ (es : List (Value × Value × Nat)), ∀ e ∈ leftE seen es, e ∈ es ∧ hasN e.2.2 seen = false
  | [], e, h => by cases h
  | x :: es, e, h => by
    have h : e ∈ (bif hasN x.2.2 seen then leftE seen es else x :: leftE seen es) := h
    cases hx : hasN x.2.2 seen with
    | true => rw [hx] at h; obtain ⟨a, b⟩ := leftE_sub seen es e h; exact ⟨List.mem_cons_of_mem _ a, b⟩
    | false =>
      rw [hx] at h
      rcases List.mem_cons.1 h with rfl | h
      · exact ⟨List.mem_cons_self .., hx⟩
      · obtain ⟨a, b⟩ := leftE_sub seen es e h; exact ⟨List.mem_cons_of_mem _ a, b⟩
theorem leftE_le (seen : List Nat) (t : Nat) : ∀ (es : List (Value × Value × Nat)), (leftE (seen ++ [t]) es).length ≤ (leftE seen es).length
  | [] => Nat.le_refl _
  | x :: es => by
    have ih := leftE_le seen t es
    show (bif hasN x.2.2 (seen ++ [t]) then leftE (seen ++ [t]) es else x :: leftE (seen ++ [t]) es).length ≤ (bif hasN x.2.2 seen then leftE seen es else x :: leftE seen es).length
    rw [hasN_app]
    cases hasN x.2.2 seen <;> cases Nat.beq x.2.2 t <;> simp <;> omega
theorem leftE_lt (seen : List Nat) : ∀ (es : List (Value × Value × Nat)) (e : Value × Value × Nat), e ∈ leftE seen es → (leftE (seen ++ [e.2.2]) es).length < (leftE seen es).length
  | [], e, h => by cases h
  | x :: es, e, h => by
    have h : e ∈ (bif hasN x.2.2 seen then leftE seen es else x :: leftE seen es) := h
    have hle := leftE_le seen e.2.2 es
    show (bif hasN x.2.2 (seen ++ [e.2.2]) then leftE (seen ++ [e.2.2]) es else x :: leftE (seen ++ [e.2.2]) es).length < (bif hasN x.2.2 seen then leftE seen es else x :: leftE seen es).length
    rw [hasN_app]
    cases hx : hasN x.2.2 seen with
    | true => rw [hx] at h; simpa using leftE_lt seen es e h
    | false =>
      rw [hx] at h
      rcases List.mem_cons.1 h with rfl | h
      · simp; omega
      · have := leftE_lt seen es e h
        cases Nat.beq x.2.2 e.2.2 <;> simp <;> omega
theorem stale_no {seen : List Nat} {c : Nat} {es : List (Value × Value × Nat)} (h : ∀ e ∈ es, e.2.2 < c) : stale seen c es = false := by
  cases seen with
  | nil => rfl
  | cons s seen =>
    cases es with
    | nil => rfl
    | cons e es =>
      show (bif Nat.ble c e.2.2 then allNew c es else false) = false
      have hl := h e (List.mem_cons_self ..)
      have : Nat.ble c e.2.2 = false := by rw [← Bool.not_eq_true]; exact fun e' => by have := Nat.le_of_ble_eq_true e'; omega
      rw [this]; rfl
theorem lastN_snoc (s : Nat) : ∀ l : List Nat, lastN (l ++ [s]) = some s := fun l => by rw [lastN_eq]; simp
theorem stampE_mem {s : Nat} : ∀ {es : List (Value × Value × Nat)}, (∃ e ∈ es, e.2.2 = s) → ∃ e ∈ es, stampE s es = some (e.1, e.2.1)
  | [], ⟨e, h, _⟩ => by cases h
  | x :: es, ⟨e, h, hs⟩ => by
    show ∃ e ∈ x :: es, (bif Nat.beq x.2.2 s then some (x.1, x.2.1) else stampE s es) = _
    cases hb : Nat.beq x.2.2 s with
    | true => exact ⟨x, List.mem_cons_self .., rfl⟩
    | false =>
      rcases List.mem_cons.1 h with rfl | h
      · rw [hs] at hb; simp at hb
      · obtain ⟨e', h1, h2⟩ := stampE_mem ⟨e, h, hs⟩
        exact ⟨e', List.mem_cons_of_mem _ h1, h2⟩
section
variable {rec : Rec} {L : List (Nat × Value)} {f : Fr} {dt : Nat} {h : Heap} {K : Fr → Heap → Prop} {l : List ISem} {rd : Bool} {x : Sel} {r c I since last : Nat} {es : List (Value × Value × Nat)} {seen : List Nat} {s : Option Nat}
theorem i_range (hx : x.f (puts L f) = .map (some r)) (hm : h.get r = some (.map es c)) (hq : ItQ (runItems rec l (puts ((dt, iterTo h.next) :: L) f) (h.new (.iter (some r) c [] c))) K) : ItQ (runItems rec (iOp (put dt) (.e (eRange x)) :: l) (puts L f) h) K :=
  items_cons (it_e (.mk (iterTo h.next) (h.new (.iter (some r) c [] c)) (by simp only [eRange, hx, hm]) hq))
/-- a step of a range: whichever entry comes -/
theorem i_next (hx : x.f (puts L f) = .pointer (some ⟨I, 0, s⟩)) (hg : h.get I = some (.iter (some r) since seen last)) (hm : h.get r = some (.map es c)) (hs : stale seen last es = false)
    (h0 : leftE seen es = [] → ItQ (runItems rec l (puts ((dt, .tuple #[.bool false]) :: L) f) h) K)
    (h1 : ∀ e ∈ leftE seen es, e.2.2 < since ∧ ItQ (runItems rec l (puts ((dt, .tuple #[.bool true, e.1, e.2.1]) :: L) f) (h.put I (.iter (some r) since (seen ++ [e.2.2]) c))) K) : ItQ (runItems rec (iOp (put dt) (.e (eNext x)) :: l) (puts L f) h) K := by
  refine items_cons (it_e (.of ?_))
  simp only [eNext, hx, hg, hm, hs, Nat.beq_refl, cond_true, cond_false]
  cases hl : leftE seen es with
  | nil => exact h0 hl
  | cons e es' =>
    refine orE_all.2 fun e' he' => ?_
    obtain ⟨h2, h3⟩ := h1 e' (by rw [hl]; exact he')
    have : Nat.blt e'.2.2 since = true := by simpa using h2
    simp only [this, cond_true]
    exact h3
theorem i_entry {k v : Value} {t : Nat} (hx : x.f (puts L f) = .pointer (some ⟨I, 0, s⟩)) (hg : h.get I = some (.iter (some r) since seen last)) (hl : lastN seen = some t) (hm : h.get r = some (.map es last)) (he : stampE t es = some (k, v))
    (hq : ItQ (runItems rec l (puts ((dt, .tuple #[k, v]) :: L) f) h) K) : ItQ (runItems rec (iOp (put dt) (.v rd (oEntry x)) :: l) (puts L f) h) K :=
  i_v (by simp only [oEntry, hx, hg, hl, hm, he, Nat.beq_refl, cond_true]) hq
theorem i_rangeNil (hx : x.f (puts L f) = .map none) (hq : ItQ (runItems rec l (puts ((dt, iterTo h.next) :: L) f) (h.new (.iter none 0 [] 0))) K) : ItQ (runItems rec (iOp (put dt) (.e (eRange x)) :: l) (puts L f) h) K :=
  items_cons (it_e (.mk (iterTo h.next) (h.new (.iter none 0 [] 0)) (by simp only [eRange, hx]) hq))
theorem i_nextNil (hx : x.f (puts L f) = .pointer (some ⟨I, 0, s⟩)) (hg : h.get I = some (.iter none since seen last)) (hq : ItQ (runItems rec l (puts ((dt, .tuple #[.bool false]) :: L) f) h) K) : ItQ (runItems rec (iOp (put dt) (.e (eNext x)) :: l) (puts L f) h) K :=
  items_cons (it_e (.mk (.tuple #[.bool false]) h (by simp only [eNext, hx, hg, Nat.beq_refl, cond_true]) hq))
end
theorem hasN_iff (s : Nat) : ∀ l : List Nat, hasN s l = true ↔ s ∈ l
  | [] => by constructor <;> intro h <;> cases h
  | x :: l => by
    show (bif Nat.beq s x then true else hasN s l) = true ↔ _
    cases hb : Nat.beq s x with
    | true => simp [Nat.eq_of_beq_eq_true hb]
    | false =>
      have : s ≠ x := fun e => by rw [e] at hb; simp at hb
      simp only [cond_false, hasN_iff s l, List.mem_cons, this, false_or]
theorem leftE_mem (seen : List Nat) : ∀ (es : List (Value × Value × Nat)), ∀ e ∈ es, hasN e.2.2 seen = false → e ∈ leftE seen es
  | [], e, h, _ => by cases h
  | x :: es, e, h, hn => by
    show e ∈ (bif hasN x.2.2 seen then leftE seen es else x :: leftE seen es)
    rcases List.mem_cons.1 h with rfl | h
    · rw [hn]; exact List.mem_cons_self ..
    · have := leftE_mem seen es e h hn
      cases hasN x.2.2 seen
      · exact List.mem_cons_of_mem _ this
      · exact this
theorem stampE_of : ∀ {es : List (Value × Value × Nat)} {e : Value × Value × Nat}, es.Pairwise (fun a b => a.2.2 ≠ b.2.2) → e ∈ es → stampE e.2.2 es = some (e.1, e.2.1)
  | [], e, _, h => by cases h
  | x :: es, e, hp, h => by
    show (bif Nat.beq x.2.2 e.2.2 then some (x.1, x.2.1) else stampE e.2.2 es) = _
    rcases List.mem_cons.1 h with rfl | h
    · rw [Nat.beq_refl]; rfl
    · have hne := (List.pairwise_cons.1 hp).1 e h
      have : Nat.beq x.2.2 e.2.2 = false := by rw [← Bool.not_eq_true]; exact fun hb => hne (Nat.eq_of_beq_eq_true hb)
      rw [this]
      exact stampE_of (List.pairwise_cons.1 hp).2 h
/-- what was met, once each, is all of it -/
theorem met_all {α : Type} {es ms : List α} (st : α → Nat) (hp : es.Pairwise (fun a b => st a ≠ st b)) (hm : ∀ m ∈ ms, m ∈ es) (hn : (ms.map st).Nodup) (hall : ∀ e ∈ es, st e ∈ ms.map st) : ms.Perm es := by
  have inj : ∀ {l : List α}, l.Pairwise (fun a b => st a ≠ st b) → ∀ a ∈ l, ∀ b ∈ l, st a = st b → a = b := by
    intro l hl
    induction l with
    | nil => intro a ha; cases ha
    | cons x l ih =>
      obtain ⟨h1, h2⟩ := List.pairwise_cons.1 hl
      intro a ha b hb e
      rcases List.mem_cons.1 ha with ha1 | ha1
      · rcases List.mem_cons.1 hb with hb1 | hb1
        · rw [ha1, hb1]
        · rw [ha1] at e; exact absurd e (h1 b hb1)
      · rcases List.mem_cons.1 hb with hb1 | hb1
        · rw [hb1] at e; exact absurd e.symm (h1 a ha1)
        · exact ih h2 a ha1 b hb1 e
  refine (List.perm_ext_iff_of_nodup ?_ ?_).2 fun a => ⟨hm a, fun ha => ?_⟩
  · rw [List.Nodup, List.pairwise_map] at hn
    exact hn.imp fun h e => h (by rw [e])
  · exact hp.imp fun h e => h (by rw [e])
  · obtain ⟨m, h1, h2⟩ := List.mem_map.1 (hall a ha)
    rw [← inj hp m (hm m h1) a ha h2]; exact h1
end Vm

