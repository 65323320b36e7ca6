/- Part of a proof by an abstract run of the program's code: Gx. No condition. -/
import Derived.Test.YtoeienklpfbfmaaGreatDoorVmD
import Derived.Test.YtoeienklpfbfmaaGreatDoorPar
/-! Ranges over functions; appends that say what they touch. -/
set_option linter.unusedVariables false
namespace Vm
open Go
section
variable {P : Program} {Γ : Sums} {n : Nat}
/-- after a round's body -/
inductive YB (L nt : Nat) (ps : List Tmp) (s b : Code) (a : Fr) (R : Value → Heap → Prop) : Ex → Fr → Heap → Prop
  | go {a2 : Fr} {h2 : Heap} (hg : h2.get L = some (.loop nt ps s b a .busy none)) (hr : R (.bool true) (h2.put L (.loop nt ps s b a .ready none))) : YB L nt ps s b a R .normal a2 h2
  | ret {a2 : Fr} {h2 : Heap} (hg : h2.get L = some (.loop nt ps s b a .busy none)) (hr : R (.bool false) (h2.put L (.loop nt ps s b a .done (some .ret)))) : YB L nt ps s b a R .ret a2 h2
/-- after the left sides -/
inductive YA (P : Program) (Γ : Sums) (n : Nat) (sB : Sem) (L nt : Nat) (ps : List Tmp) (s b : Code) (a : Fr) (R : Value → Heap → Prop) : Ex → Fr → Heap → Prop
  | mk {a1 : Fr} {h1 : Heap} (hg : h1.get L = some (.loop nt ps s b a .ready none)) (hq : OutQ (sB.f (callN P Γ n) n a1 (h1.put L (.loop nt ps s b a .busy none))) (YB L nt ps s b a R)) : YA P Γ n sB L nt ps s b a R .normal a1 h1
theorem res_yield {L nt : Nat} {args : List Value} {ps : List Tmp} {s b : Code} {a : Fr} {sA sB : Sem} {h : Heap} {R : Value → Heap → Prop} (hg : h.get L = some (.loop nt ps s b a .ready none)) (hl : Nat.beq args.length ps.length = true)
    (ha : den0 P nt true s = sA) (hb : den0 P nt true b = sB) (hq : OutQ (sA.f (callN P Γ n) n (setAll ps args a) h) (YA P Γ n sB L nt ps s b a R)) : ResQ (callN P Γ (n + 1) (.yield L args) h) R := by
  have e : callN P Γ (n + 1) (.yield L args) h = (match h.get L with | some (.loop nt ps s b a _ _) => bif Nat.beq args.length ps.length then roundGo P (callN P Γ n) n nt s b L (setAll ps args a) h else .no | _ => .no) := rfl
  rw [e, hg]
  simp only [hl, cond_true]
  unfold roundGo
  rw [ha, hb]
  obtain ⟨e1, a1, h1, eq1, hk1⟩ := hq
  rw [eq1]
  cases hk1 with
  | mk hg1 hq1 =>
    simp only [hg1]
    obtain ⟨e2, a2, h2, eq2, hk2⟩ := hq1
    rw [eq2]
    cases hk2 with
    | go hg2 hr => simp only [roundEnd, hg2]; exact ⟨_, _, rfl, hr⟩
    | ret hg2 hr => simp only [roundEnd, hg2]; exact ⟨_, _, rfl, hr⟩
/-- after the call that ranges -/
inductive RgQ (L nt : Nat) (ps : List Tmp) (s b : Code) (a : Fr) (Q : Ex → Fr → Heap → Prop) (h' : Heap) : Prop
  | none {a' : Fr} (hg : h'.get L = some (.loop nt ps s b a' .ready none)) (hq : Q .normal a (h'.put L (.loop nt ps s b a' .exhausted none)))
  | ret {a' : Fr} (hg : h'.get L = some (.loop nt ps s b a' .done (some .ret))) (hq : Q .ret a (h'.put L (.loop nt ps s b a' .exhausted (some .ret))))
theorem out_range {rec : Rec} {nt : Nat} {f : Sel} {ps : List Tmp} {s b : Code} {a : Fr} {h : Heap} {g : FuncId} {cap : Array Value} {Q : Ex → Fr → Heap → Prop} (hf : f.f a = .func (.func g) #[] cap)
    (hc : ResQ (rec (.call g (Value.func (.yield h.next) #[] #[] :: cap.toList)) (h.new (.loop nt ps s b a .ready none))) (fun _ h' => RgQ h.next nt ps s b a Q h')) : OutQ ((sRangeFunc nt f ps s b).f rec n a h) Q := by
  obtain ⟨v, h', e, hk⟩ := hc
  have e' : rec (.call g ((#[] : Array Value).toList ++ [Value.func (.yield h.next) #[] #[]] ++ cap.toList)) (h.new (.loop nt ps s b a .ready none)) = .ok v h' := e
  cases hk with
  | none hg hq => refine ⟨_, _, _, ?_, hq⟩; simp only [sRangeFunc, hf, e', hg]
  | ret hg hq => refine ⟨_, _, _, ?_, hq⟩; simp only [sRangeFunc, hf, e', hg]
end
/-- a call of a yield -/
theorem i_yield2 {rec : Rec} {L : List (Nat × Value)} {f : Fr} {h : Heap} {K : Fr → Heap → Prop} {l : List ISem} {dt q : Nat} {c x1 x2 : Sel} {v1 v2 : Value} {R : Value → Heap → Prop} (hc : c.f (puts L f) = .func (.yield q) #[] #[]) (h1 : x1.f (puts L f) = v1) (h2 : x2.f (puts L f) = v2) (hv : ResQ (rec (.yield q [v1, v2]) h) R)
    (hq : ∀ v h', R v h' → ItQ (runItems rec l (puts ((dt, v) :: L) f) h') K) : ItQ (runItems rec (iOp (put dt) (.e (eCall c [x1, x2])) :: l) (puts L f) h) K := by
  subst h1 h2
  refine items_cons (it_e (ResQ.mono ?_ hq))
  simp only [eCall, hc]
  exact hv
section
variable {rec : Rec} {a : Fr} {h : Heap} {K : Fr → Heap → Prop} {L : List (Nat × Value)} {f : Fr} {dt : Nat} {x y : Sel} {l : List ISem} {sz m n c e by_ B : Nat} {o : Option Addr} {cs ds : List Value}
/-- append, and what it touches -/
theorem i_appF {t : Nat} {es : List Value} (hm : 0 < m) (hB : B ≤ h.next) (hx : x.f (puts L f) = .slice o n c) (hp : Ap B h e sz o n c cs) (hy : srcCells h.get sz (y.f (puts L f)) = some (m, ds)) (hd : ds.length = m * sz) (hbig : (n + m) * by_ ≤ 140737488355328)
    (ht : n + m = t) (he : cs ++ ds = es)
    (hq : ∀ h', h'.next = h.next + 1 → (∀ d, d < h.next → (∀ q, o = some q → d ≠ q.block ∨ q.spot = none) → h'.get d = h.get d) → Ap B h' e sz (some ⟨h.next, 0, some sz⟩) t t es → ItQ (runItems rec l (puts ((dt, (.slice (some ⟨h.next, 0, some sz⟩) t t)) :: L) f) h') K) : ItQ (runItems rec (iOp (put dt) (.e (eAppend e sz by_ x y)) :: l) (puts L f) h) K := by
  subst ht
  subst he
  obtain ⟨rfl, hr, ho⟩ := hp
  have hb1 : Nat.ble ((c + m) * by_) 140737488355328 = true := Nat.ble_eq_true_of_le hbig
  have hb2 : Nat.ble (c + m) c = false := by rw [← Bool.not_eq_true]; exact fun e => by have := Nat.le_of_ble_eq_true e; omega
  cases o with
  | none =>
    have hc0 : c = 0 := hr.2
    subst hc0
    have hcs : cs = [] := List.length_eq_zero_iff.1 (by simpa using hr.1)
    subst hcs
    refine i_e ⟨.slice (some ⟨h.next, 0, some sz⟩) (0 + m) (0 + m), h.new (.cells e ds (.own true)), ?_, hq _ rfl (fun d hd _ => by rw [Heap.get_new, if_neg (by omega)]) ⟨rfl, Row.new (by simp) (by simpa using hd) (.inr rfl), fun q hq' => .inr ⟨h.next, by cases hq'; rfl, hB, by rw [Heap.get_new, if_pos rfl]; rfl⟩⟩⟩
    simp only [eAppend, hx, hy, hb1, hb2, cond_true, cond_false]
    rfl
  | some q =>
    have hold : loadN h.get q (c * sz) = some cs := hr.2.2.2
    have hlen : (cs ++ ds).length = (c + m) * sz := by rw [List.length_append, hr.1, hd, Nat.add_mul]
    rcases ho q rfl with hs | ⟨b, rfl, hB', hg⟩
    · refine i_e ⟨.slice (some ⟨h.next, 0, some sz⟩) (c + m) (c + m), h.new (.cells e (cs ++ ds) (.own true)), ?_, hq _ rfl (fun d hd _ => by rw [Heap.get_new, if_neg (by omega)]) ⟨rfl, Row.new (by simp) hlen (.inr rfl), fun q hq' => .inr ⟨h.next, by cases hq'; rfl, hB, by rw [Heap.get_new, if_pos rfl]⟩⟩⟩
      simp only [eAppend, hx, hy, hb1, hb2, cond_true, cond_false, hold, hs]
      rfl
    · have hsz' : (Nat.beq sz sz && Nat.beq e e) = true := by simp
      refine i_e ⟨.slice (some ⟨h.next, 0, some sz⟩) (c + m) (c + m), (h.put b (.cells e cs .dead)).new (.cells e (cs ++ ds) (.own true)), ?_, hq _ rfl (fun d hd ho => ?_) ⟨rfl, Row.new (h := h.put b (.cells e cs .dead)) (by simp) hlen (.inr rfl), fun q hq' => .inr ⟨h.next, by cases hq'; rfl, hB, by rw [Heap.get_new, Heap.next_put, if_pos rfl]⟩⟩⟩
      · simp only [eAppend, hx, hy, hb1, hb2, cond_true, cond_false, hold, hg, hsz']
      · rcases ho _ rfl with h1 | h1
        · rw [Heap.get_new, Heap.next_put, if_neg (by omega), Heap.get_put, if_neg h1]
        · cases h1
end
end Vm

/-! Rules for walks that came up on the way, gathered. -/
set_option linter.unusedVariables false
namespace Vm
open Go
theorem bytesL_u8s (l : List UInt8) : bytesL (u8s l) = some l := by
  induction l with
  | nil => rfl
  | cons b l ih =>
    show (match bytesL (u8s l) with | some l => some (UInt8.ofNat b.toNat :: l) | none => none) = _
    rw [ih]
    simp
theorem Row.str {h : Heap} {o : Option Addr} {m c : Nat} {l : List UInt8} {a : Fr} {x : Sel} (r : Row h 1 o m (u8s l)) (hx : x.f a = .slice o m c) : (oToString x).f a h.get = some (.string ⟨l.toArray⟩) := by
  have hm : l.length = m := by simpa [u8s_length] using r.1
  cases o with
  | none =>
    have h0 : m = 0 := r.2
    have : l = [] := List.length_eq_zero_iff.1 (by omega)
    subst this
    simp only [oToString, hx]
  | some q =>
    have h3 := r.2.2.2
    rw [Nat.mul_one] at h3
    simp only [oToString, hx, h3, bytesL_u8s]
theorem Row.src8 {h : Heap} {o : Option Addr} {m c : Nat} {l : List UInt8} (r : Row h 1 o m (u8s l)) : srcCells h.get 1 (.slice o m c) = some (l.length, u8s l) := by
  have hm : l.length = m := by simpa [u8s_length] using r.1
  rw [hm]; exact r.src
theorem rep_zero (n : Nat) : rep n [Value.int .u8 0] = u8s (List.replicate n 0) := by
  induction n with
  | zero => rfl
  | succ n ih => rw [rep_succ, ih, List.replicate_succ]; rfl
theorem gap_val (m : Nat) (hm : m ≤ 9223372036854775807) : wrap .i64 (.ofNat (Nat.land (bitsOf .i64 (wrap .i64 (0 - (m : Int)))) (bitsOf .i64 3))) = (((4 - m % 4) % 4 : Nat) : Int) := by
  have e1 : wrap .i64 (0 - (m : Int)) = -(m : Int) := by rw [wrap_i64 (by omega) (by omega)]; omega
  have e2 : Nat.land (bitsOf .i64 (-(m : Int))) (bitsOf .i64 3) = (4 - m % 4) % 4 := by
    have h3 : ∀ x : Nat, Nat.land x (bitsOf .i64 3) = x % 4 := fun x => Nat.and_two_pow_sub_one_eq_mod x 2
    rw [h3]
    cases m with
    | zero => rfl
    | succ k =>
      have : -((k + 1 : Nat) : Int) = Int.negSucc k := rfl
      rw [this]
      have hb : bitsOf .i64 (Int.negSucc k) = (Int.negSucc k % (2 ^ IntKind.i64.bits : Int)).toNat := rfl
      rw [hb, show IntKind.i64.bits = 64 from rfl]
      have h4 : (Int.negSucc k % (2 ^ 64 : Int)) = ((18446744073709551616 - (k + 1) : Nat) : Int) := by
        rw [Int.negSucc_eq]
        omega
      rw [h4, Int.toNat_natCast]
      omega
  rw [e1, e2]
  exact wrap_nat (by show _ < 9223372036854775808; omega)
theorem wrap_u8 (m : Nat) : wrap .u8 (m : Int) = (((UInt8.ofNat m).toNat : Nat) : Int) := by
  rw [wrap_eq]
  unfold IntKind.wrap
  simp [IntKind.bits, IntKind.signed]
theorem i_cv8 {rec : Rec} {L : List (Nat × Value)} {f : Fr} {dt : Nat} {h : Heap} {K : Fr → Heap → Prop} {rd : Bool} {x : Sel} {l : List ISem} {k : IntKind} {m : Nat} (hx : x.f (puts L f) = .int k (m : Int)) (hq : ItQ (runItems rec l (puts ((dt, (.int .u8 (((UInt8.ofNat m).toNat : Nat) : Int))) :: L) f) h) K) : ItQ (runItems rec (iOp (put dt) (.v rd (oConvInt .u8 x)) :: l) (puts L f) h) K := i_v (by simp only [oConvInt, hx, wrap_u8]) hq
theorem i_shr {rec : Rec} {L : List (Nat × Value)} {f : Fr} {dt : Nat} {h : Heap} {K : Fr → Heap → Prop} {rd : Bool} {x y : Sel} {l : List ISem} {k j : IntKind} {m i : Nat} (hx : x.f (puts L f) = .int k (m : Int)) (hy : y.f (puts L f) = .int j (i : Int)) (hi : i ≤ k.bits) (hq : ItQ (runItems rec l (puts ((dt, (.int k (((m / 2 ^ i : Nat)) : Int))) :: L) f) h) K) : ItQ (runItems rec (iOp (put dt) (.v rd (oSh fShr x y)) :: l) (puts L f) h) K := by
  refine i_v ?_ hq
  have hb : Nat.ble i k.bits = true := Nat.ble_eq_true_of_le hi
  have e : fShr.f k (m : Int) (i : Int) = some (.int k (((m / 2 ^ i : Nat)) : Int)) := by
    show some (Value.int k (Int.ofNat (m / 2 ^ (bif Nat.ble i k.bits then i else k.bits)))) = _
    rw [hb]; rfl
  simp only [oSh, hx, hy, e]
end Vm

namespace Vm
open Go
/-- what was there is as it was, but for one block -/
structure KeepsB (b : Nat) (h h' : Heap) : Prop where
  next : h.next ≤ h'.next
  get : ∀ c, c < h.next → c ≠ b → h'.get c = h.get c
theorem Keeps.but {h h' : Heap} (k : Keeps h h') (b : Nat) : KeepsB b h h' := ⟨k.next, fun c hc _ => k.get c hc⟩
theorem KeepsB.refl (b : Nat) (h : Heap) : KeepsB b h h := ⟨Nat.le_refl _, fun _ _ _ => rfl⟩
theorem KeepsB.trans {b : Nat} {h h' h'' : Heap} (k : KeepsB b h h') (k' : KeepsB b h' h'') : KeepsB b h h'' := ⟨Nat.le_trans k.next k'.next, fun c hc hb => (k'.get c (Nat.lt_of_lt_of_le hc k.next) hb).trans (k.get c hc hb)⟩
theorem KeepsB.new {b : Nat} {h0 h h' : Heap} (k : KeepsB b h h') (hb : h0.next ≤ b) (k0 : Keeps h0 h) : Keeps h0 h' := ⟨Nat.le_trans k0.next k.next, fun c hc => (k.get c (Nat.lt_of_lt_of_le hc k0.next) (by omega)).trans (k0.get c hc)⟩
/-- a row lies elsewhere -/
def Off (b : Nat) (o : Option Addr) : Prop := ∀ q, o = some q → q.block ≠ b
theorem Off.none (b : Nat) : Off b none := fun q e => by cases e
theorem Row.keepsB {h h' : Heap} {sz n b : Nat} {o : Option Addr} {cs : List Value} (r : Row h sz o n cs) (k : KeepsB b h h') (ho : Off b o) : Row h' sz o n cs := by
  obtain ⟨h1, h2⟩ := r
  refine ⟨h1, ?_⟩
  cases o with
  | none => exact h2
  | some q =>
    refine ⟨Nat.lt_of_lt_of_le h2.1 k.next, h2.2.1, ?_⟩
    have := h2.2.2
    unfold loadN at this ⊢
    rw [k.get _ h2.1 (ho q rfl)]
    exact this
theorem Off.of {b : Nat} {o o' : Option Addr} (ho : Off b o) (h : ∀ q', o' = some q' → ∃ q, o = some q ∧ q'.block = q.block) : Off b o' := fun q' e => by
  obtain ⟨q, h1, h2⟩ := h q' e
  rw [h2]; exact ho q h1
theorem Row.off {h : Heap} {sz n : Nat} {o : Option Addr} {cs : List Value} (r : Row h sz o n cs) {b : Nat} (hb : h.next ≤ b) : Off b o := fun q e => by
  subst e
  have := r.2.1
  omega
/-- a reader: what is left in it -/
def Bel (b : Nat) (o : Option Addr) : Prop := ∀ q, o = some q → q.block < b
theorem Bel.off {b : Nat} {o : Option Addr} (h : Bel b o) : Off b o := fun q e => Nat.ne_of_lt (h q e)
theorem Bel.of {b : Nat} {o o' : Option Addr} (ho : Bel b o) (h : ∀ q', o' = some q' → ∃ q, o = some q ∧ q'.block = q.block) : Bel b o' := fun q' e => by
  obtain ⟨q, e1, e2⟩ := h q' e
  rw [e2]; exact ho q e1
theorem Row.bel {h : Heap} {sz n : Nat} {o : Option Addr} {cs : List Value} (r : Row h sz o n cs) {b : Nat} (hb : h.next ≤ b) : Bel b o := fun q e => by
  subst e; exact Nat.lt_of_lt_of_le r.2.1 hb
def Rd (h : Heap) (b : Nat) (l : List UInt8) : Prop := ∃ e o c, b < h.next ∧ h.get b = some (.cells e [.slice o l.length c] (.own false)) ∧ Row h 1 o l.length (u8s l) ∧ l.length ≤ c ∧ Bel b o
theorem Rd.keeps {h h' : Heap} {b : Nat} {l : List UInt8} (r : Rd h b l) (k : Keeps h h') : Rd h' b l := by
  obtain ⟨e, o, c, h1, h2, h3, h4, h5⟩ := r
  exact ⟨e, o, c, Nat.lt_of_lt_of_le h1 k.next, by rw [k.get b h1]; exact h2, h3.keeps k, h4, h5⟩
theorem load1_own {h : Heap} {b e off : Nat} {cs : List Value} {op : Bool} {s : Option Nat} (hg : h.get b = some (.cells e cs (.own op))) : load1 h.get ⟨b, off, s⟩ = cs[off]? := load1_of (q := ⟨b, off, s⟩) hg (by simp)
/-- a number's octets, the greatest first -/
def num (l : List UInt8) : Nat := l.foldl (fun a b => a * 256 + b.toNat) 0
theorem u8s_get (l : List UInt8) (i : Nat) : (u8s l)[i]? = (l[i]?).map fun b => Value.int .u8 ((b.toNat : Nat) : Int) := by rw [u8s_eq, List.getElem?_map]
theorem u8s_take (l : List UInt8) (k : Nat) : u8s (l.take k) = (u8s l).take k := by rw [u8s_eq, u8s_eq, List.map_take]
theorem u8s_drop (l : List UInt8) (k : Nat) : u8s (l.drop k) = (u8s l).drop k := by rw [u8s_eq, u8s_eq, List.map_drop]
/-- an octet is read -/
theorem i_byte {rec : Rec} {L : List (Nat × Value)} {f : Fr} {dt : Nat} {h : Heap} {K : Fr → Heap → Prop} {rd : Bool} {x : Sel} {ls : List ISem} {m i : Nat} {l : List UInt8} {u : Addr} {s : Option Nat} (b : UInt8) (hx : x.f (puts L f) = .pointer (some ⟨u.block, u.off + i, s⟩)) (hr : Row h 1 (some u) m (u8s l)) (hi : l[i]? = some b)
    (hq : ItQ (runItems rec ls (puts ((dt, (.int .u8 ((b.toNat : Nat) : Int))) :: L) f) h) K) : ItQ (runItems rec (iOp (put dt) (.v rd (oLoad1 x)) :: ls) (puts L f) h) K := by
  have hm : l.length = m := by simpa [u8s_length] using hr.1
  refine i_load1 hx ?_ hq
  rw [hr.cell (by have := (List.getElem?_eq_some_iff.1 hi).1; omega), u8s_get, hi]; rfl
end Vm

namespace Vm
open Go
theorem finA2 {x1 x2 : Sel} {a : Fr} {h : Heap} {u : Addr} {k : Nat} {cs : List Value} {v2 : Value} {R : Value → Heap → Prop} (h1 : x1.f a = .pointer (some u)) (hl : loadN h.get u k = some cs) (h2 : x2.f a = v2) (hr : R (.tuple #[.agg cs.toArray, v2]) h) : Fin [.agg x1 k, .tmp x2] R .ret a h := by
  subst h2; exact ⟨.inr rfl, _, _, by simp only [rvs, rv, h1, hl], .inr ⟨by simp, rfl⟩, hr⟩
theorem finA3 {x1 x2 x3 : Sel} {a : Fr} {h : Heap} {u : Addr} {k : Nat} {cs : List Value} {v2 v3 : Value} {R : Value → Heap → Prop} (h1 : x1.f a = .pointer (some u)) (hl : loadN h.get u k = some cs) (h2 : x2.f a = v2) (h3 : x3.f a = v3) (hr : R (.tuple #[.agg cs.toArray, v2, v3]) h) : Fin [.agg x1 k, .tmp x2, .tmp x3] R .ret a h := by
  subst h2 h3; exact ⟨.inr rfl, _, _, by simp only [rvs, rv, h1, hl], .inr ⟨by simp, rfl⟩, hr⟩
theorem finO2 {x1 x2 : Sel} {a : Fr} {h : Heap} {u1 u2 : Addr} {v1 v2 : Value} {R : Value → Heap → Prop} (h1 : x1.f a = .pointer (some u1)) (l1 : load1 h.get u1 = some v1) (h2 : x2.f a = .pointer (some u2)) (l2 : load1 h.get u2 = some v2) (hr : R (.tuple #[v1, v2]) h) : Fin [.one x1, .one x2] R .ret a h :=
  ⟨.inr rfl, _, _, by simp only [rvs, rv, h1, l1, h2, l2], .inr ⟨by simp, rfl⟩, hr⟩
end Vm

namespace Vm
open Go
theorem i_ldown {rec : Rec} {L : List (Nat × Value)} {f : Fr} {dt : Nat} {h : Heap} {K : Fr → Heap → Prop} {rd : Bool} {x : Sel} {ls : List ISem} {b e off : Nat} {s : Option Nat} {cs : List Value} {op : Bool} {v : Value} (hx : x.f (puts L f) = .pointer (some ⟨b, off, s⟩)) (hg : h.get b = some (.cells e cs (.own op))) (hv : cs[off]? = some v)
    (hq : ItQ (runItems rec ls (puts ((dt, v) :: L) f) h) K) : ItQ (runItems rec (iOp (put dt) (.v rd (oLoad1 x)) :: ls) (puts L f) h) K := i_load1 hx ((load1_own hg).trans hv) hq
theorem i_nea {rec : Rec} {L : List (Nat × Value)} {f : Fr} {dt : Nat} {h : Heap} {K : Fr → Heap → Prop} {rd : Bool} {x y : Sel} {ls : List ISem} {k k' : IntKind} {a b c d : Int} (hx : x.f (puts L f) = .agg #[.int k a, .int k' b]) (hy : y.f (puts L f) = .agg #[.int k c, .int k' d])
    (hq : ItQ (runItems rec ls (puts ((dt, .bool (decide ¬(a = c ∧ b = d))) :: L) f) h) K) : ItQ (runItems rec (iOp (put dt) (.v rd (oNe (.agg [1, 1]) x y)) :: ls) (puts L f) h) K := i_v (by
  simp only [oNe, hx, hy]
  show (match eqL [1, 1] [.int k a, .int k' b] [.int k c, .int k' d] with | some b => some (Value.bool !b) | none => none) = _
  have e1 : ∀ (k : IntKind) (p q : Int), eqP 1 (.int k p) (.int k q) = some (eqI p q) := fun k p q => by
    show (bif Nat.beq (kc k) (kc k) then some (eqI p q) else none) = _
    rw [Nat.beq_refl]; rfl
  have e2 : ∀ p q : Int, eqI p q = decide (p = q) := eqI_eq
  have e3 : eqL [1, 1] [.int k a, .int k' b] [.int k c, .int k' d] = (match eqP 1 (.int k a) (.int k c) with | some true => (match eqP 1 (.int k' b) (.int k' d) with | some true => some true | some false => some false | none => none) | some false => some false | none => none) := rfl
  rw [e3, e1, e1, e2, e2]
  by_cases h1 : a = c <;> by_cases h2 : b = d <;> simp [h1, h2]) hq
/-- a code is cut in two -/
theorem o_cut {rec : Rec} {n : Nat} {a : Fr} {h : Heap} {Q : Ex → Fr → Heap → Prop} {x y : Sem} (Mid : Fr → Heap → Prop) (h1 : OutQ (x.f rec n a h) (fun e a h => e = .normal ∧ Mid a h)) (h2 : ∀ a h, Mid a h → OutQ (y.f rec n a h) Q) : OutQ ((sSeq x y).f rec n a h) Q :=
  out_seq (h1.mono fun e a h ⟨he, hm⟩ => by subst he; exact h2 a h hm)
/-- pairs of numbers of 16 bits, and numbers of 32 bits, as cells -/
def pr16 (l : List (Nat × Nat)) : List Value := l.flatMap fun p => [.int .u16 (p.1 : Int), .int .u16 (p.2 : Int)]
def n32 (l : List Nat) : List Value := l.map fun (x : Nat) => .int .u32 (x : Int)
theorem pr16_length : ∀ (l : List (Nat × Nat)), (pr16 l).length = l.length * 2
  | [] => rfl
  | p :: l => by
    have := pr16_length l
    simp only [pr16, List.flatMap_cons, List.length_append, List.length_cons, List.length_nil] at this ⊢
    omega
theorem n32_length (l : List Nat) : (n32 l).length = l.length := by simp [n32]
theorem pr16_drop : ∀ (l : List (Nat × Nat)) (i : Nat), (pr16 l).drop (i * 2) = pr16 (l.drop i)
  | l, 0 => by simp
  | [], i + 1 => by simp [pr16]
  | p :: l, i + 1 => by
    rw [show (i + 1) * 2 = i * 2 + 2 by omega, List.drop_succ_cons, ← pr16_drop l i]
    rfl
theorem pr16_at {l : List (Nat × Nat)} {i : Nat} {p : Nat × Nat} (h : l[i]? = some p) : ((pr16 l).drop (i * 2)).take 2 = [.int .u16 (p.1 : Int), .int .u16 (p.2 : Int)] := by
  rw [pr16_drop, drop_cons h]; rfl
theorem pr16_at0 {l : List (Nat × Nat)} {i : Nat} {p : Nat × Nat} (h : l[i]? = some p) : (pr16 l)[i * 2]? = some (.int .u16 (p.1 : Int)) := by
  have e : (pr16 l)[i * 2 + 0]? = ((pr16 l).drop (i * 2))[0]? := List.getElem?_drop.symm
  refine e.trans ?_
  rw [pr16_drop, drop_cons h]; rfl
theorem pr16_at1 {l : List (Nat × Nat)} {i : Nat} {p : Nat × Nat} (h : l[i]? = some p) : (pr16 l)[i * 2 + 1]? = some (.int .u16 (p.2 : Int)) := by
  have e : (pr16 l)[i * 2 + 1]? = ((pr16 l).drop (i * 2))[1]? := List.getElem?_drop.symm
  refine e.trans ?_
  rw [pr16_drop, drop_cons h]; rfl
theorem n32_at {l : List Nat} {i : Nat} {p : Nat} (h : l[i]? = some p) : (n32 l)[i]? = some (.int .u32 (p : Int)) := by
  rw [n32, List.getElem?_map, h]; rfl
theorem pr16_app (l m : List (Nat × Nat)) : pr16 (l ++ m) = pr16 l ++ pr16 m := by simp [pr16, List.flatMap_append]
theorem n32_app (l m : List Nat) : n32 (l ++ m) = n32 l ++ n32 m := by simp [n32]
theorem take_snoc {α : Type} {l m : List α} {i : Nat} {x : α} (h : l.take i = m.take i) (hl : l[i]? = some x) (hm : m[i]? = some x) : l.take (i + 1) = m.take (i + 1) := by
  rw [List.take_add_one, List.take_add_one, h, hl, hm]
theorem take_ne {α : Type} {l m : List α} {i : Nat} {x y : α} (hl : l[i]? = some x) (hm : m[i]? = some y) (hn : x ≠ y) : l ≠ m := fun e => by
  subst e; rw [hl] at hm; cases hm; exact hn rfl
end Vm

namespace Vm
open Go
theorem box_two (h : Heap) (A B : Blk) : ((h.new A).new B).get h.next = some A ∧ ((h.new A).new B).get (h.next + 1) = some B ∧ Keeps h ((h.new A).new B) ∧ ((h.new A).new B).next = h.next + 2 := by
  refine ⟨?_, ?_, (Keeps.new h A).trans (Keeps.new _ B), rfl⟩
  · rw [Heap.get_new, if_neg (by simp only [Heap.next_new]; omega), Heap.get_new, if_pos rfl]
  · rw [Heap.get_new, if_pos (by simp only [Heap.next_new])]
theorem box_one (h : Heap) (A : Blk) : (h.new A).get h.next = some A ∧ Keeps h (h.new A) ∧ (h.new A).next = h.next + 1 :=
  ⟨by rw [Heap.get_new, if_pos rfl], Keeps.new h A, rfl⟩
section
variable {rec : Rec} {a : Fr} {h : Heap}
theorem chk_skip {st : List (Fr × Heap)} {i : Nat} {s : VSem} {ms : List Nat} {r : List (Nat × Option (Sel × Bool) × VSem × List Nat)} {g : Sel} {b want : Bool} (h1 : st[i]? = some (a, h)) (hg : g.f a = .bool b) (hb : (b == want) = false) (hr : r.all (chkOne st) = true) : List.all ((i, some (g, want), s, ms) :: r) (chkOne st) = true := by
  rw [List.all_cons, hr, Bool.and_true]
  unfold chkOne
  simp only [h1, hg, hb, cond_false, Bool.true_or]
theorem chk_live {st : List (Fr × Heap)} {i : Nat} {s : VSem} {ms : List Nat} {r : List (Nat × Option (Sel × Bool) × VSem × List Nat)} {g : Sel × Bool} {v : Value} (h1 : st[i]? = some (a, h)) (h2 : s.f a h.get = some v) (hv : sameV v v = true)
    (h3 : ∀ m ∈ ms, ∃ a' h', st[m]? = some (a', h') ∧ s.f a h'.get = some v) (hr : r.all (chkOne st) = true) : List.all ((i, some g, s, ms) :: r) (chkOne st) = true := by
  rw [List.all_cons, hr, Bool.and_true]
  unfold chkOne
  simp only [h1, h2]
  rw [Bool.or_eq_true]
  right
  rw [List.all_eq_true]
  intro m hm
  obtain ⟨a', h', e1, e2⟩ := h3 m hm
  simp only [e1, e2, hv]
theorem ldN {x : Sel} {n : Nat} {p : Addr} {v : List Value} {g : G} (hx : x.f a = .pointer (some p)) (hl : loadN g p n = some v) : (oLoadN n x).f a g = some (.agg v.toArray) := by simp only [oLoadN, hx, hl]
theorem finA1 {x1 : Sel} {u : Addr} {k : Nat} {cs : List Value} {R : Value → Heap → Prop} (h1 : x1.f a = .pointer (some u)) (hl : loadN h.get u k = some cs) (hr : R (.agg cs.toArray) h) : Fin [.agg x1 k] R .ret a h :=
  ⟨.inr rfl, _, _, by simp only [rvs, rv, h1, hl], .inl rfl, hr⟩
end
/-- one cell of a block is set -/
theorem i_stB {rec : Rec} {L : List (Nat × Value)} {f : Fr} {h : Heap} {K : Fr → Heap → Prop} {x y : Sel} {l : List ISem} {b e off : Nat} {s : Option Nat} {cs : List Value} {v : Value} {op : Bool} (hx : x.f (puts L f) = .pointer (some ⟨b, off, s⟩)) (hy : cellsL (y.f (puts L f)) = some [v]) (hg : h.get b = some (.cells e cs (.own op))) (hl : off < cs.length)
    (hq : ∀ h2, KeepsB b h h2 → h2.next = h.next → h2.get b = some (.cells e (cs.set off v) (.own op)) → ItQ (runItems rec l (puts L f) h2) K) : ItQ (runItems rec (iOp ⟨fun _ a => a⟩ (.e (eStore 1 x y)) :: l) (puts L f) h) K :=
  i_store1 (u := ⟨b, off, s⟩) hx hy hg hl (hq _ ⟨Nat.le_refl _, fun d _ hd => by rw [Heap.get_put, if_neg hd]⟩ rfl (by rw [Heap.get_put, if_pos rfl]))
theorem loadN_all {h : Heap} {b e : Nat} {cs : List Value} {op : Bool} {s : Option Nat} {n : Nat} (hg : h.get b = some (.cells e cs (.own op))) (hn : cs.length = n) : loadN h.get ⟨b, 0, s⟩ n = some cs := by
  rw [loadN_of (q := ⟨b, 0, s⟩) hg (by simp) (by show 0 + n ≤ _; omega)]
  show some ((cs.drop 0).take n) = _
  rw [List.drop_zero, List.take_of_length_le (by omega)]
/-- a list of operations is cut in two -/
theorem i_cut {rec : Rec} {l : List ISem} {a : Fr} {h : Heap} {K : Fr → Heap → Prop} (k : Nat) (Mid : Fr → Heap → Prop) (h1 : ItQ (runItems rec (l.take k) a h) Mid) (h2 : ∀ a h, Mid a h → ItQ (runItems rec (l.drop k) a h) K) : ItQ (runItems rec l a h) K := by
  have key : ∀ (l m : List ISem) (a : Fr) (h : Heap), ItQ (runItems rec l a h) Mid → (∀ a h, Mid a h → ItQ (runItems rec m a h) K) → ItQ (runItems rec (l ++ m) a h) K := by
    intro l
    induction l with
    | nil =>
      rintro m a h ⟨a1, h1, e, hm⟩ h2
      cases e
      exact h2 _ _ hm
    | cons i l ih =>
      rintro m a h ⟨a1, h1, e, hm⟩ h2
      rw [runItems_cons] at e
      cases hi : i.f rec a h with
      | no => rw [hi] at e; cases e
      | mk a2 h2' =>
        rw [hi] at e
        obtain ⟨a3, h3, e3, hk⟩ := ih m a2 h2' ⟨a1, h1, e, hm⟩ h2
        refine ⟨a3, h3, ?_, hk⟩
        rw [List.cons_append, runItems_cons, hi]
        exact e3
  have := key (l.take k) (l.drop k) a h h1 h2
  rwa [List.take_append_drop] at this
theorem st_t {E φ : Prop} (h : true = true ↔ ¬E) : true = true ↔ ¬(E ∧ φ) := ⟨fun _ e => h.1 rfl e.1, fun _ => rfl⟩
theorem st_f {E φ : Prop} {b : Bool} (h : false = true ↔ ¬E) (hb : b = true ↔ ¬φ) : b = true ↔ ¬(E ∧ φ) := by
  have hE : E := Classical.byContradiction fun hn => by have := h.2 hn; cases this
  exact ⟨fun e hc => hb.1 e hc.2, fun hn => hb.2 fun hp => hn ⟨hE, hp⟩⟩
theorem dec_ne (a b : Nat) : decide ((a : Int) ≠ (b : Int)) = true ↔ ¬a = b := by rw [decide_eq_true_iff]; exact ⟨fun h e => h (by rw [e]), fun h e => h (by omega)⟩
theorem dec_ne' {α : Type} [DecidableEq α] (a b : α) : decide (a ≠ b) = true ↔ ¬a = b := by simp
theorem dec_not {φ : Prop} [Decidable φ] : (!decide φ) = true ↔ ¬φ := by simp
end Vm

namespace Vm
open Go
theorem wrap_lt {k : IntKind} {r : Nat} (h : r < lim k) : wrap k (.ofNat r) = (r : Int) := by
  show (bif Nat.blt r (lim k) then Int.ofNat r else k.wrap (.ofNat r)) = _
  have e : Nat.blt r (lim k) = true := by simpa [Nat.blt_eq] using h
  rw [e]; rfl
theorem i_xorn {rec : Rec} {L : List (Nat × Value)} {f : Fr} {dt : Nat} {h : Heap} {K : Fr → Heap → Prop} {rd : Bool} {x y : Sel} {l : List ISem} {k : IntKind} {m q : Nat} (b : Nat) (hx : x.f (puts L f) = .int k (m : Int)) (hy : y.f (puts L f) = .int k (q : Int)) (hb : lim k = 2 ^ b) (hm : m < 2 ^ b) (hq' : q < 2 ^ b)
    (hq : ItQ (runItems rec l (puts ((dt, .int k ((m ^^^ q : Nat) : Int)) :: L) f) h) K) : ItQ (runItems rec (iOp (put dt) (.v rd (oInt2 fXor x y)) :: l) (puts L f) h) K :=
  i_v (int2w _ hx hy (by
    show some (Value.int k (wrap k (.ofNat (Nat.xor m q)))) = _
    rw [wrap_lt (by rw [hb]; exact Nat.xor_lt_two_pow hm hq')]; rfl)) hq
theorem i_com32 {rec : Rec} {L : List (Nat × Value)} {f : Fr} {dt : Nat} {h : Heap} {K : Fr → Heap → Prop} {rd : Bool} {x : Sel} {l : List ISem} {m : Nat} (hx : x.f (puts L f) = .int .u32 (m : Int)) (hm : m < 4294967296)
    (hq : ItQ (runItems rec l (puts ((dt, .int .u32 ((4294967295 ^^^ m : Nat) : Int)) :: L) f) h) K) : ItQ (runItems rec (iOp (put dt) (.v rd (oCom x)) :: l) (puts L f) h) K :=
  i_v (by
    simp only [oCom, hx]
    exact congrArg (fun z => some (Value.int .u32 z)) (wrap_lt (k := .u32) (r := 4294967295 ^^^ m) (Nat.xor_lt_two_pow (n := 32) (by decide) hm))) hq
end Vm

namespace Vm
open Go
theorem i_quo32 {rec : Rec} {L : List (Nat × Value)} {f : Fr} {dt : Nat} {h : Heap} {K : Fr → Heap → Prop} {rd : Bool} {x y : Sel} {l : List ISem} {m q : Nat} (hx : x.f (puts L f) = .int .u32 (m : Int)) (hy : y.f (puts L f) = .int .u32 (q : Int)) (h0 : q ≠ 0) (hm : m < 4294967296)
    (hq : ItQ (runItems rec l (puts ((dt, .int .u32 ((m / q : Nat) : Int)) :: L) f) h) K) : ItQ (runItems rec (iOp (put dt) (.v rd (oInt2 fQuo x y)) :: l) (puts L f) h) K :=
  i_v (int2w _ hx hy (by
    show (bif eqI (q : Int) 0 then none else some (Value.int .u32 (wrap .u32 (Int.tdiv (m : Int) (q : Int))))) = _
    rw [eqI_dec, decide_eq_false (by omega)]
    show some (Value.int .u32 (wrap .u32 (.ofNat (m / q)))) = _
    rw [wrap_lt (k := .u32) (Nat.lt_of_le_of_lt (Nat.div_le_self _ _) hm)])) hq
end Vm

namespace Vm
open Go
theorem i_slX {rec : Rec} {L : List (Nat × Value)} {f : Fr} {dt : Nat} {h : Heap} {K : Fr → Heap → Prop} {rd : Bool} {x lo hi : Sel} {l : List ISem} {q : Addr} {m c b t sz : Nat} {k k' : IntKind} (hx : x.f (puts L f) = .slice (some q) m c) (hs : q.spot = none ∨ q.spot = some sz) (hz : lo.f (puts L f) = .int k' (b : Int)) (hy : hi.f (puts L f) = .int k (t : Int)) (hb : b ≤ t) (ht : t ≤ c) (hcb : c ≠ b)
    (hq : ItQ (runItems rec l (puts ((dt, (.slice (some ⟨q.block, q.off + b * sz, q.spot⟩) (t - b) (c - b))) :: L) f) h) K) : ItQ (runItems rec (iOp (put dt) (.v rd (oSlice sz x (some lo) (some hi) none)) :: l) (puts L f) h) K := by
  refine i_v (v := .slice (some ⟨q.block, q.off + b * sz, q.spot⟩) (t - b) (c - b)) ?_ hq
  have e : Nat.beq c b = false := by
    cases h : Nat.beq c b with
    | true => exact absurd (Nat.eq_of_beq_eq_true h) hcb
    | false => rfl
  simp only [oSlice, hx, bnd_none, bnd_nat hz hb, bnd_nat hy ht, cutSpot_lo hs ht, e, cond_false]
/-- a part of a block is made nothing -/
theorem i_clear {rec : Rec} {L : List (Nat × Value)} {f : Fr} {h : Heap} {K : Fr → Heap → Prop} {x : Sel} {l : List ISem} {b off n c e : Nat} {s : Option Nat} {z cs : List Value} {op : Bool} (hx : x.f (puts L f) = .slice (some ⟨b, off, s⟩) n c) (hn : n ≠ 0) (hg : h.get b = some (.cells e cs (.own op))) (hl : off + (rep n z).length ≤ cs.length)
    (hq : ItQ (runItems rec l (puts L f) (h.put b (.cells e (cs.take off ++ rep n z ++ cs.drop (off + (rep n z).length)) (.own op)))) K) : ItQ (runItems rec (iOp ⟨fun _ a => a⟩ (.e (eClearS z x)) :: l) (puts L f) h) K := by
  refine items_cons (it_e ⟨.tuple #[], h.put b (.cells e (cs.take off ++ rep n z ++ cs.drop (off + (rep n z).length)) (.own op)), ?_, hq⟩)
  have h1 := storeN_own (s := none) (off := off) (vs := rep n z) hg hl
  rw [putAt_eq _ _ _ (by omega)] at h1
  have e1 : Nat.beq n 0 = false := by
    cases h : Nat.beq n 0 with
    | true => exact absurd (Nat.eq_of_beq_eq_true h) hn
    | false => rfl
  simp only [eClearS, hx, e1, cond_false]
  rw [h1]
end Vm

namespace Vm
open Go
theorem i_orN {rec : Rec} {L : List (Nat × Value)} {f : Fr} {dt : Nat} {h : Heap} {K : Fr → Heap → Prop} {rd : Bool} {x y : Sel} {l : List ISem} {k : IntKind} {m q : Nat} (b : Nat) (hx : x.f (puts L f) = .int k (m : Int)) (hy : y.f (puts L f) = .int k (q : Int)) (hb : lim k = 2 ^ b) (hm : m < 2 ^ b) (hq' : q < 2 ^ b)
    (hq : ItQ (runItems rec l (puts ((dt, .int k ((m ||| q : Nat) : Int)) :: L) f) h) K) : ItQ (runItems rec (iOp (put dt) (.v rd (oInt2 fOr x y)) :: l) (puts L f) h) K :=
  i_v (int2w _ hx hy (by
    show some (Value.int k (wrap k (.ofNat (Nat.lor m q)))) = _
    rw [wrap_lt (by rw [hb]; exact Nat.or_lt_two_pow hm hq')]; rfl)) hq
end Vm

namespace Vm
open Go
theorem rep_int {h : Heap} {k : IntKind} {r : PT} {cs : List Value} (x : Rep h (.pair (.int k) r) cs) : ∃ (n : Int) (rest : List Value), cs = .int k n :: rest ∧ (Lit.int k n).wf = true ∧ Rep h r rest := by
  cases x with
  | pair h1 hf hr =>
    cases hf with
    | int hn => exact ⟨_, _, rfl, hn, hr⟩
theorem rep_sl {h : Heap} {e r : PT} {cs : List Value} (x : Rep h (.pair (.slice e) r) cs) : ∃ (v : Value) (rest : List Value), cs = v :: rest ∧ RepV h (.slice e) v ∧ Rep h r rest := by
  cases x with
  | pair h1 hf hr =>
    cases hf with
    | nil => exact ⟨_, _, rfl, .nil _, hr⟩
    | slice hb hg hlen hl hsz each => exact ⟨_, _, rfl, .slice hb hg hlen hl hsz each, hr⟩
theorem rep_unit {h : Heap} {cs : List Value} (x : Rep h .unit cs) : cs = [] := by cases x; rfl
theorem wf_nat {k : IntKind} {n : Int} (hk : k = .u8 ∨ k = .u16 ∨ k = .u32) (h : (Lit.int k n).wf = true) : ∃ m : Nat, n = (m : Int) ∧ m < lim k := by
  rcases hk with rfl | rfl | rfl <;> simp [Lit.wf, IntKind.min, IntKind.max, IntKind.bits, IntKind.signed] at h <;> exact ⟨n.toNat, by omega, by simp only [lim]; omega⟩
theorem pr16_of : ∀ (els : List (List Value)) {h : Heap}, (∀ c ∈ els, Rep h (.pair (.int .u16) (.pair (.int .u16) .unit)) c) → ∃ l : List (Nat × Nat), els.flatten = pr16 l ∧ l.length = els.length ∧ ∀ p ∈ l, p.1 < 65536 ∧ p.2 < 65536
  | [], _, _ => ⟨[], rfl, rfl, fun p hp => by cases hp⟩
  | x :: els, h, hx => by
    obtain ⟨l, hl, hlen, hr⟩ := pr16_of els (fun c hc => hx c (by simp [hc]))
    obtain ⟨n1, r1, rfl, w1, hx1⟩ := rep_int (hx x (by simp))
    obtain ⟨n2, r2, rfl, w2, hx2⟩ := rep_int hx1
    obtain rfl := rep_unit hx2
    obtain ⟨m1, rfl, b1⟩ := wf_nat (.inr (.inl rfl)) w1
    obtain ⟨m2, rfl, b2⟩ := wf_nat (.inr (.inl rfl)) w2
    refine ⟨(m1, m2) :: l, ?_, by simp [hlen], fun p hp => ?_⟩
    · rw [List.flatten_cons, hl]; rfl
    · rcases List.mem_cons.1 hp with rfl | hp
      · exact ⟨b1, b2⟩
      · exact hr p hp
theorem n32_of : ∀ (els : List (List Value)) {h : Heap}, (∀ c ∈ els, Rep h (.int .u32) c) → ∃ l : List Nat, els.flatten = n32 l ∧ l.length = els.length ∧ ∀ p ∈ l, p < 4294967296
  | [], _, _ => ⟨[], rfl, rfl, fun p hp => by cases hp⟩
  | x :: els, h, hx => by
    obtain ⟨l, hl, hlen, hr⟩ := n32_of els (fun c hc => hx c (by simp [hc]))
    cases hx x (by simp) with
    | @int k n1 w1 =>
      obtain ⟨m1, rfl, b1⟩ := wf_nat (.inr (.inr rfl)) w1
      refine ⟨m1 :: l, ?_, by simp [hlen], fun p hp => ?_⟩
      · rw [List.flatten_cons, hl]; rfl
      · rcases List.mem_cons.1 hp with rfl | hp
        · exact b1
        · exact hr p hp
theorem RepV.p16 {h : Heap} {v : Value} (r : RepV h (.slice (.pair (.int .u16) (.pair (.int .u16) .unit))) v) : ∃ (o : Option Addr) (c : Nat) (l : List (Nat × Nat)), v = .slice o l.length c ∧ Row h 2 o l.length (pr16 l) ∧ l.length ≤ c ∧ ∀ p ∈ l, p.1 < 65536 ∧ p.2 < 65536 := by
  obtain ⟨o, m, c, els, h1, h2, h3, h4, h5, h6, h7⟩ := Rep.row r
  obtain ⟨l, hl, hlen, hb⟩ := pr16_of els h5
  have hm : l.length = m := by rw [hlen, h3]
  subst hm
  exact ⟨o, c, l, h1, by rw [← hl]; exact h2, h6, hb⟩
theorem RepV.u32s {h : Heap} {v : Value} (r : RepV h (.slice (.int .u32)) v) : ∃ (o : Option Addr) (c : Nat) (l : List Nat), v = .slice o l.length c ∧ Row h 1 o l.length (n32 l) ∧ l.length ≤ c ∧ ∀ p ∈ l, p < 4294967296 := by
  obtain ⟨o, m, c, els, h1, h2, h3, h4, h5, h6, h7⟩ := Rep.row r
  obtain ⟨l, hl, hlen, hb⟩ := n32_of els h5
  have hm : l.length = m := by rw [hlen, h3]
  subst hm
  exact ⟨o, c, l, h1, by rw [← hl]; exact h2, h6, hb⟩
end Vm
namespace Vm
open Go
section
variable {rec : Rec} {L : List (Nat × Value)} {f : Fr} {dt : Nat} {h : Heap} {K : Fr → Heap → Prop} {l : List ISem}
theorem i_call5 {g : FuncId} {x1 x2 x3 x4 x5 : Sel} {v1 v2 v3 v4 v5 : Value} {R : Value → Heap → Prop} (h1 : x1.f (puts L f) = v1) (h2 : x2.f (puts L f) = v2) (h3 : x3.f (puts L f) = v3) (h4 : x4.f (puts L f) = v4) (h5 : x5.f (puts L f) = v5) (hv : ResQ (rec (.call g [v1, v2, v3, v4, v5]) h) R) (hq : ∀ v h', R v h' → ItQ (runItems rec l (puts ((dt, v) :: L) f) h') K) : ItQ (runItems rec (iOp (put dt) (.e (eCallF g [x1, x2, x3, x4, x5])) :: l) (puts L f) h) K := by
  subst h1 h2 h3 h4 h5; exact items_cons (it_e (ResQ.mono hv hq))
theorem i_call6 {g : FuncId} {x1 x2 x3 x4 x5 x6 : Sel} {v1 v2 v3 v4 v5 v6 : Value} {R : Value → Heap → Prop} (h1 : x1.f (puts L f) = v1) (h2 : x2.f (puts L f) = v2) (h3 : x3.f (puts L f) = v3) (h4 : x4.f (puts L f) = v4) (h5 : x5.f (puts L f) = v5) (h6 : x6.f (puts L f) = v6) (hv : ResQ (rec (.call g [v1, v2, v3, v4, v5, v6]) h) R) (hq : ∀ v h', R v h' → ItQ (runItems rec l (puts ((dt, v) :: L) f) h') K) : ItQ (runItems rec (iOp (put dt) (.e (eCallF g [x1, x2, x3, x4, x5, x6])) :: l) (puts L f) h) K := by
  subst h1 h2 h3 h4 h5 h6; exact items_cons (it_e (ResQ.mono hv hq))
theorem i_call7 {g : FuncId} {x1 x2 x3 x4 x5 x6 x7 : Sel} {v1 v2 v3 v4 v5 v6 v7 : Value} {R : Value → Heap → Prop} (h1 : x1.f (puts L f) = v1) (h2 : x2.f (puts L f) = v2) (h3 : x3.f (puts L f) = v3) (h4 : x4.f (puts L f) = v4) (h5 : x5.f (puts L f) = v5) (h6 : x6.f (puts L f) = v6) (h7 : x7.f (puts L f) = v7) (hv : ResQ (rec (.call g [v1, v2, v3, v4, v5, v6, v7]) h) R) (hq : ∀ v h', R v h' → ItQ (runItems rec l (puts ((dt, v) :: L) f) h') K) : ItQ (runItems rec (iOp (put dt) (.e (eCallF g [x1, x2, x3, x4, x5, x6, x7])) :: l) (puts L f) h) K := by
  subst h1 h2 h3 h4 h5 h6 h7; exact items_cons (it_e (ResQ.mono hv hq))
end
end Vm
namespace Vm
open Go
theorem rep_bool {h : Heap} {r : PT} {cs : List Value} (x : Rep h (.pair .bool r) cs) : ∃ (b : Bool) (rest : List Value), cs = .bool b :: rest ∧ Rep h r rest := by
  cases x with
  | pair h1 hf hr =>
    cases hf with
    | bool b => exact ⟨_, _, rfl, hr⟩
theorem rep_str {h : Heap} {r : PT} {cs : List Value} (x : Rep h (.pair .str r) cs) : ∃ (s : ByteArray) (rest : List Value), cs = .string s :: rest ∧ Rep h r rest := by
  cases x with
  | pair h1 hf hr =>
    cases hf with
    | str s => exact ⟨_, _, rfl, hr⟩
theorem RepV.sl {h : Heap} {e : PT} {v : Value} (r : RepV h (.slice e) v) : ∃ (o : Option Addr) (m c : Nat), v = .slice o m c := by
  obtain ⟨o, m, c, els, h1, _⟩ := Rep.row r
  exact ⟨o, m, c, h1⟩
abbrev PTp : PT := .pair (.int .u16) (.pair (.int .u16) .unit)
abbrev PTc : PT := .pair (.int .u8) (.pair (.int .u8) (.pair (.int .u32) (.pair (.int .u32) (.pair (.int .u16) (.pair (.int .u16) (.pair (.int .u32) (.pair (.slice PTp) (.pair (.slice (.int .u32)) (.pair (.slice PTp) (.pair (.slice (.pair (.int .u16) (.pair (.slice (.int .u8)) .unit))) (.pair (.slice (.int .u8)) .unit)))))))))))
abbrev PTm : PT := .pair (.int .u16) (.pair .bool (.pair (.int .u32) (.pair (.slice (.int .u8)) .unit)))
/-- a message that is an argument -/
theorem repV_msg {h : Heap} {v : Value} (r : RepV h PTm v) : ∃ (s pp : Nat) (b : Bool) (d : Value), v = .agg #[.int .u16 (s : Int), .bool b, .int .u32 (pp : Int), d] ∧ s < 65536 ∧ pp < 4294967296 ∧ RepV h (.slice (.int .u8)) d := by
  obtain ⟨cs, rfl, r0⟩ := (show ∃ cs : List Value, v = .agg cs.toArray ∧ Rep h PTm cs from r)
  obtain ⟨n1, t1, rfl, w1, r1⟩ := rep_int r0
  obtain ⟨b, t2, rfl, r2⟩ := rep_bool r1
  obtain ⟨n3, t3, rfl, w3, r3⟩ := rep_int r2
  obtain ⟨d, t4, rfl, rd, r4⟩ := rep_sl r3
  obtain rfl := rep_unit r4
  obtain ⟨m1, rfl, b1⟩ := wf_nat (.inr (.inl rfl)) w1
  obtain ⟨m3, rfl, b3⟩ := wf_nat (.inr (.inr rfl)) w3
  exact ⟨m1, m3, b, d, rfl, b1, b3, rd⟩
/-- a chunk that is an argument, as cells -/
theorem repV_chk {h : Heap} {v : Value} (r : RepV h PTc v) : ∃ (x0 x1 x2 x3 x4 x5 x6 : Nat) (x7 x8 x9 x10 x11 : Value), v = .agg #[.int .u8 (x0 : Int), .int .u8 (x1 : Int), .int .u32 (x2 : Int), .int .u32 (x3 : Int), .int .u16 (x4 : Int), .int .u16 (x5 : Int), .int .u32 (x6 : Int), x7, x8, x9, x10, x11] ∧
    (x0 < 256 ∧ x1 < 256 ∧ x2 < 4294967296 ∧ x3 < 4294967296 ∧ x4 < 65536 ∧ x5 < 65536 ∧ x6 < 4294967296) ∧ RepV h (.slice PTp) x7 ∧ RepV h (.slice (.int .u32)) x8 ∧ RepV h (.slice PTp) x9 ∧ RepV h (.slice (.pair (.int .u16) (.pair (.slice (.int .u8)) .unit))) x10 ∧ RepV h (.slice (.int .u8)) x11 := by
  obtain ⟨cs, rfl, r0⟩ := (show ∃ cs : List Value, v = .agg cs.toArray ∧ Rep h PTc cs from r)
  obtain ⟨n0, t0, rfl, w0, r1⟩ := rep_int r0
  obtain ⟨n1, t1, rfl, w1, r2⟩ := rep_int r1
  obtain ⟨n2, t2, rfl, w2, r3⟩ := rep_int r2
  obtain ⟨n3, t3, rfl, w3, r4⟩ := rep_int r3
  obtain ⟨n4, t4, rfl, w4, r5⟩ := rep_int r4
  obtain ⟨n5, t5, rfl, w5, r6⟩ := rep_int r5
  obtain ⟨n6, t6, rfl, w6, r7⟩ := rep_int r6
  obtain ⟨d7, t7, rfl, e7, r8⟩ := rep_sl r7
  obtain ⟨d8, t8, rfl, e8, r9⟩ := rep_sl r8
  obtain ⟨d9, t9, rfl, e9, r10⟩ := rep_sl r9
  obtain ⟨d10, t10, rfl, e10, r11⟩ := rep_sl r10
  obtain ⟨d11, t11, rfl, e11, r12⟩ := rep_sl r11
  obtain rfl := rep_unit r12
  obtain ⟨m0, rfl, b0⟩ := wf_nat (.inl rfl) w0
  obtain ⟨m1, rfl, b1⟩ := wf_nat (.inl rfl) w1
  obtain ⟨m2, rfl, b2⟩ := wf_nat (.inr (.inr rfl)) w2
  obtain ⟨m3, rfl, b3⟩ := wf_nat (.inr (.inr rfl)) w3
  obtain ⟨m4, rfl, b4⟩ := wf_nat (.inr (.inl rfl)) w4
  obtain ⟨m5, rfl, b5⟩ := wf_nat (.inr (.inl rfl)) w5
  obtain ⟨m6, rfl, b6⟩ := wf_nat (.inr (.inr rfl)) w6
  exact ⟨m0, m1, m2, m3, m4, m5, m6, d7, d8, d9, d10, d11, rfl, ⟨b0, b1, b2, b3, b4, b5, b6⟩, e7, e8, e9, e10, e11⟩
end Vm

/-! Laws that read nothing of their arguments' memory: a run from an empty heap, by the kernel. -/
set_option linter.unusedVariables false
namespace Vm
open Go Go.ChangeShapes Go.WideShapes Go.ChangeAt Go.RowKit
/-- true, within N blocks -/
def okB (N : Nat) (r : Res) : Bool := match r with
  | .ok (.bool b) h => bif b then Nat.ble h.next N else false
  | _ => false
theorem okB_some {N : Nat} {r : Res} (h : okB N r = true) : ∃ h', r = .ok (.bool true) h' ∧ h'.next ≤ N := by
  unfold okB at h
  split at h
  · rename_i b h'
    cases b with
    | true => exact ⟨h', rfl, Nat.le_of_ble_eq_true h⟩
    | false => cases h
  · cases h
noncomputable def sayB (rs : List RV) (N : Nat) (o : Out) : Bool := okB N (finish rs o)
/-- code that ends a call with true, by one computation -/
theorem out_say {s : Sem} {rec : Rec} {n : Nat} {a : Fr} {h : Heap} {rs : List RV} {N : Nat} (hb : sayB rs N (s.f rec n a h) = true) : OutQ (s.f rec n a h) (Fin rs (fun r h' => r = .bool true ∧ h'.next ≤ N)) := by
  obtain ⟨h', hr, hN⟩ := okB_some hb
  obtain ⟨e, a', l, ho, he, hl, hv⟩ := finish_some hr
  refine ⟨e, a', h', ho, he, l, .bool true, hl, ?_, rfl, hN⟩
  rcases hv with ⟨u, rfl, rfl⟩ | ⟨hne, hv⟩
  · exact .inl rfl
  · exact .inr ⟨hne, hv⟩
theorem res_say {r : Res} {N : Nat} (hb : okB N r = true) : ResQ r (fun v h' => v = .bool true ∧ h'.next ≤ N) := by
  obtain ⟨h', hr, hN⟩ := okB_some hb
  exact ⟨_, h', hr, rfl, hN⟩
theorem tie_at (w : World) (N M : Nat) (hM : N ≤ M) : Tie (fun _ => none) w.heap.size M (fun _ => none) ⟨N, .nil⟩ w :=
  ⟨⟨(fun b i h => by cases h), (fun b c i j x y _ h => by cases h), (fun b i h => by cases h), Nat.le_refl _⟩, fun b _ => rfl, hM, fun b _ _ => rfl⟩
/-- a law's call from an empty heap: the arguments' memory lies behind N blocks -/
theorem law_call_far {H : Type} {enc : TypeId × Value → H} {P : Program} {W : World} {base : Nat} {f : FuncId} {fn : Func} {args : Array Value} {ds : List (DataW H)} {ps : List MemPlace} (hm : P.follows .mixedOrders = true) (pts : List PT)
    (hchk : (Nat.beq fn.params.size pts.length && (fn.params.toList.zip pts).all fun x => chk P x.2 (.inl x.1)) = true) (hd : HasCells W)
    (hv : ∀ (j : Nat) t v, fn.params[j]? = some t → args[j]? = some v → Value.okWide P W .any base t v) (hT : DataW.TrodAll enc P W 0 (fun _ => true) true fn.params.toList args.toList ds ps)
    {Γ : Sums} (hΓ : SumsOK P W.heap.size Γ) (N : Nat) (walk : ∀ (h : Heap) (us : List Value), RepVs h pts us → ∃ n, ResQ (callN P Γ n (.call f us) ⟨0, .nil⟩) (fun r h' => r = .bool true ∧ h'.next ≤ N)) :
    Calls P f args W fun e W' => e = .returned (.bool true) ∧ Below W.heap.size W W' := by
  rw [Bool.and_eq_true] at hchk
  have hl : fn.params.toList.length = pts.length := by have := Nat.eq_of_beq_eq_true hchk.1; simpa using this
  obtain ⟨h, us, k, r, T⟩ := argsV (base := base) hl (fun j t pt h1 h2 => List.all_eq_true.1 hchk.2 (t, pt) (List.mem_of_getElem? (List.getElem?_zip_eq_some.2 ⟨h1, h2⟩))) hd (fun j t v h1 h2 => hv j t v (by simpa using h1) (by simpa using h2)) hT ⟨N, .nil⟩
  obtain ⟨n, v, h', hr, rfl, hN⟩ := walk h us r
  have kN : N ≤ h.next := k.next
  obtain ⟨ρ, T', _, vr⟩ := T (fun _ => none) h.next (fun _ => none) (tie_at W N _ kN) (Nat.le_refl _)
  have hnone : ∀ b, b < N → ρ b = none := fun b hb => by
    cases hρ : ρ b with
    | none => rfl
    | some i =>
      obtain ⟨x, hx, _⟩ := T'.hr.blk b i hρ
      have h1 : mix h.next h (fun _ => none) b = h.get b := by unfold mix; rw [if_pos (by omega)]
      have h2 : h.get b = none := (k.get b hb).trans rfl
      rw [h1, h2] at hx
      cases hx
  have T2 : Tie ρ W.heap.size N (mix h.next h (fun _ => none)) ⟨0, .nil⟩ W := by
    refine ⟨T'.hr.congr fun b i hb => ?_, fun b _ => rfl, Nat.zero_le _, fun b _ hb => hnone b hb⟩
    rcases Nat.lt_or_ge b N with h1 | h1
    · rw [hnone b h1] at hb; cases hb
    · show mix N ⟨0, .nil⟩ _ b = _
      unfold mix; rw [if_neg (by omega)]
  exact call_true hm T2 hΓ vr hr hN
end Vm
namespace Vm
open Go
/-- and in the midst of a region -/
theorem it_say {l : List ISem} {y : Sem} {rec : Rec} {n : Nat} {a : Fr} {h : Heap} {rs : List RV} {N : Nat} (hb : sayB rs N ((sSeq (sRegion l) y).f rec n a h) = true) : ItQ (runItems rec l a h) (Nrm (Then y rec n (Fin rs (fun r h' => r = .bool true ∧ h'.next ≤ N)))) := by
  have ho := out_say hb
  simp only [sSeq, sRegion] at hb
  cases hr : runItems rec l a h with
  | no => rw [hr] at hb; cases hb
  | mk a' h' =>
    rw [hr] at hb
    refine ⟨a', h', rfl, ?_⟩
    exact out_say hb
end Vm
namespace Vm
theorem and2 {a b : Bool} (h : a = true) (h' : b = true) : (a && b) = true := by rw [h, h']; rfl
end Vm
namespace Vm
open Go
/-! jumps: a piece of code by the kernel, what it leaves taken as it is -/
def outN (o : Out) : Bool := match o with
  | .mk e _ _ => (match e with | .normal => true | _ => false)
  | .no => false
noncomputable def outA (o : Out) : Fr := match o with | .mk _ a _ => a | .no => fr0
def outH (o : Out) : Heap := match o with | .mk _ _ h => h | .no => ⟨0, .nil⟩
theorem o_jump {x y : Sem} {rec : Rec} {n : Nat} {a : Fr} {h : Heap} {Q : Ex → Fr → Heap → Prop} (hb : outN (x.f rec n a h) = true) (hq : OutQ (y.f rec n (outA (x.f rec n a h)) (outH (x.f rec n a h))) Q) : OutQ ((sSeq x y).f rec n a h) Q := by
  cases hx : x.f rec n a h with
  | no => rw [hx] at hb; cases hb
  | mk e a' h' =>
    rw [hx] at hb hq
    cases e with
    | normal =>
      obtain ⟨e2, a2, h2, he2, hk2⟩ := hq
      exact ⟨e2, a2, h2, by simp only [sSeq, hx]; exact he2, hk2⟩
    | _ => cases hb
def resB (r : Res) : Bool := match r with | .ok _ _ => true | .no => false
noncomputable def resV (r : Res) : Value := match r with | .ok v _ => v | .no => Vm.undef
def resH (r : Res) : Heap := match r with | .ok _ h => h | .no => ⟨0, .nil⟩
theorem res_jump {r : Res} {R : Value → Heap → Prop} (hb : resB r = true) (hq : R (resV r) (resH r)) : ResQ r R := by
  cases hx : r with
  | no => rw [hx] at hb; cases hb
  | ok v h => rw [hx] at hq; exact ⟨v, h, rfl, hq⟩
end Vm

/-! Maps, walked: looked up, set, deleted; stores of whole blocks. -/
set_option linter.unusedVariables false
namespace Vm
open Go
theorem i_storeF {rec : Rec} {L : List (Nat × Value)} {f : Fr} {h0 h : Heap} {K : Fr → Heap → Prop} {x y : Sel} {l : List ISem} {b e n : Nat} {s : Option Nat} {cs vs : List Value} {op : Bool} (k0 : Keeps h0 h) (hb : h0.next ≤ b) (hx : x.f (puts L f) = .pointer (some ⟨b, 0, s⟩)) (hy : cellsL (y.f (puts L f)) = some vs) (hg : h.get b = some (.cells e cs (.own op))) (hv : vs.length = n) (hl : cs.length = n) (hlt : b < h.next)
    (hq : ∀ h2, Keeps h0 h2 → h2.get b = some (.cells e vs (.own op)) → b < h2.next → ItQ (runItems rec l (puts L f) h2) K) : ItQ (runItems rec (iOp ⟨fun _ a => a⟩ (.e (eStore n x y)) :: l) (puts L f) h) K := by
  refine items_cons (it_e ⟨Vm.undef, h.put b (.cells e vs (.own op)), ?_, hq _ (k0.put hb _) (by rw [Heap.get_put, if_pos rfl]) hlt⟩)
  have h1 := storeN_own (s := s) (off := 0) (vs := vs) hg (by omega)
  rw [putAt_eq _ _ _ (Nat.zero_le _), List.take_zero, List.nil_append, Nat.zero_add, List.drop_eq_nil_of_le (by omega), List.append_nil] at h1
  simp only [eStore, hx, hy]
  rw [h1, hv, Nat.beq_refl]; rfl
theorem i_storeP {rec : Rec} {L : List (Nat × Value)} {f : Fr} {h : Heap} {K : Fr → Heap → Prop} {x y : Sel} {l : List ISem} {b e n : Nat} {s : Option Nat} {cs vs : List Value} {op : Bool} (hx : x.f (puts L f) = .pointer (some ⟨b, 0, s⟩)) (hy : cellsL (y.f (puts L f)) = some vs) (hg : h.get b = some (.cells e cs (.own op))) (hv : vs.length = n) (hl : cs.length = n)
    (hq : ItQ (runItems rec l (puts L f) (h.put b (.cells e vs (.own op)))) K) : ItQ (runItems rec (iOp ⟨fun _ a => a⟩ (.e (eStore n x y)) :: l) (puts L f) h) K := by
  refine items_cons (it_e ⟨Vm.undef, h.put b (.cells e vs (.own op)), ?_, hq⟩)
  have h1 := storeN_own (s := s) (off := 0) (vs := vs) hg (by omega)
  rw [putAt_eq _ _ _ (Nat.zero_le _), List.take_zero, List.nil_append, Nat.zero_add, List.drop_eq_nil_of_le (by omega), List.append_nil] at h1
  simp only [eStore, hx, hy]
  rw [h1, hv, Nat.beq_refl]; rfl
section
variable {rec : Rec} {L : List (Nat × Value)} {f : Fr} {dt : Nat} {h : Heap} {K : Fr → Heap → Prop} {l : List ISem} {rd : Bool} {m k x : Sel} {r c c' : Nat} {es es' : List (Value × Value × Nat)} {N : KT} {z kv : Value}
theorem i_lookup {ok : Bool} {res : Option (Value × Nat)} (hm : m.f (puts L f) = .map (some r)) (hg : h.get r = some (.map es c)) (hk : k.f (puts L f) = kv) (ho : keyOk N kv = true) (hf : mFind N kv es = some res)
    (hq : ItQ (runItems rec l (puts ((dt, match res with
      | some (v, _) => (Bool.rec v (.tuple #[v, .bool true]) ok : Value)
      | none => (Bool.rec z (.tuple #[z, .bool false]) ok : Value)) :: L) f) h) K) : ItQ (runItems rec (iOp (put dt) (.v rd (oLookup N z ok m k)) :: l) (puts L f) h) K := by
  refine i_v ?_ hq
  have hmo : mapOf h.get (some r) = some es := by simp only [mapOf, hg]
  simp only [oLookup, hm, hmo, hk, ho, cond_true, hf]
  cases res with
  | none => rfl
  | some p => obtain ⟨v, s⟩ := p; rfl
theorem i_lookupNil {ok : Bool} (hm : m.f (puts L f) = .map none) (hk : k.f (puts L f) = kv) (ho : keyOk N kv = true)
    (hq : ItQ (runItems rec l (puts ((dt, (Bool.rec z (.tuple #[z, .bool false]) ok : Value)) :: L) f) h) K) : ItQ (runItems rec (iOp (put dt) (.v rd (oLookup N z ok m k)) :: l) (puts L f) h) K := by
  refine i_v ?_ hq
  simp only [oLookup, hm, mapOf, hk, ho, cond_true]
  rfl
theorem i_mapUpd {v : Value} (hm : m.f (puts L f) = .map (some r)) (hg : h.get r = some (.map es c)) (hk : k.f (puts L f) = kv) (hx : x.f (puts L f) = v) (ho : keyOk N kv = true) (hp : mPut N kv v c es = some (es', c'))
    (hq : ItQ (runItems rec l (puts L f) (h.put r (.map es' c'))) K) : ItQ (runItems rec (iOp ⟨fun _ a => a⟩ (.e (eMapUpdate N m k x)) :: l) (puts L f) h) K := by
  refine items_cons (it_e ⟨Vm.undef, h.put r (.map es' c'), ?_, hq⟩)
  simp only [eMapUpdate, hm, hg, hk, hx, ho, cond_true, hp]
theorem i_mapDel (hm : m.f (puts L f) = .map (some r)) (hg : h.get r = some (.map es c)) (hk : k.f (puts L f) = kv) (ho : keyOk N kv = true) (hp : mDel N kv es = some es')
    (hq : ItQ (runItems rec l (puts L f) (h.put r (.map es' c))) K) : ItQ (runItems rec (iOp ⟨fun _ a => a⟩ (.e (eDelete N m k)) :: l) (puts L f) h) K := by
  refine items_cons (it_e ⟨.tuple #[], h.put r (.map es' c), ?_, hq⟩)
  simp only [eDelete, hm, hg, hk, ho, cond_true, hp]
theorem i_makeMap (hq : ItQ (runItems rec l (puts ((dt, .map (some h.next)) :: L) f) (h.new (.map [] 0))) K) : ItQ (runItems rec (iOp (put dt) (.a aMakeMap) :: l) (puts L f) h) K :=
  items_cons (it_a rfl hq)
end
/-! maps of numbers -/
def ents (kd : IntKind) (l : List (Nat × Value × Nat)) : List (Value × Value × Nat) := l.map fun e => (.int kd (e.1 : Int), e.2)
theorem eqV_int (kd : IntKind) (a b : Nat) : eqV (.one 1) (.int kd (a : Int)) (.int kd (b : Int)) = some (Nat.beq a b) := by
  show (bif Nat.beq 1 1 then (bif Nat.beq (kc kd) (kc kd) then some (eqI (a : Int) (b : Int)) else none) else none) = _
  rw [Nat.beq_refl, Nat.beq_refl]; rfl
theorem ents_find (kd : IntKind) (k : Nat) : ∀ l : List (Nat × Value × Nat), mFind (.one 1) (.int kd (k : Int)) (ents kd l) = some ((l.find? fun e => e.1 == k).map (·.2))
  | [] => rfl
  | (a, v, s) :: l => by
    show (match eqV (.one 1) (Value.int kd (k : Int)) (Value.int kd (a : Int)) with | some true => some (some (v, s)) | some false => mFind (.one 1) (.int kd (k : Int)) (ents kd l) | none => none) = _
    rw [eqV_int, List.find?_cons]
    cases hb : Nat.beq k a with
    | true => rw [Nat.eq_of_beq_eq_true hb]; simp
    | false =>
      have : (a == k) = false := by rw [← Bool.not_eq_true, beq_iff_eq]; intro e; rw [e] at hb; simp at hb
      simp only [this, ents_find kd k l]
/-- a number's entry set -/
def putN (k : Nat) (v : Value) (c : Nat) : List (Nat × Value × Nat) → List (Nat × Value × Nat) × Nat
  | [] => ([(k, v, c)], c + 1)
  | (a, u, s) :: l => if k = a then ((k, v, s) :: l, c) else ((a, u, s) :: (putN k v c l).1, (putN k v c l).2)
theorem ents_put (kd : IntKind) (k : Nat) (v : Value) (c : Nat) : ∀ l : List (Nat × Value × Nat), mPut (.one 1) (.int kd (k : Int)) v c (ents kd l) = some (ents kd (putN k v c l).1, (putN k v c l).2)
  | [] => rfl
  | (a, u, s) :: l => by
    show (match eqV (.one 1) (Value.int kd (k : Int)) (Value.int kd (a : Int)) with
      | some true => some ((Value.int kd (k : Int), v, s) :: ents kd l, c)
      | some false => (match mPut (.one 1) (.int kd (k : Int)) v c (ents kd l) with | some (r, c) => some ((Value.int kd (a : Int), u, s) :: r, c) | none => none)
      | none => none) = _
    rw [eqV_int, putN]
    cases hb : Nat.beq k a with
    | true => rw [if_pos (Nat.eq_of_beq_eq_true hb)]; rfl
    | false =>
      have : k ≠ a := by intro e; rw [e] at hb; simp at hb
      rw [if_neg this, ents_put kd k v c l]; rfl
def delN (k : Nat) : List (Nat × Value × Nat) → List (Nat × Value × Nat)
  | [] => []
  | (a, u, s) :: l => if k = a then l else (a, u, s) :: delN k l
theorem ents_del (kd : IntKind) (k : Nat) : ∀ l : List (Nat × Value × Nat), mDel (.one 1) (.int kd (k : Int)) (ents kd l) = some (ents kd (delN k l))
  | [] => rfl
  | (a, u, s) :: l => by
    show (match eqV (.one 1) (Value.int kd (k : Int)) (Value.int kd (a : Int)) with
      | some true => some (ents kd l)
      | some false => (match mDel (.one 1) (.int kd (k : Int)) (ents kd l) with | some r => some ((Value.int kd (a : Int), u, s) :: r) | none => none)
      | none => none) = _
    rw [eqV_int, delN]
    cases hb : Nat.beq k a with
    | true => rw [if_pos (Nat.eq_of_beq_eq_true hb)]
    | false =>
      have : k ≠ a := by intro e; rw [e] at hb; simp at hb
      rw [if_neg this, ents_del kd k l]; rfl
end Vm

/-! The checksum's table and steps in plain terms, quick for the kernel. -/
set_option linter.unusedVariables false
namespace Vm
open Go
noncomputable section
/-- one bit's step -/
def bitN (v : Nat) : Nat := if v % 2 = 1 then (v / 2) ^^^ 2197175160 else v / 2
def entN : Nat → Nat → Nat
  | 0, v => v
  | k + 1, v => bitN (entN k v)
def crcTab : List Nat := (List.range 256).map (entN 8)
theorem crcTab_len : crcTab.length = 256 := by simp [crcTab]
theorem crcTab_get {i : Nat} (h : i < 256) : crcTab[i]? = some (entN 8 i) := by simp [crcTab, h]
/-- a checksum's step -/
def crcB (t : List Nat) (s : Nat) (x : UInt8) : Nat := (s / 256) ^^^ ((t[(s % 256) ^^^ x.toNat]?).getD 0)
def crcS (t : List Nat) (s : Nat) (l : List UInt8) : Nat := l.foldl (crcB t) s
theorem idx_lt (s : Nat) (x : UInt8) : (s % 256) ^^^ x.toNat < 256 := Nat.xor_lt_two_pow (n := 8) (Nat.mod_lt _ (by decide)) x.toNat_lt
theorem crcB_lt {t : List Nat} (ht : ∀ v ∈ t, v < 4294967296) {s : Nat} (hs : s < 4294967296) (x : UInt8) : crcB t s x < 4294967296 := by
  refine Nat.xor_lt_two_pow (n := 32) (by omega) ?_
  cases h : t[(s % 256) ^^^ x.toNat]? with
  | none => exact (by decide : 0 < 2 ^ 32)
  | some v => exact ht v (List.mem_of_getElem? h)
theorem crcS_lt {t : List Nat} (ht : ∀ v ∈ t, v < 4294967296) : ∀ (l : List UInt8) {s : Nat}, s < 4294967296 → crcS t s l < 4294967296
  | [], s, hs => hs
  | x :: l, s, hs => crcS_lt ht l (crcB_lt ht hs x)
theorem crcS_take {t : List Nat} {s i : Nat} {l : List UInt8} {x : UInt8} (h : l[i]? = some x) : crcS t s (l.take (i + 1)) = crcB t (crcS t s (l.take i)) x := by
  rw [List.take_add_one, h, crcS, List.foldl_append]; rfl
theorem ofNat_mod256 (s : Nat) : (UInt8.ofNat s).toNat = s % 256 := UInt8.toNat_ofNat'
theorem tab_get {t : List Nat} (h256 : t.length = 256) (s : Nat) (x : UInt8) : ∃ w, t[(s % 256) ^^^ x.toNat]? = some w ∧ crcB t s x = (s / 2 ^ 8) ^^^ w := by
  have hi := idx_lt s x
  refine ⟨t[(s % 256) ^^^ x.toNat]'(by omega), List.getElem?_eq_getElem (by omega), ?_⟩
  rw [crcB, List.getElem?_eq_getElem (by omega)]; rfl
theorem bitN_lt {v : Nat} (h : v < 4294967296) : bitN v < 4294967296 := by
  rw [bitN]
  split
  · exact Nat.xor_lt_two_pow (n := 32) (by omega) (by decide)
  · omega
theorem entN_lt {v : Nat} (h : v < 4294967296) : ∀ k, entN k v < 4294967296
  | 0 => h
  | k + 1 => bitN_lt (entN_lt h k)
theorem crcTab_lt : ∀ v ∈ crcTab, v < 4294967296 := by
  intro v hv
  obtain ⟨i, hi, rfl⟩ := List.mem_map.1 hv
  have : i < 256 := by simpa using hi
  exact entN_lt (by omega) 8
/-- a number, reckoned out ahead -/
def forceN {α : Type} (s : Nat) (k : Nat → α) : α := Nat.rec (k 0) (fun m _ => k (m + 1)) s
theorem forceN_eq {α : Type} (s : Nat) (k : Nat → α) : forceN s k = k s := by cases s <;> rfl
def bitF {α : Type} (v : Nat) (k : Nat → α) : α := forceN (bif Nat.beq (v % 2) 1 then Nat.xor (v / 2) 2197175160 else v / 2) k
theorem bitF_eq {α : Type} (v : Nat) (k : Nat → α) : bitF v k = k (bitN v) := by
  rw [bitF, forceN_eq, bitN]
  congr 1
  by_cases h : v % 2 = 1
  · rw [if_pos h, h]; rfl
  · rw [if_neg h]
    have : Nat.beq (v % 2) 1 = false := by rw [← Bool.not_eq_true]; exact fun e => h (Nat.eq_of_beq_eq_true e)
    rw [this]; rfl
def entF {α : Type} (v : Nat) (k : Nat → α) : α := bitF v fun v => bitF v fun v => bitF v fun v => bitF v fun v => bitF v fun v => bitF v fun v => bitF v fun v => bitF v k
theorem entF_eq {α : Type} (v : Nat) (k : Nat → α) : entF v k = k (entN 8 v) := by
  simp only [entF, bitF_eq]; rfl
/-- octets' numbers -/
def octs : List Value → Option (List Nat) := List.rec (some []) (fun v _ ih => match v with
  | .int .u8 (.ofNat b) => bif Nat.blt b 256 then (match ih with | some l => some (b :: l) | none => none) else none
  | _ => none)
def crcN (s : Nat) (l : List Nat) : Nat := List.rec (motive := fun _ => Nat → Nat) (fun s => s) (fun x _ ih s => entF (Nat.xor (s % 256) x) fun e => forceN (Nat.xor (s / 256) e) ih) l s
theorem octs_cons (v : Value) (l : List Value) : octs (v :: l) = match v with
  | .int .u8 (.ofNat b) => bif Nat.blt b 256 then (match octs l with | some l => some (b :: l) | none => none) else none
  | _ => none := rfl
theorem octs_some : ∀ {cs : List Value} {l : List Nat}, octs cs = some l → ∃ bs : List UInt8, cs = u8s bs ∧ l = bs.map (·.toNat)
  | [], l, h => by cases h; exact ⟨[], rfl, rfl⟩
  | v :: cs, l, h => by
    rw [octs_cons] at h
    split at h
    · rename_i b
      cases hb : Nat.blt b 256 with
      | false => rw [hb] at h; cases h
      | true =>
        rw [hb] at h
        have hlt : b < 256 := by simpa using hb
        simp only [cond_true] at h
        split at h
        · rename_i l' hl
          cases h
          obtain ⟨bs, rfl, rfl⟩ := octs_some hl
          have e : (UInt8.ofNat b).toNat = b := by rw [ofNat_mod256]; omega
          refine ⟨UInt8.ofNat b :: bs, ?_, by simp [e]⟩
          show _ = Value.int .u8 (.ofNat (UInt8.ofNat b).toNat) :: u8s bs
          rw [e]
        · cases h
    · cases h
theorem crcN_cons (s x : Nat) (l : List Nat) : crcN s (x :: l) = crcN ((s / 256) ^^^ entN 8 ((s % 256) ^^^ x)) l := by
  show entF _ _ = _
  rw [entF_eq, forceN_eq]
  rfl
theorem crcN_eq : ∀ (l : List UInt8) (s : Nat), crcN s (l.map (·.toNat)) = crcS crcTab s l
  | [], s => rfl
  | x :: l, s => by
    rw [List.map_cons, crcN_cons, crcN_eq l]
    show _ = crcS crcTab (crcB crcTab s x) l
    rw [crcB, crcTab_get (idx_lt s x)]; rfl
/-- is it the table? -/
def isTab : List Value → List Nat → Bool := List.rec (fun l => List.rec true (fun _ _ _ => false) l) (fun v _ ih l => match v with
  | .int .u32 (.ofNat a) => List.rec false (fun b l _ => bif Nat.beq a b then ih l else false) l
  | _ => false)
theorem isTab_cons (v : Value) (cs : List Value) (b : Nat) (l : List Nat) : isTab (v :: cs) (b :: l) = match v with
  | .int .u32 (.ofNat a) => bif Nat.beq a b then isTab cs l else false
  | _ => false := rfl
theorem isTab_cons0 (v : Value) (cs : List Value) : isTab (v :: cs) [] = false := by
  show (match v with
    | .int .u32 (.ofNat _) => false
    | _ => false) = false
  split <;> rfl
theorem isTab_eq : ∀ {cs : List Value} {l : List Nat}, isTab cs l = true → cs = n32 l
  | [], [], _ => rfl
  | [], _ :: _, h => by cases h
  | v :: cs, [], h => by rw [isTab_cons0] at h; cases h
  | v :: cs, b :: l, h => by
    rw [isTab_cons] at h
    split at h
    · rename_i a
      cases hb : Nat.beq a b with
      | false => rw [hb] at h; cases h
      | true =>
        rw [hb] at h
        rw [isTab_eq (cs := cs) h, Nat.eq_of_beq_eq_true hb]
        rfl
    · cases h
/-- the table, reckoned out -/
def tabN : List Nat := [0, 4067132163, 3778769143, 324072436, 3348797215, 904991772, 648144872, 3570033899, 2329499855, 2024987596, 1809983544, 2575936315, 1296289744, 3207089363, 2893594407, 1578318884, 274646895, 3795141740, 4049975192, 51262619, 3619967088, 632279923, 922689671, 3298075524, 2592579488, 1760304291, 2075979607, 2312596564, 1562183871, 2943781820, 3156637768, 1313733451, 549293790, 3537243613, 3246849577, 871202090, 3878099393, 357341890, 102525238, 4101499445, 2858735121, 1477399826, 1264559846, 3107202533, 1845379342, 2677391885, 2361733625, 2125378298, 820201905, 3263744690, 3520608582, 598981189, 4151959214, 85089709, 373468761, 3827903834, 3124367742, 1213305469, 1526817161, 2842354314, 2107672161, 2412447074, 2627466902, 1861252501, 1098587580, 3004210879, 2688576843, 1378610760, 2262928035, 1955203488, 1742404180, 2511436119, 3416409459, 969524848, 714683780, 3639785095, 205050476, 4266873199, 3976438427, 526918040, 1361435347, 2739821008, 2954799652, 1114974503, 2529119692, 1691668175, 2005155131, 2247081528, 3690758684, 697762079, 986182379, 3366744552, 476452099, 3993867776, 4250756596, 255256311, 1640403810, 2477592673, 2164122517, 1922457750, 2791048317, 1412925310, 1197962378, 3037525897, 3944729517, 427051182, 170179418, 4165941337, 746937522, 3740196785, 3451792453, 1070968646, 1905808397, 2213795598, 2426610938, 1657317369, 3053634322, 1147748369, 1463399397, 2773627110, 4215344322, 153784257, 444234805, 3893493558, 1021025245, 3467647198, 3722505002, 797665321, 2197175160, 1889384571, 1674398607, 2443626636, 1164749927, 3070701412, 2757221520, 1446797203, 137323447, 4198817972, 3910406976, 461344835, 3484808360, 1037989803, 781091935, 3705997148, 2460548119, 1623424788, 1939049696, 2180517859, 1429367560, 2807687179, 3020495871, 1180866812, 410100952, 3927582683, 4182430767, 186734380, 3756733383, 763408580, 1053836080, 3434856499, 2722870694, 1344288421, 1131464017, 2971354706, 1708204729, 2545590714, 2229949006, 1988219213, 680717673, 3673779818, 3383336350, 1002577565, 4010310262, 493091189, 238226049, 4233660802, 2987750089, 1082061258, 1395524158, 2705686845, 1972364758, 2279892693, 2494862625, 1725896226, 952904198, 3399985413, 3656866545, 731699698, 4283874585, 222117402, 510512622, 3959836397, 3280807620, 837199303, 582374963, 3504198960, 68661723, 4135334616, 3844915500, 390545967, 1230274059, 3141532936, 2825850620, 1510247935, 2395924756, 2091215383, 1878366691, 2644384480, 3553878443, 565732008, 854102364, 3229815391, 340358836, 3861050807, 4117890627, 119113024, 1493875044, 2875275879, 3090270611, 1247431312, 2660249211, 1828433272, 2141937292, 2378227087, 3811616794, 291187481, 34330861, 4032846830, 615137029, 3603020806, 3314634738, 939183345, 1776939221, 2609017814, 2295496738, 2058945313, 2926798794, 1545135305, 1330124605, 3173225534, 4084100981, 17165430, 307568514, 3762199681, 888469610, 3332340585, 3587147933, 665062302, 2042050490, 2346497209, 2559330125, 1793573966, 3190661285, 1279665062, 1595330642, 2910671697]
set_option maxRecDepth 20000 in
theorem tabN_eq : tabN = crcTab := by decide +kernel
/-- the table's cells -/
def tabL : List Value := [.int .u32 (.ofNat 0), .int .u32 (.ofNat 4067132163), .int .u32 (.ofNat 3778769143), .int .u32 (.ofNat 324072436), .int .u32 (.ofNat 3348797215), .int .u32 (.ofNat 904991772), .int .u32 (.ofNat 648144872), .int .u32 (.ofNat 3570033899), .int .u32 (.ofNat 2329499855), .int .u32 (.ofNat 2024987596), .int .u32 (.ofNat 1809983544), .int .u32 (.ofNat 2575936315), .int .u32 (.ofNat 1296289744), .int .u32 (.ofNat 3207089363), .int .u32 (.ofNat 2893594407), .int .u32 (.ofNat 1578318884), .int .u32 (.ofNat 274646895), .int .u32 (.ofNat 3795141740), .int .u32 (.ofNat 4049975192), .int .u32 (.ofNat 51262619), .int .u32 (.ofNat 3619967088), .int .u32 (.ofNat 632279923), .int .u32 (.ofNat 922689671), .int .u32 (.ofNat 3298075524), .int .u32 (.ofNat 2592579488), .int .u32 (.ofNat 1760304291), .int .u32 (.ofNat 2075979607), .int .u32 (.ofNat 2312596564), .int .u32 (.ofNat 1562183871), .int .u32 (.ofNat 2943781820), .int .u32 (.ofNat 3156637768), .int .u32 (.ofNat 1313733451), .int .u32 (.ofNat 549293790), .int .u32 (.ofNat 3537243613), .int .u32 (.ofNat 3246849577), .int .u32 (.ofNat 871202090), .int .u32 (.ofNat 3878099393), .int .u32 (.ofNat 357341890), .int .u32 (.ofNat 102525238), .int .u32 (.ofNat 4101499445), .int .u32 (.ofNat 2858735121), .int .u32 (.ofNat 1477399826), .int .u32 (.ofNat 1264559846), .int .u32 (.ofNat 3107202533), .int .u32 (.ofNat 1845379342), .int .u32 (.ofNat 2677391885), .int .u32 (.ofNat 2361733625), .int .u32 (.ofNat 2125378298), .int .u32 (.ofNat 820201905), .int .u32 (.ofNat 3263744690), .int .u32 (.ofNat 3520608582), .int .u32 (.ofNat 598981189), .int .u32 (.ofNat 4151959214), .int .u32 (.ofNat 85089709), .int .u32 (.ofNat 373468761), .int .u32 (.ofNat 3827903834), .int .u32 (.ofNat 3124367742), .int .u32 (.ofNat 1213305469), .int .u32 (.ofNat 1526817161), .int .u32 (.ofNat 2842354314), .int .u32 (.ofNat 2107672161), .int .u32 (.ofNat 2412447074), .int .u32 (.ofNat 2627466902), .int .u32 (.ofNat 1861252501), .int .u32 (.ofNat 1098587580), .int .u32 (.ofNat 3004210879), .int .u32 (.ofNat 2688576843), .int .u32 (.ofNat 1378610760), .int .u32 (.ofNat 2262928035), .int .u32 (.ofNat 1955203488), .int .u32 (.ofNat 1742404180), .int .u32 (.ofNat 2511436119), .int .u32 (.ofNat 3416409459), .int .u32 (.ofNat 969524848), .int .u32 (.ofNat 714683780), .int .u32 (.ofNat 3639785095), .int .u32 (.ofNat 205050476), .int .u32 (.ofNat 4266873199), .int .u32 (.ofNat 3976438427), .int .u32 (.ofNat 526918040), .int .u32 (.ofNat 1361435347), .int .u32 (.ofNat 2739821008), .int .u32 (.ofNat 2954799652), .int .u32 (.ofNat 1114974503), .int .u32 (.ofNat 2529119692), .int .u32 (.ofNat 1691668175), .int .u32 (.ofNat 2005155131), .int .u32 (.ofNat 2247081528), .int .u32 (.ofNat 3690758684), .int .u32 (.ofNat 697762079), .int .u32 (.ofNat 986182379), .int .u32 (.ofNat 3366744552), .int .u32 (.ofNat 476452099), .int .u32 (.ofNat 3993867776), .int .u32 (.ofNat 4250756596), .int .u32 (.ofNat 255256311), .int .u32 (.ofNat 1640403810), .int .u32 (.ofNat 2477592673), .int .u32 (.ofNat 2164122517), .int .u32 (.ofNat 1922457750), .int .u32 (.ofNat 2791048317), .int .u32 (.ofNat 1412925310), .int .u32 (.ofNat 1197962378), .int .u32 (.ofNat 3037525897), .int .u32 (.ofNat 3944729517), .int .u32 (.ofNat 427051182), .int .u32 (.ofNat 170179418), .int .u32 (.ofNat 4165941337), .int .u32 (.ofNat 746937522), .int .u32 (.ofNat 3740196785), .int .u32 (.ofNat 3451792453), .int .u32 (.ofNat 1070968646), .int .u32 (.ofNat 1905808397), .int .u32 (.ofNat 2213795598), .int .u32 (.ofNat 2426610938), .int .u32 (.ofNat 1657317369), .int .u32 (.ofNat 3053634322), .int .u32 (.ofNat 1147748369), .int .u32 (.ofNat 1463399397), .int .u32 (.ofNat 2773627110), .int .u32 (.ofNat 4215344322), .int .u32 (.ofNat 153784257), .int .u32 (.ofNat 444234805), .int .u32 (.ofNat 3893493558), .int .u32 (.ofNat 1021025245), .int .u32 (.ofNat 3467647198), .int .u32 (.ofNat 3722505002), .int .u32 (.ofNat 797665321), .int .u32 (.ofNat 2197175160), .int .u32 (.ofNat 1889384571), .int .u32 (.ofNat 1674398607), .int .u32 (.ofNat 2443626636), .int .u32 (.ofNat 1164749927), .int .u32 (.ofNat 3070701412), .int .u32 (.ofNat 2757221520), .int .u32 (.ofNat 1446797203), .int .u32 (.ofNat 137323447), .int .u32 (.ofNat 4198817972), .int .u32 (.ofNat 3910406976), .int .u32 (.ofNat 461344835), .int .u32 (.ofNat 3484808360), .int .u32 (.ofNat 1037989803), .int .u32 (.ofNat 781091935), .int .u32 (.ofNat 3705997148), .int .u32 (.ofNat 2460548119), .int .u32 (.ofNat 1623424788), .int .u32 (.ofNat 1939049696), .int .u32 (.ofNat 2180517859), .int .u32 (.ofNat 1429367560), .int .u32 (.ofNat 2807687179), .int .u32 (.ofNat 3020495871), .int .u32 (.ofNat 1180866812), .int .u32 (.ofNat 410100952), .int .u32 (.ofNat 3927582683), .int .u32 (.ofNat 4182430767), .int .u32 (.ofNat 186734380), .int .u32 (.ofNat 3756733383), .int .u32 (.ofNat 763408580), .int .u32 (.ofNat 1053836080), .int .u32 (.ofNat 3434856499), .int .u32 (.ofNat 2722870694), .int .u32 (.ofNat 1344288421), .int .u32 (.ofNat 1131464017), .int .u32 (.ofNat 2971354706), .int .u32 (.ofNat 1708204729), .int .u32 (.ofNat 2545590714), .int .u32 (.ofNat 2229949006), .int .u32 (.ofNat 1988219213), .int .u32 (.ofNat 680717673), .int .u32 (.ofNat 3673779818), .int .u32 (.ofNat 3383336350), .int .u32 (.ofNat 1002577565), .int .u32 (.ofNat 4010310262), .int .u32 (.ofNat 493091189), .int .u32 (.ofNat 238226049), .int .u32 (.ofNat 4233660802), .int .u32 (.ofNat 2987750089), .int .u32 (.ofNat 1082061258), .int .u32 (.ofNat 1395524158), .int .u32 (.ofNat 2705686845), .int .u32 (.ofNat 1972364758), .int .u32 (.ofNat 2279892693), .int .u32 (.ofNat 2494862625), .int .u32 (.ofNat 1725896226), .int .u32 (.ofNat 952904198), .int .u32 (.ofNat 3399985413), .int .u32 (.ofNat 3656866545), .int .u32 (.ofNat 731699698), .int .u32 (.ofNat 4283874585), .int .u32 (.ofNat 222117402), .int .u32 (.ofNat 510512622), .int .u32 (.ofNat 3959836397), .int .u32 (.ofNat 3280807620), .int .u32 (.ofNat 837199303), .int .u32 (.ofNat 582374963), .int .u32 (.ofNat 3504198960), .int .u32 (.ofNat 68661723), .int .u32 (.ofNat 4135334616), .int .u32 (.ofNat 3844915500), .int .u32 (.ofNat 390545967), .int .u32 (.ofNat 1230274059), .int .u32 (.ofNat 3141532936), .int .u32 (.ofNat 2825850620), .int .u32 (.ofNat 1510247935), .int .u32 (.ofNat 2395924756), .int .u32 (.ofNat 2091215383), .int .u32 (.ofNat 1878366691), .int .u32 (.ofNat 2644384480), .int .u32 (.ofNat 3553878443), .int .u32 (.ofNat 565732008), .int .u32 (.ofNat 854102364), .int .u32 (.ofNat 3229815391), .int .u32 (.ofNat 340358836), .int .u32 (.ofNat 3861050807), .int .u32 (.ofNat 4117890627), .int .u32 (.ofNat 119113024), .int .u32 (.ofNat 1493875044), .int .u32 (.ofNat 2875275879), .int .u32 (.ofNat 3090270611), .int .u32 (.ofNat 1247431312), .int .u32 (.ofNat 2660249211), .int .u32 (.ofNat 1828433272), .int .u32 (.ofNat 2141937292), .int .u32 (.ofNat 2378227087), .int .u32 (.ofNat 3811616794), .int .u32 (.ofNat 291187481), .int .u32 (.ofNat 34330861), .int .u32 (.ofNat 4032846830), .int .u32 (.ofNat 615137029), .int .u32 (.ofNat 3603020806), .int .u32 (.ofNat 3314634738), .int .u32 (.ofNat 939183345), .int .u32 (.ofNat 1776939221), .int .u32 (.ofNat 2609017814), .int .u32 (.ofNat 2295496738), .int .u32 (.ofNat 2058945313), .int .u32 (.ofNat 2926798794), .int .u32 (.ofNat 1545135305), .int .u32 (.ofNat 1330124605), .int .u32 (.ofNat 3173225534), .int .u32 (.ofNat 4084100981), .int .u32 (.ofNat 17165430), .int .u32 (.ofNat 307568514), .int .u32 (.ofNat 3762199681), .int .u32 (.ofNat 888469610), .int .u32 (.ofNat 3332340585), .int .u32 (.ofNat 3587147933), .int .u32 (.ofNat 665062302), .int .u32 (.ofNat 2042050490), .int .u32 (.ofNat 2346497209), .int .u32 (.ofNat 2559330125), .int .u32 (.ofNat 1793573966), .int .u32 (.ofNat 3190661285), .int .u32 (.ofNat 1279665062), .int .u32 (.ofNat 1595330642), .int .u32 (.ofNat 2910671697)]
set_option maxRecDepth 20000 in
theorem tabL_eq : tabL = n32 crcTab := by rw [← tabN_eq]; rfl
end
end Vm

/-! Summaries by runs; the checksum's. -/
set_option linter.unusedVariables false
namespace Vm
open Go
theorem sums_run {P : Program} {B : Nat} (hm : P.follows .mixedOrders = true) {Γ Γ' : Sums} (hΓ : SumsOK P B Γ) (n : Nat)
    (hr : ∀ f s args h v h', Γ' f = some s → s args h = .ok v h' → callN P Γ n (.call f args) h = .ok v h') : SumsOK P B Γ' := by
  have R := callN_sound (draw_ok hm) hΓ n
  exact ⟨fun f s hs args h0 v h' hk => R.mono _ _ _ _ (hr f s args h0 v h' hs hk), fun {f s args h0 v h'} hs hk => R.call (hr f s args h0 v h' hs hk)⟩
/-- a function that says true, by summaries -/
theorem says_trueG {P : Program} (hm : P.follows .mixedOrders = true) {Γ : Sums} (hΓ : ∀ B, SumsOK P B Γ) {n f : Nat} (hs : says P Γ n f [] = true) (w : World) :
    Calls P f #[] w fun e w' => e = .returned (.bool true) ∧ w'.os = w.os ∧ w'.tape = w.tape ∧ w'.output = w.output ∧ w.heap.size ≤ w'.heap.size ∧ ∀ k, k < w.heap.size → w'.heap[k]? = w.heap[k]? := by
  unfold says at hs
  split at hs
  · rename_i b h' hr
    subst hs
    obtain hc := call_sound hm (w := w) (hΓ _) hr rfl
    refine fun cs => ?_
    obtain ⟨e, w', fr, ⟨v', σ, rfl, A, hv⟩, rest⟩ := hc cs
    rw [hv.bool] at rest
    exact ⟨_, w', fr, ⟨rfl, A.kept.os, A.kept.tape, A.kept.output, A.kept.size, A.kept.old⟩, rest⟩
  · cases hs
theorem Tr.one_set {α : Type} (x y : α) : ∀ (f k : Nat), k ≤ f → (Tr.one x f k).set y k = Tr.one y f k
  | 0, k, h => by obtain rfl : k = 0 := by omega
                  rfl
  | f + 1, 0, h => rfl
  | f + 1, k + 1, h => by
    have ih := Tr.one_set x y f (k / 2) (by omega)
    show (Bool.rec (Tr.node .nil none (Tr.one x f (k / 2))) (.node (Tr.one x f (k / 2)) none .nil) (Nat.beq (k % 2) 0) : Tr α).set y (k + 1) = (Bool.rec (Tr.node .nil none (Tr.one y f (k / 2))) (.node (Tr.one y f (k / 2)) none .nil) (Nat.beq (k % 2) 0) : Tr α)
    cases hb : Nat.beq (k % 2) 0 with
    | true =>
      show (Bool.rec _ (Tr.node ((Tr.one x f (k / 2)).set y (k / 2)) none .nil) (Nat.beq (k % 2) 0) : Tr α) = Tr.node (Tr.one y f (k / 2)) none .nil
      rw [hb, ih]
    | false =>
      show (Bool.rec (Tr.node .nil none ((Tr.one x f (k / 2)).set y (k / 2))) _ (Nat.beq (k % 2) 0) : Tr α) = Tr.node .nil none (Tr.one y f (k / 2))
      rw [hb, ih]
theorem Tr.set_set {α : Type} (x y : α) (t : Tr α) : ∀ k, (t.set x k).set y k = t.set y k := by
  induction t with
  | nil => intro k; exact Tr.one_set x y k k (Nat.le_refl _)
  | node l v r ihl ihr =>
    intro k
    cases k with
    | zero => rfl
    | succ k =>
      show (Bool.rec (Tr.node l v (r.set x (k / 2))) (.node (l.set x (k / 2)) v r) (Nat.beq (k % 2) 0) : Tr α).set y (k + 1) = (Bool.rec (Tr.node l v (r.set y (k / 2))) (.node (l.set y (k / 2)) v r) (Nat.beq (k % 2) 0) : Tr α)
      cases hb : Nat.beq (k % 2) 0 with
      | true =>
        show (Bool.rec _ (Tr.node ((l.set x (k / 2)).set y (k / 2)) v r) (Nat.beq (k % 2) 0) : Tr α) = Tr.node (l.set y (k / 2)) v r
        rw [hb, ihl]
      | false =>
        show (Bool.rec (Tr.node l v ((r.set x (k / 2)).set y (k / 2))) _ (Nat.beq (k % 2) 0) : Tr α) = Tr.node l v (r.set y (k / 2))
        rw [hb, ihr]
theorem new_put (h : Heap) (A B : Blk) : (h.new A).put h.next B = h.new B := by
  show (⟨h.next + 1, (h.t.set A h.next).set B h.next⟩ : Heap) = ⟨h.next + 1, h.t.set B h.next⟩
  rw [Tr.set_set]
theorem i_idxA {rec : Rec} {L : List (Nat × Value)} {f : Fr} {dt : Nat} {h : Heap} {K : Fr → Heap → Prop} {rd : Bool} {x i : Sel} {l : List ISem} {p : Addr} {k : IntKind} {j n sz : Nat} (hx : x.f (puts L f) = .pointer (some p)) (hi : i.f (puts L f) = .int k (j : Int)) (hj : j < n)
    (hq : ItQ (runItems rec l (puts ((dt, .pointer (some ⟨p.block, p.off + j * sz, p.spot⟩)) :: L) f) h) K) : ItQ (runItems rec (iOp (put dt) (.v rd (oIndexAddrA n sz x i)) :: l) (puts L f) h) K := by
  refine i_v ?_ hq
  have hb : Nat.blt j n = true := by simpa using hj
  have e : idx n (j : Int) = some j := by
    show (bif Nat.blt j n then some j else none) = _
    rw [hb]; rfl
  simp only [oIndexAddrA, hx, hi, e]
/-- the table's function, at once -/
noncomputable def sTable (ty : Nat) : List Value → Heap → Res := fun args h => match args with
  | [] => .ok (.slice (some ⟨h.next, 0, none⟩) 256 256) (h.new (.cells ty tabL (.own false)))
  | _ => .no
noncomputable def rowOf (h : Heap) (o : Option Addr) (n : Nat) : Option (List Value) := match o with
  | none => bif Nat.beq n 0 then some [] else none
  | some q => bif Nat.blt q.block h.next then (match q.spot with
    | none => loadN h.get q n
    | some z => bif Nat.beq z 1 then loadN h.get q n else none) else none
theorem rowOf_some {h : Heap} {o : Option Addr} {n : Nat} {cs : List Value} (hr : rowOf h o n = some cs) : Row h 1 o n cs := by
  unfold rowOf at hr
  split at hr
  · cases hb : Nat.beq n 0 with
    | true => rw [hb] at hr; cases hr; rw [Nat.eq_of_beq_eq_true hb]; exact ⟨rfl, rfl⟩
    | false => rw [hb] at hr; cases hr
  · rename_i q
    cases hb : Nat.blt q.block h.next with
    | false => rw [hb] at hr; cases hr
    | true =>
      rw [hb] at hr
      have hlt : q.block < h.next := by simpa using hb
      simp only [cond_true] at hr
      have fin : ∀ {cs}, loadN h.get q n = some cs → (q.spot = none ∨ q.spot = some 1) → Row h 1 (some q) n cs := fun hl hs => by
        refine ⟨?_, hlt, hs, by rw [Nat.mul_one]; exact hl⟩
        obtain ⟨e, cs', st, hg, hd, hle, rfl⟩ := loadN_some hl
        rw [Nat.mul_one, List.length_take, List.length_drop]; omega
      split at hr
      · rename_i hs; exact fin hr (.inl hs)
      · rename_i z hs
        cases hz : Nat.beq z 1 with
        | false => rw [hz] at hr; cases hr
        | true => rw [hz] at hr; exact fin hr (.inr (by rw [hs, Nat.eq_of_beq_eq_true hz]))
/-- a checksum's steps, at once -/
noncomputable def sStep : List Value → Heap → Res := fun args h => match args with
  | [t, s, b] => (match t with
    | .slice ot n _ => (match s with
      | .int .u32 (.ofNat s) => (match b with
        | .slice o m _ => bif Nat.beq n 256 then (bif Nat.blt s 4294967296 then (bif Nat.ble m 100000 then (match rowOf h ot 256 with
          | some cs => bif isTab cs tabN then (match rowOf h o m with
            | some bs => (match octs bs with | some l => .ok (.int .u32 (.ofNat (crcN s l))) h | none => .no)
            | none => .no) else .no
          | none => .no) else .no) else .no) else .no
        | _ => .no)
      | _ => .no)
    | _ => .no)
  | _ => .no
theorem sStep_some {args : List Value} {h h' : Heap} {v : Value} (hr : sStep args h = .ok v h') : ∃ (ot : Option Addr) (ct s : Nat) (o : Option Addr) (c : Nat) (l : List UInt8), args = [.slice ot 256 ct, .int .u32 (s : Int), .slice o l.length c] ∧ s < 4294967296 ∧ l.length ≤ 100000 ∧ Row h 1 ot 256 (n32 crcTab) ∧ Row h 1 o l.length (u8s l) ∧ v = .int .u32 (crcS crcTab s l : Int) ∧ h' = h := by
  unfold sStep at hr
  split at hr
  · split at hr
    · split at hr
      · split at hr
        · rename_i ot n ct _ s _ o m c
          cases h1 : Nat.beq n 256 with
          | false => rw [h1] at hr; cases hr
          | true =>
          rw [h1] at hr
          simp only [cond_true] at hr
          cases h2 : Nat.blt s 4294967296 with
          | false => rw [h2] at hr; cases hr
          | true =>
          rw [h2] at hr
          simp only [cond_true] at hr
          cases h3 : Nat.ble m 100000 with
          | false => rw [h3] at hr; cases hr
          | true =>
          rw [h3] at hr
          simp only [cond_true] at hr
          split at hr
          · rename_i cs hcs
            cases h4 : isTab cs tabN with
            | false => rw [h4] at hr; cases hr
            | true =>
              rw [h4] at hr
              simp only [cond_true] at hr
              split at hr
              · rename_i bs hbs
                split at hr
                · rename_i l hl
                  cases hr
                  obtain ⟨bl, rfl, rfl⟩ := octs_some hl
                  have hn := Nat.eq_of_beq_eq_true h1
                  subst hn
                  have hm : bl.length = m := by
                    have := (rowOf_some hbs).1
                    simpa [u8s_length] using this
                  subst hm
                  refine ⟨ot, ct, s, o, c, bl, rfl, by simpa using h2, Nat.le_of_ble_eq_true h3, ?_, rowOf_some hbs, ?_, rfl⟩
                  · rw [← tabN_eq, ← isTab_eq h4]; exact rowOf_some hcs
                  · rw [crcN_eq]; rfl
                · cases hr
              · cases hr
          · cases hr
        · cases hr
      · cases hr
    · cases hr
  · cases hr
/-- both -/
noncomputable def crcSums (ft fs ty : Nat) : Sums := fun f => bif Nat.beq f ft then some (sTable ty) else bif Nat.beq f fs then some sStep else none
end Vm
namespace Vm
open Go
/-- summaries of two kinds -/
def sumsOr (Γ Γ' : Sums) : Sums := fun f => match Γ f with | some s => some s | none => Γ' f
theorem sums_or {P : Program} {B : Nat} {Γ Γ' : Sums} (h : SumsOK P B Γ) (h' : SumsOK P B Γ') : SumsOK P B (sumsOr Γ Γ') := by
  refine ⟨fun f s hs args h0 v h1 hr => ?_, fun {f s args h0 v h1} hs hr => ?_⟩ <;> unfold sumsOr at hs <;> split at hs
  · rename_i s' hs'; cases hs; exact h.1 f s hs' args h0 v h1 hr
  · exact h'.1 f s hs args h0 v h1 hr
  · rename_i s' hs'; cases hs; exact h.2 hs' hr
  · exact h'.2 hs hr
end Vm

