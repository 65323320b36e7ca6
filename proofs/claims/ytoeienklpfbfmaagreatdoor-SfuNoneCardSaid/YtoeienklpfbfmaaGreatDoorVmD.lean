/- Part of a proof by an abstract run of the program's code: VmD. No condition. -/
import Derived.Carry
import Derived.WalkKit
import Derived.ProofKit
import Derived.OpenShut
import Derived.HandedShaped
import Derived.ChangeArms
import Derived.WideShapes
import Derived.Test.YtoeienklpfbfmaaGreatDoorVmC
/-! Stepping through the abstract run, by rules. -/
set_option linter.unusedVariables false
namespace Vm
open Go
inductive ItQ (r : It) (Q : Fr → Heap → Prop) : Prop
  | mk (a : Fr) (h : Heap) (e : r = .mk a h) (hq : Q a h)
inductive OutQ (r : Out) (Q : Ex → Fr → Heap → Prop) : Prop
  | mk (x : Ex) (a : Fr) (h : Heap) (e : r = .mk x a h) (hq : Q x a h)
inductive ResQ (r : Res) (Q : Value → Heap → Prop) : Prop
  | mk (v : Value) (h : Heap) (e : r = .ok v h) (hq : Q v h)
section
variable {P : Program} {Γ : Sums} {rec : Rec} {n : Nat} {a : Fr} {h : Heap} {Q : Ex → Fr → Heap → Prop} {K : Fr → Heap → Prop}
theorem items_nil (hq : K a h) : ItQ (runItems rec [] a h) K := ⟨a, h, rfl, hq⟩
theorem items_cons {i : ISem} {l : List ISem} (hq : ItQ (i.f rec a h) (fun a h => ItQ (runItems rec l a h) K)) : ItQ (runItems rec (i :: l) a h) K := by
  obtain ⟨a1, h1, e1, a2, h2, e2, hk⟩ := hq
  exact ⟨a2, h2, by rw [runItems_cons, e1]; exact e2, hk⟩
theorem it_v {d : Put} {rd : Bool} {s : VSem} {v : Value} (hv : s.f a h.get = some v) (hq : K (d.f v a) h) : ItQ ((iOp d (.v rd s)).f rec a h) K :=
  ⟨d.f v a, h, by simp only [iOp, hv], hq⟩
theorem it_a {d : Put} {s : ASem} {blk : Blk} {val : Nat → Value} (hv : s.f a = some (blk, val)) (hq : K (d.f (val h.next) a) (h.new blk)) : ItQ ((iOp d (.a s)).f rec a h) K :=
  ⟨_, _, by simp only [iOp, hv], hq⟩
theorem it_e {d : Put} {s : ESem} (hv : ResQ (s.f rec a h) (fun v h => K (d.f v a) h)) : ItQ ((iOp d (.e s)).f rec a h) K := by
  obtain ⟨v, h1, e, hk⟩ := hv
  exact ⟨_, _, by simp only [iOp, e], hk⟩
theorem it_live {s : Sel} {want : Bool} {d : Put} {i : ISem} (hs : s.f a = .bool want) (hq : ItQ (i.f rec a h) K) : ItQ ((iGuard s want d i).f rec a h) K := by
  obtain ⟨a1, h1, e, hk⟩ := hq
  refine ⟨a1, h1, ?_, hk⟩
  simp only [iGuard, hs]
  cases want <;> exact e
theorem it_skip {s : Sel} {want : Bool} {d : Put} {i : ISem} (hs : s.f a = .bool !want) (hq : K (d.f Vm.undef a) h) : ItQ ((iGuard s want d i).f rec a h) K := by
  refine ⟨_, _, ?_, hq⟩
  simp only [iGuard, hs]
  cases want <;> rfl
theorem out_region {l : List ISem} (hq : ItQ (runItems rec l a h) (fun a h => Q .normal a h)) : OutQ ((sRegion l).f rec n a h) Q := by
  obtain ⟨a1, h1, e, hk⟩ := hq
  exact ⟨.normal, a1, h1, by simp only [sRegion, e], hk⟩
theorem out_ex {e : Ex} (hq : Q e a h) : OutQ ((sEx e).f rec n a h) Q := ⟨e, a, h, rfl, hq⟩
theorem out_seq {x y : Sem} (hq : OutQ (x.f rec n a h) (fun e a h => match e with | .normal => OutQ (y.f rec n a h) Q | e => Q e a h)) : OutQ ((sSeq x y).f rec n a h) Q := by
  obtain ⟨e1, a1, h1, he, hk⟩ := hq
  cases e1 with
  | normal =>
    obtain ⟨e2, a2, h2, he2, hk2⟩ := hk
    exact ⟨e2, a2, h2, by simp only [sSeq, he]; exact he2, hk2⟩
  | _ => exact ⟨_, _, _, by simp only [sSeq, he], hk⟩
theorem out_cond {c : Sel} {x y : Sem} {b : Bool} (hc : c.f a = .bool b) (hq : OutQ ((bif b then x else y).f rec n a h) Q) : OutQ ((sCond c x y).f rec n a h) Q := by
  obtain ⟨e1, a1, h1, he, hk⟩ := hq
  refine ⟨e1, a1, h1, ?_, hk⟩
  simp only [sCond, hc]
  cases b <;> exact he
theorem out_block {id : Nat} {x : Sem} (hq : OutQ (x.f rec n a h) (fun e a h => match e with | .exit i => bif Nat.beq i id then Q .normal a h else Q (.exit i) a h | e => Q e a h)) : OutQ ((sBlock id x).f rec n a h) Q := by
  obtain ⟨e1, a1, h1, he, hk⟩ := hq
  cases e1 with
  | exit i =>
    cases hb : Nat.beq i id with
    | true => simp only [hb, cond_true] at hk; exact ⟨.normal, a1, h1, by simp only [sBlock, he, hb, cond_true], hk⟩
    | false => simp only [hb, cond_false] at hk; exact ⟨.exit i, a1, h1, by simp only [sBlock, he, hb, cond_false], hk⟩
  | _ => exact ⟨_, _, _, by simp only [sBlock, he], hk⟩
/-- a loop: an invariant and a measure that bounds the rounds -/
theorem loopGo_inv {x : Fr → Heap → Out} (I : Nat → Fr → Heap → Prop) (round : ∀ m a h, I m a h → OutQ (x a h) (fun e a h => match e with | .normal => ∃ m', m' < m ∧ I m' a h | e => Q e a h)) :
    ∀ (n m : Nat) (a : Fr) (h : Heap), m < n → I m a h → OutQ (loopGo x n a h) Q
  | 0, m, a, h, hl, hi => by omega
  | n + 1, m, a, h, hl, hi => by
    obtain ⟨e1, a1, h1, he, hk⟩ := round m a h hi
    cases e1 with
    | normal =>
      obtain ⟨m', hlt, hi'⟩ := hk
      obtain ⟨e2, a2, h2, he2, hk2⟩ := loopGo_inv I round n m' a1 h1 (by omega) hi'
      exact ⟨e2, a2, h2, by rw [loopGo_succ, he]; exact he2, hk2⟩
    | _ => exact ⟨_, _, _, by rw [loopGo_succ, he], hk⟩
theorem out_loop {x : Sem} (I : Nat → Fr → Heap → Prop) (m : Nat) (hm : m < n) (hi : I m a h) (round : ∀ m a h, I m a h → OutQ (x.f rec n a h) (fun e a h => match e with | .normal => ∃ m', m' < m ∧ I m' a h | e => Q e a h)) :
    OutQ ((sLoop x).f rec n a h) Q := loopGo_inv I round n m a h hm hi
/-- one round more: where the number of rounds is known -/
theorem loopGo_step {x : Fr → Heap → Out} (hq : OutQ (x a h) (fun e a h => match e with | .normal => OutQ (loopGo x n a h) Q | e => Q e a h)) : OutQ (loopGo x (n + 1) a h) Q := by
  obtain ⟨e1, a1, h1, he, hk⟩ := hq
  cases e1 with
  | normal =>
    obtain ⟨e2, a2, h2, he2, hk2⟩ := hk
    exact ⟨e2, a2, h2, by rw [loopGo_succ, he]; exact he2, hk2⟩
  | _ => exact ⟨_, _, _, by rw [loopGo_succ, he], hk⟩
/-- a function: R on the value and the heap -/
theorem res_call {f : FuncId} {args : List Value} {c : CF} {R : Value → Heap → Prop} (hΓ : Γ f = none) (hc : denF P f = some c) (hn : Nat.ble args.length c.nt = true)
    (hq : OutQ (c.body.f (callN P Γ n) n (frameOf args) h) (fun e a h => (e = .normal ∨ e = .ret) ∧ ∃ l v, rvs h a c.rs = some l ∧ ((l = [v]) ∨ (l.length ≠ 1 ∧ v = .tuple l.toArray)) ∧ R v h)) :
    ResQ (callN P Γ (n + 1) (.call f args) h) R := by
  obtain ⟨e1, a1, h1, he, hee, l, v, hl, hv, hR⟩ := hq
  refine ⟨v, h1, ?_, hR⟩
  rw [callN_call, hΓ]
  simp only [hc, hn, cond_true, he]
  unfold finish
  rcases hee with rfl | rfl <;> simp only [hl] <;> rcases hv with rfl | ⟨hne, rfl⟩ <;> first
    | rfl
    | (split
       · simp at hne
       · rfl)
theorem ResQ.mono {r : Res} {Q R : Value → Heap → Prop} (h : ResQ r Q) (hq : ∀ v h, Q v h → R v h) : ResQ r R := let ⟨v, h1, e, hk⟩ := h; ⟨v, h1, e, hq _ _ hk⟩
end
/-- what was there is as it was -/
structure Keeps (h h' : Heap) : Prop where
  next : h.next ≤ h'.next
  get : ∀ b, b < h.next → h'.get b = h.get b
theorem Keeps.refl (h : Heap) : Keeps h h := ⟨Nat.le_refl _, fun _ _ => rfl⟩
theorem Keeps.trans {h h' h'' : Heap} (k : Keeps h h') (k' : Keeps h' h'') : Keeps h h'' := ⟨Nat.le_trans k.next k'.next, fun b hb => (k'.get b (Nat.lt_of_lt_of_le hb k.next)).trans (k.get b hb)⟩
theorem Keeps.new (h : Heap) (x : Blk) : Keeps h (h.new x) := ⟨Nat.le_succ _, fun b hb => by rw [Heap.get_new, if_neg (by omega)]⟩
theorem Keeps.put {h h' : Heap} (k : Keeps h h') {b : Nat} (hb : h.next ≤ b) (x : Blk) : Keeps h (h'.put b x) := ⟨k.next, fun c hc => by rw [Heap.get_put, if_neg (by omega)]; exact k.get c hc⟩
/-- a slice of octets -/
def Bs (h : Heap) (v : Value) (l : List UInt8) : Prop :=
  (v = .slice none 0 0 ∧ l = []) ∨ ∃ p c, v = .slice (some p) l.length c ∧ p.block < h.next ∧ loadN h.get p l.length = some (u8s l)
theorem loadN_keeps {h h' : Heap} (k : Keeps h h') {p : Addr} {n : Nat} {l : List Value} (hp : p.block < h.next) (hl : loadN h.get p n = some l) : loadN h'.get p n = some l := by
  unfold loadN at *
  rw [k.get _ hp]
  exact hl
theorem Bs.keeps {h h' : Heap} {v : Value} {l : List UInt8} (b : Bs h v l) (k : Keeps h h') : Bs h' v l := by
  rcases b with b | ⟨p, c, h1, h2, h3⟩
  · exact .inl b
  · exact .inr ⟨p, c, h1, Nat.lt_of_lt_of_le h2 k.next, loadN_keeps k h2 h3⟩
end Vm

/-! Rows of octets: what the operations do with them. -/
set_option linter.unusedVariables false
namespace Vm
open Go
theorem u8s_length (l : List UInt8) : (u8s l).length = l.length := by rw [u8s_eq, List.length_map]
theorem u8s_append (l k : List UInt8) : u8s (l ++ k) = u8s l ++ u8s k := by rw [u8s_eq, u8s_eq, u8s_eq, List.map_append]
theorem bs_src {h : Heap} {v : Value} {l : List UInt8} (hb : Bs h v l) : srcCells h.get 1 v = some (l.length, u8s l) := by
  rcases hb with ⟨rfl, rfl⟩ | ⟨p, c, rfl, h2, h3⟩
  · rfl
  · simp only [srcCells, Nat.mul_one, h3]
theorem add_nat {x y : Sel} {a : Fr} {p q : Nat} (hx : x.f a = .int .i64 (.ofNat p)) (hy : y.f a = .int .i64 (.ofNat q)) (hlt : p + q < 9223372036854775808) (g : G) : (oInt2 fAdd x y).f a g = some (.int .i64 (.ofNat (p + q))) := by
  simp only [oInt2, hx, hy]
  show some (Value.int .i64 (wrap .i64 (.ofNat p + .ofNat q))) = _
  have : (Int.ofNat p + Int.ofNat q) = Int.ofNat (p + q) := rfl
  rw [this]
  have hb : Nat.blt (p + q) (lim .i64) = true := by simpa [lim] using hlt
  show some (Value.int .i64 (bif Nat.blt (p + q) (lim .i64) then .ofNat (p + q) else _)) = _
  rw [hb]
  rfl
theorem mk_slice {e : TypeId} {by_ : Nat} {z : List Value} {x y : Sel} {a : Fr} {l c : Nat} (hx : x.f a = .int .i64 (.ofNat l)) (hy : y.f a = .int .i64 (.ofNat c)) (h1 : l ≤ c) (h2 : c * by_ ≤ 140737488355328) (h3 : c ≤ 9223372036854775807) :
    (aMakeSlice e by_ z x y).f a = some (.cells e (rep c z) (.own false), sliceTo l c none) := by
  simp only [aMakeSlice, hx, hy, Nat.ble_eq_true_of_le h1, Nat.ble_eq_true_of_le h2, Nat.ble_eq_true_of_le h3, cond_true]
/-- one block of the run's own is turned -/
structure Turned (h h' : Heap) (b : Nat) (x : Blk) : Prop where
  next : h'.next = h.next
  at_ : h'.get b = some x
  other : ∀ k, k ≠ b → h'.get k = h.get k
theorem Turned.keeps {h0 h h' : Heap} {b : Nat} {x : Blk} (k : Keeps h0 h) (t : Turned h h' b x) (hb : h0.next ≤ b) : Keeps h0 h' := ⟨by rw [t.next]; exact k.next, fun c hc => by rw [t.other c (by omega)]; exact k.get c hc⟩
theorem Turned.of_put (h : Heap) (b : Nat) (x : Blk) : Turned h (h.put b x) b x := ⟨rfl, by rw [Heap.get_put, if_pos rfl], fun k hk => by rw [Heap.get_put, if_neg hk]⟩
theorem storeN_own {h : Heap} {b off : Nat} {s : Option Nat} {e : TypeId} {cs vs : List Value} {o : Bool} (hg : h.get b = some (.cells e cs (.own o))) (hl : off + vs.length ≤ cs.length) :
    storeN h ⟨b, off, s⟩ vs = some (h.put b (.cells e (putAt cs off vs) (.own o))) := by
  simp only [storeN, hg, Nat.ble_eq_true_of_le hl, cond_true]
theorem putAt_eq (vs : List Value) : ∀ (l : List Value) (n : Nat), n ≤ l.length → putAt l n vs = l.take n ++ vs ++ l.drop (n + vs.length)
  | l, 0, h => by rw [putAt_zero]; simp
  | [], n + 1, h => by simp at h
  | x :: l, n + 1, h => by
    have := putAt_eq vs l n (by simpa using h)
    show x :: putAt l n vs = _
    rw [this, show n + 1 + vs.length = (n + vs.length) + 1 by omega]
    rfl
theorem copy_row {rec : Rec} {x y : Sel} {a : Fr} {h : Heap} {b c n : Nat} {e : TypeId} {cs : List Value} {l : List UInt8} {o : Bool} (hx : x.f a = .slice (some ⟨b, 0, none⟩) n c) (hy : srcCells h.get 1 (y.f a) = some (l.length, u8s l)) (hn : l.length = n)
    (hg : h.get b = some (.cells e cs (.own o))) (hl : n ≤ cs.length) : ResQ ((eCopy 1 x y).f rec a h) (fun v h' => Turned h h' b (.cells e (u8s l ++ cs.drop n) (.own o))) := by
  have hk : (bif Nat.ble n l.length then n else l.length) = n := by rw [hn, Nat.ble_eq_true_of_le (Nat.le_refl n)]; rfl
  by_cases h0 : n = 0
  · subst h0
    have hl0 : l = [] := List.length_eq_zero_iff.1 hn
    subst hl0
    refine ⟨.int .i64 (.ofNat 0), h, ?_, rfl, by rw [hg]; rfl, fun _ _ => rfl⟩
    simp only [eCopy, hx, hy, hk]
    rfl
  · have hne : Nat.beq n 0 = false := by rw [← Bool.not_eq_true]; exact fun e => h0 (Nat.eq_of_beq_eq_true e)
    have htk : (u8s l).take (n * 1) = u8s l := by rw [Nat.mul_one, ← hn, ← u8s_length, List.take_length]
    have hst := storeN_own (s := none) (off := 0) (vs := u8s l) hg (by rw [u8s_length, hn]; omega)
    refine ⟨.int .i64 (.ofNat n), h.put b (.cells e (putAt cs 0 (u8s l)) (.own o)), ?_, ?_⟩
    · simp only [eCopy, hx, hy, hk, hne, cond_false, htk, hst]
    · have e1 : putAt cs 0 (u8s l) = u8s l ++ cs.drop n := by rw [putAt_zero, u8s_length, hn]
      rw [e1]
      exact Turned.of_put _ _ _
theorem app_row {rec : Rec} {x y : Sel} {a : Fr} {h : Heap} {b c n : Nat} {e : TypeId} {cs : List Value} {l : List UInt8} {o : Bool} (hx : x.f a = .slice (some ⟨b, 0, none⟩) n c) (hy : srcCells h.get 1 (y.f a) = some (l.length, u8s l))
    (hg : h.get b = some (.cells e cs (.own o))) (hl : n + l.length ≤ cs.length) (hc : n + l.length ≤ c) (hbig : n + l.length ≤ 140737488355328) :
    ResQ ((eAppend e 1 1 x y).f rec a h) (fun v h' => v = .slice (some ⟨b, 0, none⟩) (n + l.length) c ∧ Turned h h' b (.cells e (cs.take n ++ u8s l ++ cs.drop (n + l.length)) (.own o))) := by
  have h1 : Nat.ble ((n + l.length) * 1) 140737488355328 = true := Nat.ble_eq_true_of_le (by omega)
  have h2 : Nat.ble (n + l.length) c = true := Nat.ble_eq_true_of_le hc
  by_cases h0 : l.length = 0
  · have hl0 : l = [] := List.length_eq_zero_iff.1 h0
    subst hl0
    refine ⟨_, h, ?_, rfl, rfl, ?_, fun _ _ => rfl⟩
    · simp only [eAppend, hx, hy, h1, h2, cond_true]
      rfl
    · rw [hg]
      simp [u8s]
  · have hne : Nat.beq l.length 0 = false := by rw [← Bool.not_eq_true]; exact fun e => h0 (Nat.eq_of_beq_eq_true e)
    have hst := storeN_own (s := none) (off := 0 + n * 1) (vs := u8s l) hg (by rw [u8s_length]; omega)
    refine ⟨.slice (some ⟨b, 0, none⟩) (n + l.length) c, h.put b (.cells e (putAt cs (0 + n * 1) (u8s l)) (.own o)), ?_, rfl, ?_⟩
    · simp only [eAppend, hx, hy, h1, h2, hne, cond_true, cond_false, hst]
    · have e1 : putAt cs (0 + n * 1) (u8s l) = cs.take n ++ u8s l ++ cs.drop (n + l.length) := by
        rw [putAt_eq _ _ _ (by omega), u8s_length]
        simp
      rw [e1]
      exact Turned.of_put _ _ _
end Vm

/-! Rules for single operations, with values in plain forms. -/
set_option linter.unusedVariables false
namespace Vm
open Go
/-! ### numbers -/
theorem wrap_i64 {z : Int} (h1 : -9223372036854775808 ≤ z) (h2 : z ≤ 9223372036854775807) : wrap .i64 z = z := by
  rw [wrap_eq, IntKind.wrap_i64]; omega
theorem wrap_nat {k : IntKind} {m : Nat} (h : m < lim k) : wrap k (m : Int) = (m : Int) := by
  have hb : Nat.blt m (lim k) = true := by simpa using h
  show (bif Nat.blt m (lim k) then Int.ofNat m else _) = _
  rw [hb]; rfl
theorem eqI_dec (p q : Int) : eqI p q = decide (p = q) := by rw [eqI_eq, Bool.eq_iff_iff]; simp
theorem set8_self {α : Type} (i : Nat) (a : N8 α) : (set8 i).f ((get8 i).f a) a = a := by
  cases a
  match i with
  | 0 | 1 | 2 | 3 | 4 | 5 | 6 => rfl
  | _ + 7 => rfl
theorem put_self (t : Nat) (a : Fr) : (put t).f ((sel t).f a) a = a := by
  show (set8 (t / 64)).f ((set8 (t / 8 % 8)).f ((set8 (t % 8)).f ((get8 (t % 8)).f ((get8 (t / 8 % 8)).f ((get8 (t / 64)).f a))) ((get8 (t / 8 % 8)).f ((get8 (t / 64)).f a))) ((get8 (t / 64)).f a)) a = a
  rw [set8_self, set8_self, set8_self]
/-- some slots' values -/
def Sl : List (Nat × Value) → Fr → Prop
  | [], _ => True
  | (t, v) :: r, a => (sel t).f a = v ∧ Sl r a
noncomputable def puts : List (Nat × Value) → Fr → Fr
  | [], a => a
  | (t, v) :: r, a => (put t).f v (puts r a)
theorem Sl.puts_eq : ∀ {L : List (Nat × Value)} {a : Fr}, Sl L a → puts L a = a
  | [], a, _ => rfl
  | (t, v) :: r, a, ⟨h1, h2⟩ => by rw [puts, Sl.puts_eq h2, ← h1, put_self]
theorem Sl.puts {L : List (Nat × Value)} {a : Fr} (h : Sl L a) : ∃ f, a = Vm.puts L f := ⟨a, h.puts_eq.symm⟩
/-- what stands in a slot -/
noncomputable def look (t : Nat) : List (Nat × Value) → Option Value := List.rec none (fun p _ ih => Prod.rec (fun k v => bif Nat.beq k t then some v else bif Nat.blt k 512 then (bif Nat.blt t 512 then ih else none) else none) p)
theorem sel_self (t : Nat) (v : Value) (a : Fr) : (sel t).f ((put t).f v a) = v := by
  have h : ∀ {α : Type} (i : Nat) (v : α) (a : N8 α), (get8 i).f ((set8 i).f v a) = v := by
    intro α i v a
    cases a
    match i with
    | 0 | 1 | 2 | 3 | 4 | 5 | 6 => rfl
    | _ + 7 => rfl
  show (get8 (t % 8)).f ((get8 (t / 8 % 8)).f ((get8 (t / 64)).f ((set8 (t / 64)).f ((set8 (t / 8 % 8)).f ((set8 (t % 8)).f v ((get8 (t / 8 % 8)).f ((get8 (t / 64)).f a))) ((get8 (t / 64)).f a)) a))) = _
  rw [h, h, h]
theorem sel_of {t : Nat} {v : Value} : ∀ {L : List (Nat × Value)} {f : Fr}, look t L = some v → (sel t).f (puts L f) = v
  | [], f, h => by cases h
  | (k, u) :: L, f, h => by
    have h' : (bif Nat.beq k t then some u else bif Nat.blt k 512 then (bif Nat.blt t 512 then look t L else none) else none) = some v := h
    show (sel t).f ((put k).f u (puts L f)) = v
    cases hk : Nat.beq k t with
    | true =>
      rw [hk] at h'
      cases h'
      have := Nat.eq_of_beq_eq_true hk
      subst this
      exact sel_self _ _ _
    | false =>
      rw [hk] at h'
      have hne : k ≠ t := fun e => by subst e; simp at hk
      cases h1 : Nat.blt k 512 with
      | false => rw [h1] at h'; cases h'
      | true =>
        rw [h1] at h'
        cases h2 : Nat.blt t 512 with
        | false => rw [h2] at h'; cases h'
        | true =>
          rw [h2] at h'
          rw [sel_put t k (by simpa using h2) (by simpa using h1), if_neg (fun e => hne e.symm)]
          exact sel_of h'
theorem const_of {c : Value} {a : Fr} : (⟨fun _ => c⟩ : Sel).f a = c := rfl
/-- the arguments' slots -/
def argL (i : Nat) (r : List (Nat × Value)) : List Value → List (Nat × Value)
  | [] => r
  | v :: vs => argL (i + 1) ((i, v) :: r) vs
theorem frame_puts : ∀ (vs : List Value) (i : Nat) (r : List (Nat × Value)) (f : Fr), (List.rec (motive := fun _ => Nat → Fr → Fr) (fun _ a => a) (fun v _ ih i a => ih (i + 1) ((put i).f v a)) vs : Nat → Fr → Fr) i (puts r f) = puts (argL i r vs) f
  | [], i, r, f => rfl
  | v :: vs, i, r, f => frame_puts vs (i + 1) ((i, v) :: r) f
theorem frameOf_eq (vs : List Value) : frameOf vs = puts (argL 0 [] vs) fr0 := frame_puts vs 0 [] fr0
section
variable {P : Program} {Γ : Sums} {rec : Rec} {n : Nat} {a : Fr} {h : Heap} {Q : Ex → Fr → Heap → Prop} {K : Fr → Heap → Prop} {L : List (Nat × Value)} {f : Fr} {dt : Nat} {rd : Bool} {x y z : Sel} {l : List ISem} {k j : IntKind} {p q r : Int}
theorem int2w {g : F2} {u : Value} (G : G) (hx : x.f a = .int k p) (hy : y.f a = .int k q) (hu : g.f k p q = some u) : (oInt2 g x y).f a G = some u := by
  have : Nat.beq (kc k) (kc k) = true := by simp
  simp only [oInt2, hx, hy, this, cond_true, hu]
theorem i_v {s : VSem} {v : Value} (hv : s.f (puts L f) h.get = some v) (hq : ItQ (runItems rec l (puts ((dt, v) :: L) f) h) K) : ItQ (runItems rec (iOp (put dt) (.v rd s) :: l) (puts L f) h) K := items_cons (it_v hv hq)
theorem i_a {s : ASem} {blk : Blk} {val : Nat → Value} (hv : s.f (puts L f) = some (blk, val)) (hq : ItQ (runItems rec l (puts ((dt, (val h.next)) :: L) f) (h.new blk)) K) : ItQ (runItems rec (iOp (put dt) (.a s) :: l) (puts L f) h) K := items_cons (it_a hv hq)
theorem i_e1 {s : ESem} {R : Value → Heap → Prop} (hv : ResQ (s.f rec (puts L f) h) R) (hq : ∀ v h', R v h' → ItQ (runItems rec l (puts ((dt, v) :: L) f) h') K) : ItQ (runItems rec (iOp (put dt) (.e s) :: l) (puts L f) h) K := items_cons (it_e (hv.mono hq))
theorem i_e {s : ESem} (hv : ResQ (s.f rec (puts L f) h) (fun v h => ItQ (runItems rec l (puts ((dt, v) :: L) f) h) K)) : ItQ (runItems rec (iOp (put dt) (.e s) :: l) (puts L f) h) K := items_cons (it_e hv)
/-- a call -/
theorem i_call {s : ESem} {R : Value → Heap → Prop} (hv : ResQ (s.f rec (puts L f) h) R) (hq : ∀ v h', R v h' → ItQ (runItems rec l (puts ((dt, v) :: L) f) h') K) : ItQ (runItems rec (iOp (put dt) (.e s) :: l) (puts L f) h) K := items_cons (it_e (hv.mono hq))
theorem i_live {s : Sel} {want : Bool} {i : ISem} (hs : s.f (puts L f) = .bool want) (hq : ItQ (runItems rec (i :: l) (puts L f) h) K) : ItQ (runItems rec (iGuard s want (put dt) i :: l) (puts L f) h) K := by
  refine items_cons (it_live hs ?_)
  obtain ⟨a1, h1, e, hk⟩ := hq
  rw [runItems_cons] at e
  cases hi : i.f rec (puts L f) h with
  | no => rw [hi] at e; cases e
  | mk a2 h2 => rw [hi] at e; exact ⟨a2, h2, rfl, a1, h1, e, hk⟩
theorem i_skip {s : Sel} {want : Bool} {i : ISem} (hs : s.f (puts L f) = .bool !want) (hq : ItQ (runItems rec l (puts ((dt, Vm.undef) :: L) f) h) K) : ItQ (runItems rec (iGuard s want (put dt) i :: l) (puts L f) h) K := items_cons (it_skip hs hq)
-- moving, by kinds
theorem i_evi (hx : x.f (puts L f) = .int k p) (hq : ItQ (runItems rec l (puts ((dt, (.int k p)) :: L) f) h) K) : ItQ (runItems rec (iOp (put dt) (.v rd (oEv x)) :: l) (puts L f) h) K := i_v (by simp only [oEv, hx]) hq
theorem i_evb {b : Bool} (hx : x.f (puts L f) = .bool b) (hq : ItQ (runItems rec l (puts ((dt, (.bool b)) :: L) f) h) K) : ItQ (runItems rec (iOp (put dt) (.v rd (oEv x)) :: l) (puts L f) h) K := i_v (by simp only [oEv, hx]) hq
theorem i_evs {o : Option Addr} {m c : Nat} (hx : x.f (puts L f) = .slice o m c) (hq : ItQ (runItems rec l (puts ((dt, (.slice o m c)) :: L) f) h) K) : ItQ (runItems rec (iOp (put dt) (.v rd (oEv x)) :: l) (puts L f) h) K := i_v (by simp only [oEv, hx]) hq
theorem i_evp {o : Option Addr} (hx : x.f (puts L f) = .pointer o) (hq : ItQ (runItems rec l (puts ((dt, (.pointer o)) :: L) f) h) K) : ItQ (runItems rec (iOp (put dt) (.v rd (oEv x)) :: l) (puts L f) h) K := i_v (by simp only [oEv, hx]) hq
theorem i_evt {s : ByteArray} (hx : x.f (puts L f) = .string s) (hq : ItQ (runItems rec l (puts ((dt, (.string s)) :: L) f) h) K) : ItQ (runItems rec (iOp (put dt) (.v rd (oEv x)) :: l) (puts L f) h) K := i_v (by simp only [oEv, hx]) hq
theorem i_evg {c : Array Value} (hx : x.f (puts L f) = .agg c) (hq : ItQ (runItems rec l (puts ((dt, (.agg c)) :: L) f) h) K) : ItQ (runItems rec (iOp (put dt) (.v rd (oEv x)) :: l) (puts L f) h) K := i_v (by simp only [oEv, hx]) hq
theorem i_evu {c : Array Value} (hx : x.f (puts L f) = .tuple c) (hq : ItQ (runItems rec l (puts ((dt, (.tuple c)) :: L) f) h) K) : ItQ (runItems rec (iOp (put dt) (.v rd (oEv x)) :: l) (puts L f) h) K := i_v (by simp only [oEv, hx]) hq
theorem i_evm {c : Option Nat} (hx : x.f (puts L f) = .map c) (hq : ItQ (runItems rec l (puts ((dt, (.map c)) :: L) f) h) K) : ItQ (runItems rec (iOp (put dt) (.v rd (oEv x)) :: l) (puts L f) h) K := i_v (by simp only [oEv, hx]) hq
theorem i_evf {g : Fn} {xs ys : Array Value} (hx : x.f (puts L f) = .func g xs ys) (hq : ItQ (runItems rec l (puts ((dt, (.func g xs ys)) :: L) f) h) K) : ItQ (runItems rec (iOp (put dt) (.v rd (oEv x)) :: l) (puts L f) h) K := i_v (by simp only [oEv, hx]) hq
theorem i_ev {v : Value} (hx : x.f (puts L f) = v) (hq : ItQ (runItems rec l (puts ((dt, v) :: L) f) h) K) : ItQ (runItems rec (iOp (put dt) (.v rd (oEv x)) :: l) (puts L f) h) K := i_v (by simp only [oEv, hx]) hq
-- reckoning
theorem i_add64 (hx : x.f (puts L f) = .int .i64 p) (hy : y.f (puts L f) = .int .i64 q) (h1 : -9223372036854775808 ≤ p + q) (h2 : p + q ≤ 9223372036854775807) (hq : ItQ (runItems rec l (puts ((dt, (.int .i64 (p + q))) :: L) f) h) K) : ItQ (runItems rec (iOp (put dt) (.v rd (oInt2 fAdd x y)) :: l) (puts L f) h) K :=
  i_v (int2w _ hx hy (show some _ = _ by rw [wrap_i64 h1 h2])) hq
theorem i_sub64 (hx : x.f (puts L f) = .int .i64 p) (hy : y.f (puts L f) = .int .i64 q) (h1 : -9223372036854775808 ≤ p - q) (h2 : p - q ≤ 9223372036854775807) (hq : ItQ (runItems rec l (puts ((dt, (.int .i64 (p - q))) :: L) f) h) K) : ItQ (runItems rec (iOp (put dt) (.v rd (oInt2 fSub x y)) :: l) (puts L f) h) K :=
  i_v (int2w _ hx hy (show some _ = _ by rw [wrap_i64 h1 h2])) hq
theorem i_mul64 (hx : x.f (puts L f) = .int .i64 p) (hy : y.f (puts L f) = .int .i64 q) (h1 : -9223372036854775808 ≤ p * q) (h2 : p * q ≤ 9223372036854775807) (hq : ItQ (runItems rec l (puts ((dt, (.int .i64 (p * q))) :: L) f) h) K) : ItQ (runItems rec (iOp (put dt) (.v rd (oInt2 fMul x y)) :: l) (puts L f) h) K :=
  i_v (int2w _ hx hy (show some _ = _ by rw [wrap_i64 h1 h2])) hq
theorem i_add (hx : x.f (puts L f) = .int k p) (hy : y.f (puts L f) = .int k q) (hq : ItQ (runItems rec l (puts ((dt, (.int k (wrap k (p + q)))) :: L) f) h) K) : ItQ (runItems rec (iOp (put dt) (.v rd (oInt2 fAdd x y)) :: l) (puts L f) h) K := i_v (int2w _ hx hy rfl) hq
theorem i_sub (hx : x.f (puts L f) = .int k p) (hy : y.f (puts L f) = .int k q) (hq : ItQ (runItems rec l (puts ((dt, (.int k (wrap k (p - q)))) :: L) f) h) K) : ItQ (runItems rec (iOp (put dt) (.v rd (oInt2 fSub x y)) :: l) (puts L f) h) K := i_v (int2w _ hx hy rfl) hq
theorem i_mul (hx : x.f (puts L f) = .int k p) (hy : y.f (puts L f) = .int k q) (hq : ItQ (runItems rec l (puts ((dt, (.int k (wrap k (p * q)))) :: L) f) h) K) : ItQ (runItems rec (iOp (put dt) (.v rd (oInt2 fMul x y)) :: l) (puts L f) h) K := i_v (int2w _ hx hy rfl) hq
/-- a number, told otherwise -/
theorem i_is {s : VSem} {v : Value} (r : Int) (hv : s.f (puts L f) h.get = some v) (e : v = .int k r) (hq : ItQ (runItems rec l (puts ((dt, (.int k r)) :: L) f) h) K) : ItQ (runItems rec (iOp (put dt) (.v rd s) :: l) (puts L f) h) K := i_v (by rw [hv, e]) hq
theorem i_muln (r : Nat) (hx : x.f (puts L f) = .int .i64 p) (hy : y.f (puts L f) = .int .i64 q) (e : p * q = (r : Int)) (hr : r < 9223372036854775808) (hq : ItQ (runItems rec l (puts ((dt, (.int .i64 (r : Int))) :: L) f) h) K) : ItQ (runItems rec (iOp (put dt) (.v rd (oInt2 fMul x y)) :: l) (puts L f) h) K :=
  i_v (int2w _ hx hy (show some _ = _ by rw [wrap_i64 (by omega) (by omega), e])) hq
theorem i_subn (r : Nat) (hx : x.f (puts L f) = .int .i64 p) (hy : y.f (puts L f) = .int .i64 q) (e : p - q = (r : Int)) (hr : r < 9223372036854775808) (hq : ItQ (runItems rec l (puts ((dt, (.int .i64 (r : Int))) :: L) f) h) K) : ItQ (runItems rec (iOp (put dt) (.v rd (oInt2 fSub x y)) :: l) (puts L f) h) K :=
  i_v (int2w _ hx hy (show some _ = _ by rw [wrap_i64 (by omega) (by omega), e])) hq
theorem i_addn (r : Nat) (hx : x.f (puts L f) = .int .i64 p) (hy : y.f (puts L f) = .int .i64 q) (e : p + q = (r : Int)) (hr : r < 9223372036854775808) (hq : ItQ (runItems rec l (puts ((dt, (.int .i64 (r : Int))) :: L) f) h) K) : ItQ (runItems rec (iOp (put dt) (.v rd (oInt2 fAdd x y)) :: l) (puts L f) h) K :=
  i_v (int2w _ hx hy (show some _ = _ by rw [wrap_i64 (by omega) (by omega), e])) hq
theorem i_remn (r : Nat) {p q : Nat} (hx : x.f (puts L f) = .int .i64 (p : Int)) (hy : y.f (puts L f) = .int .i64 (q : Int)) (h0 : q ≠ 0) (e : p % q = r) (hq : ItQ (runItems rec l (puts ((dt, (.int .i64 (r : Int))) :: L) f) h) K) : ItQ (runItems rec (iOp (put dt) (.v rd (oInt2 fRem x y)) :: l) (puts L f) h) K :=
  i_v (int2w _ hx hy (show (bif eqI (q : Int) 0 then none else some (Value.int .i64 (Int.tmod (p : Int) (q : Int)))) = _ by rw [eqI_dec, decide_eq_false (by omega), ← e]; rfl)) hq
theorem wrap_u16 (m : Nat) : wrap .u16 (m : Int) = ((m % 65536 : Nat) : Int) := by
  rw [wrap_eq]
  unfold IntKind.wrap
  simp [IntKind.bits, IntKind.signed]
theorem wrap_u32 (m : Nat) : wrap .u32 (m : Int) = ((m % 4294967296 : Nat) : Int) := by
  rw [wrap_eq]
  unfold IntKind.wrap
  simp [IntKind.bits, IntKind.signed]
theorem i_cv16 {m : Nat} (hx : x.f (puts L f) = .int k (m : Int)) (hq : ItQ (runItems rec l (puts ((dt, (.int .u16 ((m % 65536 : Nat) : Int))) :: L) f) h) K) : ItQ (runItems rec (iOp (put dt) (.v rd (oConvInt .u16 x)) :: l) (puts L f) h) K := i_v (by simp only [oConvInt, hx, wrap_u16]) hq
theorem i_cv32 {m : Nat} (hx : x.f (puts L f) = .int k (m : Int)) (hq : ItQ (runItems rec l (puts ((dt, (.int .u32 ((m % 4294967296 : Nat) : Int))) :: L) f) h) K) : ItQ (runItems rec (iOp (put dt) (.v rd (oConvInt .u32 x)) :: l) (puts L f) h) K := i_v (by simp only [oConvInt, hx, wrap_u32]) hq
/-- forget all slots but some -/
theorem refr (L : List (Nat × Value)) {a : Fr} (hs : Sl L a) (hq : ∀ f, ItQ (runItems rec l (puts L f) h) K) : ItQ (runItems rec l a h) K := by rw [← hs.puts_eq]; exact hq _
theorem refo (L : List (Nat × Value)) {s : Sem} {a : Fr} (hs : Sl L a) (hq : ∀ f, OutQ (s.f rec n (puts L f) h) Q) : OutQ (s.f rec n a h) Q := by rw [← hs.puts_eq]; exact hq _
/-- a call of a function by its number -/
theorem i_call0 {g : FuncId} {R : Value → Heap → Prop} (hv : ResQ (rec (.call g []) h) R) (hq : ∀ v h', R v h' → ItQ (runItems rec l (puts ((dt, v) :: L) f) h') K) : ItQ (runItems rec (iOp (put dt) (.e (eCallF g [])) :: l) (puts L f) h) K := items_cons (it_e (ResQ.mono hv hq))
theorem i_call1 {g : FuncId} {x1 : Sel} {v1 : Value} {R : Value → Heap → Prop} (h1 : x1.f (puts L f) = v1) (hv : ResQ (rec (.call g [v1]) h) R) (hq : ∀ v h', R v h' → ItQ (runItems rec l (puts ((dt, v) :: L) f) h') K) : ItQ (runItems rec (iOp (put dt) (.e (eCallF g [x1])) :: l) (puts L f) h) K := by
  subst h1; exact items_cons (it_e (ResQ.mono hv hq))
theorem i_call2 {g : FuncId} {x1 x2 : Sel} {v1 v2 : Value} {R : Value → Heap → Prop} (h1 : x1.f (puts L f) = v1) (h2 : x2.f (puts L f) = v2) (hv : ResQ (rec (.call g [v1, v2]) h) R) (hq : ∀ v h', R v h' → ItQ (runItems rec l (puts ((dt, v) :: L) f) h') K) : ItQ (runItems rec (iOp (put dt) (.e (eCallF g [x1, x2])) :: l) (puts L f) h) K := by
  subst h1 h2; exact items_cons (it_e (ResQ.mono hv hq))
theorem i_call3 {g : FuncId} {x1 x2 x3 : Sel} {v1 v2 v3 : Value} {R : Value → Heap → Prop} (h1 : x1.f (puts L f) = v1) (h2 : x2.f (puts L f) = v2) (h3 : x3.f (puts L f) = v3) (hv : ResQ (rec (.call g [v1, v2, v3]) h) R) (hq : ∀ v h', R v h' → ItQ (runItems rec l (puts ((dt, v) :: L) f) h') K) : ItQ (runItems rec (iOp (put dt) (.e (eCallF g [x1, x2, x3])) :: l) (puts L f) h) K := by
  subst h1 h2 h3; exact items_cons (it_e (ResQ.mono hv hq))
theorem i_call4 {g : FuncId} {x1 x2 x3 x4 : Sel} {v1 v2 v3 v4 : Value} {R : Value → Heap → Prop} (h1 : x1.f (puts L f) = v1) (h2 : x2.f (puts L f) = v2) (h3 : x3.f (puts L f) = v3) (h4 : x4.f (puts L f) = v4) (hv : ResQ (rec (.call g [v1, v2, v3, v4]) h) R) (hq : ∀ v h', R v h' → ItQ (runItems rec l (puts ((dt, v) :: L) f) h') K) : ItQ (runItems rec (iOp (put dt) (.e (eCallF g [x1, x2, x3, x4])) :: l) (puts L f) h) K := by
  subst h1 h2 h3 h4; exact items_cons (it_e (ResQ.mono hv hq))
/-- a call of a function value -/
theorem i_callv1 {g : FuncId} {c x1 : Sel} {v1 : Value} {R : Value → Heap → Prop} (hc : c.f (puts L f) = .func (.func g) #[] #[]) (h1 : x1.f (puts L f) = v1) (hv : ResQ (rec (.call g [v1]) h) R) (hq : ∀ v h', R v h' → ItQ (runItems rec l (puts ((dt, v) :: L) f) h') K) : ItQ (runItems rec (iOp (put dt) (.e (eCall c [x1])) :: l) (puts L f) h) K := by
  subst h1
  refine items_cons (it_e (ResQ.mono ?_ hq))
  simp only [eCall, hc]
  exact hv
theorem i_callv2 {g : FuncId} {c x1 x2 : Sel} {v1 v2 : Value} {R : Value → Heap → Prop} (hc : c.f (puts L f) = .func (.func g) #[] #[]) (h1 : x1.f (puts L f) = v1) (h2 : x2.f (puts L f) = v2) (hv : ResQ (rec (.call g [v1, v2]) h) R) (hq : ∀ v h', R v h' → ItQ (runItems rec l (puts ((dt, v) :: L) f) h') K) : ItQ (runItems rec (iOp (put dt) (.e (eCall c [x1, x2])) :: l) (puts L f) h) K := by
  subst h1 h2
  refine items_cons (it_e (ResQ.mono ?_ hq))
  simp only [eCall, hc]
  exact hv
theorem i_liveP {s : Sel} {i : ISem} {φ : Prop} {inst : Decidable φ} (hs : s.f (puts L f) = .bool (decide φ)) (hp : φ) (hq : ItQ (runItems rec (i :: l) (puts L f) h) K) : ItQ (runItems rec (iGuard s true (put dt) i :: l) (puts L f) h) K := i_live (by rw [hs, decide_eq_true hp]) hq
theorem i_liveN {s : Sel} {i : ISem} {φ : Prop} {inst : Decidable φ} (hs : s.f (puts L f) = .bool (decide φ)) (hp : ¬φ) (hq : ItQ (runItems rec (i :: l) (puts L f) h) K) : ItQ (runItems rec (iGuard s false (put dt) i :: l) (puts L f) h) K := i_live (by rw [hs, decide_eq_false hp]) hq
theorem i_skipP {s : Sel} {i : ISem} {φ : Prop} {inst : Decidable φ} (hs : s.f (puts L f) = .bool (decide φ)) (hp : ¬φ) (hq : ItQ (runItems rec l (puts ((dt, Vm.undef) :: L) f) h) K) : ItQ (runItems rec (iGuard s true (put dt) i :: l) (puts L f) h) K := i_skip (by rw [hs, decide_eq_false hp]; rfl) hq
theorem i_skipN {s : Sel} {i : ISem} {φ : Prop} {inst : Decidable φ} (hs : s.f (puts L f) = .bool (decide φ)) (hp : φ) (hq : ItQ (runItems rec l (puts ((dt, Vm.undef) :: L) f) h) K) : ItQ (runItems rec (iGuard s false (put dt) i :: l) (puts L f) h) K := i_skip (by rw [hs, decide_eq_true hp]; rfl) hq
theorem i_pickP {b : Bool} {φ : Prop} {inst : Decidable φ} (hx : x.f (puts L f) = .bool (decide φ)) (hp : φ) (hy : y.f (puts L f) = .bool b) (hq : ItQ (runItems rec l (puts ((dt, (.bool b)) :: L) f) h) K) : ItQ (runItems rec (iOp (put dt) (.v rd (oPick x y z)) :: l) (puts L f) h) K := i_v (by simp only [oPick, hx, hy, decide_eq_true hp]) hq
theorem i_pickN {b : Bool} {φ : Prop} {inst : Decidable φ} (hx : x.f (puts L f) = .bool (decide φ)) (hp : ¬φ) (hy : z.f (puts L f) = .bool b) (hq : ItQ (runItems rec l (puts ((dt, (.bool b)) :: L) f) h) K) : ItQ (runItems rec (iOp (put dt) (.v rd (oPick x y z)) :: l) (puts L f) h) K := i_v (by simp only [oPick, hx, hy, decide_eq_false hp]) hq
theorem i_shl {m i : Nat} (r : Nat) (hx : x.f (puts L f) = .int k (m : Int)) (hy : y.f (puts L f) = .int j (i : Int)) (hi : i ≤ k.bits) (e : m * 2 ^ i = r) (hr : r < lim k) (hq : ItQ (runItems rec l (puts ((dt, (.int k (r : Int))) :: L) f) h) K) : ItQ (runItems rec (iOp (put dt) (.v rd (oSh fShl x y)) :: l) (puts L f) h) K := by
  refine i_v ?_ hq
  have hb : Nat.ble i k.bits = true := Nat.ble_eq_true_of_le hi
  have e1 : fShl.f k (m : Int) (i : Int) = some (.int k (r : Int)) := by
    show some (Value.int k (wrap k ((m : Int) * Int.ofNat (2 ^ (bif Nat.ble i k.bits then i else k.bits))))) = _
    rw [hb]
    have : (m : Int) * Int.ofNat (2 ^ i) = ((r : Nat) : Int) := by rw [← e]; simp
    rw [show (bif true then i else k.bits) = i from rfl, this, wrap_nat hr]
  simp only [oSh, hx, hy, e1]
/-- an or of what does not meet is a sum -/
theorem i_orn {p q : Nat} (s : Nat) (r : Nat) (hx : x.f (puts L f) = .int k (p : Int)) (hy : y.f (puts L f) = .int k (q : Int)) (hp : p % 2 ^ s = 0) (hq' : q < 2 ^ s) (e : p + q = r) (hr : r < lim k) (hq : ItQ (runItems rec l (puts ((dt, (.int k (r : Int))) :: L) f) h) K) : ItQ (runItems rec (iOp (put dt) (.v rd (oInt2 fOr x y)) :: l) (puts L f) h) K := by
  refine i_v (int2w _ hx hy ?_) hq
  show some (Value.int k (wrap k (.ofNat (Nat.lor p q)))) = _
  have h1 : Nat.lor p q = r := by
    have h2 : p = 2 ^ s * (p / 2 ^ s) := by have := Nat.div_add_mod p (2 ^ s); omega
    have h3 := Nat.two_pow_add_eq_or_of_lt hq' (p / 2 ^ s)
    rw [← h2] at h3
    rw [← e, h3]; rfl
  rw [h1]
  show some (Value.int k (wrap k (r : Int))) = _
  rw [wrap_nat hr]
theorem i_rem {m : Nat} (hx : x.f (puts L f) = .int k p) (hy : y.f (puts L f) = .int k q) (h0 : q ≠ 0) (hq : ItQ (runItems rec l (puts ((dt, (.int k (p.tmod q))) :: L) f) h) K) : ItQ (runItems rec (iOp (put dt) (.v rd (oInt2 fRem x y)) :: l) (puts L f) h) K :=
  i_v (int2w _ hx hy (show (bif eqI q 0 then none else some _) = _ by rw [eqI_dec, decide_eq_false h0]; rfl)) hq
theorem i_lss (hx : x.f (puts L f) = .int k p) (hy : y.f (puts L f) = .int k q) (hq : ItQ (runItems rec l (puts ((dt, (.bool (decide (p < q)))) :: L) f) h) K) : ItQ (runItems rec (iOp (put dt) (.v rd (oInt2 fLss x y)) :: l) (puts L f) h) K :=
  i_v (int2w _ hx hy (show some (Value.bool (ltI p q)) = _ by rw [ltI_eq])) hq
theorem i_gtr (hx : x.f (puts L f) = .int k p) (hy : y.f (puts L f) = .int k q) (hq : ItQ (runItems rec l (puts ((dt, (.bool (decide (q < p)))) :: L) f) h) K) : ItQ (runItems rec (iOp (put dt) (.v rd (oInt2 fGtr x y)) :: l) (puts L f) h) K :=
  i_v (int2w _ hx hy (show some (Value.bool (ltI q p)) = _ by rw [ltI_eq])) hq
theorem i_leq (hx : x.f (puts L f) = .int k p) (hy : y.f (puts L f) = .int k q) (hq : ItQ (runItems rec l (puts ((dt, (.bool (decide (p ≤ q)))) :: L) f) h) K) : ItQ (runItems rec (iOp (put dt) (.v rd (oInt2 fLeq x y)) :: l) (puts L f) h) K :=
  i_v (int2w _ hx hy (show some (Value.bool (!ltI q p)) = _ by rw [ltI_eq]; congr 2; rw [Bool.eq_iff_iff]; simp)) hq
theorem i_geq (hx : x.f (puts L f) = .int k p) (hy : y.f (puts L f) = .int k q) (hq : ItQ (runItems rec l (puts ((dt, (.bool (decide (q ≤ p)))) :: L) f) h) K) : ItQ (runItems rec (iOp (put dt) (.v rd (oInt2 fGeq x y)) :: l) (puts L f) h) K :=
  i_v (int2w _ hx hy (show some (Value.bool (!ltI p q)) = _ by rw [ltI_eq]; congr 2; rw [Bool.eq_iff_iff]; simp)) hq
theorem eq_int (hx : x.f a = .int k p) (hy : y.f a = .int k q) (G : G) : (oEq (.one 1) x y).f a G = some (.bool (decide (p = q))) := by
  have : Nat.beq (kc k) (kc k) = true := by simp
  have e : eqV (.one 1) (.int k p) (.int k q) = some (eqI p q) := by
    show (bif Nat.beq 1 1 then (bif Nat.beq (kc k) (kc k) then some (eqI p q) else none) else none) = _
    rw [this]; rfl
  simp only [oEq, hx, hy, e, eqI_dec]
theorem ne_int (hx : x.f a = .int k p) (hy : y.f a = .int k q) (G : G) : (oNe (.one 1) x y).f a G = some (.bool (decide (p ≠ q))) := by
  have : Nat.beq (kc k) (kc k) = true := by simp
  have e : eqV (.one 1) (.int k p) (.int k q) = some (eqI p q) := by
    show (bif Nat.beq 1 1 then (bif Nat.beq (kc k) (kc k) then some (eqI p q) else none) else none) = _
    rw [this]; rfl
  simp only [oNe, hx, hy, e, eqI_dec]
  congr 2
  rw [Bool.eq_iff_iff]; simp
theorem i_eqi (hx : x.f (puts L f) = .int k p) (hy : y.f (puts L f) = .int k q) (hq : ItQ (runItems rec l (puts ((dt, (.bool (decide (p = q)))) :: L) f) h) K) : ItQ (runItems rec (iOp (put dt) (.v rd (oEq (.one 1) x y)) :: l) (puts L f) h) K := i_v (eq_int hx hy _) hq
theorem i_nei (hx : x.f (puts L f) = .int k p) (hy : y.f (puts L f) = .int k q) (hq : ItQ (runItems rec l (puts ((dt, (.bool (decide (p ≠ q)))) :: L) f) h) K) : ItQ (runItems rec (iOp (put dt) (.v rd (oNe (.one 1) x y)) :: l) (puts L f) h) K := i_v (ne_int hx hy _) hq
theorem i_cvn {m : Nat} {k' : IntKind} (hx : x.f (puts L f) = .int k (m : Int)) (h1 : m < lim k') (hq : ItQ (runItems rec l (puts ((dt, (.int k' (m : Int))) :: L) f) h) K) : ItQ (runItems rec (iOp (put dt) (.v rd (oConvInt k' x)) :: l) (puts L f) h) K := i_v (by simp only [oConvInt, hx, wrap_nat h1]) hq
theorem i_cv {k' : IntKind} (hx : x.f (puts L f) = .int k p) (hq : ItQ (runItems rec l (puts ((dt, (.int k' (wrap k' p))) :: L) f) h) K) : ItQ (runItems rec (iOp (put dt) (.v rd (oConvInt k' x)) :: l) (puts L f) h) K := i_v (by simp only [oConvInt, hx]) hq
theorem i_lens {o : Option Addr} {m c : Nat} (hx : x.f (puts L f) = .slice o m c) (hq : ItQ (runItems rec l (puts ((dt, (.int .i64 (m : Int))) :: L) f) h) K) : ItQ (runItems rec (iOp (put dt) (.v rd (oLenS x)) :: l) (puts L f) h) K := i_v (by simp only [oLenS, hx]; rfl) hq
theorem i_not {b : Bool} (hx : x.f (puts L f) = .bool b) (hq : ItQ (runItems rec l (puts ((dt, (.bool !b)) :: L) f) h) K) : ItQ (runItems rec (iOp (put dt) (.v rd (oNot x)) :: l) (puts L f) h) K := i_v (by simp only [oNot, hx]) hq
theorem i_pickt (hx : x.f (puts L f) = .bool true) (hq : ItQ (runItems rec l (puts ((dt, (y.f (puts L f))) :: L) f) h) K) : ItQ (runItems rec (iOp (put dt) (.v rd (oPick x y z)) :: l) (puts L f) h) K := i_v (by simp only [oPick, hx]) hq
theorem i_pickf (hx : x.f (puts L f) = .bool false) (hq : ItQ (runItems rec l (puts ((dt, (z.f (puts L f))) :: L) f) h) K) : ItQ (runItems rec (iOp (put dt) (.v rd (oPick x y z)) :: l) (puts L f) h) K := i_v (by simp only [oPick, hx]) hq
theorem i_picktb {b : Bool} (hx : x.f (puts L f) = .bool true) (hy : y.f (puts L f) = .bool b) (hq : ItQ (runItems rec l (puts ((dt, (.bool b)) :: L) f) h) K) : ItQ (runItems rec (iOp (put dt) (.v rd (oPick x y z)) :: l) (puts L f) h) K := i_v (by simp only [oPick, hx, hy]) hq
theorem i_pickfb {b : Bool} (hx : x.f (puts L f) = .bool false) (hy : z.f (puts L f) = .bool b) (hq : ItQ (runItems rec l (puts ((dt, (.bool b)) :: L) f) h) K) : ItQ (runItems rec (iOp (put dt) (.v rd (oPick x y z)) :: l) (puts L f) h) K := i_v (by simp only [oPick, hx, hy]) hq
-- code
theorem out_if {c : Sel} {s t : Sem} {φ : Prop} {inst : Decidable φ} (hc : c.f a = .bool (decide φ)) (ht : φ → OutQ (s.f rec n a h) Q) (hf : ¬φ → OutQ (t.f rec n a h) Q) : OutQ ((sCond c s t).f rec n a h) Q := by
  by_cases hp : φ
  · exact out_cond (b := true) (by rw [hc, decide_eq_true hp]) (ht hp)
  · exact out_cond (b := false) (by rw [hc, decide_eq_false hp]) (hf hp)
theorem out_ifn {c : Sel} {s t : Sem} {φ : Prop} {inst : Decidable φ} (hc : c.f a = .bool (!decide φ)) (ht : ¬φ → OutQ (s.f rec n a h) Q) (hf : φ → OutQ (t.f rec n a h) Q) : OutQ ((sCond c s t).f rec n a h) Q := by
  by_cases hp : φ
  · exact out_cond (b := false) (by rw [hc, decide_eq_true hp]; rfl) (hf hp)
  · exact out_cond (b := true) (by rw [hc, decide_eq_false hp]; rfl) (ht hp)
theorem out_ift {c : Sel} {s t : Sem} (hc : c.f a = .bool true) (ht : OutQ (s.f rec n a h) Q) : OutQ ((sCond c s t).f rec n a h) Q := out_cond (b := true) hc ht
theorem out_iff {c : Sel} {s t : Sem} (hc : c.f a = .bool false) (hf : OutQ (t.f rec n a h) Q) : OutQ ((sCond c s t).f rec n a h) Q := out_cond (b := false) hc hf
theorem OutQ.mono {r : Out} {Q R : Ex → Fr → Heap → Prop} (h : OutQ r Q) (hq : ∀ e a h, Q e a h → R e a h) : OutQ r R := let ⟨e, a, h1, eq, hk⟩ := h; ⟨e, a, h1, eq, hq _ _ _ hk⟩
theorem out_ifT {c : Sel} {s t : Sem} {φ : Prop} {inst : Decidable φ} (hc : c.f a = .bool (decide φ)) (hp : φ) (ht : OutQ (s.f rec n a h) Q) : OutQ ((sCond c s t).f rec n a h) Q := out_if hc (fun _ => ht) (fun hn => absurd hp hn)
theorem out_ifF {c : Sel} {s t : Sem} {φ : Prop} {inst : Decidable φ} (hc : c.f a = .bool (decide φ)) (hp : ¬φ) (hf : OutQ (t.f rec n a h) Q) : OutQ ((sCond c s t).f rec n a h) Q := out_if hc (fun hn => absurd hn hp) (fun _ => hf)
theorem out_ifnT {c : Sel} {s t : Sem} {φ : Prop} {inst : Decidable φ} (hc : c.f a = .bool (!decide φ)) (hp : ¬φ) (ht : OutQ (s.f rec n a h) Q) : OutQ ((sCond c s t).f rec n a h) Q := out_ifn hc (fun _ => ht) (fun hn => absurd hn hp)
theorem out_ifnF {c : Sel} {s t : Sem} {φ : Prop} {inst : Decidable φ} (hc : c.f a = .bool (!decide φ)) (hp : φ) (hf : OutQ (t.f rec n a h) Q) : OutQ ((sCond c s t).f rec n a h) Q := out_ifn hc (fun hn => absurd hp hn) (fun _ => hf)
/-- what is asked behind the first of two -/
def Then (y : Sem) (rec : Rec) (n : Nat) (Q : Ex → Fr → Heap → Prop) (e : Ex) (a : Fr) (h : Heap) : Prop := match e with | .normal => OutQ (y.f rec n a h) Q | e => Q e a h
def Nrm (Q : Ex → Fr → Heap → Prop) (a : Fr) (h : Heap) : Prop := Q .normal a h
def Blo (id : Nat) (Q : Ex → Fr → Heap → Prop) (e : Ex) (a : Fr) (h : Heap) : Prop := match e with | .exit i => bif Nat.beq i id then Q .normal a h else Q (.exit i) a h | e => Q e a h
/-- behind a round: J again, by less -/
def Rnd (J : Nat → Fr → Heap → Prop) (m id : Nat) (Q : Ex → Fr → Heap → Prop) (e : Ex) (a : Fr) (h : Heap) : Prop := match e with | .normal => ∃ m', m' < m ∧ J m' a h | .exit i => bif Nat.beq i id then Q .normal a h else Q (.exit i) a h | e => Q e a h
def Fin (rs : List RV) (R : Value → Heap → Prop) (e : Ex) (a : Fr) (h : Heap) : Prop := (e = .normal ∨ e = .ret) ∧ ∃ l v, rvs h a rs = some l ∧ ((l = [v]) ∨ (l.length ≠ 1 ∧ v = .tuple l.toArray)) ∧ R v h
theorem o_seq {x y : Sem} (hq : OutQ (x.f rec n a h) (Then y rec n Q)) : OutQ ((sSeq x y).f rec n a h) Q := out_seq hq
theorem o_reg {l : List ISem} (hq : ItQ (runItems rec l a h) (Nrm Q)) : OutQ ((sRegion l).f rec n a h) Q := out_region hq
theorem i_nil (hq : Q .normal a h) : ItQ (runItems rec [] a h) (Nrm Q) := items_nil hq
theorem o_ex {e : Ex} (hq : Q e a h) : OutQ ((sEx e).f rec n a h) Q := out_ex hq
theorem then_n {y : Sem} (hq : OutQ (y.f rec n a h) Q) : Then y rec n Q .normal a h := hq
theorem then_r {y : Sem} (hq : Q .ret a h) : Then y rec n Q .ret a h := hq
theorem then_x {y : Sem} {i : Nat} (hq : Q (.exit i) a h) : Then y rec n Q (.exit i) a h := hq
theorem blo_n {id : Nat} (hq : Q .normal a h) : Blo id Q .normal a h := hq
theorem blo_r {id : Nat} (hq : Q .ret a h) : Blo id Q .ret a h := hq
theorem blo_x {id i : Nat} (hb : Nat.beq i id = true) (hq : Q .normal a h) : Blo id Q (.exit i) a h := by show (bif Nat.beq i id then _ else _); rw [hb]; exact hq
theorem blo_y {id i : Nat} (hb : Nat.beq i id = false) (hq : Q (.exit i) a h) : Blo id Q (.exit i) a h := by show (bif Nat.beq i id then _ else _); rw [hb]; exact hq
theorem rnd_n {J : Nat → Fr → Heap → Prop} {m id : Nat} (m' : Nat) (hm : m' < m) (hj : J m' a h) : Rnd J m id Q .normal a h := ⟨m', hm, hj⟩
theorem rnd_r {J : Nat → Fr → Heap → Prop} {m id : Nat} (hq : Q .ret a h) : Rnd J m id Q .ret a h := hq
theorem rnd_x {J : Nat → Fr → Heap → Prop} {m id i : Nat} (hb : Nat.beq i id = true) (hq : Q .normal a h) : Rnd J m id Q (.exit i) a h := by show (bif Nat.beq i id then _ else _); rw [hb]; exact hq
theorem rnd_y {J : Nat → Fr → Heap → Prop} {m id i : Nat} (hb : Nat.beq i id = false) (hq : Q (.exit i) a h) : Rnd J m id Q (.exit i) a h := by show (bif Nat.beq i id then _ else _); rw [hb]; exact hq
theorem o_bregion {id : Nat} {l : List ISem} (hq : OutQ ((sRegion l).f rec n a h) (Blo id Q)) : OutQ ((sBlock id (sRegion l)).f rec n a h) Q := out_block hq
theorem o_bseq {id : Nat} {s t : Sem} (hq : OutQ ((sSeq s t).f rec n a h) (Blo id Q)) : OutQ ((sBlock id (sSeq s t)).f rec n a h) Q := out_block hq
theorem o_bcond {id : Nat} {c : Sel} {s t : Sem} (hq : OutQ ((sCond c s t).f rec n a h) (Blo id Q)) : OutQ ((sBlock id (sCond c s t)).f rec n a h) Q := out_block hq
theorem o_bblock {id id' : Nat} {s : Sem} (hq : OutQ ((sBlock id' s).f rec n a h) (Blo id Q)) : OutQ ((sBlock id (sBlock id' s)).f rec n a h) Q := out_block hq
theorem o_bex {id : Nat} {e : Ex} (hq : OutQ ((sEx e).f rec n a h) (Blo id Q)) : OutQ ((sBlock id (sEx e)).f rec n a h) Q := out_block hq
/-- a loop in its block: J at the head (by what is left) -/
theorem o_while {id : Nat} {s : Sem} (J : Nat → Fr → Heap → Prop) (m : Nat) (hm : m < n) (hi : J m a h) (round : ∀ m a h, J m a h → OutQ (s.f rec n a h) (Rnd J m id Q)) : OutQ ((sBlock id (sLoop s)).f rec n a h) Q := by
  refine out_block (out_loop J m hm hi fun m a h hj => (round m a h hj).mono ?_)
  intro e a h hq
  cases e <;> exact hq
theorem bool_true {φ : Prop} {inst : Decidable φ} (h : φ) : Value.bool (@decide φ inst) = .bool true := by rw [decide_eq_true h]
theorem bool_false {φ : Prop} {inst : Decidable φ} (h : ¬φ) : Value.bool (@decide φ inst) = .bool false := by rw [decide_eq_false h]
/-- a loop that counts up to N -/
def Up (N : Nat) (J : Nat → Fr → Heap → Prop) (m : Nat) (a : Fr) (h : Heap) : Prop := m ≤ N ∧ J (N - m) a h
theorem o_up {id : Nat} {s : Sem} (N : Nat) (J : Nat → Fr → Heap → Prop) (hN : N < n) (h0 : J 0 a h) (round : ∀ i a h, i ≤ N → J i a h → OutQ (s.f rec n a h) (Rnd (Up N J) (N - i) id Q)) : OutQ ((sBlock id (sLoop s)).f rec n a h) Q := by
  refine o_while (Up N J) N hN ⟨Nat.le_refl _, by rw [Nat.sub_self]; exact h0⟩ fun m a h hj => ?_
  have := round (N - m) a h (Nat.sub_le _ _) hj.2
  rw [Nat.sub_sub_self hj.1] at this
  exact this
theorem rnd_up {J : Nat → Fr → Heap → Prop} {N i id : Nat} (hi : i < N) (hj : J (i + 1) a h) : Rnd (Up N J) (N - i) id Q .normal a h :=
  ⟨N - (i + 1), by omega, by omega, by rw [Nat.sub_sub_self (by omega)]; exact hj⟩
/-- a function: its arguments in their slots -/
theorem res_enter {g : FuncId} {args : List Value} {c : CF} {R : Value → Heap → Prop} (hΓ : Γ g = none) (hc : denF P g = some c) (hn : Nat.ble args.length c.nt = true)
    (hq : OutQ (c.body.f (callN P Γ n) n (puts (argL 0 [] args) fr0) h) (Fin c.rs R)) : ResQ (callN P Γ (n + 1) (.call g args) h) R := res_call hΓ hc hn (by rw [frameOf_eq]; exact hq)
theorem fin0 {R : Value → Heap → Prop} (hr : R (.tuple #[]) h) : Fin [] R .ret a h := ⟨.inr rfl, [], _, rfl, .inr ⟨by simp, rfl⟩, hr⟩
theorem fin0n {R : Value → Heap → Prop} (hr : R (.tuple #[]) h) : Fin [] R .normal a h := ⟨.inl rfl, [], _, rfl, .inr ⟨by simp, rfl⟩, hr⟩
theorem fin1 {x1 : Sel} {v1 : Value} {R : Value → Heap → Prop} (h1 : x1.f a = v1) (hr : R v1 h) : Fin [.tmp x1] R .ret a h := by subst h1; exact ⟨.inr rfl, _, _, rfl, .inl rfl, hr⟩
theorem fin2 {x1 x2 : Sel} {v1 v2 : Value} {R : Value → Heap → Prop} (h1 : x1.f a = v1) (h2 : x2.f a = v2) (hr : R (.tuple #[v1, v2]) h) : Fin [.tmp x1, .tmp x2] R .ret a h := by
  subst h1 h2; exact ⟨.inr rfl, _, _, rfl, .inr ⟨by simp, rfl⟩, hr⟩
theorem fin3 {x1 x2 x3 : Sel} {v1 v2 v3 : Value} {R : Value → Heap → Prop} (h1 : x1.f a = v1) (h2 : x2.f a = v2) (h3 : x3.f a = v3) (hr : R (.tuple #[v1, v2, v3]) h) : Fin [.tmp x1, .tmp x2, .tmp x3] R .ret a h := by
  subst h1 h2 h3; exact ⟨.inr rfl, _, _, rfl, .inr ⟨by simp, rfl⟩, hr⟩
end
end Vm

/-! Rows of elements of so many cells. -/
set_option linter.unusedVariables false
namespace Vm
open Go
def Row (h : Heap) (sz : Nat) (o : Option Addr) (n : Nat) (cs : List Value) : Prop :=
  cs.length = n * sz ∧ match o with
    | none => n = 0
    | some q => q.block < h.next ∧ (q.spot = none ∨ q.spot = some sz) ∧ loadN h.get q (n * sz) = some cs
theorem Row.keeps {h h' : Heap} {sz n : Nat} {o : Option Addr} {cs : List Value} (r : Row h sz o n cs) (k : Keeps h h') : Row h' sz o n cs := by
  obtain ⟨h1, h2⟩ := r
  refine ⟨h1, ?_⟩
  cases o with
  | none => exact h2
  | some q => exact ⟨Nat.lt_of_lt_of_le h2.1 k.next, h2.2.1, loadN_keeps k h2.1 h2.2.2⟩
theorem Row.nil (h : Heap) (sz : Nat) : Row h sz none 0 [] := ⟨by simp, rfl⟩
theorem Row.src {h : Heap} {sz n c : Nat} {o : Option Addr} {cs : List Value} (r : Row h sz o n cs) : srcCells h.get sz (.slice o n c) = some (n, cs) := by
  obtain ⟨h1, h2⟩ := r
  cases o with
  | none =>
    have h2 : n = 0 := h2
    subst h2
    have : cs = [] := List.length_eq_zero_iff.1 (by simpa using h1)
    subst this
    rfl
  | some q => simp only [srcCells, h2.2.2]
theorem loadN_dead {g : G} {q : Addr} {n : Nat} {cs : List Value} (h : loadN g q n = some cs) : ∃ e l st, g q.block = some (.cells e l st) ∧ st ≠ .dead ∧ q.off + n ≤ l.length ∧ cs = (l.drop q.off).take n := by
  unfold loadN at h
  split at h
  · rename_i e l st hg
    split at h
    · cases h
    · rename_i hst
      cases hb : Nat.ble (q.off + n) l.length with
      | true => rw [hb] at h; cases h; exact ⟨e, l, st, hg, hst, Nat.le_of_ble_eq_true hb, rfl⟩
      | false => rw [hb] at h; cases h
  · cases h
theorem loadN_of {g : G} {q : Addr} {n e : Nat} {l : List Value} {st : St} (hg : g q.block = some (.cells e l st)) (hst : st ≠ .dead) (hl : q.off + n ≤ l.length) : loadN g q n = some ((l.drop q.off).take n) := by
  unfold loadN
  rw [hg]
  cases st with
  | dead => exact absurd rfl hst
  | _ => simp only [Nat.ble_eq_true_of_le hl, cond_true]
theorem load1_of {g : G} {q : Addr} {e : Nat} {l : List Value} {st : St} (hg : g q.block = some (.cells e l st)) (hst : st ≠ .dead) : load1 g q = l[q.off]? := by
  unfold load1
  rw [hg]
  cases st with
  | dead => exact absurd rfl hst
  | _ => exact nth_eq _ _
/-- a cell of a row -/
theorem Row.cell {h : Heap} {sz n : Nat} {q : Addr} {cs : List Value} (r : Row h sz (some q) n cs) {i : Nat} (hi : i < n * sz) (s : Option Nat) : load1 h.get ⟨q.block, q.off + i, s⟩ = cs[i]? := by
  obtain ⟨h1, h2, h3, h4⟩ := r
  obtain ⟨e, l, st, hg, hst, hl, rfl⟩ := loadN_dead h4
  rw [load1_of (q := ⟨q.block, q.off + i, s⟩) hg hst, List.getElem?_take_of_lt hi, List.getElem?_drop]
/-- some cells of a row -/
theorem Row.cells {h : Heap} {sz n : Nat} {q : Addr} {cs : List Value} (r : Row h sz (some q) n cs) {i m : Nat} (hi : i + m ≤ n * sz) (s : Option Nat) : loadN h.get ⟨q.block, q.off + i, s⟩ m = some ((cs.drop i).take m) := by
  obtain ⟨h1, h2, h3, h4⟩ := r
  obtain ⟨e, l, st, hg, hst, hl, rfl⟩ := loadN_dead h4
  rw [loadN_of (q := ⟨q.block, q.off + i, s⟩) hg hst (by show q.off + i + m ≤ _; omega)]
  rw [List.drop_take, List.take_take, List.drop_drop, Nat.min_eq_left (by omega)]
/-- a part of a row -/
theorem Row.part {h : Heap} {sz n : Nat} {q : Addr} {cs : List Value} (r : Row h sz (some q) n cs) {b m : Nat} (hb : b + m ≤ n) {s : Option Nat} (hs : s = none ∨ s = some sz) : Row h sz (some ⟨q.block, q.off + b * sz, s⟩) m ((cs.drop (b * sz)).take (m * sz)) := by
  have hle : b * sz + m * sz ≤ n * sz := by rw [← Nat.add_mul]; exact Nat.mul_le_mul_right _ hb
  have := r.cells hle s
  obtain ⟨h1, h2, h3, h4⟩ := r
  refine ⟨?_, h2, hs, this⟩
  rw [List.length_take, List.length_drop, h1]
  omega
theorem Row.zero {h : Heap} {sz n : Nat} {q : Addr} {cs : List Value} (r : Row h sz (some q) n cs) (off : Nat) (hoff : off = q.off) {s : Option Nat} (hs : s = none ∨ s = some sz) : Row h sz (some ⟨q.block, off, s⟩) 0 [] := by
  subst hoff
  have := r.part (b := 0) (m := 0) (by omega) hs
  simpa using this
section
variable {P : Program} {Γ : Sums} {rec : Rec} {n : Nat} {a : Fr} {h : Heap} {Q : Ex → Fr → Heap → Prop} {K : Fr → Heap → Prop} {L : List (Nat × Value)} {f : Fr} {dt : Nat} {rd : Bool} {x y z lo hi : Sel} {l : List ISem} {k j : IntKind} {p q r : Int} {sz m c : Nat} {o : Option Addr} {cs : List Value}
theorem i_ext {vs : Array Value} {i : Nat} {v : Value} (hx : x.f (puts L f) = .tuple vs) (hv : nth vs.toList i = some v) (hq : ItQ (runItems rec l (puts ((dt, v) :: L) f) h) K) : ItQ (runItems rec (iOp (put dt) (.v rd (oExtract x i)) :: l) (puts L f) h) K := i_v (by simp only [oExtract, hx, hv]) hq
theorem i_skipU {s : Sel} {want : Bool} {i : ISem} (hs : s.f (puts L f) = Vm.undef) (hq : ItQ (runItems rec l (puts ((dt, Vm.undef) :: L) f) h) K) : ItQ (runItems rec (iGuard s want (put dt) i :: l) (puts L f) h) K := items_cons ⟨_, _, (by simp only [iGuard, hs]; rfl), hq⟩
theorem i_field1 {vs : Array Value} {i : Nat} {v : Value} (hx : x.f (puts L f) = .agg vs) (hv : nth vs.toList i = some v) (hq : ItQ (runItems rec l (puts ((dt, v) :: L) f) h) K) : ItQ (runItems rec (iOp (put dt) (.v rd (oField1 i x)) :: l) (puts L f) h) K := i_v (by simp only [oField1, hx, hv]) hq
theorem i_eqp {b : Bool} {o o' : Option Addr} (hx : x.f (puts L f) = .pointer o) (hy : y.f (puts L f) = .pointer o') (hv : eqP 3 (.pointer o) (.pointer o') = some b) (hq : ItQ (runItems rec l (puts ((dt, (.bool b)) :: L) f) h) K) : ItQ (runItems rec (iOp (put dt) (.v rd (oEq (.one 3) x y)) :: l) (puts L f) h) K := i_v (by simp only [oEq, hx, hy]; show (match eqP 3 (.pointer o) (.pointer o') with | some b => some (Value.bool b) | none => none) = _; rw [hv]) hq
theorem i_nep {b : Bool} {o o' : Option Addr} (hx : x.f (puts L f) = .pointer o) (hy : y.f (puts L f) = .pointer o') (hv : eqP 3 (.pointer o) (.pointer o') = some b) (hq : ItQ (runItems rec l (puts ((dt, (.bool !b)) :: L) f) h) K) : ItQ (runItems rec (iOp (put dt) (.v rd (oNe (.one 3) x y)) :: l) (puts L f) h) K := i_v (by simp only [oNe, hx, hy]; show (match eqP 3 (.pointer o) (.pointer o') with | some b => some (Value.bool !b) | none => none) = _; rw [hv]) hq
theorem i_eqs {b : Bool} {o o' : Option Addr} {m c m' c' : Nat} (hx : x.f (puts L f) = .slice o m c) (hy : y.f (puts L f) = .slice o' m' c') (hv : eqP 4 (.slice o m c) (.slice o' m' c') = some b) (hq : ItQ (runItems rec l (puts ((dt, (.bool b)) :: L) f) h) K) : ItQ (runItems rec (iOp (put dt) (.v rd (oEq (.one 4) x y)) :: l) (puts L f) h) K := i_v (by simp only [oEq, hx, hy]; show (match eqP 4 (.slice o m c) (.slice o' m' c') with | some b => some (Value.bool b) | none => none) = _; rw [hv]) hq
theorem i_build {z : List Value} {ps : List (Nat × Nat × Sel)} {cs : List Value} (hv : fillL (puts L f) ps z = some cs) (hq : ItQ (runItems rec l (puts ((dt, (.agg cs.toArray)) :: L) f) h) K) : ItQ (runItems rec (iOp (put dt) (.v rd (oBuild z ps)) :: l) (puts L f) h) K := i_v (by simp only [oBuild, hv]) hq
theorem i_func {fn : Fn} {fs ps : List Sel} (hq : ItQ (runItems rec l (puts ((dt, (.func fn (evs (puts L f) fs).toArray (evs (puts L f) ps).toArray)) :: L) f) h) K) : ItQ (runItems rec (iOp (put dt) (.v rd (oFunc fn fs ps)) :: l) (puts L f) h) K := i_v rfl hq
theorem i_func0 {fn : Fn} (hq : ItQ (runItems rec l (puts ((dt, .func fn #[] #[]) :: L) f) h) K) : ItQ (runItems rec (iOp (put dt) (.v rd (oFunc fn [] [])) :: l) (puts L f) h) K := i_v rfl hq
theorem i_func1 {fn : Fn} {x1 : Sel} {v1 : Value} (h1 : x1.f (puts L f) = v1) (hq : ItQ (runItems rec l (puts ((dt, .func fn #[] #[v1]) :: L) f) h) K) : ItQ (runItems rec (iOp (put dt) (.v rd (oFunc fn [] [x1])) :: l) (puts L f) h) K := by subst h1; exact i_v rfl hq
theorem i_func2 {fn : Fn} {x1 x2 : Sel} {v1 v2 : Value} (h1 : x1.f (puts L f) = v1) (h2 : x2.f (puts L f) = v2) (hq : ItQ (runItems rec l (puts ((dt, .func fn #[] #[v1, v2]) :: L) f) h) K) : ItQ (runItems rec (iOp (put dt) (.v rd (oFunc fn [] [x1, x2])) :: l) (puts L f) h) K := by subst h1 h2; exact i_v rfl hq
/-- a call of a closure -/
theorem i_callc1 {g : FuncId} {cp : Array Value} {c x1 : Sel} {v1 : Value} {R : Value → Heap → Prop} (hc : c.f (puts L f) = .func (.func g) #[] cp) (h1 : x1.f (puts L f) = v1) (hv : ResQ (rec (.call g (v1 :: cp.toList)) h) R) (hq : ∀ v h', R v h' → ItQ (runItems rec l (puts ((dt, v) :: L) f) h') K) : ItQ (runItems rec (iOp (put dt) (.e (eCall c [x1])) :: l) (puts L f) h) K := by
  subst h1
  refine items_cons (it_e (ResQ.mono ?_ hq))
  simp only [eCall, hc]
  exact hv
theorem i_bslice {opn : Bool} {e len : Nat} {z : List Value} {ps : List (Nat × Nat × Sel)} {cs : List Value} (hv : fillL (puts L f) ps z = some cs) (hq : ItQ (runItems rec l (puts ((dt, (.slice (some ⟨h.next, 0, none⟩) len len)) :: L) f) (h.new (.cells e cs (.own opn)))) K) : ItQ (runItems rec (iOp (put dt) (.a (aBuildSlice opn e len z ps)) :: l) (puts L f) h) K := i_a (blk := .cells e cs (.own opn)) (val := sliceTo len len none) (by simp only [aBuildSlice, hv]) hq
theorem i_box {e : Nat} {v : Value} {cs : List Value} (hx : x.f (puts L f) = v) (hv : cellsL v = some cs) (hq : ItQ (runItems rec l (puts ((dt, (.pointer (some ⟨h.next, 0, none⟩))) :: L) f) (h.new (.cells e cs (.own false)))) K) : ItQ (runItems rec (iOp (put dt) (.a (aBox e x)) :: l) (puts L f) h) K := i_a (blk := .cells e cs (.own false)) (val := ptrTo) (by simp only [aBox, hx, hv]) hq
theorem i_alloc {e : Nat} {cs : List Value} (hq : ItQ (runItems rec l (puts ((dt, (.pointer (some ⟨h.next, 0, none⟩))) :: L) f) (h.new (.cells e cs (.own false)))) K) : ItQ (runItems rec (iOp (put dt) (.a (aAlloc e cs)) :: l) (puts L f) h) K := i_a (blk := .cells e cs (.own false)) (val := ptrTo) rfl hq
theorem i_neg (hx : x.f (puts L f) = .int k p) (hq : ItQ (runItems rec l (puts ((dt, (.int k (wrap k (0 - p)))) :: L) f) h) K) : ItQ (runItems rec (iOp (put dt) (.v rd (oNeg x)) :: l) (puts L f) h) K := i_v (by simp only [oNeg, hx]) hq
theorem i_and (hx : x.f (puts L f) = .int k p) (hy : y.f (puts L f) = .int k q) (hq : ItQ (runItems rec l (puts ((dt, (.int k (wrap k (.ofNat (Nat.land (bitsOf k p) (bitsOf k q)))))) :: L) f) h) K) : ItQ (runItems rec (iOp (put dt) (.v rd (oInt2 fAnd x y)) :: l) (puts L f) h) K := i_v (int2w _ hx hy rfl) hq
theorem i_or (hx : x.f (puts L f) = .int k p) (hy : y.f (puts L f) = .int k q) (hq : ItQ (runItems rec l (puts ((dt, (.int k (wrap k (.ofNat (Nat.lor (bitsOf k p) (bitsOf k q)))))) :: L) f) h) K) : ItQ (runItems rec (iOp (put dt) (.v rd (oInt2 fOr x y)) :: l) (puts L f) h) K := i_v (int2w _ hx hy rfl) hq
theorem i_xor (hx : x.f (puts L f) = .int k p) (hy : y.f (puts L f) = .int k q) (hq : ItQ (runItems rec l (puts ((dt, (.int k (wrap k (.ofNat (Nat.xor (bitsOf k p) (bitsOf k q)))))) :: L) f) h) K) : ItQ (runItems rec (iOp (put dt) (.v rd (oInt2 fXor x y)) :: l) (puts L f) h) K := i_v (int2w _ hx hy rfl) hq
theorem i_eqt {s t : List UInt8} (hx : x.f (puts L f) = .string ⟨s.toArray⟩) (hy : y.f (puts L f) = .string ⟨t.toArray⟩) (hq : ItQ (runItems rec l (puts ((dt, (.bool (decide (s = t)))) :: L) f) h) K) : ItQ (runItems rec (iOp (put dt) (.v rd (oEq (.one 2) x y)) :: l) (puts L f) h) K := i_v (by
  simp only [oEq, hx, hy]
  show some (Value.bool (eqB s t)) = _
  rw [eqB_eq]
  congr 2
  rw [Bool.eq_iff_iff]; simp) hq
theorem putAt_one : ∀ (l : List Value) (n : Nat) (v : Value), n < l.length → putAt l n [v] = l.set n v
  | [], _, _, h => by simp at h
  | x :: l, 0, v, _ => by rw [putAt_zero]; rfl
  | x :: l, n + 1, v, h => by
    show x :: putAt l n [v] = _
    rw [putAt_one l n v (by simpa using h)]; rfl
/-- a cell of the run's own is written -/
theorem i_store1 {u : Addr} {e : Nat} {cs : List Value} {op : Bool} {v : Value} (hx : x.f (puts L f) = .pointer (some u)) (hy : cellsL (y.f (puts L f)) = some [v]) (hg : h.get u.block = some (.cells e cs (.own op))) (hl : u.off < cs.length)
    (hq : ItQ (runItems rec l (puts L f) (h.put u.block (.cells e (cs.set u.off v) (.own op)))) K) : ItQ (runItems rec (iOp ⟨fun _ a => a⟩ (.e (eStore 1 x y)) :: l) (puts L f) h) K := by
  refine items_cons (it_e ⟨Vm.undef, h.put u.block (.cells e (cs.set u.off v) (.own op)), ?_, hq⟩)
  have h1 := storeN_own (s := u.spot) (off := u.off) (vs := [v]) hg (by show u.off + 1 ≤ _; omega)
  rw [putAt_one _ _ _ hl] at h1
  simp only [eStore, hx, hy]
  show (bif Nat.beq [v].length 1 then (match storeN h u [v] with | some h => Res.ok Vm.undef h | none => .no) else .no) = _
  rw [h1]; rfl
theorem fill_nil {a : Fr} {z : List Value} : fillL a [] z = some z := rfl
theorem fill_one {a : Fr} {off : Nat} {x : Sel} {ps : List (Nat × Nat × Sel)} {v : Value} {z z' : List Value} (hx : x.f a = v) (hc : cellsL v = some [v]) (hb : Nat.blt off z.length = true) (hq : fillL a ps (z.set off v) = some z') : fillL a ((off, 1, x) :: ps) z = some z' := by
  have hb' : off < z.length := by simpa using hb
  show (match cellsL (x.f a) with
      | some c => bif Nat.beq c.length 1 then (bif Nat.ble (off + 1) z.length then fillL a ps (putAt z off c) else none) else none
      | none => none) = some z'
  rw [hx, hc]
  show (bif Nat.ble (off + 1) z.length then fillL a ps (putAt z off [v]) else none) = some z'
  rw [Nat.ble_eq_true_of_le hb', putAt_one z off v hb']
  exact hq
/-- a mask -/
theorem i_mask {q : Nat} (hx : x.f (puts L f) = .int .i64 p) (hy : y.f (puts L f) = .int .i64 (q : Int)) (hb : q < 9223372036854775808) (hq : ∀ r : Nat, r ≤ q → ItQ (runItems rec l (puts ((dt, .int .i64 (r : Int)) :: L) f) h) K) : ItQ (runItems rec (iOp (put dt) (.v rd (oInt2 fAnd x y)) :: l) (puts L f) h) K := by
  have hle : Nat.land (bitsOf .i64 p) (bitsOf .i64 (q : Int)) ≤ q := Nat.and_le_right
  refine i_v (int2w _ hx hy ?_) (hq (Nat.land (bitsOf .i64 p) (bitsOf .i64 (q : Int))) hle)
  show some (Value.int .i64 (wrap .i64 ((Nat.land (bitsOf .i64 p) (bitsOf .i64 (q : Int)) : Nat) : Int))) = _
  rw [wrap_nat (by show _ < 9223372036854775808; omega)]
theorem i_eqbs {b : Bool} (hx : x.f (puts L f) = .bool b) (hy : y.f (puts L f) = .bool b) (hq : ItQ (runItems rec l (puts ((dt, .bool true) :: L) f) h) K) : ItQ (runItems rec (iOp (put dt) (.v rd (oEq (.one 0) x y)) :: l) (puts L f) h) K := i_v (by
  simp only [oEq, hx, hy]
  cases b <;> rfl) hq
/-- one bit -/
theorem i_bit {m q : Nat} (s : Nat) (hx : x.f (puts L f) = .int k (m : Int)) (hy : y.f (puts L f) = .int k (q : Int)) (e : q = 2 ^ s) (hb : q < lim k) (hq : ItQ (runItems rec l (puts ((dt, .int k ((m / 2 ^ s % 2 * 2 ^ s : Nat) : Int)) :: L) f) h) K) : ItQ (runItems rec (iOp (put dt) (.v rd (oInt2 fAnd x y)) :: l) (puts L f) h) K := by
  refine i_v (int2w _ hx hy ?_) hq
  show some (Value.int k (wrap k (.ofNat (Nat.land m q)))) = _
  have h1 : Nat.land m q = m / 2 ^ s % 2 * 2 ^ s := by
    subst e
    show m &&& 2 ^ s = _
    apply Nat.eq_of_testBit_eq
    intro i
    rw [Nat.testBit_and, Nat.testBit_two_pow]
    rcases Nat.mod_two_eq_zero_or_one (m / 2 ^ s) with h | h
    · rw [h, Nat.zero_mul, Nat.zero_testBit]
      by_cases hi : s = i
      · subst hi
        rw [Nat.testBit_eq_decide_div_mod_eq, h]
        simp
      · simp [hi]
    · rw [h, Nat.one_mul, Nat.testBit_two_pow]
      by_cases hi : s = i
      · subst hi
        rw [Nat.testBit_eq_decide_div_mod_eq, h]
        simp
      · simp [hi]
  rw [h1]
  show some (Value.int k (wrap k ((m / 2 ^ s % 2 * 2 ^ s : Nat) : Int))) = _
  rw [wrap_nat]
  subst e
  rcases Nat.mod_two_eq_zero_or_one (m / 2 ^ s) with h | h
  · rw [h, Nat.zero_mul]; exact Nat.lt_of_le_of_lt (Nat.zero_le _) hb
  · rw [h, Nat.one_mul]; exact hb
/-- a number is turned into another kind, told otherwise -/
theorem i_cvm (m : Nat) {k' : IntKind} (hx : x.f (puts L f) = .int k p) (e : p = (m : Int)) (h1 : m < lim k') (hq : ItQ (runItems rec l (puts ((dt, .int k' (m : Int)) :: L) f) h) K) : ItQ (runItems rec (iOp (put dt) (.v rd (oConvInt k' x)) :: l) (puts L f) h) K := by
  subst e; exact i_cvn hx h1 hq
theorem idx_nat {m n : Nat} (h : m < n) : idx n (m : Int) = some m := by
  show (bif Nat.blt m n then some m else none) = _
  rw [show Nat.blt m n = true by simpa using h]; rfl
/-- an element's place -/
theorem i_idx {i : Nat} (hx : x.f (puts L f) = .slice o m c) (hr : Row h sz o m cs) (hy : y.f (puts L f) = .int k (i : Int)) (hi : i < m)
    (hq : ∀ u, o = some u → ItQ (runItems rec l (puts ((dt, (.pointer (some ⟨u.block, u.off + i * sz, some 0⟩))) :: L) f) h) K) : ItQ (runItems rec (iOp (put dt) (.v rd (oIndexAddrS sz x y)) :: l) (puts L f) h) K := by
  cases o with
  | none => have : m = 0 := hr.2; omega
  | some u => exact i_v (by simp only [oIndexAddrS, hx, hy, idx_nat hi]) (hq u rfl)
theorem i_load1 {u : Addr} {v : Value} (hx : x.f (puts L f) = .pointer (some u)) (hv : load1 h.get u = some v) (hq : ItQ (runItems rec l (puts ((dt, v) :: L) f) h) K) : ItQ (runItems rec (iOp (put dt) (.v rd (oLoad1 x)) :: l) (puts L f) h) K := i_v (by simp only [oLoad1, hx, hv]) hq
theorem i_loadN {u : Addr} {v : List Value} (hx : x.f (puts L f) = .pointer (some u)) (hv : loadN h.get u m = some v) (hq : ItQ (runItems rec l (puts ((dt, (.agg v.toArray)) :: L) f) h) K) : ItQ (runItems rec (iOp (put dt) (.v rd (oLoadN m x)) :: l) (puts L f) h) K := i_v (by simp only [oLoadN, hx, hv]) hq
theorem i_fieldAddr {u : Addr} {off : Nat} (hx : x.f (puts L f) = .pointer (some u)) (hq : ItQ (runItems rec l (puts ((dt, (.pointer (some ⟨u.block, u.off + off, u.spot⟩))) :: L) f) h) K) : ItQ (runItems rec (iOp (put dt) (.v rd (oFieldAddr off x)) :: l) (puts L f) h) K := i_v (by simp only [oFieldAddr, hx]) hq
theorem i_nilCheck {u : Addr} (hx : x.f (puts L f) = .pointer (some u)) (hq : ItQ (runItems rec l (puts ((dt, (.pointer (some u))) :: L) f) h) K) : ItQ (runItems rec (iOp (put dt) (.v rd (oNilCheck x)) :: l) (puts L f) h) K := i_v (by simp only [oNilCheck, hx]) hq
theorem bnd_nat {i t : Nat} {s : Sel} (hs : s.f a = .int k (i : Int)) (hi : i ≤ t) (d : Nat) : bnd a (some s) d t = some i := by
  show (match s.f a with | .int _ (.ofNat k) => bif Nat.ble k t then some k else none | _ => none) = _
  rw [hs]
  show (bif Nat.ble i t then some i else none) = _
  rw [Nat.ble_eq_true_of_le hi]; rfl
theorem bnd_none (d t : Nat) : bnd a none d t = some d := rfl
/-- x[:i] -/
theorem i_sl_hi {i : Nat} (hx : x.f (puts L f) = .slice o m c) (hr : Row h sz o m cs) (hc : m ≤ c) (hy : hi.f (puts L f) = .int k (i : Int)) (hi' : i ≤ m) (hq : Row h sz o i (cs.take (i * sz)) → ItQ (runItems rec l (puts ((dt, (.slice o i c)) :: L) f) h) K) :
    ItQ (runItems rec (iOp (put dt) (.v rd (oSlice sz x none (some hi) none)) :: l) (puts L f) h) K := by
  refine i_v (v := .slice o i c) ?_ (hq ?_)
  · simp only [oSlice, hx, bnd_none, bnd_nat hy (show i ≤ c by omega)]
    cases o with
    | none => rfl
    | some q =>
      obtain ⟨qb, qo, qs⟩ := q
      have : (bif Nat.beq c 0 then qo else qo + 0 * sz) = qo := by cases Nat.beq c 0 <;> simp
      cases qs with
      | none => simp only [cutSpot, this]; rfl
      | some z => simp only [cutSpot, this]; rfl
  · cases o with
    | none =>
      have h0 : m = 0 := hr.2
      have hi0 : i = 0 := by omega
      subst hi0
      exact ⟨by simp, rfl⟩
    | some q =>
      have := hr.part (b := 0) (m := i) (by omega) hr.2.2.1
      simpa using this
theorem cutSpot_lo {z : Option Nat} {i t c : Nat} (hz : z = none ∨ z = some sz) (ht : t ≤ c) : cutSpot sz i t c none z = some z := by
  rcases hz with rfl | rfl
  · rfl
  · show (bif Nat.beq i 0 then some (some sz) else bif Nat.beq sz sz then (bif Nat.ble t c then some (some sz) else none) else none) = _
    rw [show Nat.beq sz sz = true by simp, Nat.ble_eq_true_of_le ht]
    cases Nat.beq i 0 <;> rfl
/-- x[i:] -/
theorem i_sl_lo {i : Nat} (hx : x.f (puts L f) = .slice o m c) (hr : Row h sz o m cs) (hc : m ≤ c) (hy : lo.f (puts L f) = .int k (i : Int)) (hi' : i ≤ m) (hq : ∀ o', (∀ q', o' = some q' → ∃ q, o = some q ∧ q'.block = q.block) → Row h sz o' (m - i) (cs.drop (i * sz)) → ItQ (runItems rec l (puts ((dt, (.slice o' (m - i) (c - i))) :: L) f) h) K) :
    ItQ (runItems rec (iOp (put dt) (.v rd (oSlice sz x (some lo) none none)) :: l) (puts L f) h) K := by
  have hm : bnd (puts L f) none m c = some m := rfl
  cases o with
  | none =>
    have h0 : m = 0 := hr.2
    refine i_v (v := .slice none (m - i) (c - i)) ?_ (hq none (fun q e => by cases e) ⟨?_, by show m - i = 0; omega⟩)
    · simp only [oSlice, hx, bnd_none, bnd_nat hy hi']
    · rw [List.length_drop, hr.1, Nat.sub_mul]
  | some q =>
    refine i_v (v := .slice (some ⟨q.block, bif Nat.beq c i then q.off else q.off + i * sz, q.spot⟩) (m - i) (c - i)) ?_ (hq _ (fun q' e => ⟨q, rfl, by cases e; rfl⟩) ?_)
    · simp only [oSlice, hx, bnd_none, bnd_nat hy hi', cutSpot_lo hr.2.2.1 hc]
    · cases hb : Nat.beq c i with
      | true =>
        have hci : c = i := Nat.eq_of_beq_eq_true hb
        have e0 : m - i = 0 := by omega
        have : cs.drop (i * sz) = [] := by rw [List.drop_eq_nil_iff, hr.1]; exact Nat.mul_le_mul_right _ (by omega)
        rw [e0, this]
        exact hr.zero _ rfl hr.2.2.1
      | false =>
        have := hr.part (b := i) (m := m - i) (by omega) hr.2.2.1
        rw [List.take_of_length_le (by rw [List.length_drop, hr.1, Nat.sub_mul]; exact Nat.le_refl _)] at this
        exact this
/-- x[:i:i] -/
theorem i_sl_cap {i : Nat} {mx : Sel} {k' : IntKind} (hx : x.f (puts L f) = .slice o m c) (hr : Row h sz o m cs) (hc : m ≤ c) (hy : hi.f (puts L f) = .int k (i : Int)) (hz : mx.f (puts L f) = .int k' (i : Int)) (hi' : i ≤ m) (hq : ∀ o', (∀ q', o' = some q' → ∃ q, o = some q ∧ q'.block = q.block) → (∀ u, o' = some u → u.spot = none) → Row h sz o' i (cs.take (i * sz)) → ItQ (runItems rec l (puts ((dt, (.slice o' i i)) :: L) f) h) K) :
    ItQ (runItems rec (iOp (put dt) (.v rd (oSlice sz x none (some hi) (some mx))) :: l) (puts L f) h) K := by
  cases o with
  | none =>
    have h0 : m = 0 := hr.2
    have hi0 : i = 0 := by omega
    subst hi0
    refine i_v (v := .slice none 0 0) ?_ (hq none (fun q e => by cases e) (fun u e => by cases e) ⟨by simp, rfl⟩)
    simp only [oSlice, hx, bnd_none, bnd_nat hz (show 0 ≤ c by omega), bnd_nat hy (Nat.le_refl 0)]
  | some q =>
    refine i_v (v := .slice (some ⟨q.block, q.off, none⟩) i i) ?_ (hq _ (fun q' e => ⟨q, rfl, by cases e; rfl⟩) (fun u e => by cases e; rfl) ?_)
    · simp only [oSlice, hx, bnd_none, bnd_nat hz (show i ≤ c by omega), bnd_nat hy (Nat.le_refl i)]
      have e1 : (bif Nat.beq i 0 then q.off else q.off + 0 * sz) = q.off := by cases Nat.beq i 0 <;> simp
      have e2 : cutSpot sz 0 i i (some mx) q.spot = some none := by cases q.spot <;> rfl
      simp only [e1, e2, Nat.sub_zero]
    · have := hr.part (b := 0) (m := i) (by omega) (s := none) (.inl rfl)
      simpa using this
/-- x[b:e] -/
theorem i_sl {b t : Nat} {k' : IntKind} (hx : x.f (puts L f) = .slice o m c) (hr : Row h sz o m cs) (hc : m ≤ c) (hz : lo.f (puts L f) = .int k' (b : Int)) (hy : hi.f (puts L f) = .int k (t : Int)) (hb : b ≤ t) (ht : t ≤ m) (hq : ∀ o', (∀ q', o' = some q' → ∃ q, o = some q ∧ q'.block = q.block) → Row h sz o' (t - b) ((cs.drop (b * sz)).take ((t - b) * sz)) → ItQ (runItems rec l (puts ((dt, (.slice o' (t - b) (c - b))) :: L) f) h) K) :
    ItQ (runItems rec (iOp (put dt) (.v rd (oSlice sz x (some lo) (some hi) none)) :: l) (puts L f) h) K := by
  cases o with
  | none =>
    have h0 : m = 0 := hr.2
    have ht0 : t = 0 := by omega
    have hb0 : b = 0 := by omega
    subst ht0 hb0
    refine i_v (v := .slice none 0 (c - 0)) ?_ (hq none (fun q e => by cases e) ⟨by simp, rfl⟩)
    simp only [oSlice, hx, bnd_none, bnd_nat hz (Nat.le_refl 0), bnd_nat hy (Nat.zero_le c)]
  | some q =>
    refine i_v (v := .slice (some ⟨q.block, bif Nat.beq c b then q.off else q.off + b * sz, q.spot⟩) (t - b) (c - b)) ?_ (hq _ (fun q' e => ⟨q, rfl, by cases e; rfl⟩) ?_)
    · simp only [oSlice, hx, bnd_none, bnd_nat hz hb, bnd_nat hy (show t ≤ c by omega), cutSpot_lo hr.2.2.1 (show t ≤ c by omega)]
    · cases hcb : Nat.beq c b with
      | true =>
        have hci : c = b := Nat.eq_of_beq_eq_true hcb
        have e0 : t - b = 0 := by omega
        rw [e0]
        simpa using hr.zero _ rfl hr.2.2.1
      | false => exact hr.part (b := b) (m := t - b) (by omega) hr.2.2.1
end
/-- a row to which may be appended: none, one without room, or one of the run's own, from block B on -/
def Ap (B : Nat) (h : Heap) (e sz : Nat) (o : Option Addr) (n c : Nat) (cs : List Value) : Prop :=
  c = n ∧ Row h sz o n cs ∧ ∀ q, o = some q → q.spot = none ∨ ∃ k, q = ⟨k, 0, some sz⟩ ∧ B ≤ k ∧ h.get k = some (.cells e cs (.own true))
theorem Ap.nil (B : Nat) (h : Heap) (e sz : Nat) : Ap B h e sz none 0 0 [] := ⟨rfl, Row.nil h sz, fun q e => by cases e⟩
theorem Ap.keeps {B : Nat} {h h' : Heap} {e sz : Nat} {o : Option Addr} {n c : Nat} {cs : List Value} (p : Ap B h e sz o n c cs) (k : Keeps h h') : Ap B h' e sz o n c cs := by
  refine ⟨p.1, p.2.1.keeps k, fun q hq => ?_⟩
  rcases p.2.2 q hq with hs | ⟨b, rfl, h1, h2⟩
  · exact .inl hs
  · subst hq
    exact .inr ⟨b, rfl, h1, by rw [k.get b p.2.1.2.1]; exact h2⟩
theorem Ap.row {B : Nat} {h : Heap} {e sz : Nat} {o : Option Addr} {n c : Nat} {cs : List Value} (p : Ap B h e sz o n c cs) : Row h sz o n cs := p.2.1
theorem Ap.mono {B B' : Nat} {h : Heap} {e sz : Nat} {o : Option Addr} {n c : Nat} {cs : List Value} (p : Ap B h e sz o n c cs) (hb : B' ≤ B) : Ap B' h e sz o n c cs :=
  ⟨p.1, p.2.1, fun q hq => (p.2.2 q hq).imp id fun ⟨k, h1, h2, h3⟩ => ⟨k, h1, Nat.le_trans hb h2, h3⟩⟩
theorem loadN_new {h : Heap} {e : Nat} {cs : List Value} {st : St} (hst : st ≠ .dead) {n : Nat} (hn : n = cs.length) (s : Option Nat) : loadN (h.new (.cells e cs st)).get ⟨h.next, 0, s⟩ n = some cs := by
  subst hn
  rw [loadN_of (q := ⟨h.next, 0, s⟩) (by rw [Heap.get_new, if_pos rfl]) hst (by simp)]
  simp
theorem load1_new {h : Heap} {e : Nat} {cs : List Value} {st : St} (hst : st ≠ .dead) {off : Nat} {s : Option Nat} : load1 (h.new (.cells e cs st)).get ⟨h.next, off, s⟩ = cs[off]? := load1_of (q := ⟨h.next, off, s⟩) (by rw [Heap.get_new, if_pos rfl]) hst
theorem Row.new {h : Heap} {e sz n : Nat} {cs : List Value} {st : St} (hst : st ≠ .dead) (hn : cs.length = n * sz) {s : Option Nat} (hs : s = none ∨ s = some sz) : Row (h.new (.cells e cs st)) sz (some ⟨h.next, 0, s⟩) n cs :=
  ⟨hn, Nat.lt_succ_self _, hs, loadN_new hst hn.symm s⟩
section
variable {rec : Rec} {a : Fr} {h h0 : Heap} {K : Fr → Heap → Prop} {L : List (Nat × Value)} {f : Fr} {dt : Nat} {x y : Sel} {l : List ISem} {sz m n c c' e by_ : Nat} {o o' : Option Addr} {cs ds : List Value}
/-- append -/
theorem i_app {t : Nat} {es : List Value} (k0 : Keeps h0 h) (hsz : 0 < sz) (hx : x.f (puts L f) = .slice o n c) (hp : Ap h0.next h e sz o n c cs) (hy : srcCells h.get sz (y.f (puts L f)) = some (m, ds)) (hd : ds.length = m * sz) (hbig : (n + m) * by_ ≤ 140737488355328)
    (ht : n + m = t) (he : cs ++ ds = es)
    (hq : ∀ o' h', Keeps h0 h' → Ap h0.next h' e sz o' t t es → (o' = o ∨ ∀ q, o' = some q → h0.next ≤ q.block) → ItQ (runItems rec l (puts ((dt, (.slice o' t t)) :: L) f) h') K) : ItQ (runItems rec (iOp (put dt) (.e (eAppend e sz by_ x y)) :: l) (puts L f) h) K := by
  subst ht
  subst he
  obtain ⟨rfl, hr, ho⟩ := hp
  have hb1 : Nat.ble ((c + m) * by_) 140737488355328 = true := Nat.ble_eq_true_of_le hbig
  by_cases hm : m = 0
  · subst hm
    have hds : ds = [] := List.length_eq_zero_iff.1 (by simpa using hd)
    subst hds
    have hb2 : Nat.ble (c + 0) c = true := Nat.ble_eq_true_of_le (by omega)
    refine i_e ⟨.slice o (c + 0) (c + 0), h, ?_, hq o h k0 ?_ (.inl rfl)⟩
    · simp only [eAppend, hx, hy, hb1, hb2, cond_true]
      cases o <;> rfl
    · rw [List.append_nil]
      exact ⟨rfl, hr, ho⟩
  · have hb2 : Nat.ble (c + m) c = false := by rw [← Bool.not_eq_true]; exact fun e => hm (by have := Nat.le_of_ble_eq_true e; omega)
    have hfr : ∀ q : Addr, some (⟨h.next, 0, some sz⟩ : Addr) = some q → h0.next ≤ q.block := fun q e => by cases e; exact k0.next
    cases o with
    | none =>
      have hc0 : c = 0 := hr.2
      subst hc0
      have hcs : cs = [] := List.length_eq_zero_iff.1 (by simpa using hr.1)
      subst hcs
      refine i_e ⟨.slice (some ⟨h.next, 0, some sz⟩) (0 + m) (0 + m), h.new (.cells e ds (.own true)), ?_, hq _ _ (k0.trans (Keeps.new h _)) ⟨rfl, Row.new (by simp) (by simpa using hd) (.inr rfl), fun q hq' => .inr ⟨h.next, by cases hq'; rfl, k0.next, by rw [Heap.get_new, if_pos rfl]; rfl⟩⟩ (.inr hfr)⟩
      simp only [eAppend, hx, hy, hb1, hb2, cond_true, cond_false]
      rfl
    | some q =>
      have hold : loadN h.get q (c * sz) = some cs := hr.2.2.2
      have hlen : (cs ++ ds).length = (c + m) * sz := by rw [List.length_append, hr.1, hd, Nat.add_mul]
      rcases ho q rfl with hs | ⟨b, rfl, hB, hg⟩
      · refine i_e ⟨.slice (some ⟨h.next, 0, some sz⟩) (c + m) (c + m), h.new (.cells e (cs ++ ds) (.own true)), ?_, hq _ _ (k0.trans (Keeps.new h _)) ⟨rfl, Row.new (by simp) hlen (.inr rfl), fun q hq' => .inr ⟨h.next, by cases hq'; rfl, k0.next, by rw [Heap.get_new, if_pos rfl]⟩⟩ (.inr hfr)⟩
        simp only [eAppend, hx, hy, hb1, hb2, cond_true, cond_false, hold, hs]
        rfl
      · have hsz' : (Nat.beq sz sz && Nat.beq e e) = true := by simp
        refine i_e ⟨.slice (some ⟨h.next, 0, some sz⟩) (c + m) (c + m), (h.put b (.cells e cs .dead)).new (.cells e (cs ++ ds) (.own true)), ?_, hq _ _ ((k0.put hB _).trans (Keeps.new _ _)) ⟨rfl, Row.new (h := h.put b (.cells e cs .dead)) (by simp) hlen (.inr rfl), fun q hq' => .inr ⟨h.next, by cases hq'; rfl, k0.next, by rw [Heap.get_new, Heap.next_put, if_pos rfl]⟩⟩ (.inr hfr)⟩
        simp only [eAppend, hx, hy, hb1, hb2, cond_true, cond_false, hold, hg, hsz']
end
end Vm
/-! ### regions whose order is open -/
namespace Vm
open Go
/-- a reading that is to be held at several places: where it stands, its guard, what is read, the places -/
noncomputable def chkOne (st : List (Fr × Heap)) (c : Nat × Option (Sel × Bool) × VSem × List Nat) : Bool := match st[c.1]? with
  | some (a, h) => (match c.2.1 with
      | some (g, want) => (match g.f a with | .bool b => (bif b == want then false else true) | _ => true)
      | none => false) || (match c.2.2.1.f a h.get with
      | some v => c.2.2.2.all fun m => (match st[m]? with
        | some (_, h') => (match c.2.2.1.f a h'.get with | some v' => sameV v v' | none => false)
        | none => false)
      | none => false)
  | none => false
noncomputable def sDr (items : List ISem) (cks : List (Nat × Option (Sel × Bool) × VSem × List Nat)) : Vm.Sem := ⟨fun rec _ a h => match runStates rec items a h with
  | none => .no
  | some st => bif cks.all (chkOne st) then (match st.getLast? with | some (a, h) => .mk .normal a h | none => .no) else .no⟩
inductive TrQ (rec : Rec) (l : List ISem) (a : Fr) (h : Heap) (K : List (Fr × Heap) → Fr → Heap → Prop) : Prop
  | mk (st : List (Fr × Heap)) (a' : Fr) (h' : Heap) (e : runStates rec l a h = some st) (hl : st.getLast? = some (a', h')) (hk : K st a' h')
section
variable {rec : Rec} {n : Nat} {a : Fr} {h : Heap} {Q : Ex → Fr → Heap → Prop} {K : List (Fr × Heap) → Fr → Heap → Prop}
theorem tr_nil (hk : K [(a, h)] a h) : TrQ rec [] a h K := ⟨[(a, h)], a, h, rfl, rfl, hk⟩
theorem tr_cons {i : ISem} {l : List ISem} (hs : ItQ (runItems rec [i] a h) (fun a1 h1 => TrQ rec l a1 h1 (fun st => K ((a, h) :: st)))) : TrQ rec (i :: l) a h K := by
  obtain ⟨a1, h1, e, st, a', h', e2, hl, hk⟩ := hs
  rw [runItems_cons] at e
  cases hi : i.f rec a h with
  | no => rw [hi] at e; cases e
  | mk a2 h2 =>
    rw [hi] at e
    have e' : It.mk a2 h2 = It.mk a1 h1 := e
    cases e'
    refine ⟨(a, h) :: st, a', h', ?_, ?_, hk⟩
    · show (match i.f rec a h with | .no => none | .mk a' h' => (match runStates rec l a' h' with | some l => some ((a, h) :: l) | none => none)) = _
      rw [hi]
      show (match runStates rec l a1 h1 with | some l => some ((a, h) :: l) | none => none) = _
      rw [e2]
    · cases st with
      | nil => cases hl
      | cons x st => rw [List.getLast?_cons_cons]; exact hl
theorem it_one {K : Fr → Heap → Prop} (hk : K a h) : ItQ (runItems rec [] a h) K := ⟨a, h, rfl, hk⟩
theorem o_dr {l : List ISem} {cks : List (Nat × Option (Sel × Bool) × VSem × List Nat)} (hq : TrQ rec l a h (fun st a h => cks.all (chkOne st) = true ∧ Q .normal a h)) : OutQ ((sDr l cks).f rec n a h) Q := by
  obtain ⟨st, a', h', e, hl, hc, hk⟩ := hq
  refine ⟨.normal, a', h', ?_, hk⟩
  simp only [sDr, e, hc, cond_true, hl]
theorem chk_nil {st : List (Fr × Heap)} : ([] : List (Nat × Option (Sel × Bool) × VSem × List Nat)).all (chkOne st) = true := rfl
theorem chk_cons {st : List (Fr × Heap)} {i : Nat} {s : VSem} {ms : List Nat} {r : List (Nat × Option (Sel × Bool) × VSem × List Nat)} {v : Value} (h1 : st[i]? = some (a, h)) (h2 : s.f a h.get = some v) (hv : sameV v v = true)
    (h3 : ∀ m ∈ ms, ∃ a' h', st[m]? = some (a', h') ∧ s.f a h'.get = some v) (hr : r.all (chkOne st) = true) : List.all ((i, none, s, ms) :: r) (chkOne st) = true := by
  rw [List.all_cons, hr, Bool.and_true]
  unfold chkOne
  simp only [h1, h2, Bool.false_or]
  rw [List.all_eq_true]
  intro m hm
  obtain ⟨a', h', e1, e2⟩ := h3 m hm
  simp only [e1, e2, hv]
theorem ld1 {x : Sel} {p : Addr} {v : Value} {g : G} (hx : x.f a = .pointer (some p)) (hl : load1 g p = some v) : (oLoad1 x).f a g = some v := by simp only [oLoad1, hx, hl]
end
theorem sv_int (k : IntKind) (n : Int) : sameV (.int k n) (.int k n) = true := by
  show (bif k == k then eqI n n else false) = true
  rw [eqI_dec]; simp
theorem eqA_self (a : Addr) : eqA a a = true := by simp [eqA]
theorem sv_slice (o : Option Addr) (n c : Nat) : sameV (.slice o n c) (.slice o n c) = true := by
  cases o with
  | none => show (bif Nat.beq n n then Nat.beq c c else false) = true; simp
  | some a =>
    show (bif Nat.beq n n then (bif Nat.beq c c then (bif eqA a a then a.spot == a.spot else false) else false) else false) = true
    simp [eqA_self]
theorem sv_bool (b : Bool) : sameV (.bool b) (.bool b) = true := by cases b <;> rfl
end Vm
/-! ### a range over a function: the code of its round -/
namespace Vm
open Go
noncomputable def bodyOf (P : Program) (f : FuncId) : Code := ((P.funcs[f]?).bind (·.body)).getD .skip
/-- the rounds' codes, in the order of the text -/
noncomputable def rounds : Code → List (Code × Code)
  | .seq x y => rounds x ++ rounds y
  | .cond _ x y => rounds x ++ rounds y
  | .block _ b => rounds b
  | .loop b => rounds b
  | .scope b => rounds b
  | .rangeFunc _ _ a b => [(a, b)]
  | _ => []
noncomputable def pickR (c : Code) (k : Nat) : Code × Code := ((rounds c)[k]?).getD (.skip, .skip)
end Vm

/-! ### the same with the checks laid open -/
namespace Vm
open Go
noncomputable section
def ckOf (P : Program) (n : Nat) (ops : List Oper) (c : Nat × List Nat) : Nat × Option (Sel × Bool) × VSem × List Nat := match ops[c.1]? with
  | some o => (match denOp P o.op with
    | .v _ s => (c.1, (match o.guard with | some (j, want) => (match guardSlot ops n j with | some g => some (sel g, want) | none => none) | none => none), s, c.2)
    | _ => (c.1, none, ⟨fun _ _ => none⟩, c.2))
  | none => (c.1, none, ⟨fun _ _ => none⟩, c.2)
theorem checkOne_eq (P : Program) (n : Nat) (ops : List Oper) (st : List (Fr × Heap)) (c : Nat × List Nat) : checkOne P n ops st c = chkOne st (ckOf P n ops c) := by
  have key : ∀ gi s, chkOne st (c.1, gi, s, c.2) = match st[c.1]? with
      | some (a, h) => (match gi with
          | some (g, want) => (match g.f a with | .bool b => (bif b == want then false else true) | _ => true)
          | none => false) || (match s.f a h.get with
          | some v => c.2.all fun m => (match st[m]? with
            | some (_, h') => (match s.f a h'.get with | some v' => sameV v v' | none => false)
            | none => false)
          | none => false)
      | none => false := fun gi s => rfl
  cases ho : ops[c.1]? with
  | none =>
    have hck : ckOf P n ops c = (c.1, none, ⟨fun _ _ => none⟩, c.2) := by unfold ckOf; simp only [ho]
    rw [hck, key]
    unfold checkOne
    simp only [ho]
    cases st[c.1]? with
    | none => rfl
    | some x => rfl
  | some o =>
    cases hd : denOp P o.op with
    | v rd s =>
      have hck : ckOf P n ops c = (c.1, (match o.guard with | some (j, want) => (match guardSlot ops n j with | some g => some (sel g, want) | none => none) | none => none), s, c.2) := by unfold ckOf; simp only [ho, hd]
      rw [hck, key]
      unfold checkOne
      simp only [ho]
      cases st[c.1]? with
      | none => rfl
      | some x =>
        obtain ⟨a, h⟩ := x
        simp only [hd]
        cases hg : o.guard with
        | none => rfl
        | some jw =>
          obtain ⟨j, want⟩ := jw
          simp only
          cases hgs : guardSlot ops n j <;> rfl
    | a s =>
      have hck : ckOf P n ops c = (c.1, none, ⟨fun _ _ => none⟩, c.2) := by unfold ckOf; simp only [ho, hd]
      rw [hck, key]
      unfold checkOne
      simp only [ho]
      cases st[c.1]? with
      | none => rfl
      | some x => obtain ⟨a, h⟩ := x; simp only [hd]; rfl
    | e s =>
      have hck : ckOf P n ops c = (c.1, none, ⟨fun _ _ => none⟩, c.2) := by unfold ckOf; simp only [ho, hd]
      rw [hck, key]
      unfold checkOne
      simp only [ho]
      cases st[c.1]? with
      | none => rfl
      | some x => obtain ⟨a, h⟩ := x; simp only [hd]; rfl
theorem sDraw_eq (P : Program) (n : Nat) (ops : List Oper) (items : List ISem) (cs : List (Nat × List Nat)) : sDraw P n ops items cs = sDr items (cs.map (ckOf P n ops)) := by
  unfold sDraw sDr
  congr 1
  funext rec _ a h
  cases runStates rec items a h with
  | none => rfl
  | some st =>
    have : cs.all (checkOne P n ops st) = (cs.map (ckOf P n ops)).all (chkOne st) := by
      rw [List.all_map]
      congr 1
      funext c
      exact checkOne_eq P n ops st c
    simp only [this]
    cases (List.map (ckOf P n ops) cs).all (chkOne st) with
    | false => rfl
    | true => cases st.getLast? with
      | none => rfl
      | some x => rfl
def denDraw' (P : Program) (n : Nat) (ops : Array Oper) : Vm.Sem :=
  bif okDraw P n ops.toList then
    match checks P ops.toList with
    | [] => sRegion (ops.toList.map (denItem P n ops.toList))
    | c :: cs => sDr (ops.toList.map (denItem P n ops.toList)) ((c :: cs).map (ckOf P n ops.toList))
  else ⟨fun _ _ _ _ => .no⟩
theorem denDraw_eq (P : Program) (n : Nat) (ops : Array Oper) : denDraw P n ops = denDraw' P n ops := by
  unfold denDraw denDraw'
  cases okDraw P n ops.toList with
  | false => rfl
  | true =>
    simp only [cond_true]
    cases checks P ops.toList with
    | nil => rfl
    | cons c cs => exact sDraw_eq _ _ _ _ _
def den0' (P : Program) (n : Nat) (ir : Bool) : Code → Vm.Sem
  | .skip => sEx .normal
  | .region _ ops false => sRegion (ops.toList.map (denItem P n ops.toList))
  | .region _ ops true => denDraw' P n ops
  | .seq x y => sSeq (den0' P n ir x) (den0' P n ir y)
  | .cond c x y => bif okX n c then sCond (evB c) (den0' P n ir x) (den0' P n ir y) else sNo
  | .block id b => sBlock id (den0' P n ir b)
  | .loop b => sLoop (den0' P n ir b)
  | .rangeFunc f ps s b => bif !ir && okX n f && ps.toList.all (fun t => Nat.blt t n) then sRangeFunc n (evB f) ps.toList s b else sNo
  | .exit id => sEx (.exit id)
  | .label _ => sEx .normal
  | .goto l => sEx (.goto l)
  | .ret => sEx .ret
  | _ => sNo
theorem den0_eq (P : Program) (n : Nat) (ir : Bool) : ∀ c : Code, den0 P n ir c = den0' P n ir c := by
  intro c
  induction c with
  | region k ops d => cases d with
    | false => rfl
    | true => exact denDraw_eq P n ops
  | seq x y ih1 ih2 => simp only [den0, den0', ih1, ih2]
  | cond c x y ih1 ih2 => simp only [den0, den0', ih1, ih2]
  | block id b ih => simp only [den0, den0', ih]
  | loop b ih => simp only [den0, den0', ih]
  | _ => rfl
def denF' (P : Program) (f : FuncId) : Option CF := match P.funcs[f]? with
  | none => none
  | some fn => match fn.body with
    | none => none
    | some c => bif !(fn.name == "runtime.NumGoroutine") && Nat.ble fn.ntmps 512 && fn.results.toList.all (okRV P fn.ntmps) then some ⟨fn.ntmps, fn.results.toList.map (denRV P), (match c with | .scope b => sScope P fn.ntmps b | c => den0' P fn.ntmps false c)⟩ else none
theorem denF_eq (P : Program) (f : FuncId) : denF P f = denF' P f := by
  unfold denF denF'
  cases P.funcs[f]? with
  | none => rfl
  | some fn =>
    cases hb : fn.body with
    | none => simp only [hb]
    | some c =>
      simp only [hb]
      congr 3
      cases c <;> first | rfl | exact den0_eq _ _ _ _
theorem denF_of {P : Program} {f : FuncId} {c : CF} (h : denF' P f = some c) : denF P f = some c := (denF_eq P f).trans h
theorem den0_of {P : Program} {n : Nat} {ir : Bool} {c : Code} {s : Vm.Sem} (h : den0' P n ir c = s) : den0 P n ir c = s := (den0_eq P n ir c).trans h
end
end Vm

/-! One step after the other, as far as it goes by itself. -/
namespace Vm
open Go
structure Held (q : Prop) : Prop where
  val : q
theorem gg {p q : Prop} (hq : q) (h : Held q → p := by
    intro hq
    repeat (first | ((with_reducible apply i_ev); (first | exact sel_of rfl | exact const_of)) | ((with_reducible apply i_nil)) | ((with_reducible apply it_one)) | ((with_reducible apply tr_cons)) | ((with_reducible apply tr_nil)) | ((with_reducible apply o_dr)) | ((with_reducible apply o_seq)) | ((with_reducible apply o_reg)) | ((with_reducible apply o_ex)) | ((with_reducible apply then_n)) | ((with_reducible apply then_r)) | ((with_reducible apply then_x)) | ((with_reducible apply i_lens); (first | exact sel_of rfl | exact const_of)) | ((with_reducible apply i_add64); (first | exact sel_of rfl | exact const_of); (first | exact sel_of rfl | exact const_of); omega; omega) | ((with_reducible apply i_sub64); (first | exact sel_of rfl | exact const_of); (first | exact sel_of rfl | exact const_of); omega; omega) | ((with_reducible apply i_lss); (first | exact sel_of rfl | exact const_of); (first | exact sel_of rfl | exact const_of)) | ((with_reducible apply i_gtr); (first | exact sel_of rfl | exact const_of); (first | exact sel_of rfl | exact const_of)) | ((with_reducible apply i_leq); (first | exact sel_of rfl | exact const_of); (first | exact sel_of rfl | exact const_of)) | ((with_reducible apply i_geq); (first | exact sel_of rfl | exact const_of); (first | exact sel_of rfl | exact const_of)) | ((with_reducible apply i_eqi); (first | exact sel_of rfl | exact const_of); (first | exact sel_of rfl | exact const_of)) | ((with_reducible apply i_nei); (first | exact sel_of rfl | exact const_of); (first | exact sel_of rfl | exact const_of)) | ((with_reducible apply i_cvn); (first | exact sel_of rfl | exact const_of); (first | decide | (simp only [lim]; omega))) | ((with_reducible apply i_cv8); (first | exact sel_of rfl | exact const_of)) | ((with_reducible apply i_cv16); (first | exact sel_of rfl | exact const_of)) | ((with_reducible apply i_cv32); (first | exact sel_of rfl | exact const_of)) | ((with_reducible apply i_not); (first | exact sel_of rfl | exact const_of)) | ((with_reducible apply i_shr); (first | exact sel_of rfl | exact const_of); (first | exact sel_of rfl | exact const_of); decide) | ((with_reducible apply i_live); (first | exact sel_of rfl | exact const_of)) | ((with_reducible apply i_skip); (first | exact sel_of rfl | exact const_of)) | ((with_reducible apply i_liveP); (first | exact sel_of rfl | exact const_of); omega) | ((with_reducible apply i_liveN); (first | exact sel_of rfl | exact const_of); omega) | ((with_reducible apply i_skipP); (first | exact sel_of rfl | exact const_of); omega) | ((with_reducible apply i_skipN); (first | exact sel_of rfl | exact const_of); omega) | ((with_reducible apply i_skipU); (first | exact sel_of rfl | exact const_of)) | ((with_reducible apply i_picktb); (first | exact sel_of rfl | exact const_of); (first | exact sel_of rfl | exact const_of)) | ((with_reducible apply i_pickfb); (first | exact sel_of rfl | exact const_of); (first | exact sel_of rfl | exact const_of)) | ((with_reducible apply i_pickP); (first | exact sel_of rfl | exact const_of); omega; (first | exact sel_of rfl | exact const_of)) | ((with_reducible apply i_pickN); (first | exact sel_of rfl | exact const_of); omega; (first | exact sel_of rfl | exact const_of)) | ((with_reducible apply i_nilCheck); (first | exact sel_of rfl | exact const_of)) | ((with_reducible apply i_fieldAddr); (first | exact sel_of rfl | exact const_of)) | ((with_reducible apply i_eqt); (first | exact sel_of rfl | exact const_of); (first | exact sel_of rfl | exact const_of)) | ((with_reducible apply i_eqbs); (first | exact sel_of rfl | exact const_of); (first | exact sel_of rfl | exact const_of)) | ((with_reducible apply i_neg); (first | exact sel_of rfl | exact const_of)) | ((with_reducible apply i_ext); (first | exact sel_of rfl | exact const_of); exact rfl) | ((with_reducible apply i_field1); (first | exact sel_of rfl | exact const_of); exact rfl) | ((with_reducible apply i_eqp); (first | exact sel_of rfl | exact const_of); (first | exact sel_of rfl | exact const_of); exact rfl) | ((with_reducible apply i_nep); (first | exact sel_of rfl | exact const_of); (first | exact sel_of rfl | exact const_of); exact rfl) | ((with_reducible apply i_eqs); (first | exact sel_of rfl | exact const_of); (first | exact sel_of rfl | exact const_of); exact rfl) | ((with_reducible apply i_build); ((repeat (apply fill_one; (first | exact sel_of rfl | exact const_of); exact rfl; exact rfl)); exact fill_nil)) | ((with_reducible apply i_func0)) | ((with_reducible apply i_func1); (first | exact sel_of rfl | exact const_of)) | ((with_reducible apply i_func2); (first | exact sel_of rfl | exact const_of); (first | exact sel_of rfl | exact const_of)) | ((with_reducible apply i_func)) | ((with_reducible apply i_bslice); ((repeat (apply fill_one; (first | exact sel_of rfl | exact const_of); exact rfl; exact rfl)); exact fill_nil)) | ((with_reducible apply i_box); (first | exact sel_of rfl | exact const_of); exact rfl) | ((with_reducible apply i_alloc)) | ((with_reducible apply out_ift); (first | exact sel_of rfl | exact const_of)) | ((with_reducible apply out_iff); (first | exact sel_of rfl | exact const_of)) | ((with_reducible apply out_ifT); (first | exact sel_of rfl | exact const_of); omega) | ((with_reducible apply out_ifF); (first | exact sel_of rfl | exact const_of); omega) | ((with_reducible apply out_ifnT); (first | exact sel_of rfl | exact const_of); omega) | ((with_reducible apply out_ifnF); (first | exact sel_of rfl | exact const_of); omega) | ((with_reducible apply blo_n)) | ((with_reducible apply blo_r)) | ((with_reducible apply blo_x); exact rfl) | ((with_reducible apply blo_y); exact rfl) | ((with_reducible apply rnd_r)) | ((with_reducible apply rnd_x); exact rfl) | ((with_reducible apply rnd_y); exact rfl) | ((with_reducible apply o_bregion)) | ((with_reducible apply o_bseq)) | ((with_reducible apply o_bcond)) | ((with_reducible apply o_bblock)) | ((with_reducible apply o_bex)) | ((with_reducible apply fin1); exact sel_of rfl) | ((with_reducible apply fin2); exact sel_of rfl; exact sel_of rfl) | ((with_reducible apply fin3); exact sel_of rfl; exact sel_of rfl; exact sel_of rfl) | ((with_reducible apply fin0)) | ((with_reducible apply fin0n)))
    exact hq.val) : p := h ⟨hq⟩
end Vm

/-! A summary of a function without arguments that says true (awake). -/
set_option linter.unusedVariables false
namespace Vm
open Go
def oneSum (f0 : Nat) : Sums := fun f => bif Nat.beq f f0 then some (fun args h => match args with | [] => .ok (.bool true) h | _ :: _ => .no) else none
theorem sums_one {P : Program} {f0 : Nat} (he : Enters P f0)
    (hc : ∀ w : World, Calls P f0 #[] w fun e w' => e = .returned (.bool true) ∧ w'.os = w.os ∧ w'.tape = w.tape ∧ w'.output = w.output ∧ w.heap.size ≤ w'.heap.size ∧ ∀ k, k < w.heap.size → w'.heap[k]? = w.heap[k]?) (B : Nat) : SumsOK P B (oneSum f0) := by
  have key : ∀ {f s args h v h'}, oneSum f0 f = some s → s args h = .ok v h' → f = f0 ∧ args = [] ∧ v = .bool true ∧ h' = h := by
    intro f s args h v h' hs hr
    unfold oneSum at hs
    cases hb : Nat.beq f f0 with
    | false => rw [hb] at hs; cases hs
    | true =>
      rw [hb] at hs
      cases hs
      cases args with
      | nil => cases hr; exact ⟨Nat.eq_of_beq_eq_true hb, rfl, rfl, rfl⟩
      | cons _ _ => cases hr
  refine ⟨fun f s hs args h v h' hr => ?_, fun {f s args h v h'} hs hr => ?_⟩
  · obtain ⟨_, _, _, rfl⟩ := key hs hr; exact Nat.le_refl _
  · obtain ⟨rfl, rfl, rfl, rfl⟩ := key hs hr
    refine ⟨he, fun {ρ M x w args'} T hM hv => ?_⟩
    have ha : args' = #[] := by
      have := hv.length
      simp at this
      exact Array.size_eq_zero_iff.1 (by omega)
    subst ha
    refine callsIn_wide.2 fun cs => ?_
    obtain ⟨e, w', fr, ⟨rfl, h1, h2, h3, h4, h5⟩, rest⟩ := hc w cs
    refine ⟨_, w', fr, ⟨.bool true, ρ, rfl, ⟨Grew.refl _ _ _ _ _, ⟨h1, h2, h3, h4, fun k hk => h5 k (Nat.lt_of_lt_of_le hk T.hr.base), fun k hk _ => h5 k hk⟩, HeapKept.refl T.wf, ?_⟩, .same rfl⟩, rest⟩
    exact ⟨fun b i hb => let ⟨y, hy, hr⟩ := T.hr.blk b i hb; ⟨y, hy, hr.mono (Ren.le_refl _) (fun _ => h5 _ (T.hr.size b i hb))⟩, T.hr.apart, fun b i hb => Nat.lt_of_lt_of_le (T.hr.size b i hb) h4, Nat.le_trans T.hr.base h4⟩
end Vm

/-! From a call that answers true to a law's row. -/
set_option linter.unusedVariables false
namespace Vm
open Go Go.ChangeShapes Go.WideShapes Go.ChangeAt Go.RowKit
theorem trodAll_below {H : Type} {enc : TypeId × Value → H} {P : Program} (hl : laidOutB P = true) {W W' : World} (hb : Below W.heap.size W W') :
    ∀ {ts : List TypeId} {vs : List Value} {ds : List (DataW H)} {ps : List MemPlace}, DataW.TrodAll enc P W 0 (fun _ => true) true ts vs ds ps → (∀ t ∈ ts, P.readableRec t = true ∧ t < P.types.size) → (∀ x ∈ ps, x.block < W.heap.size) →
      DataW.TrodAll enc P W' 0 (fun b => decide (b < W.heap.size)) true ts vs ds ps
  | [], [], [], ps, h, _, _ => h
  | t :: ts, v :: vs, d :: ds, ps, h, hr, hlt => by
    obtain ⟨p, q, h1, h2, rfl⟩ := h
    exact ⟨p, q, Below.trod hl (hr t (by simp)).1 (hr t (by simp)).2 h1 hb (fun x hx => hlt x (by simp [hx])), trodAll_below hl hb h2 (fun t' ht => hr t' (by simp [ht])) (fun x hx => hlt x (by simp [hx])), rfl⟩
/-- there is a row in memory -/
def HasCells (W : World) : Prop := ∃ (k : Nat) (rc : Array Value) (fe : TypeId) (fz : Nat × Nat), W.heap[k]? = some (.cells rc fe fz)
theorem has_cells {P : Program} {W : World} (h : W.ShapedOpen P) : HasCells W := by
  have h0 : (begin P (fun _ _ => 0) default).world.heap[P.globals.size]? = some (.cells ((Array.range P.types.size).map fun t => .int .u64 (Int.ofNat t)) 0) := by
    simp [begin, Array.getElem?_push]
    rw [if_neg (by omega), if_neg (by omega), if_neg (by omega)]
    simp [Array.getElem_push]
  obtain ⟨o, o0, h1, h2, h3⟩ := h.2 P.globals.size (Nat.le_refl _) (Array.getElem?_eq_some_iff.1 h0).1
  rw [h0] at h2
  cases h2
  simp [World.looseAt] at h3
  subst h3
  exact ⟨_, _, _, _, h1⟩
/-- a law: what is left is the call; the arguments' sizes are bounded -/
theorem lift_law {H : Type} {enc : TypeId × Value → H} {C : Checked} {os : Os} {f : FuncId} {fn : Func} {s : ChangeSpec} {apart : Bool} {tb : TypeId}
    (own : ownKnob C.prog.godebug = none) (started : os.Started) (noInit : C.prog.inits.idxOf? f = none) (hfn : C.prog.funcs[f]? = some fn)
    (witness : ∃ (w : World) (tape : Tape) (i : Input), w.os = os ∧ (w.forCall tape i).Shaped C.prog ∧ i.vars = [] ∧ Input.okWide C.prog (w.forCall tape i) .any w.heap.size f i ∧
      s.pre6 enc C.prog fn [] apart (w.forCall tape i).memory i.args ∧ ({} : Assume).holds C.prog (lone (Frame.enter C.prog f i.args .normal) [] (w.forCall tape i)))
    (hl : laidOutB C.prog = true) (hts : fn.params.toList.all (fun t => C.prog.readableRec t && decide (t < C.prog.types.size)) = true) (hv : s.vars = [])
    (hres : fn.resultTypes = #[tb]) (hb : C.prog.underlying tb = some .bool)
    (hs : ∀ ds : List (DataW H), ds.length = fn.params.size → (s.fn H ds).results = [.lit (.bool true)] ∧ (s.fn H ds).args = ds ∧ (s.fn H ds).vars = [])
    (call : ∀ (W : World) (base : Nat) (args : Array Value) (ds : List (DataW H)) (ps : List MemPlace), (∀ (j : Nat) t v, fn.params[j]? = some t → args[j]? = some v → Value.okWide C.prog W .any base t v) →
      DataW.TrodAll enc C.prog W 0 (fun _ => true) true fn.params.toList args.toList ds ps → (DataW.weightsEach C.prog fn.params.toList ds).all (· ≤ reachBytes) = true → HasCells W → Calls C.prog f args W fun e W' => e = .returned (.bool true) ∧ Below W.heap.size W W') :
    ReturnsInHanded {} C os f .any (s.pre6 enc C.prog fn [] apart) (s.post enc C.prog fn apart true false false) := by
  refine returnsInHanded_of_change_shaped own started noInit hfn witness ?_
  intro W base args ds gs before hval hW _ hsize hsh _
  have hW' := hW
  obtain ⟨p, q, hA, hV, rfl, hfz, hnd⟩ := hW
  have hA0 : DataW.TrodAll enc C.prog W 0 (fun _ => true) true fn.params.toList args.toList ds p := hA
  have hlen : ds.length = fn.params.size := by
    have : ∀ {ts : List TypeId} {vs : List Value} {ds : List (DataW H)} {ps : List MemPlace}, DataW.TrodAll enc C.prog W 0 (fun _ => true) true ts vs ds ps → ds.length = ts.length := by
      intro ts
      induction ts with
      | nil => intro vs ds ps h; cases vs <;> cases ds <;> first | rfl | exact h.elim
      | cons t ts ih =>
        intro vs ds ps h
        cases vs with
        | nil => cases ds <;> exact h.elim
        | cons v vs => cases ds with
          | nil => exact h.elim
          | cons d ds => obtain ⟨_, _, _, h2, _⟩ := h; rw [List.length_cons, List.length_cons, ih h2]
    rw [this hA0, Array.length_toList]
  rw [hv] at hV
  have hgs : gs = [] ∧ q = [] := by
    cases gs with
    | nil => exact ⟨rfl, hV⟩
    | cons _ _ => exact hV.elim
  obtain ⟨rfl, rfl⟩ := hgs
  obtain ⟨h1, h2, h3⟩ := hs ds hlen
  have hsize' : (DataW.weightsEach C.prog fn.params.toList ds).all (· ≤ reachBytes) = true := by
    have e : s.plain.varTypes C.prog = [] := by
      have : s.plain.vars = [] := hv
      unfold DataSpec.varTypes
      rw [this]; rfl
    rw [e, List.append_nil, List.append_nil] at hsize
    exact hsize
  refine (call W base args ds p hval hA0 hsize' (has_cells hsh)).mono fun e W' ⟨he, hb'⟩ => ?_
  subst he
  have hlt : ∀ x ∈ p, x.block < W.heap.size := fun x hx => hW'.lt x (List.mem_append_left _ hx)
  have hts' : ∀ t ∈ fn.params.toList, C.prog.readableRec t = true ∧ t < C.prog.types.size := fun t ht => by
    have := List.all_eq_true.1 hts t ht
    simpa using this
  refine ⟨_, rfl, ds, [], p ++ [], [], p, [], hW', ?_, ?_, ?_, ?_, fun h => by cases h⟩
  · rw [List.append_nil, h1, hres]
    exact trodAll_mk1 (shut_bool hb _)
  · rw [List.append_nil, h2]
    exact trodAll_below hl hb' hA0 hts' hlt
  · rw [List.append_nil, h3, hv]
    rfl
  · exact hb'.frame _
end Vm

/-! Arguments of plain types: bools, numbers, strings, slices, structs, and what is made of these. -/
set_option linter.unusedVariables false
namespace Vm
open Go
inductive PT where
  | bool | int (k : IntKind) | str | slice (e : PT) | unit | pair (f r : PT)
def PT.size : PT → Nat
  | .bool => 1 | .int _ => 1 | .str => 1 | .slice _ => 1 | .unit => 0 | .pair f r => f.size + r.size
/-- what is read of such a type: cells, in a heap -/
inductive Rep (h : Heap) : PT → List Value → Prop
  | bool (b : Bool) : Rep h .bool [.bool b]
  | int {k : IntKind} {n : Int} (hn : (Lit.int k n).wf = true) : Rep h (.int k) [.int k n]
  | str (s : ByteArray) : Rep h .str [.string s]
  | nil (e : PT) : Rep h (.slice e) [.slice none 0 0]
  | slice {e : PT} {b len cap ty : Nat} {els : List (List Value)} (hb : b < h.next) (hg : h.get b = some (.cells ty els.flatten .ro)) (hlen : els.length = cap) (hl : len ≤ cap)
      (hsz : ∀ c ∈ els, c.length = e.size) (each : ∀ c ∈ els, Rep h e c) : Rep h (.slice e) [.slice (some ⟨b, 0, none⟩) len cap]
  | unit : Rep h .unit []
  | pair {f r : PT} {c cs : List Value} (h1 : c.length = f.size) (hf : Rep h f c) (hr : Rep h r cs) : Rep h (.pair f r) (c ++ cs)
theorem Rep.keeps {h h' : Heap} {t : PT} {c : List Value} (r : Rep h t c) (k : Keeps h h') : Rep h' t c := by
  induction r with
  | bool b => exact .bool b
  | int hn => exact .int hn
  | str s => exact .str s
  | nil e => exact .nil e
  | slice hb hg hlen hl hsz each ih => exact .slice (Nat.lt_of_lt_of_le hb k.next) (by rw [k.get _ hb]; exact hg) hlen hl hsz ih
  | unit => exact .unit
  | pair h1 hf hr ih1 ih2 => exact .pair h1 ih1 ih2
/-- what stands in cells may be taken over -/
def Good (W : World) (t : PT) (cs : List Value) : Prop := ∀ h : Heap, ∃ (h' : Heap) (vs : List Value), Keeps h h' ∧ Rep h' t vs ∧ vs.length = t.size ∧ (∀ c ∈ cs, c.oneCell' = true) ∧
  ∀ ρ M x, Tie ρ W.heap.size M x h W → h'.next ≤ M → ∃ ρ', Tie ρ' W.heap.size M x h' W ∧ ρ.le ρ' ∧ VRs ρ' vs cs
theorem Good.lit {W : World} {t : PT} {v : Value} (hr : ∀ h, Rep h t [v]) (hs : t.size = 1) (hv : lit v = true) : Good W t [v] := fun h =>
  ⟨h, [v], Keeps.refl h, hr h, hs.symm, (fun c hc => by simp at hc; subst hc; exact lit_one hv), fun ρ M x T _ => ⟨ρ, T, Ren.le_refl ρ, .cons (.same hv) .nil⟩⟩
theorem Good.pair {W : World} {f r : PT} {c cs : List Value} (hf : Good W f c) (hr : Good W r cs) : Good W (.pair f r) (c ++ cs) := fun h => by
  obtain ⟨h1, v1, k1, r1, l1, o1, T1⟩ := hf h
  obtain ⟨h2, v2, k2, r2, l2, o2, T2⟩ := hr h1
  refine ⟨h2, v1 ++ v2, k1.trans k2, .pair l1 (r1.keeps k2) r2, by rw [List.length_append, l1, l2]; rfl, fun c hc => (List.mem_append.1 hc).elim (o1 c) (o2 c), fun ρ M x T hM => ?_⟩
  obtain ⟨ρ1, T1', le1, vr1⟩ := T1 ρ M x T (Nat.le_trans k2.next hM)
  obtain ⟨ρ2, T2', le2, vr2⟩ := T2 ρ1 M x T1' hM
  exact ⟨ρ2, T2', Ren.le_trans le1 le2, (vr1.mono le2).append vr2⟩
/-- the elements of a row, one behind the other -/
theorem good_row {W : World} {e : PT} {cc : Nat → List Value} : ∀ (n : Nat), (∀ i, i < n → Good W e (cc i)) → ∀ h : Heap, ∃ (h' : Heap) (els : List (List Value)), Keeps h h' ∧ els.length = n ∧ (∀ c ∈ els, c.length = e.size) ∧ (∀ c ∈ els, Rep h' e c) ∧
    (∀ i, i < n → ∀ c ∈ cc i, c.oneCell' = true) ∧ ∀ ρ M x, Tie ρ W.heap.size M x h W → h'.next ≤ M → ∃ ρ', Tie ρ' W.heap.size M x h' W ∧ ρ.le ρ' ∧ VRs ρ' els.flatten ((List.range n).flatMap cc)
  | 0, _, h => ⟨h, [], Keeps.refl h, rfl, (fun c hc => by cases hc), (fun c hc => by cases hc), (fun i hi => by omega), fun ρ M x T _ => ⟨ρ, T, Ren.le_refl ρ, .nil⟩⟩
  | n + 1, hg, h => by
    obtain ⟨h1, els, k1, l1, s1, r1, o1, T1⟩ := good_row n (fun i hi => hg i (by omega)) h
    obtain ⟨h2, v, k2, r2, l2, o2, T2⟩ := hg n (by omega) h1
    refine ⟨h2, els ++ [v], k1.trans k2, by rw [List.length_append, l1]; rfl, fun c hc => ?_, fun c hc => ?_, fun i hi => ?_, fun ρ M x T hM => ?_⟩
    · rcases List.mem_append.1 hc with hc | hc
      · exact s1 c hc
      · simp at hc; subst hc; exact l2
    · rcases List.mem_append.1 hc with hc | hc
      · exact (r1 c hc).keeps k2
      · simp at hc; subst hc; exact r2
    · by_cases e : i = n
      · subst e; exact o2
      · exact o1 i (by omega)
    · obtain ⟨ρ1, T1', le1, vr1⟩ := T1 ρ M x T (Nat.le_trans k2.next hM)
      obtain ⟨ρ2, T2', le2, vr2⟩ := T2 ρ1 M x T1' hM
      refine ⟨ρ2, T2', Ren.le_trans le1 le2, ?_⟩
      rw [List.flatten_append, List.range_succ, List.flatMap_append]
      have := (vr1.mono le2).append vr2
      simpa using this
theorem flat_at {cc : Nat → List Value} {sz : Nat} : ∀ (n : Nat), (∀ i, i < n → (cc i).length = sz) → ((List.range n).flatMap cc).length = n * sz ∧ ∀ i j, i < n → j < sz → ((List.range n).flatMap cc)[i * sz + j]? = (cc i)[j]?
  | 0, _ => ⟨by simp, fun i j hi => by omega⟩
  | n + 1, hl => by
    obtain ⟨h1, h2⟩ := flat_at n (fun i hi => hl i (by omega))
    have hn := hl n (by omega)
    rw [List.range_succ, List.flatMap_append]
    refine ⟨by rw [List.length_append, h1]; simp [hn, Nat.add_mul], fun i j hi hj => ?_⟩
    by_cases e : i = n
    · subst e
      rw [List.getElem?_append_right (by rw [h1]; omega), h1]
      simp
    · have hlt : i * sz + j < n * sz := by
        have : (i + 1) * sz ≤ n * sz := Nat.mul_le_mul_right _ (by omega)
        rw [Nat.add_mul] at this
        omega
      rw [List.getElem?_append_left (by rw [h1]; exact hlt)]
      exact h2 i j (by omega) hj
theorem Good.slice {W : World} {e : PT} {a : Addr} {len cap : Nat} {cc : Nat → List Value} (hH : HasCells W) (hs : 0 < cap → a.spot = none ∧ ∃ rc fe fz, W.heap[a.block]? = some (.cells rc fe fz)) (hl : len ≤ cap) (hsz : ∀ i, i < cap → (cc i).length = e.size) (h0 : 0 < e.size)
    (hc : ∀ i j v, i < cap → (cc i)[j]? = some v → W.cell? (a.add (i * e.size + j)) = some v) (hg : ∀ i, i < cap → Good W e (cc i)) : Good W (.slice e) [.slice (some a) len cap] := fun h => by
  obtain ⟨blk, rc, fe, fz, hb, hab⟩ : ∃ blk rc fe fz, W.heap[blk]? = some (.cells rc fe fz) ∧ (0 < cap → blk = a.block ∧ a.spot = none) := by
    by_cases hcap : cap = 0
    · obtain ⟨k, rc, fe, fz, h1⟩ := hH
      exact ⟨k, rc, fe, fz, h1, fun h => by omega⟩
    · obtain ⟨h1, rc, fe, fz, h2⟩ := hs (by omega)
      exact ⟨a.block, rc, fe, fz, h2, fun _ => ⟨rfl, h1⟩⟩
  obtain ⟨h1, els, k1, l1, s1, r1, o1, T1⟩ := good_row cap hg h
  obtain ⟨f1, f2⟩ := flat_at cap hsz
  have hcell : ∀ (k : Nat) v, ((List.range cap).flatMap cc)[k]? = some v → rc[a.off + k]? = some v := by
    intro k v hk
    have hlt : k < cap * e.size := by rw [← f1]; exact (List.getElem?_eq_some_iff.1 hk).1
    have hi : k / e.size < cap := Nat.div_lt_of_lt_mul (by rw [Nat.mul_comm]; exact hlt)
    have hk' : k / e.size * e.size + k % e.size = k := by rw [Nat.mul_comm]; exact Nat.div_add_mod k e.size
    have h3 := f2 (k / e.size) (k % e.size) hi (Nat.mod_lt _ h0)
    rw [hk', hk] at h3
    have h4 := hc (k / e.size) (k % e.size) v hi h3.symm
    have hcap : 0 < cap := Nat.lt_of_le_of_lt (Nat.zero_le _) hi
    obtain ⟨e1, hsp⟩ := hab hcap
    rw [hk', addr_add hsp] at h4
    subst e1
    simpa [World.cell?, hb] using h4
  have hel : els.flatten.length = cap * e.size := by
    have : ∀ l : List (List Value), (∀ c ∈ l, c.length = e.size) → l.flatten.length = l.length * e.size := by
      intro l
      induction l with
      | nil => intro _; simp
      | cons x l ih => intro hx; rw [List.flatten_cons, List.length_append, ih (fun c hc => hx c (by simp [hc])), hx x (by simp), List.length_cons, Nat.add_mul]; omega
    rw [this els s1, l1]
  refine ⟨h1.new (.cells 0 els.flatten .ro), [.slice (some ⟨h1.next, 0, none⟩) len cap], k1.trans (Keeps.new h1 _), ?_, rfl, (fun c hc => by simp at hc; subst hc; rfl), fun ρ M x T hM => ?_⟩
  · exact .slice (Nat.lt_succ_self _) (by rw [Heap.get_new, if_pos rfl]) l1 hl s1 fun c hc => (r1 c hc).keeps (Keeps.new h1 _)
  have hM1 : h1.next < M := hM
  obtain ⟨ρ1, T1', le1, vr1⟩ := T1 ρ M x T (by omega)
  have hnone : ρ1 h1.next = none := T1'.gap h1.next (Nat.le_refl _) hM1
  have hlt : blk < W.heap.size := (Array.getElem?_eq_some_iff.1 hb).1
  let i : Inf := ⟨blk, if cap = 0 then 0 else a.off, rc.size, false⟩
  have hone : ∀ (k : Nat) v, ((List.range cap).flatMap cc)[k]? = some v → v.oneCell' = true := by
    intro k v hk
    obtain ⟨i, hi, hv⟩ := List.mem_flatMap.1 (List.mem_of_getElem? hk)
    exact o1 i (by simpa using hi) v hv
  have hfit : i.o + els.flatten.length ≤ rc.size := by
    show (if cap = 0 then 0 else a.off) + els.flatten.length ≤ rc.size
    rw [hel]
    by_cases h0' : cap = 0
    · rw [if_pos h0', h0']; omega
    · rw [if_neg h0']
      have hpos : 0 < cap * e.size := Nat.mul_pos (by omega) h0
      have hj : ((List.range cap).flatMap cc)[cap * e.size - 1]? = some (((List.range cap).flatMap cc)[cap * e.size - 1]'(by rw [f1]; omega)) := List.getElem?_eq_getElem _
      have := (Array.getElem?_eq_some_iff.1 (hcell _ _ hj)).1
      omega
  have hrow : BlkR (ρ1.with h1.next i) W.heap.size W i (.cells 0 els.flatten .ro) := by
    refine ⟨hlt, rfl, rc, fe, fz, hb, trivial, rfl, hfit, fun j v hj => ?_⟩
    obtain ⟨v', hv', hr', ho'⟩ := vr1.at (fun u hu => let ⟨n, hn⟩ := List.mem_iff_getElem?.1 hu; hone n u hn) j v hj
    refine ⟨v', ?_, hr'.mono (Ren.le_with ρ1 i hnone), ho'⟩
    have : cap ≠ 0 := by
      intro e0
      have := (List.getElem?_eq_some_iff.1 hj).1
      rw [hel, e0] at this
      omega
    show rc[(if cap = 0 then 0 else a.off) + j]? = some v'
    rw [if_neg this]
    exact hcell j v' hv'
  refine ⟨ρ1.with h1.next i, ⟨?_, Heap.wf_new T1'.wf _, hM, fun b h1' h2 => ?_⟩, Ren.le_trans le1 (Ren.le_with ρ1 i hnone), .cons ?_ .nil⟩
  · rw [mix_new hM1]
    refine ⟨fun b j hj => ?_, fun b c j k y z hne hj hk hy hz' ho1 ho2 => ?_, fun b j hj => ?_, Nat.le_refl _⟩
    · unfold Ren.with at hj
      by_cases e' : b = h1.next
      · subst e'
        rw [if_pos rfl] at hj
        cases hj
        exact ⟨_, if_pos rfl, hrow⟩
      · rw [if_neg e'] at hj
        obtain ⟨y, hy, hr⟩ := T1'.hr.blk b j hj
        exact ⟨y, by rw [if_neg e']; exact hy, hr.mono (Ren.le_with ρ1 i hnone) (fun _ => rfl)⟩
    · unfold Ren.with at hj hk
      by_cases e1 : b = h1.next
      · subst e1
        rw [if_pos rfl] at hy
        cases hy
        cases ho1
      · by_cases e2 : c = h1.next
        · subst e2
          rw [if_pos rfl] at hz'
          cases hz'
          cases ho2
        · rw [if_neg e1] at hj hy
          rw [if_neg e2] at hk hz'
          exact T1'.hr.apart b c j k y z hne hj hk hy hz' ho1 ho2
    · unfold Ren.with at hj
      by_cases e1 : b = h1.next
      · rw [if_pos e1] at hj; cases hj; exact hlt
      · rw [if_neg e1] at hj; exact T1'.hr.size b j hj
  · unfold Ren.with
    rw [Heap.next_new] at h1'
    rw [if_neg (by omega)]
    exact T1'.gap b (by omega) h2
  · refine .slice ?_ (fun _ => rfl) (fun z h => by cases h)
    by_cases h0' : cap = 0
    · exact .inr ⟨by omega, h0', i, Ren.with_self _ _ _, .inl rfl⟩
    · left
      refine ⟨i, Ren.with_self _ _ _, ?_⟩
      obtain ⟨e1, hsp⟩ := hab (by omega)
      subst e1
      obtain ⟨ab, ao, as⟩ := a
      simp only at hsp
      subst hsp
      show _ = (⟨ab, (if cap = 0 then 0 else ao) + 0, none⟩ : Addr)
      rw [if_neg h0']
      rfl
/-- is a type such a one? (a type, or fields from a place on) -/
def chk (P : Program) : PT → TypeId ⊕ (List Field × Nat) → Bool
  | .bool, .inl t => (match P.underlying t with | some .bool => true | _ => false)
  | .int k, .inl t => (match P.underlying t with | some (.int j) => Nat.beq (kc k) (kc j) | _ => false)
  | .str, .inl t => (match P.underlying t with | some .string => true | _ => false)
  | .slice e, .inl t => (match P.underlying t with | some (.slice u) => chk P e (.inl u) && Nat.beq (P.cellsOf u) e.size && Nat.blt 0 e.size | _ => false)
  | .unit, .inr (fs, _) => fs.isEmpty
  | .pair f r, .inl t => (match P.underlying t with
    | some (.struct fs) => (match fs.toList with
      | x :: xs => Nat.beq x.offset 0 && chk P f (.inl x.type) && Nat.beq (P.cellsOf x.type) f.size && chk P r (.inr (xs, 0 + f.size)) && Nat.beq (P.cellsOf t) (f.size + r.size)
      | [] => false)
    | _ => false)
  | .pair f r, .inr (x :: xs, off) => Nat.beq x.offset off && chk P f (.inl x.type) && Nat.beq (P.cellsOf x.type) f.size && chk P r (.inr (xs, off + f.size))
  | _, _ => false
section
variable {H : Type} {enc : TypeId × Value → H} {P : Program} {W : World}
theorem kc_inj' {k j : IntKind} (h : Nat.beq (kc k) (kc j) = true) : k = j := by
  have := Nat.eq_of_beq_eq_true h
  cases k <;> cases j <;> first | rfl | (simp [kc] at this)
theorem cells_at' {a : Addr} {n : Nat} {cs : List Value} (h : W.cells? 0 a n = some cs) : cs.length = n ∧ ∀ (j : Nat) v, cs[j]? = some v → W.cell? (a.add j) = some v := by
  unfold World.cells? at h
  rw [if_pos (Nat.zero_le _)] at h
  have hl := mapM_some_length h
  refine ⟨by simpa using hl, fun j v hj => ?_⟩
  have hlt : j < n := by
    have := (List.getElem?_eq_some_iff.1 hj).1
    rw [hl] at this
    simpa using this
  have := mapM_some_get h j j (by simp [hlt])
  rw [this, hj]
theorem add_add (a : Addr) (i j : Nat) : (a.add i).add j = a.add (i + j) := by
  unfold Addr.add
  by_cases h1 : i = 0
  · subst h1; simp
  · by_cases h2 : j = 0
    · subst h2; simp [h1]
    · simp [h1, h2, Nat.add_assoc]
theorem trod_good (hH : HasCells W) : ∀ (pt : PT),
    (∀ (t : TypeId) (cs : List Value) (fuel : Nat) (x : DataW H × List MemPlace), chk P pt (.inl t) = true → DataW.trod enc P W 0 (fun _ => true) true fuel t cs = some x → Good W pt cs) ∧
    (∀ (fs : List Field) (off : Nat) (cs : List Value) (fuel : Nat), chk P pt (.inr (fs, off)) = true → (∀ f ∈ fs, ∃ x, DataW.trod enc P W 0 (fun _ => true) true fuel f.type ((cs.drop f.offset).take (P.cellsOf f.type)) = some x) →
      cs.length = off + pt.size → Good W pt (cs.drop off))
  | .bool => ⟨fun t cs fuel x hc hx => by
      unfold chk at hc
      split at hc <;> try cases hc
      rename_i hu
      obtain ⟨b, rfl, _⟩ := DataW.trod_bool hu hx
      exact Good.lit (fun h => .bool b) rfl rfl, fun fs off cs fuel hc => by simp [chk] at hc⟩
  | .int k => ⟨fun t cs fuel x hc hx => by
      unfold chk at hc
      split at hc <;> try cases hc
      rename_i j hu
      have := kc_inj' hc
      subst this
      obtain ⟨n, rfl, _, hn⟩ := DataW.trod_int hu hx
      exact Good.lit (fun h => .int hn) rfl rfl, fun fs off cs fuel hc => by simp [chk] at hc⟩
  | .str => ⟨fun t cs fuel x hc hx => by
      unfold chk at hc
      split at hc <;> try cases hc
      rename_i hu
      obtain ⟨s, rfl, _⟩ := DataW.trod_string hu hx
      exact Good.lit (fun h => .str s) rfl rfl, fun fs off cs fuel hc => by simp [chk] at hc⟩
  | .unit => ⟨fun t cs fuel x hc hx => by simp [chk] at hc, fun fs off cs fuel hc hx hl => by
      have : cs.drop off = [] := by rw [List.drop_eq_nil_iff]; simp [PT.size] at hl; omega
      rw [this]
      exact fun h => ⟨h, [], Keeps.refl h, .unit, rfl, (fun c hc => by cases hc), fun ρ M x T _ => ⟨ρ, T, Ren.le_refl ρ, .nil⟩⟩⟩
  | .slice e => ⟨fun t cs fuel x hc hx => by
      unfold chk at hc
      split at hc
      · rename_i u hu
        rw [Bool.and_eq_true, Bool.and_eq_true] at hc
        obtain ⟨⟨hc1, hc2⟩, hc3⟩ := hc
        have hc2 := Nat.eq_of_beq_eq_true hc2
        have hc3 : 0 < e.size := by simpa using hc3
        rcases DataW.trod_slice hu hx with ⟨rfl, _⟩ | ⟨a, len, cap, elems, rest, n, rfl, rfl, _, _, hl, _, hlen, hel, hsp, _⟩
        · exact Good.lit (fun h => .nil e) rfl rfl
        rw [hc2] at hel hsp
        obtain ⟨hsp1, hsp2⟩ := hsp rfl
        have hI : ∀ i, i < cap → ∃ cc, W.cells? 0 (a.add (i * e.size)) e.size = some cc ∧ ∃ y, DataW.trod enc P W 0 (fun _ => true) true n u cc = some y := by
          intro i hi
          by_cases h : i < len
          · have := hel i h
            have h2 : elems[i]? = some (elems[i]'(by omega)) := List.getElem?_eq_getElem _
            rw [h2, Option.bind_eq_some_iff] at this
            obtain ⟨cc, h3, h4⟩ := this
            exact ⟨cc, h3, _, h4⟩
          · have := hsp2 (i - len) (by omega)
            have h2 : rest[i - len]? = some (rest[i - len]'(by omega)) := List.getElem?_eq_getElem _
            rw [h2, Option.bind_eq_some_iff, show len + (i - len) = i by omega] at this
            obtain ⟨cc, h3, h4⟩ := this
            exact ⟨cc, h3, _, h4⟩
        have hcc : ∀ i, i < cap → W.cells? 0 (a.add (i * e.size)) e.size = some ((W.cells? 0 (a.add (i * e.size)) e.size).getD []) := by
          intro i hi
          obtain ⟨cc, h1, _⟩ := hI i hi
          rw [h1]; rfl
        have hat : ∀ i j : Nat, (a.add (i * e.size)).add j = a.add (i * e.size + j) := by
          intro i j
          exact add_add a _ _
        have hok : 0 < cap → a.spot = none ∧ ∃ rc fe fz, W.heap[a.block]? = some (.cells rc fe fz) := by
          intro hcap
          obtain ⟨h1, h2⟩ := cells_at' (hcc 0 hcap)
          have hlt : 0 < ((W.cells? 0 (a.add (0 * e.size)) e.size).getD []).length := by rw [h1]; exact hc3
          obtain ⟨v0, hv0⟩ : ∃ v0, ((W.cells? 0 (a.add (0 * e.size)) e.size).getD [])[0]? = some v0 := ⟨_, List.getElem?_eq_getElem hlt⟩
          have h3 := h2 0 v0 hv0
          have h4 : (a.add (0 * e.size)).add 0 = a := by unfold Addr.add; simp
          rw [h4] at h3
          unfold World.cell? at h3
          split at h3
          · rename_i c elem fz hb
            split at h3
            · cases h3
            · rename_i hns
              exact ⟨by cases hsp : a.spot with | none => rfl | some z => rw [hsp] at hns; simp at hns, c, elem, fz, hb⟩
          · cases h3
        refine Good.slice (cc := fun i => (W.cells? 0 (a.add (i * e.size)) e.size).getD []) hH hok hl (fun i hi => (cells_at' (hcc i hi)).1) hc3 (fun i j v hi hj => ?_) (fun i hi => ?_)
        · have := (cells_at' (hcc i hi)).2 j v hj
          rwa [hat] at this
        · obtain ⟨cc, h1, y, h2⟩ := hI i hi
          have e1 : (W.cells? 0 (a.add (i * e.size)) e.size).getD [] = cc := by rw [h1]; rfl
          show Good W e ((W.cells? 0 (a.add (i * e.size)) e.size).getD [])
          rw [e1]
          exact (trod_good hH e).1 u cc n y hc1 h2
      · exact (nomatch hc), fun fs off cs fuel hc => by simp [chk] at hc⟩
  | .pair f r => by
      have hf := trod_good hH f
      have hr := trod_good hH r
      have key : ∀ (x : Field) (xs : List Field) (off : Nat) (cs : List Value) (fuel : Nat), x.offset = off → chk P f (.inl x.type) = true → P.cellsOf x.type = f.size → chk P r (.inr (xs, off + f.size)) = true →
          (∀ f ∈ x :: xs, ∃ y, DataW.trod enc P W 0 (fun _ => true) true fuel f.type ((cs.drop f.offset).take (P.cellsOf f.type)) = some y) → cs.length = off + (f.size + r.size) → Good W (.pair f r) (cs.drop off) := by
        intro x xs off cs fuel h1 h2 h3 h4 hx hl
        subst h1
        obtain ⟨y, hy⟩ := hx x (by simp)
        rw [h3] at hy
        have e1 : cs.drop x.offset = (cs.drop x.offset).take f.size ++ cs.drop (x.offset + f.size) := by
          rw [← List.drop_drop, List.take_append_drop]
        rw [e1]
        exact Good.pair (hf.1 x.type _ fuel y h2 hy) (hr.2 xs (x.offset + f.size) cs fuel h4 (fun g hg => hx g (by simp [hg])) (by omega))
      refine ⟨fun t cs fuel y hc hy => ?_, fun fs off cs fuel hc hx hl => ?_⟩
      · simp only [chk] at hc
        split at hc
        · rename_i fs hu
          split at hc
          · rename_i x xs hfs
            simp only [Bool.and_eq_true] at hc
            obtain ⟨⟨⟨⟨c1, c2⟩, c3⟩, c4⟩, c5⟩ := hc
            have c1 := Nat.eq_of_beq_eq_true c1
            have c3 := Nat.eq_of_beq_eq_true c3
            have c5 := Nat.eq_of_beq_eq_true c5
            obtain ⟨ys, n, rfl, _, hl, hys, hget⟩ := DataW.trod_struct hu hy
            have := key x xs 0 cs n c1 c2 c3 c4 (fun g hg => ?_) (by rw [hl, c5]; omega)
            · simpa using this
            · obtain ⟨i, hi⟩ := List.mem_iff_getElem?.1 hg
              rw [← hfs] at hi
              have hi' : fs[i]? = some g := by simpa using hi
              have h2 := hget i g hi'
              have hlt : i < ys.length := by rw [hys]; exact (Array.getElem?_eq_some_iff.1 hi').1
              exact ⟨ys[i], by rw [h2]; exact List.getElem?_eq_getElem hlt⟩
          · cases hc
        · cases hc
      · cases fs with
        | nil => simp [chk] at hc
        | cons x xs =>
          simp only [chk, Bool.and_eq_true] at hc
          obtain ⟨⟨⟨c1, c2⟩, c3⟩, c4⟩ := hc
          have c1 := Nat.eq_of_beq_eq_true c1
          have c3 := Nat.eq_of_beq_eq_true c3
          exact key x xs off cs fuel c1 c2 c3 c4 hx hl
end
end Vm

/-! A law by its walk in the abstract run. -/
set_option linter.unusedVariables false
namespace Vm
open Go Go.ChangeShapes Go.WideShapes Go.ChangeAt Go.RowKit
def PT.isStruct : PT → Bool
  | .unit => true
  | .pair _ _ => true
  | _ => false
/-- a value of a plain type -/
def RepV (h : Heap) (t : PT) (v : Value) : Prop := bif t.isStruct then ∃ cs : List Value, v = .agg cs.toArray ∧ Rep h t cs else Rep h t [v]
def RepVs (h : Heap) : List PT → List Value → Prop
  | [], [] => True
  | t :: ts, v :: vs => RepV h t v ∧ RepVs h ts vs
  | _, _ => False
theorem RepV.keeps {h h' : Heap} {t : PT} {v : Value} (r : RepV h t v) (k : Keeps h h') : RepV h' t v := by
  unfold RepV at *
  cases hs : t.isStruct with
  | true => rw [hs] at r; obtain ⟨cs, h1, h2⟩ := r; exact ⟨cs, h1, h2.keeps k⟩
  | false => rw [hs] at r; exact Rep.keeps r k
theorem RepVs.keeps {h h' : Heap} (k : Keeps h h') : ∀ {ts : List PT} {vs : List Value}, RepVs h ts vs → RepVs h' ts vs
  | [], [], _ => trivial
  | t :: ts, v :: vs, ⟨h1, h2⟩ => ⟨h1.keeps k, RepVs.keeps k h2⟩
section
variable {H : Type} {enc : TypeId × Value → H} {P : Program} {W : World} {base : Nat}
theorem okWide_not_agg {t : TypeId} {cs : Array Value} (h : Cell.okWide P W .any base t (.agg cs)) : False := by
  unfold Cell.okWide at h
  split at h <;> try (rename_i he; cases he; done)
  unfold Cell.ok at h
  split at h <;> first | exact h | (rename_i he; cases he)
/-- how a type lies: is it a struct? -/
def structAt (P : Program) (t : TypeId) : Bool := match P.underlying t with | some (.struct _) => true | _ => false
theorem chk_struct {pt : PT} {t : TypeId} (h : chk P pt (.inl t) = true) : structAt P t = pt.isStruct := by
  unfold structAt
  cases pt <;> simp only [chk] at h <;> (try split at h) <;> simp_all [PT.isStruct]
theorem argV {pt : PT} {t : TypeId} {v : Value} {d : DataW H} {ps : List MemPlace} (hc : chk P pt (.inl t) = true) (hH : HasCells W) (hv : Value.okWide P W .any base t v)
    (hT : DataW.Trod enc P W 0 (fun _ => true) true t v d ps) (h : Heap) :
    ∃ (h' : Heap) (u : Value), Keeps h h' ∧ RepV h' pt u ∧ ∀ ρ M x, Tie ρ W.heap.size M x h W → h'.next ≤ M → ∃ ρ', Tie ρ' W.heap.size M x h' W ∧ ρ.le ρ' ∧ VR ρ' u v := by
  obtain ⟨fuel, hT⟩ := hT
  have hst := chk_struct hc
  unfold structAt at hst
  cases hs : pt.isStruct with
  | true =>
    rw [hs] at hst
    split at hst
    · rename_i fs hu
      unfold Value.okWide at hv
      rw [hu] at hv
      obtain ⟨cs, rfl, _⟩ := hv
      have hg := (trod_good hH pt).1 t _ fuel _ hc hT
      obtain ⟨h', vs, k, r, _, o, T⟩ := hg h
      refine ⟨h', .agg vs.toArray, k, ?_, fun ρ M x hT hM => ?_⟩
      · unfold RepV; rw [hs]; exact ⟨vs, rfl, r⟩
      · obtain ⟨ρ', T', le, vr⟩ := T ρ M x hT hM
        refine ⟨ρ', T', le, .agg (by simpa [Value.cells] using vr) (fun c hc' => o c (by simpa [Value.cells] using hc'))⟩
    · cases hst
  | false =>
    rw [hs] at hst
    have hv' : Cell.okWide P W .any base t v := by
      unfold Value.okWide at hv
      split at hv
      · rename_i hu; rw [hu] at hst; cases hst
      · rename_i hu
        exfalso
        cases pt <;> simp only [chk, hu] at hc <;> cases hc
      · exact hv
    have hcells : v.cells.toList = [v] := by
      cases v with
      | agg cs => exact (okWide_not_agg hv').elim
      | _ => rfl
    rw [hcells] at hT
    have hg := (trod_good hH pt).1 t _ fuel _ hc hT
    obtain ⟨h', vs, k, r, l, o, T⟩ := hg h
    have h1 : pt.size = 1 := by cases pt <;> first | rfl | cases hs
    rw [h1] at l
    obtain ⟨u, rfl⟩ := List.length_eq_one_iff.1 l
    refine ⟨h', u, k, ?_, fun ρ M x hT hM => ?_⟩
    · unfold RepV; rw [hs]; exact r
    · obtain ⟨ρ', T', le, vr⟩ := T ρ M x hT hM
      cases vr with
      | cons vr _ => exact ⟨ρ', T', le, vr⟩
theorem argsV : ∀ {pts : List PT} {ts : List TypeId} {vs : List Value} {ds : List (DataW H)} {ps : List MemPlace}, ts.length = pts.length → (∀ (j : Nat) t pt, ts[j]? = some t → pts[j]? = some pt → chk P pt (.inl t) = true) → HasCells W →
    (∀ (j : Nat) t v, ts[j]? = some t → vs[j]? = some v → Value.okWide P W .any base t v) → DataW.TrodAll enc P W 0 (fun _ => true) true ts vs ds ps → ∀ h : Heap,
    ∃ (h' : Heap) (us : List Value), Keeps h h' ∧ RepVs h' pts us ∧ ∀ ρ M x, Tie ρ W.heap.size M x h W → h'.next ≤ M → ∃ ρ', Tie ρ' W.heap.size M x h' W ∧ ρ.le ρ' ∧ VRs ρ' us vs
  | [], [], [], [], ps, _, _, _, _, _, h => ⟨h, [], Keeps.refl h, trivial, fun ρ M x T _ => ⟨ρ, T, Ren.le_refl ρ, .nil⟩⟩
  | pt :: pts, t :: ts, v :: vs, d :: ds, ps, hl, hc, hd, hv, hT, h => by
    obtain ⟨p, q, hT1, hT2, rfl⟩ := hT
    obtain ⟨h1, u, k1, r1, T1⟩ := argV (hc 0 t pt rfl rfl) hd (hv 0 t v rfl rfl) hT1 h
    obtain ⟨h2, us, k2, r2, T2⟩ := argsV (by simpa using hl) (fun j t' pt' a b => hc (j + 1) t' pt' (by simpa using a) (by simpa using b)) hd (fun j t' v' a b => hv (j + 1) t' v' (by simpa using a) (by simpa using b)) hT2 h1
    refine ⟨h2, u :: us, k1.trans k2, ⟨r1.keeps k2, r2⟩, fun ρ M x T hM => ?_⟩
    obtain ⟨ρ1, T1', le1, vr1⟩ := T1 ρ M x T (Nat.le_trans k2.next hM)
    obtain ⟨ρ2, T2', le2, vr2⟩ := T2 ρ1 M x T1' hM
    exact ⟨ρ2, T2', Ren.le_trans le1 le2, .cons (vr1.mono le2) vr2⟩
  | [], _ :: _, _, _, _, hl, _, _, _, _, _ => by simp at hl
  | _ :: _, [], _, _, _, hl, _, _, _, _, _ => by simp at hl
  | _ :: _, _ :: _, [], _, _, _, _, _, _, hT, _ => by cases hT
  | _ :: _, _ :: _, _ :: _, [], _, _, _, _, _, hT, _ => by cases hT
  | [], [], [], _ :: _, _, _, _, _, _, hT, _ => by cases hT
  | [], [], _ :: _, _, _, _, _, _, _, hT, _ => by cases hT
def entersB (P : Program) (f : FuncId) : Bool := match P.funcs[f]? with | some fn => fn.name != "runtime.NumGoroutine" && fn.body.isSome | none => false
theorem enters_of {f : FuncId} (h : entersB P f = true) : Enters P f := by
  unfold entersB at h
  split at h
  · rename_i fn hf
    rw [Bool.and_eq_true] at h
    exact ⟨fn, hf, by simpa using h.1, by have := h.2; cases hb : fn.body <;> simp_all⟩
  · cases h
/-- a law's call, by its walk -/
theorem law_call {f : FuncId} {fn : Func} {args : Array Value} {ds : List (DataW H)} {ps : List MemPlace} (hm : P.follows .mixedOrders = true) (pts : List PT)
    (hchk : (Nat.beq fn.params.size pts.length && (fn.params.toList.zip pts).all fun x => chk P x.2 (.inl x.1)) = true) (hd : HasCells W)
    (hv : ∀ (j : Nat) t v, fn.params[j]? = some t → args[j]? = some v → Value.okWide P W .any base t v) (hT : DataW.TrodAll enc P W 0 (fun _ => true) true fn.params.toList args.toList ds ps)
    {Γ : Sums} (hΓ : SumsOK P W.heap.size Γ) (walk : ∀ (h : Heap) (us : List Value), RepVs h pts us → ∃ n, ResQ (callN P Γ n (.call f us) h) (fun r h' => r = .bool true)) :
    Calls P f args W fun e W' => e = .returned (.bool true) ∧ Below W.heap.size W W' := by
  rw [Bool.and_eq_true] at hchk
  have hl : fn.params.toList.length = pts.length := by have := Nat.eq_of_beq_eq_true hchk.1; simpa using this
  obtain ⟨h, us, k, r, T⟩ := argsV (base := base) hl (fun j t pt h1 h2 => List.all_eq_true.1 hchk.2 (t, pt) (List.mem_of_getElem? (List.getElem?_zip_eq_some.2 ⟨h1, h2⟩))) hd (fun j t v h1 h2 => hv j t v (by simpa using h1) (by simpa using h2)) hT ⟨0, .nil⟩
  obtain ⟨n, v, h', hr, rfl⟩ := walk h us r
  obtain ⟨ρ, T', _, vr⟩ := T (fun _ => none) (Nat.max h.next h'.next) (fun _ => none) (tie_empty W _) (Nat.le_max_left _ _)
  exact call_true hm T' hΓ vr hr (Nat.le_max_right _ _)
/-- a law's call, by its walk -/
theorem law_call_tied {f : FuncId} {fn : Func} {args : Array Value} {ds : List (DataW H)} {ps : List MemPlace} (hm : P.follows .mixedOrders = true) (pts : List PT)
    (hchk : (Nat.beq fn.params.size pts.length && (fn.params.toList.zip pts).all fun x => chk P x.2 (.inl x.1)) = true) (hd : HasCells W)
    (hv : ∀ (j : Nat) t v, fn.params[j]? = some t → args[j]? = some v → Value.okWide P W .any base t v) (hT : DataW.TrodAll enc P W 0 (fun _ => true) true fn.params.toList args.toList ds ps)
    {Γ : Sums} (hΓ : SumsOK P W.heap.size Γ) (walk : ∀ (h : Heap) (us : List Value), RepVs h pts us → (∃ ρ, VRs ρ us args.toList) → ∃ n, ResQ (callN P Γ n (.call f us) h) (fun r h' => r = .bool true)) :
    Calls P f args W fun e W' => e = .returned (.bool true) ∧ Below W.heap.size W W' := by
  rw [Bool.and_eq_true] at hchk
  have hl : fn.params.toList.length = pts.length := by have := Nat.eq_of_beq_eq_true hchk.1; simpa using this
  obtain ⟨h, us, k, r, T⟩ := argsV (base := base) hl (fun j t pt h1 h2 => List.all_eq_true.1 hchk.2 (t, pt) (List.mem_of_getElem? (List.getElem?_zip_eq_some.2 ⟨h1, h2⟩))) hd (fun j t v h1 h2 => hv j t v (by simpa using h1) (by simpa using h2)) hT ⟨0, .nil⟩
  obtain ⟨ρ0, _, _, vr0⟩ := T (fun _ => none) h.next (fun _ => none) (tie_empty W _) (Nat.le_refl _)
  obtain ⟨n, v, h', hr, rfl⟩ := walk h us r ⟨ρ0, vr0⟩
  obtain ⟨ρ, T', _, vr⟩ := T (fun _ => none) (Nat.max h.next h'.next) (fun _ => none) (tie_empty W _) (Nat.le_max_left _ _)
  exact call_true hm T' hΓ vr hr (Nat.le_max_right _ _)
end
end Vm

/-! What arguments of plain types are. -/
set_option linter.unusedVariables false
namespace Vm
open Go
theorem flatten_length {sz : Nat} : ∀ (l : List (List Value)), (∀ c ∈ l, c.length = sz) → l.flatten.length = l.length * sz
  | [], _ => by simp
  | x :: l, hx => by rw [List.flatten_cons, List.length_append, flatten_length l (fun c hc => hx c (by simp [hc])), hx x (by simp), List.length_cons, Nat.add_mul]; omega
theorem flatten_take {sz : Nat} : ∀ (l : List (List Value)) (n : Nat), (∀ c ∈ l, c.length = sz) → (l.take n).flatten = l.flatten.take (n * sz)
  | [], n, _ => by simp
  | x :: l, 0, _ => by simp
  | x :: l, n + 1, hx => by
    have h1 := hx x (by simp)
    have e : (n + 1) * sz = x.length + n * sz := by rw [h1, Nat.add_mul]; omega
    rw [List.take_succ_cons, List.flatten_cons, List.flatten_cons, flatten_take l n (fun c hc => hx c (by simp [hc])), e, List.take_length_add_append]
theorem Rep.row {h : Heap} {e : PT} {v : Value} (r : Rep h (.slice e) [v]) : ∃ (o : Option Addr) (m c : Nat) (els : List (List Value)), v = .slice o m c ∧ Row h e.size o m els.flatten ∧ els.length = m ∧ (∀ c ∈ els, c.length = e.size) ∧ (∀ c ∈ els, Rep h e c) ∧ m ≤ c ∧ (o = none → c = 0) := by
  cases r with
  | nil => exact ⟨none, 0, 0, [], rfl, Row.nil h _, rfl, (fun c hc => by cases hc), (fun c hc => by cases hc), Nat.le_refl _, fun _ => rfl⟩
  | @slice e b len cap ty els hb hg hlen hl hsz each =>
    refine ⟨some ⟨b, 0, none⟩, len, cap, els.take len, rfl, ?_, by rw [List.length_take]; omega, fun c hc => hsz c (List.mem_of_mem_take hc), fun c hc => each c (List.mem_of_mem_take hc), hl, fun e => by cases e⟩
    have h1 : (els.take len).flatten.length = len * e.size := by rw [flatten_length _ (fun c hc => hsz c (List.mem_of_mem_take hc)), List.length_take]; congr 1; omega
    refine ⟨h1, hb, .inl rfl, ?_⟩
    have h2 := flatten_length els hsz
    have h3 : len * e.size ≤ els.flatten.length := by rw [h2, hlen]; exact Nat.mul_le_mul_right _ hl
    rw [loadN_of (q := ⟨b, 0, none⟩) hg (by simp) (by simpa using h3), List.drop_zero, flatten_take els len hsz]
theorem wf_u8 {n : Int} (h : (Lit.int .u8 n).wf = true) : ∃ b : UInt8, n = ((b.toNat : Nat) : Int) := by
  simp [Lit.wf, IntKind.min, IntKind.max, IntKind.bits, IntKind.signed] at h
  refine ⟨UInt8.ofNat n.toNat, ?_⟩
  rw [UInt8.toNat_ofNat']
  omega
theorem u8s_of : ∀ (els : List (List Value)) {h : Heap}, (∀ c ∈ els, Rep h (.int .u8) c) → ∃ l : List UInt8, els.flatten = u8s l
  | [], _, _ => ⟨[], rfl⟩
  | x :: els, h, hx => by
    obtain ⟨l, hl⟩ := u8s_of els (fun c hc => hx c (by simp [hc]))
    cases hx x (by simp) with
    | int hn =>
      obtain ⟨b, rfl⟩ := wf_u8 hn
      refine ⟨b :: l, ?_⟩
      rw [List.flatten_cons, hl]; rfl
/-- octets -/
theorem RepV.bytes {h : Heap} {v : Value} (r : RepV h (.slice (.int .u8)) v) : ∃ (o : Option Addr) (m c : Nat) (l : List UInt8), v = .slice o m c ∧ Row h 1 o m (u8s l) ∧ m ≤ c ∧ (o = none → c = 0) := by
  obtain ⟨o, m, c, els, h1, h2, h3, h4, h5, h6, h7⟩ := Rep.row r
  obtain ⟨l, hl⟩ := u8s_of els h5
  exact ⟨o, m, c, l, h1, by rw [← hl]; exact h2, h6, h7⟩
theorem RepV.int {h : Heap} {k : IntKind} {v : Value} (r : RepV h (.int k) v) : ∃ n : Int, v = .int k n ∧ (Lit.int k n).wf = true := by
  cases (show Rep h (.int k) [v] from r) with
  | int hn => exact ⟨_, rfl, hn⟩
theorem RepV.bool {h : Heap} {v : Value} (r : RepV h .bool v) : ∃ b : Bool, v = .bool b := by
  cases (show Rep h .bool [v] from r) with
  | bool b => exact ⟨b, rfl⟩
theorem RepV.str {h : Heap} {v : Value} (r : RepV h .str v) : ∃ s : ByteArray, v = .string s := by
  cases (show Rep h .str [v] from r) with
  | str b => exact ⟨b, rfl⟩
theorem RepV.u8 {h : Heap} {v : Value} (r : RepV h (.int .u8) v) : ∃ n : Nat, v = .int .u8 (n : Int) ∧ n < 256 := by
  obtain ⟨n, rfl, hn⟩ := r.int
  simp [Lit.wf, IntKind.min, IntKind.max, IntKind.bits, IntKind.signed] at hn
  exact ⟨n.toNat, by congr 1; omega, by omega⟩
theorem RepV.u16 {h : Heap} {v : Value} (r : RepV h (.int .u16) v) : ∃ n : Nat, v = .int .u16 (n : Int) ∧ n < 65536 := by
  obtain ⟨n, rfl, hn⟩ := r.int
  simp [Lit.wf, IntKind.min, IntKind.max, IntKind.bits, IntKind.signed] at hn
  exact ⟨n.toNat, by congr 1; omega, by omega⟩
theorem RepV.u32 {h : Heap} {v : Value} (r : RepV h (.int .u32) v) : ∃ n : Nat, v = .int .u32 (n : Int) ∧ n < 4294967296 := by
  obtain ⟨n, rfl, hn⟩ := r.int
  simp [Lit.wf, IntKind.min, IntKind.max, IntKind.bits, IntKind.signed] at hn
  exact ⟨n.toNat, by congr 1; omega, by omega⟩
theorem RepV.i64 {h : Heap} {v : Value} (r : RepV h (.int .i64) v) : ∃ n : Int, v = .int .i64 n ∧ -9223372036854775808 ≤ n ∧ n ≤ 9223372036854775807 := by
  obtain ⟨n, rfl, hn⟩ := r.int
  simp [Lit.wf, IntKind.min, IntKind.max, IntKind.bits, IntKind.signed] at hn
  exact ⟨n, rfl, by omega, by omega⟩
/-- pairs of numbers, as cells -/
def pairsC (l : List (Int × Int)) : List Value := l.flatMap fun p => [.int .i64 p.1, .int .i64 p.2]
theorem pairs_of : ∀ (els : List (List Value)) {h : Heap}, (∀ c ∈ els, Rep h (.pair (.int .i64) (.pair (.int .i64) .unit)) c) → ∃ l : List (Int × Int), els.flatten = pairsC l ∧ l.length = els.length ∧ ∀ p ∈ l, -9223372036854775808 ≤ p.1 ∧ p.1 ≤ 9223372036854775807 ∧ -9223372036854775808 ≤ p.2 ∧ p.2 ≤ 9223372036854775807
  | [], _, _ => ⟨[], rfl, rfl, fun p hp => by cases hp⟩
  | x :: els, h, hx => by
    obtain ⟨l, hl, hlen, hr⟩ := pairs_of els (fun c hc => hx c (by simp [hc]))
    cases hx x (by simp) with
    | pair h1 hf hr' =>
      cases hf with
      | @int k1 n1 w1 =>
        cases hr' with
        | pair h2 hf2 hr2 =>
          cases hf2 with
          | @int k2 n2 w2 =>
            cases hr2 with
            | unit =>
              simp [Lit.wf, IntKind.min, IntKind.max, IntKind.bits, IntKind.signed] at w1 w2
              refine ⟨(n1, n2) :: l, ?_, by simp [hlen], fun p hp => ?_⟩
              · rw [List.flatten_cons, hl]; rfl
              · rcases List.mem_cons.1 hp with rfl | hp
                · exact ⟨by omega, by omega, by omega, by omega⟩
                · exact hr p hp
theorem RepV.pairs {h : Heap} {v : Value} (r : RepV h (.slice (.pair (.int .i64) (.pair (.int .i64) .unit))) v) : ∃ (o : Option Addr) (m c : Nat) (l : List (Int × Int)), v = .slice o m c ∧ Row h 2 o m (pairsC l) ∧ l.length = m ∧ m ≤ c ∧ ∀ p ∈ l, -9223372036854775808 ≤ p.1 ∧ p.1 ≤ 9223372036854775807 ∧ -9223372036854775808 ≤ p.2 ∧ p.2 ≤ 9223372036854775807 := by
  obtain ⟨o, m, c, els, h1, h2, h3, h4, h5, h6, h7⟩ := Rep.row r
  obtain ⟨l, hl, hlen, hr⟩ := pairs_of els h5
  exact ⟨o, m, c, l, h1, by rw [← hl]; exact h2, by rw [hlen, h3], h6, hr⟩
theorem pairsC_at : ∀ (l : List (Int × Int)) (i : Nat) {p : Int × Int}, l[i]? = some p → (pairsC l)[i * 2]? = some (.int .i64 p.1) ∧ (pairsC l)[i * 2 + 1]? = some (.int .i64 p.2)
  | [], i, p, h => by simp at h
  | x :: l, 0, p, h => by simp at h; subst h; exact ⟨rfl, rfl⟩
  | x :: l, i + 1, p, h => by
    have := pairsC_at l i (by simpa using h)
    rw [show (i + 1) * 2 = i * 2 + 1 + 1 by omega]
    exact this
theorem VRs.two {ρ : Ren} {a b : Value} {l : List Value} (h : VRs ρ [a, b] l) : ∃ x y, l = [x, y] ∧ VR ρ a x ∧ VR ρ b y := by
  cases h with
  | cons h1 h2 => cases h2 with
    | cons h3 h4 => cases h4; exact ⟨_, _, rfl, h1, h3⟩
theorem VR.slice_len {ρ : Ren} {o : Option Addr} {m c : Nat} {v : Value} (h : VR ρ (.slice o m c) v) : ∃ o' c', v = .slice o' m c' := by
  cases h with
  | same h => exact ⟨_, _, rfl⟩
  | slice _ _ _ => exact ⟨_, _, rfl⟩
/-- an argument's size -/
theorem size_slice {H : Type} {enc : TypeId × Value → H} {P : Program} {W : World} {ts : List TypeId} {vs : List Value} {ds : List (DataW H)} {ps : List MemPlace} (hT : DataW.TrodAll enc P W 0 (fun _ => true) true ts vs ds ps)
    (hs : (DataW.weightsEach P ts ds).all (· ≤ reachBytes) = true) : ∀ {j : Nat} {t e : TypeId} {o : Option Addr} {m c : Nat}, ts[j]? = some t → P.underlying t = some (.slice e) → vs[j]? = some (.slice o m c) → m * P.bytesOf e ≤ reachBytes := by
  intro j t e o m c ht hu hv
  have key : ∀ {ts : List TypeId} {vs : List Value} {ds : List (DataW H)} {ps : List MemPlace}, DataW.TrodAll enc P W 0 (fun _ => true) true ts vs ds ps → ∀ {j : Nat} {t : TypeId} {v : Value}, ts[j]? = some t → vs[j]? = some v → ∃ d p, ds[j]? = some d ∧ DataW.Trod enc P W 0 (fun _ => true) true t v d p := by
    intro ts
    induction ts with
    | nil => intro vs ds ps _ j t v h; simp at h
    | cons t0 ts ih =>
      intro vs ds ps h j t v ht hv
      cases vs with
      | nil => simp at hv
      | cons v0 vs => cases ds with
        | nil => exact h.elim
        | cons d ds =>
          obtain ⟨p, q, h1, h2, _⟩ := h
          cases j with
          | zero => simp at ht hv; subst ht hv; exact ⟨d, p, rfl, h1⟩
          | succ j =>
            obtain ⟨d', p', h3, h4⟩ := ih h2 (j := j) (by simpa using ht) (by simpa using hv)
            exact ⟨d', p', by simpa using h3, h4⟩
  obtain ⟨d, p, hd, fuel, hx⟩ := key hT ht hv
  have hcells : (Value.slice o m c).cells.toList = [.slice o m c] := rfl
  rw [hcells] at hx
  rcases DataW.trod_slice hu hx with ⟨h1, h2⟩ | ⟨a, len, cap, elems, rest, n, _, h1, h2, _, _, _, hlen, _⟩
  · cases h1
    rw [Nat.zero_mul]; exact Nat.zero_le _
  · cases h1
    cases h2
    have := sized_slice hs ht hd hu
    rw [List.length_map, List.length_map, hlen] at this
    exact Nat.le_trans (Nat.mul_le_mul_right _ (Nat.le_add_right _ _)) this
end Vm

