/- Part of a proof by an abstract run of the program's code: UChkA. No condition. -/
import Derived.Test.YtdcllpjoejkpnaaUBckA
import Derived.Test.YtdcllpjoejkpnaaUJoiA
/-! Chunks: what they are, their octets, and what octets are, in plain terms. -/
set_option linter.unusedVariables false
namespace Go.Proofs.Ytdcllpjoejkpnaa
open Go Vm
/-- a chunk -/
structure Chk where
  k : Nat
  fl : Nat
  a : Nat
  b : Nat
  o : Nat
  i : Nat
  p : Nat
  bl : List (Nat × Nat)
  du : List Nat
  sk : List (Nat × Nat)
  pa : List Prm
  da : List UInt8
theorem Chk.ext' {x y : Chk} (h1 : x.k = y.k) (h2 : x.fl = y.fl) (h3 : x.a = y.a) (h4 : x.b = y.b) (h5 : x.o = y.o) (h6 : x.i = y.i) (h7 : x.p = y.p) (h8 : x.bl = y.bl) (h9 : x.du = y.du) (h10 : x.sk = y.sk) (h11 : x.pa = y.pa) (h12 : x.da = y.da) : x = y := by
  cases x; cases y; simp_all
def Chk.zero : Chk := ⟨0, 0, 0, 0, 0, 0, 0, [], [], [], [], []⟩
/-- its numbers are in their bounds -/
structure Chk.Ok (c : Chk) : Prop where
  k : c.k < 256
  fl : c.fl < 256
  a : c.a < 4294967296
  b : c.b < 4294967296
  o : c.o < 65536
  i : c.i < 65536
  p : c.p < 4294967296
  bl : ∀ x ∈ c.bl, x.1 < 65536 ∧ x.2 < 65536
  du : ∀ x ∈ c.du, x < 4294967296
  sk : ∀ x ∈ c.sk, x.1 < 65536 ∧ x.2 < 65536
  pa : ∀ x ∈ c.pa, x.1 < 65536
/-- the fields of a kind, a letter each -/
def lets (k : Nat) : List Nat :=
  if k = 0 then [65, 79, 73, 80, 68] else if k = 1 ∨ k = 2 then [65, 66, 79, 73, 80, 84] else if k = 3 then [65, 66, 67]
  else if k = 4 ∨ k = 5 ∨ k = 6 ∨ k = 9 ∨ k = 130 then [84] else if k = 7 then [65] else if k = 8 ∨ k = 11 ∨ k = 14 then [] else if k = 192 then [65, 83] else [68]
/-- is it a chunk? -/
def Chk.shaped (c : Chk) : Prop :=
  ((65 ∈ lets c.k ∨ c.a = 0) ∧ (66 ∈ lets c.k ∨ c.b = 0) ∧ (79 ∈ lets c.k ∨ c.o = 0) ∧ (73 ∈ lets c.k ∨ c.i = 0) ∧ (80 ∈ lets c.k ∨ c.p = 0)) ∧
  ((67 ∈ lets c.k ∨ (c.bl = [] ∧ c.du = [])) ∧ (83 ∈ lets c.k ∨ c.sk = []) ∧ (84 ∈ lets c.k ∨ c.pa = []) ∧ (68 ∈ lets c.k ∨ c.da = [])) ∧
  (encR c.pa).2 = 0 ∧ c.bl.length ≤ 64 ∧ c.du.length ≤ 64 ∧ c.sk.length ≤ 64 ∧ c.da.length ≤ 1200 ∧ (c.k = 0 → c.da ≠ [])
instance (c : Chk) : Decidable c.shaped := by unfold Chk.shaped; infer_instance
def encPair (x : Nat × Nat) : List UInt8 := down x.1 2 ++ down x.2 2
def encPairs (l : List (Nat × Nat)) : List UInt8 := l.flatMap encPair
def encNums (l : List Nat) : List UInt8 := l.flatMap fun x => down x 4
/-- a field's octets -/
def fieldL (c : Chk) (x : Nat) : List UInt8 :=
  if x = 65 then down c.a 4 else if x = 66 then down c.b 4 else if x = 79 then down c.o 2 else if x = 73 then down c.i 2 else if x = 80 then down c.p 4
  else if x = 67 then down c.bl.length 2 ++ down c.du.length 2 ++ encPairs c.bl ++ encNums c.du else if x = 83 then encPairs c.sk else if x = 84 then (encR c.pa).1 else c.da
def fieldsC (c : Chk) : List UInt8 := (lets c.k).flatMap (fieldL c)
def bodyC (c : Chk) : List UInt8 := [UInt8.ofNat c.k, UInt8.ofNat c.fl] ++ down (4 + (fieldsC c).length) 2 ++ fieldsC c
def padding (n : Nat) : List UInt8 := List.replicate ((4 - n % 4) % 4) 0
def encC (c : Chk) : List UInt8 × Nat := if c.shaped then (bodyC c ++ padding (bodyC c).length, 0) else ([], 1)
/-- what is left to be read, and an error's number -/
abbrev RS := List UInt8 × Nat
def rn (w : Nat) (s : RS) : Nat × RS := if s.2 = 0 then getR s.1 w else (0, s)
def need (φ : Prop) [Decidable φ] (e : Nat) (s : RS) : RS := if s.2 = 0 ∧ ¬φ then (s.1, e) else s
def rdBl : Nat → RS → List (Nat × Nat) × RS
  | 0, s => ([], s)
  | n + 1, s => (((rn 2 s).1, (rn 2 (rn 2 s).2).1) :: (rdBl n (rn 2 (rn 2 s).2).2).1, (rdBl n (rn 2 (rn 2 s).2).2).2)
def rdDu : Nat → RS → List Nat × RS
  | 0, s => ([], s)
  | n + 1, s => ((rn 4 s).1 :: (rdDu n (rn 4 s).2).1, (rdDu n (rn 4 s).2).2)
def rdSk : Nat → RS → List (Nat × Nat) × RS
  | 0, s => if s.2 = 0 ∧ s.1 ≠ [] then (if s.1.length < 4 then ([], (s.1, 3)) else ([], (s.1, 10))) else ([], s)
  | n + 1, s => if s.2 = 0 ∧ s.1 ≠ [] then (if s.1.length < 4 then ([], (s.1, 3)) else
      (((rn 2 s).1, (rn 2 (rn 2 s).2).1) :: (rdSk n (rn 2 (rn 2 s).2).2).1, (rdSk n (rn 2 (rn 2 s).2).2).2)) else ([], s)
/-- octets are read, if they are not too many -/
def rdDa (k : Nat) (s : RS) : List UInt8 × RS :=
  if s.2 = 0 then (if 1200 < s.1.length then ([], (s.1, 10)) else if k = 0 ∧ s.1 = [] then ([], (s.1, 3)) else (s.1, ([], 0))) else ([], s)
def rdPa (s : RS) : List Prm × RS := if s.2 = 0 then ((decL s.1).2, ([], (decL s.1).1)) else ([], s)
def rdSa (s : RS) : (List (Nat × Nat) × List Nat) × RS :=
  if (need ((rn 2 s).1 ≤ 64 ∧ (rn 2 (rn 2 s).2).1 ≤ 64) 10 (rn 2 (rn 2 s).2).2).2 = 0 then
    (((rdBl (rn 2 s).1 (rn 2 (rn 2 s).2).2).1, (rdDu (rn 2 (rn 2 s).2).1 (rdBl (rn 2 s).1 (rn 2 (rn 2 s).2).2).2).1), (rdDu (rn 2 (rn 2 s).2).1 (rdBl (rn 2 s).1 (rn 2 (rn 2 s).2).2).2).2)
  else (([], []), need ((rn 2 s).1 ≤ 64 ∧ (rn 2 (rn 2 s).2).1 ≤ 64) 10 (rn 2 (rn 2 s).2).2)
/-- a field is read -/
def readL (x : Nat) (t : Chk × RS) : Chk × RS :=
  if x = 65 then ({ t.1 with a := (rn 4 t.2).1 }, (rn 4 t.2).2) else if x = 66 then ({ t.1 with b := (rn 4 t.2).1 }, (rn 4 t.2).2)
  else if x = 79 then ({ t.1 with o := (rn 2 t.2).1 }, (rn 2 t.2).2) else if x = 73 then ({ t.1 with i := (rn 2 t.2).1 }, (rn 2 t.2).2)
  else if x = 80 then ({ t.1 with p := (rn 4 t.2).1 }, (rn 4 t.2).2) else if x = 67 then ({ t.1 with bl := (rdSa t.2).1.1, du := (rdSa t.2).1.2 }, (rdSa t.2).2)
  else if x = 83 then ({ t.1 with sk := (rdSk 64 t.2).1 }, (rdSk 64 t.2).2) else if x = 84 then ({ t.1 with pa := (rdPa t.2).1 }, (rdPa t.2).2)
  else ({ t.1 with da := (rdDa t.1.k t.2).1 }, (rdDa t.1.k t.2).2)
def readAll (l : List Nat) (t : Chk × RS) : Chk × RS := l.foldl (fun t x => readL x t) t
def readC (c : Chk) (s : RS) : Chk × RS := ((readAll (lets c.k) (c, s)).1, need ((readAll (lets c.k) (c, s)).2.1 = []) 3 (readAll (lets c.k) (c, s)).2)
/-- the head of a chunk: kind and flags, the length, and what is left -/
def headC (l : List UInt8) : Nat × Nat × RS :=
  ((rn 2 (l, 0)).1, (rn 2 (rn 2 (l, 0)).2).1, need ((rn 2 (rn 2 (l, 0)).2).1 ≤ 4 + (need (4 ≤ (rn 2 (rn 2 (l, 0)).2).1) 3 (rn 2 (rn 2 (l, 0)).2).2).1.length) 2 (need (4 ≤ (rn 2 (rn 2 (l, 0)).2).1) 3 (rn 2 (rn 2 (l, 0)).2).2))
def kindC (l : List UInt8) : Chk := { Chk.zero with k := (headC l).1 / 256, fl := (headC l).1 % 256 }
/-- a chunk's fields as read -/
def ownC (l : List UInt8) : Chk × RS := readC (kindC l) ((headC l).2.2.1.take ((headC l).2.1 - 4), 0)
def restC (l : List UInt8) : List UInt8 × Nat := padR ((headC l).2.2.1.drop ((headC l).2.1 - 4)) ((headC l).2.1 : Int)
/-- the first chunk of octets, how many it takes, or why it is none -/
def decC (l : List UInt8) : Chk × Nat × Nat :=
  if (headC l).2.2.2 ≠ 0 then (Chk.zero, 0, (headC l).2.2.2) else if (ownC l).2.2 ≠ 0 then (Chk.zero, 0, (ownC l).2.2) else if (restC l).2 ≠ 0 then (Chk.zero, 0, (restC l).2)
  else ((ownC l).1, l.length - (restC l).1.length, 0)
end Go.Proofs.Ytdcllpjoejkpnaa

/-! Chunks in the abstract heap; lists that are compared. -/
set_option linter.unusedVariables false
namespace Vm
open Go
theorem i_ldown {rec : Rec} {L : List (Nat × Value)} {f : Fr} {dt : Nat} {h : Heap} {K : Fr → Heap → Prop} {rd : Bool} {x : Sel} {ls : List ISem} {b e off : Nat} {s : Option Nat} {cs : List Value} {op : Bool} {v : Value} (hx : x.f (puts L f) = .pointer (some ⟨b, off, s⟩)) (hg : h.get b = some (.cells e cs (.own op))) (hv : cs[off]? = some v)
    (hq : ItQ (runItems rec ls (puts ((dt, v) :: L) f) h) K) : ItQ (runItems rec (iOp (put dt) (.v rd (oLoad1 x)) :: ls) (puts L f) h) K := i_load1 hx ((load1_own hg).trans hv) hq
theorem i_nea {rec : Rec} {L : List (Nat × Value)} {f : Fr} {dt : Nat} {h : Heap} {K : Fr → Heap → Prop} {rd : Bool} {x y : Sel} {ls : List ISem} {k k' : IntKind} {a b c d : Int} (hx : x.f (puts L f) = .agg #[.int k a, .int k' b]) (hy : y.f (puts L f) = .agg #[.int k c, .int k' d])
    (hq : ItQ (runItems rec ls (puts ((dt, .bool (decide ¬(a = c ∧ b = d))) :: L) f) h) K) : ItQ (runItems rec (iOp (put dt) (.v rd (oNe (.agg [1, 1]) x y)) :: ls) (puts L f) h) K := i_v (by
  simp only [oNe, hx, hy]
  show (match eqL [1, 1] [.int k a, .int k' b] [.int k c, .int k' d] with | some b => some (Value.bool !b) | none => none) = _
  have e1 : ∀ (k : IntKind) (p q : Int), eqP 1 (.int k p) (.int k q) = some (eqI p q) := fun k p q => by
    show (bif Nat.beq (kc k) (kc k) then some (eqI p q) else none) = _
    rw [Nat.beq_refl]; rfl
  have e2 : ∀ p q : Int, eqI p q = decide (p = q) := eqI_eq
  have e3 : eqL [1, 1] [.int k a, .int k' b] [.int k c, .int k' d] = (match eqP 1 (.int k a) (.int k c) with | some true => (match eqP 1 (.int k' b) (.int k' d) with | some true => some true | some false => some false | none => none) | some false => some false | none => none) := rfl
  rw [e3, e1, e1, e2, e2]
  by_cases h1 : a = c <;> by_cases h2 : b = d <;> simp [h1, h2]) hq
/-- a code is cut in two -/
theorem o_cut {rec : Rec} {n : Nat} {a : Fr} {h : Heap} {Q : Ex → Fr → Heap → Prop} {x y : Sem} (Mid : Fr → Heap → Prop) (h1 : OutQ (x.f rec n a h) (fun e a h => e = .normal ∧ Mid a h)) (h2 : ∀ a h, Mid a h → OutQ (y.f rec n a h) Q) : OutQ ((sSeq x y).f rec n a h) Q :=
  out_seq (h1.mono fun e a h ⟨he, hm⟩ => by subst he; exact h2 a h hm)
/-- pairs of numbers of 16 bits, and numbers of 32 bits, as cells -/
def pr16 (l : List (Nat × Nat)) : List Value := l.flatMap fun p => [.int .u16 (p.1 : Int), .int .u16 (p.2 : Int)]
def n32 (l : List Nat) : List Value := l.map fun (x : Nat) => .int .u32 (x : Int)
theorem pr16_length : ∀ (l : List (Nat × Nat)), (pr16 l).length = l.length * 2
  | [] => rfl
  | p :: l => by
    have := pr16_length l
    simp only [pr16, List.flatMap_cons, List.length_append, List.length_cons, List.length_nil] at this ⊢
    omega
theorem n32_length (l : List Nat) : (n32 l).length = l.length := by simp [n32]
theorem pr16_drop : ∀ (l : List (Nat × Nat)) (i : Nat), (pr16 l).drop (i * 2) = pr16 (l.drop i)
  | l, 0 => by simp
  | [], i + 1 => by simp [pr16]
  | p :: l, i + 1 => by
    rw [show (i + 1) * 2 = i * 2 + 2 by omega, List.drop_succ_cons, ← pr16_drop l i]
    rfl
theorem pr16_at {l : List (Nat × Nat)} {i : Nat} {p : Nat × Nat} (h : l[i]? = some p) : ((pr16 l).drop (i * 2)).take 2 = [.int .u16 (p.1 : Int), .int .u16 (p.2 : Int)] := by
  rw [pr16_drop, drop_cons h]; rfl
theorem pr16_at0 {l : List (Nat × Nat)} {i : Nat} {p : Nat × Nat} (h : l[i]? = some p) : (pr16 l)[i * 2]? = some (.int .u16 (p.1 : Int)) := by
  have e : (pr16 l)[i * 2 + 0]? = ((pr16 l).drop (i * 2))[0]? := List.getElem?_drop.symm
  refine e.trans ?_
  rw [pr16_drop, drop_cons h]; rfl
theorem pr16_at1 {l : List (Nat × Nat)} {i : Nat} {p : Nat × Nat} (h : l[i]? = some p) : (pr16 l)[i * 2 + 1]? = some (.int .u16 (p.2 : Int)) := by
  have e : (pr16 l)[i * 2 + 1]? = ((pr16 l).drop (i * 2))[1]? := List.getElem?_drop.symm
  refine e.trans ?_
  rw [pr16_drop, drop_cons h]; rfl
theorem n32_at {l : List Nat} {i : Nat} {p : Nat} (h : l[i]? = some p) : (n32 l)[i]? = some (.int .u32 (p : Int)) := by
  rw [n32, List.getElem?_map, h]; rfl
theorem pr16_app (l m : List (Nat × Nat)) : pr16 (l ++ m) = pr16 l ++ pr16 m := by simp [pr16, List.flatMap_append]
theorem n32_app (l m : List Nat) : n32 (l ++ m) = n32 l ++ n32 m := by simp [n32]
theorem take_snoc {α : Type} {l m : List α} {i : Nat} {x : α} (h : l.take i = m.take i) (hl : l[i]? = some x) (hm : m[i]? = some x) : l.take (i + 1) = m.take (i + 1) := by
  rw [List.take_add_one, List.take_add_one, h, hl, hm]
theorem take_ne {α : Type} {l m : List α} {i : Nat} {x y : α} (hl : l[i]? = some x) (hm : m[i]? = some y) (hn : x ≠ y) : l ≠ m := fun e => by
  subst e; rw [hl] at hm; cases hm; exact hn rfl
end Vm
namespace Go.Proofs.Ytdcllpjoejkpnaa
open Go Vm
instance : DecidableEq Chk := fun x y => decidable_of_iff (x.k = y.k ∧ x.fl = y.fl ∧ x.a = y.a ∧ x.b = y.b ∧ x.o = y.o ∧ x.i = y.i ∧ x.p = y.p ∧ x.bl = y.bl ∧ x.du = y.du ∧ x.sk = y.sk ∧ x.pa = y.pa ∧ x.da = y.da)
  ⟨fun ⟨h1, h2, h3, h4, h5, h6, h7, h8, h9, h10, h11, h12⟩ => Chk.ext' h1 h2 h3 h4 h5 h6 h7 h8 h9 h10 h11 h12, fun h => by subst h; exact ⟨rfl, rfl, rfl, rfl, rfl, rfl, rfl, rfl, rfl, rfl, rfl, rfl⟩⟩
/-- a chunk's cells -/
def ChV (h : Heap) (c : Chk) (v : List Value) : Prop := ∃ (o1 : Option Addr) (c1 : Nat) (o2 : Option Addr) (c2 : Nat) (o3 : Option Addr) (c3 : Nat) (o4 : Option Addr) (c4 : Nat) (o5 : Option Addr) (c5 : Nat) (ps : List Value),
  v = [.int .u8 (c.k : Int), .int .u8 (c.fl : Int), .int .u32 (c.a : Int), .int .u32 (c.b : Int), .int .u16 (c.o : Int), .int .u16 (c.i : Int), .int .u32 (c.p : Int), .slice o1 c.bl.length c1, .slice o2 c.du.length c2, .slice o3 c.sk.length c3, .slice o4 c.pa.length c4, .slice o5 c.da.length c5] ∧
  Row h 2 o1 c.bl.length (pr16 c.bl) ∧ Row h 1 o2 c.du.length (n32 c.du) ∧ Row h 2 o3 c.sk.length (pr16 c.sk) ∧ (Row h 2 o4 c.pa.length ps ∧ PrL h c.pa ps) ∧ Row h 1 o5 c.da.length (u8s c.da) ∧ (c.bl.length ≤ c1 ∧ c.du.length ≤ c2 ∧ c.sk.length ≤ c3 ∧ c.pa.length ≤ c4 ∧ c.da.length ≤ c5) ∧ c.k < 256 ∧ c.fl < 256
theorem ChV.len {h : Heap} {c : Chk} {v : List Value} (r : ChV h c v) : v.length = 12 := by
  obtain ⟨o1, c1, o2, c2, o3, c3, o4, c4, o5, c5, ps, e, _⟩ := r
  rw [e]; rfl
theorem ChV.keeps {h h' : Heap} {c : Chk} {v : List Value} (r : ChV h c v) (k : Keeps h h') : ChV h' c v := by
  obtain ⟨o1, c1, o2, c2, o3, c3, o4, c4, o5, c5, ps, e, r1, r2, r3, ⟨r4, p4⟩, r5, h1⟩ := r
  exact ⟨o1, c1, o2, c2, o3, c3, o4, c4, o5, c5, ps, e, r1.keeps k, r2.keeps k, r3.keeps k, ⟨r4.keeps k, p4.keeps k⟩, r5.keeps k, h1⟩
theorem w_eqBl {h : Heap} {o o' : Option Addr} {c c' : Nat} {la lb : List (Nat × Nat)} (ha : Row h 2 o la.length (pr16 la)) (hb : Row h 2 o' lb.length (pr16 lb)) (hbig : la.length ≤ 1000000) (n : Nat) (hn : 3 + la.length ≤ n) :
    ResQ (callN Try.prog G0 n (.call 81 [.slice o la.length c, .slice o' lb.length c']) h) (fun v h' => v = .bool (decide (la = lb)) ∧ h = h') := by
  obtain ⟨n, rfl⟩ : ∃ m, n = m + 1 := ⟨n - 1, by omega⟩
  refine res_enter rfl d81 rfl ?_; simp only [c81]
  refine gg ?_
  refine out_if (by exact sel_of rfl) (fun hif => ?_) (fun hif => ?_)
  · refine gg ?_
    exact ⟨(bool_false (fun e => hif (by rw [e]))).symm, rfl⟩
  have hlen : la.length = lb.length := by omega
  refine gg ?_
  refine o_up la.length (fun i f h' => Sl [(13, .int .i64 (i : Int)), (12, .int .i64 (la.length : Int)), (0, .slice o la.length c), (1, .slice o' lb.length c')] f ∧ h = h' ∧ la.take i = lb.take i) (by omega) ?_ ?_
  · exact ⟨⟨sel_of rfl, sel_of rfl, sel_of rfl, sel_of rfl, trivial⟩, rfl, rfl⟩
  rintro i f h' hi ⟨hs, rfl, hall⟩
  obtain ⟨f0, rfl⟩ := hs.puts
  simp only [c81_0]
  refine gg ?_
  refine out_if (by exact sel_of rfl) (fun hif => ?_) (fun hif => ?_)
  · obtain ⟨p, hp⟩ : ∃ p, la[i]? = some p := ⟨_, List.getElem?_eq_getElem (by omega)⟩
    obtain ⟨q, hq⟩ : ∃ p, lb[i]? = some p := ⟨_, List.getElem?_eq_getElem (by omega)⟩
    refine gg ?_
    refine i_idx (by exact sel_of rfl) ha (i := i) (by exact sel_of rfl) (by omega) fun u hu => ?_
    subst hu
    refine i_loadN (v := [.int .u16 (p.1 : Int), .int .u16 (p.2 : Int)]) (by exact sel_of rfl) (by rw [← pr16_at hp]; exact ha.cells (by omega) (some 0)) ?_
    refine gg ?_
    refine i_idx (by exact sel_of rfl) hb (i := i) (by exact sel_of rfl) (by omega) fun u hu => ?_
    subst hu
    refine i_loadN (v := [.int .u16 (q.1 : Int), .int .u16 (q.2 : Int)]) (by exact sel_of rfl) (by rw [← pr16_at hq]; exact hb.cells (by omega) (some 0)) ?_
    refine i_nea (by exact sel_of rfl) (by exact sel_of rfl) ?_
    refine gg ?_
    refine out_if (by exact sel_of rfl) (fun hif => ?_) (fun hif => ?_)
    · refine gg ?_
      exact ⟨(bool_false (take_ne hp hq (fun e => by subst e; exact hif ⟨rfl, rfl⟩))).symm, rfl⟩
    · refine gg ?_
      refine rnd_up (by omega) ⟨⟨sel_of rfl, sel_of rfl, sel_of rfl, sel_of rfl, trivial⟩, rfl, take_snoc hall hp (hq.trans (congrArg some ?_))⟩
      have := Classical.not_not.1 hif
      exact Prod.ext (by omega) (by omega)
  · refine gg ?_
    refine ⟨(bool_true ?_).symm, rfl⟩
    rw [List.take_of_length_le (by omega), List.take_of_length_le (by omega)] at hall
    exact hall
theorem w_eqSk {h : Heap} {o o' : Option Addr} {c c' : Nat} {la lb : List (Nat × Nat)} (ha : Row h 2 o la.length (pr16 la)) (hb : Row h 2 o' lb.length (pr16 lb)) (hbig : la.length ≤ 1000000) (n : Nat) (hn : 3 + la.length ≤ n) :
    ResQ (callN Try.prog G0 n (.call 83 [.slice o la.length c, .slice o' lb.length c']) h) (fun v h' => v = .bool (decide (la = lb)) ∧ h = h') := by
  obtain ⟨n, rfl⟩ : ∃ m, n = m + 1 := ⟨n - 1, by omega⟩
  refine res_enter rfl d83 rfl ?_; simp only [c83]
  refine gg ?_
  refine out_if (by exact sel_of rfl) (fun hif => ?_) (fun hif => ?_)
  · refine gg ?_
    exact ⟨(bool_false (fun e => hif (by rw [e]))).symm, rfl⟩
  have hlen : la.length = lb.length := by omega
  refine gg ?_
  refine o_up la.length (fun i f h' => Sl [(13, .int .i64 (i : Int)), (12, .int .i64 (la.length : Int)), (0, .slice o la.length c), (1, .slice o' lb.length c')] f ∧ h = h' ∧ la.take i = lb.take i) (by omega) ?_ ?_
  · exact ⟨⟨sel_of rfl, sel_of rfl, sel_of rfl, sel_of rfl, trivial⟩, rfl, rfl⟩
  rintro i f h' hi ⟨hs, rfl, hall⟩
  obtain ⟨f0, rfl⟩ := hs.puts
  simp only [c83_0]
  refine gg ?_
  refine out_if (by exact sel_of rfl) (fun hif => ?_) (fun hif => ?_)
  · obtain ⟨p, hp⟩ : ∃ p, la[i]? = some p := ⟨_, List.getElem?_eq_getElem (by omega)⟩
    obtain ⟨q, hq⟩ : ∃ p, lb[i]? = some p := ⟨_, List.getElem?_eq_getElem (by omega)⟩
    refine gg ?_
    refine i_idx (by exact sel_of rfl) ha (i := i) (by exact sel_of rfl) (by omega) fun u hu => ?_
    subst hu
    refine i_loadN (v := [.int .u16 (p.1 : Int), .int .u16 (p.2 : Int)]) (by exact sel_of rfl) (by rw [← pr16_at hp]; exact ha.cells (by omega) (some 0)) ?_
    refine gg ?_
    refine i_idx (by exact sel_of rfl) hb (i := i) (by exact sel_of rfl) (by omega) fun u hu => ?_
    subst hu
    refine i_loadN (v := [.int .u16 (q.1 : Int), .int .u16 (q.2 : Int)]) (by exact sel_of rfl) (by rw [← pr16_at hq]; exact hb.cells (by omega) (some 0)) ?_
    refine i_nea (by exact sel_of rfl) (by exact sel_of rfl) ?_
    refine gg ?_
    refine out_if (by exact sel_of rfl) (fun hif => ?_) (fun hif => ?_)
    · refine gg ?_
      exact ⟨(bool_false (take_ne hp hq (fun e => by subst e; exact hif ⟨rfl, rfl⟩))).symm, rfl⟩
    · refine gg ?_
      refine rnd_up (by omega) ⟨⟨sel_of rfl, sel_of rfl, sel_of rfl, sel_of rfl, trivial⟩, rfl, take_snoc hall hp (hq.trans (congrArg some ?_))⟩
      have := Classical.not_not.1 hif
      exact Prod.ext (by omega) (by omega)
  · refine gg ?_
    refine ⟨(bool_true ?_).symm, rfl⟩
    rw [List.take_of_length_le (by omega), List.take_of_length_le (by omega)] at hall
    exact hall
theorem w_eqDu {h : Heap} {o o' : Option Addr} {c c' : Nat} {la lb : List Nat} (ha : Row h 1 o la.length (n32 la)) (hb : Row h 1 o' lb.length (n32 lb)) (hbig : la.length ≤ 1000000) (n : Nat) (hn : 3 + la.length ≤ n) :
    ResQ (callN Try.prog G0 n (.call 82 [.slice o la.length c, .slice o' lb.length c']) h) (fun v h' => v = .bool (decide (la = lb)) ∧ h = h') := by
  obtain ⟨n, rfl⟩ : ∃ m, n = m + 1 := ⟨n - 1, by omega⟩
  refine res_enter rfl d82 rfl ?_; simp only [c82]
  refine gg ?_
  refine out_if (by exact sel_of rfl) (fun hif => ?_) (fun hif => ?_)
  · refine gg ?_
    exact ⟨(bool_false (fun e => hif (by rw [e]))).symm, rfl⟩
  have hlen : la.length = lb.length := by omega
  refine gg ?_
  refine o_up la.length (fun i f h' => Sl [(13, .int .i64 (i : Int)), (12, .int .i64 (la.length : Int)), (0, .slice o la.length c), (1, .slice o' lb.length c')] f ∧ h = h' ∧ la.take i = lb.take i) (by omega) ?_ ?_
  · exact ⟨⟨sel_of rfl, sel_of rfl, sel_of rfl, sel_of rfl, trivial⟩, rfl, rfl⟩
  rintro i f h' hi ⟨hs, rfl, hall⟩
  obtain ⟨f0, rfl⟩ := hs.puts
  simp only [c82_0]
  refine gg ?_
  refine out_if (by exact sel_of rfl) (fun hif => ?_) (fun hif => ?_)
  · obtain ⟨p, hp⟩ : ∃ p, la[i]? = some p := ⟨_, List.getElem?_eq_getElem (by omega)⟩
    obtain ⟨q, hq⟩ : ∃ p, lb[i]? = some p := ⟨_, List.getElem?_eq_getElem (by omega)⟩
    refine gg ?_
    refine i_idx (by exact sel_of rfl) ha (i := i) (by exact sel_of rfl) (by omega) fun u hu => ?_
    subst hu
    refine i_load1 (v := .int .u32 (p : Int)) (by exact sel_of rfl) (by rw [← n32_at hp, ← ha.cell (by omega), Nat.mul_one]) ?_
    refine gg ?_
    refine i_idx (by exact sel_of rfl) hb (i := i) (by exact sel_of rfl) (by omega) fun u hu => ?_
    subst hu
    refine i_load1 (v := .int .u32 (q : Int)) (by exact sel_of rfl) (by rw [← n32_at hq, ← hb.cell (by omega), Nat.mul_one]) ?_
    refine gg ?_
    refine out_if (by exact sel_of rfl) (fun hif => ?_) (fun hif => ?_)
    · refine gg ?_
      exact ⟨(bool_false (take_ne hp hq (fun e => by subst e; exact hif rfl))).symm, rfl⟩
    · refine gg ?_
      refine rnd_up (by omega) ⟨⟨sel_of rfl, sel_of rfl, sel_of rfl, sel_of rfl, trivial⟩, rfl, take_snoc hall hp (hq.trans (congrArg some ?_))⟩
      omega
  · refine gg ?_
    refine ⟨(bool_true ?_).symm, rfl⟩
    rw [List.take_of_length_le (by omega), List.take_of_length_le (by omega)] at hall
    exact hall
theorem w_eqDa {h : Heap} {o o' : Option Addr} {c c' : Nat} {la lb : List UInt8} (ha : Row h 1 o la.length (u8s la)) (hb : Row h 1 o' lb.length (u8s lb)) (hbig : la.length ≤ 1000000) (n : Nat) (hn : 3 + la.length ≤ n) :
    ResQ (callN Try.prog G0 n (.call 84 [.slice o la.length c, .slice o' lb.length c']) h) (fun v h' => v = .bool (decide (la = lb)) ∧ h = h') := by
  obtain ⟨n, rfl⟩ : ∃ m, n = m + 1 := ⟨n - 1, by omega⟩
  refine res_enter rfl d84 rfl ?_; simp only [c84]
  refine gg ?_
  refine out_if (by exact sel_of rfl) (fun hif => ?_) (fun hif => ?_)
  · refine gg ?_
    exact ⟨(bool_false (fun e => hif (by rw [e]))).symm, rfl⟩
  have hlen : la.length = lb.length := by omega
  refine gg ?_
  refine o_up la.length (fun i f h' => Sl [(13, .int .i64 (i : Int)), (12, .int .i64 (la.length : Int)), (0, .slice o la.length c), (1, .slice o' lb.length c')] f ∧ h = h' ∧ la.take i = lb.take i) (by omega) ?_ ?_
  · exact ⟨⟨sel_of rfl, sel_of rfl, sel_of rfl, sel_of rfl, trivial⟩, rfl, rfl⟩
  rintro i f h' hi ⟨hs, rfl, hall⟩
  obtain ⟨f0, rfl⟩ := hs.puts
  simp only [c84_0]
  refine gg ?_
  refine out_if (by exact sel_of rfl) (fun hif => ?_) (fun hif => ?_)
  · obtain ⟨p, hp⟩ : ∃ p, la[i]? = some p := ⟨_, List.getElem?_eq_getElem (by omega)⟩
    obtain ⟨q, hq⟩ : ∃ p, lb[i]? = some p := ⟨_, List.getElem?_eq_getElem (by omega)⟩
    refine gg ?_
    refine i_idx (by exact sel_of rfl) ha (i := i) (by exact sel_of rfl) (by omega) fun u hu => ?_
    subst hu
    refine i_load1 (v := .int .u8 ((p.toNat : Nat) : Int)) (by exact sel_of rfl) (by rw [ha.cell (by omega), Nat.mul_one, u8s_get, hp]; rfl) ?_
    refine gg ?_
    refine i_idx (by exact sel_of rfl) hb (i := i) (by exact sel_of rfl) (by omega) fun u hu => ?_
    subst hu
    refine i_load1 (v := .int .u8 ((q.toNat : Nat) : Int)) (by exact sel_of rfl) (by rw [hb.cell (by omega), Nat.mul_one, u8s_get, hq]; rfl) ?_
    refine gg ?_
    refine out_if (by exact sel_of rfl) (fun hif => ?_) (fun hif => ?_)
    · refine gg ?_
      exact ⟨(bool_false (take_ne hp hq (fun e => by subst e; exact hif rfl))).symm, rfl⟩
    · refine gg ?_
      refine rnd_up (by omega) ⟨⟨sel_of rfl, sel_of rfl, sel_of rfl, sel_of rfl, trivial⟩, rfl, take_snoc hall hp (hq.trans (congrArg some ?_))⟩
      exact UInt8.toNat_inj.1 (by omega)
  · refine gg ?_
    refine ⟨(bool_true ?_).symm, rfl⟩
    rw [List.take_of_length_le (by omega), List.take_of_length_le (by omega)] at hall
    exact hall
end Go.Proofs.Ytdcllpjoejkpnaa

/-! Blocks, checks. -/
set_option linter.unusedVariables false
namespace Vm
open Go
theorem box_two (h : Heap) (A B : Blk) : ((h.new A).new B).get h.next = some A ∧ ((h.new A).new B).get (h.next + 1) = some B ∧ Keeps h ((h.new A).new B) ∧ ((h.new A).new B).next = h.next + 2 := by
  refine ⟨?_, ?_, (Keeps.new h A).trans (Keeps.new _ B), rfl⟩
  · rw [Heap.get_new, if_neg (by simp only [Heap.next_new]; omega), Heap.get_new, if_pos rfl]
  · rw [Heap.get_new, if_pos (by simp only [Heap.next_new])]
theorem box_one (h : Heap) (A : Blk) : (h.new A).get h.next = some A ∧ Keeps h (h.new A) ∧ (h.new A).next = h.next + 1 :=
  ⟨by rw [Heap.get_new, if_pos rfl], Keeps.new h A, rfl⟩
section
variable {rec : Rec} {a : Fr} {h : Heap}
theorem chk_skip {st : List (Fr × Heap)} {i : Nat} {s : VSem} {ms : List Nat} {r : List (Nat × Option (Sel × Bool) × VSem × List Nat)} {g : Sel} {b want : Bool} (h1 : st[i]? = some (a, h)) (hg : g.f a = .bool b) (hb : (b == want) = false) (hr : r.all (chkOne st) = true) : List.all ((i, some (g, want), s, ms) :: r) (chkOne st) = true := by
  rw [List.all_cons, hr, Bool.and_true]
  unfold chkOne
  simp only [h1, hg, hb, cond_false, Bool.true_or]
theorem chk_live {st : List (Fr × Heap)} {i : Nat} {s : VSem} {ms : List Nat} {r : List (Nat × Option (Sel × Bool) × VSem × List Nat)} {g : Sel × Bool} {v : Value} (h1 : st[i]? = some (a, h)) (h2 : s.f a h.get = some v) (hv : sameV v v = true)
    (h3 : ∀ m ∈ ms, ∃ a' h', st[m]? = some (a', h') ∧ s.f a h'.get = some v) (hr : r.all (chkOne st) = true) : List.all ((i, some g, s, ms) :: r) (chkOne st) = true := by
  rw [List.all_cons, hr, Bool.and_true]
  unfold chkOne
  simp only [h1, h2]
  rw [Bool.or_eq_true]
  right
  rw [List.all_eq_true]
  intro m hm
  obtain ⟨a', h', e1, e2⟩ := h3 m hm
  simp only [e1, e2, hv]
theorem ldN {x : Sel} {n : Nat} {p : Addr} {v : List Value} {g : G} (hx : x.f a = .pointer (some p)) (hl : loadN g p n = some v) : (oLoadN n x).f a g = some (.agg v.toArray) := by simp only [oLoadN, hx, hl]
theorem finA1 {x1 : Sel} {u : Addr} {k : Nat} {cs : List Value} {R : Value → Heap → Prop} (h1 : x1.f a = .pointer (some u)) (hl : loadN h.get u k = some cs) (hr : R (.agg cs.toArray) h) : Fin [.agg x1 k] R .ret a h :=
  ⟨.inr rfl, _, _, by simp only [rvs, rv, h1, hl], .inl rfl, hr⟩
end
/-- one cell of a block is set -/
theorem i_stB {rec : Rec} {L : List (Nat × Value)} {f : Fr} {h : Heap} {K : Fr → Heap → Prop} {x y : Sel} {l : List ISem} {b e off : Nat} {s : Option Nat} {cs : List Value} {v : Value} {op : Bool} (hx : x.f (puts L f) = .pointer (some ⟨b, off, s⟩)) (hy : cellsL (y.f (puts L f)) = some [v]) (hg : h.get b = some (.cells e cs (.own op))) (hl : off < cs.length)
    (hq : ∀ h2, KeepsB b h h2 → h2.next = h.next → h2.get b = some (.cells e (cs.set off v) (.own op)) → ItQ (runItems rec l (puts L f) h2) K) : ItQ (runItems rec (iOp ⟨fun _ a => a⟩ (.e (eStore 1 x y)) :: l) (puts L f) h) K :=
  i_store1 (u := ⟨b, off, s⟩) hx hy hg hl (hq _ ⟨Nat.le_refl _, fun d _ hd => by rw [Heap.get_put, if_neg hd]⟩ rfl (by rw [Heap.get_put, if_pos rfl]))
theorem loadN_all {h : Heap} {b e : Nat} {cs : List Value} {op : Bool} {s : Option Nat} {n : Nat} (hg : h.get b = some (.cells e cs (.own op))) (hn : cs.length = n) : loadN h.get ⟨b, 0, s⟩ n = some cs := by
  rw [loadN_of (q := ⟨b, 0, s⟩) hg (by simp) (by show 0 + n ≤ _; omega)]
  show some ((cs.drop 0).take n) = _
  rw [List.drop_zero, List.take_of_length_le (by omega)]
/-- a list of operations is cut in two -/
theorem i_cut {rec : Rec} {l : List ISem} {a : Fr} {h : Heap} {K : Fr → Heap → Prop} (k : Nat) (Mid : Fr → Heap → Prop) (h1 : ItQ (runItems rec (l.take k) a h) Mid) (h2 : ∀ a h, Mid a h → ItQ (runItems rec (l.drop k) a h) K) : ItQ (runItems rec l a h) K := by
  have key : ∀ (l m : List ISem) (a : Fr) (h : Heap), ItQ (runItems rec l a h) Mid → (∀ a h, Mid a h → ItQ (runItems rec m a h) K) → ItQ (runItems rec (l ++ m) a h) K := by
    intro l
    induction l with
    | nil =>
      rintro m a h ⟨a1, h1, e, hm⟩ h2
      cases e
      exact h2 _ _ hm
    | cons i l ih =>
      rintro m a h ⟨a1, h1, e, hm⟩ h2
      rw [runItems_cons] at e
      cases hi : i.f rec a h with
      | no => rw [hi] at e; cases e
      | mk a2 h2' =>
        rw [hi] at e
        obtain ⟨a3, h3, e3, hk⟩ := ih m a2 h2' ⟨a1, h1, e, hm⟩ h2
        refine ⟨a3, h3, ?_, hk⟩
        rw [List.cons_append, runItems_cons, hi]
        exact e3
  have := key (l.take k) (l.drop k) a h h1 h2
  rwa [List.take_append_drop] at this
theorem st_t {E φ : Prop} (h : true = true ↔ ¬E) : true = true ↔ ¬(E ∧ φ) := ⟨fun _ e => h.1 rfl e.1, fun _ => rfl⟩
theorem st_f {E φ : Prop} {b : Bool} (h : false = true ↔ ¬E) (hb : b = true ↔ ¬φ) : b = true ↔ ¬(E ∧ φ) := by
  have hE : E := Classical.byContradiction fun hn => by have := h.2 hn; cases this
  exact ⟨fun e hc => hb.1 e hc.2, fun hn => hb.2 fun hp => hn ⟨hE, hp⟩⟩
theorem dec_ne (a b : Nat) : decide ((a : Int) ≠ (b : Int)) = true ↔ ¬a = b := by rw [decide_eq_true_iff]; exact ⟨fun h e => h (by rw [e]), fun h e => h (by omega)⟩
theorem dec_ne' {α : Type} [DecidableEq α] (a b : α) : decide (a ≠ b) = true ↔ ¬a = b := by simp
theorem dec_not {φ : Prop} [Decidable φ] : (!decide φ) = true ↔ ¬φ := by simp
end Vm
namespace Go.Proofs.Ytdcllpjoejkpnaa
open Go Vm
/-- a whole block is set -/
theorem i_stA {rec : Rec} {L : List (Nat × Value)} {f : Fr} {h : Heap} {K : Fr → Heap → Prop} {x y : Sel} {l : List ISem} {b e n : Nat} {s : Option Nat} {cs vs : List Value} {op : Bool} (hx : x.f (puts L f) = .pointer (some ⟨b, 0, s⟩)) (hy : cellsL (y.f (puts L f)) = some vs) (hg : h.get b = some (.cells e cs (.own op))) (hv : vs.length = n) (hl : cs.length = n)
    (hq : ∀ h2, KeepsB b h h2 → h2.next = h.next → h2.get b = some (.cells e vs (.own op)) → ItQ (runItems rec l (puts L f) h2) K) : ItQ (runItems rec (iOp ⟨fun _ a => a⟩ (.e (eStore n x y)) :: l) (puts L f) h) K :=
  i_storeP hx hy hg hv hl (hq _ ⟨Nat.le_refl _, fun d _ hd => by rw [Heap.get_put, if_neg hd]⟩ rfl (by rw [Heap.get_put, if_pos rfl]))
/-- bounds on a chunk's sizes -/
structure Chk.Few (c : Chk) : Prop where
  bl : c.bl.length ≤ 100
  du : c.du.length ≤ 100
  sk : c.sk.length ≤ 100
  pa : c.pa.length ≤ 100
  da : c.da.length ≤ 3000
  al : ∀ p ∈ c.pa, p.2.length ≤ 100000
end Go.Proofs.Ytdcllpjoejkpnaa

/-! A chunk's cells are the same as themselves. -/
set_option linter.unusedVariables false
namespace Go.Proofs.Ytdcllpjoejkpnaa
open Go Vm
theorem sameL_cons {x : Value} {l : List Value} (h1 : same1 x x = true) (h2 : sameL l l = true) : sameL (x :: l) (x :: l) = true := by
  show (bif same1 x x then sameL l l else false) = true
  rw [h1, h2]; rfl
theorem s1_int (k : IntKind) (n : Int) : same1 (.int k n) (.int k n) = true := sv_int k n
theorem s1_slice (o : Option Addr) (n c : Nat) : same1 (.slice o n c) (.slice o n c) = true := sv_slice o n c
theorem ChV.sv {h : Heap} {c : Chk} {v : List Value} (r : ChV h c v) : sameV (.agg v.toArray) (.agg v.toArray) = true := by
  obtain ⟨o1, c1, o2, c2, o3, c3, o4, c4, o5, c5, ps, e, _⟩ := r
  have key : sameL v v = true := by
    rw [e]
    refine sameL_cons (s1_int _ _) ?_
    refine sameL_cons (s1_int _ _) ?_
    refine sameL_cons (s1_int _ _) ?_
    refine sameL_cons (s1_int _ _) ?_
    refine sameL_cons (s1_int _ _) ?_
    refine sameL_cons (s1_int _ _) ?_
    refine sameL_cons (s1_int _ _) ?_
    refine sameL_cons (s1_slice _ _ _) ?_
    refine sameL_cons (s1_slice _ _ _) ?_
    refine sameL_cons (s1_slice _ _ _) ?_
    refine sameL_cons (s1_slice _ _ _) ?_
    refine sameL_cons (s1_slice _ _ _) ?_
    rfl
  exact key
end Go.Proofs.Ytdcllpjoejkpnaa

/-! Chunks that are arguments. -/
set_option linter.unusedVariables false
namespace Vm
open Go
theorem rep_int {h : Heap} {k : IntKind} {r : PT} {cs : List Value} (x : Rep h (.pair (.int k) r) cs) : ∃ (n : Int) (rest : List Value), cs = .int k n :: rest ∧ (Lit.int k n).wf = true ∧ Rep h r rest := by
  cases x with
  | pair h1 hf hr =>
    cases hf with
    | int hn => exact ⟨_, _, rfl, hn, hr⟩
theorem rep_sl {h : Heap} {e r : PT} {cs : List Value} (x : Rep h (.pair (.slice e) r) cs) : ∃ (v : Value) (rest : List Value), cs = v :: rest ∧ RepV h (.slice e) v ∧ Rep h r rest := by
  cases x with
  | pair h1 hf hr =>
    cases hf with
    | nil => exact ⟨_, _, rfl, .nil _, hr⟩
    | slice hb hg hlen hl hsz each => exact ⟨_, _, rfl, .slice hb hg hlen hl hsz each, hr⟩
theorem rep_unit {h : Heap} {cs : List Value} (x : Rep h .unit cs) : cs = [] := by cases x; rfl
theorem wf_nat {k : IntKind} {n : Int} (hk : k = .u8 ∨ k = .u16 ∨ k = .u32) (h : (Lit.int k n).wf = true) : ∃ m : Nat, n = (m : Int) ∧ m < lim k := by
  rcases hk with rfl | rfl | rfl <;> simp [Lit.wf, IntKind.min, IntKind.max, IntKind.bits, IntKind.signed] at h <;> exact ⟨n.toNat, by omega, by simp only [lim]; omega⟩
theorem pr16_of : ∀ (els : List (List Value)) {h : Heap}, (∀ c ∈ els, Rep h (.pair (.int .u16) (.pair (.int .u16) .unit)) c) → ∃ l : List (Nat × Nat), els.flatten = pr16 l ∧ l.length = els.length ∧ ∀ p ∈ l, p.1 < 65536 ∧ p.2 < 65536
  | [], _, _ => ⟨[], rfl, rfl, fun p hp => by cases hp⟩
  | x :: els, h, hx => by
    obtain ⟨l, hl, hlen, hr⟩ := pr16_of els (fun c hc => hx c (by simp [hc]))
    obtain ⟨n1, r1, rfl, w1, hx1⟩ := rep_int (hx x (by simp))
    obtain ⟨n2, r2, rfl, w2, hx2⟩ := rep_int hx1
    obtain rfl := rep_unit hx2
    obtain ⟨m1, rfl, b1⟩ := wf_nat (.inr (.inl rfl)) w1
    obtain ⟨m2, rfl, b2⟩ := wf_nat (.inr (.inl rfl)) w2
    refine ⟨(m1, m2) :: l, ?_, by simp [hlen], fun p hp => ?_⟩
    · rw [List.flatten_cons, hl]; rfl
    · rcases List.mem_cons.1 hp with rfl | hp
      · exact ⟨b1, b2⟩
      · exact hr p hp
theorem n32_of : ∀ (els : List (List Value)) {h : Heap}, (∀ c ∈ els, Rep h (.int .u32) c) → ∃ l : List Nat, els.flatten = n32 l ∧ l.length = els.length ∧ ∀ p ∈ l, p < 4294967296
  | [], _, _ => ⟨[], rfl, rfl, fun p hp => by cases hp⟩
  | x :: els, h, hx => by
    obtain ⟨l, hl, hlen, hr⟩ := n32_of els (fun c hc => hx c (by simp [hc]))
    cases hx x (by simp) with
    | @int k n1 w1 =>
      obtain ⟨m1, rfl, b1⟩ := wf_nat (.inr (.inr rfl)) w1
      refine ⟨m1 :: l, ?_, by simp [hlen], fun p hp => ?_⟩
      · rw [List.flatten_cons, hl]; rfl
      · rcases List.mem_cons.1 hp with rfl | hp
        · exact b1
        · exact hr p hp
theorem RepV.p16 {h : Heap} {v : Value} (r : RepV h (.slice (.pair (.int .u16) (.pair (.int .u16) .unit))) v) : ∃ (o : Option Addr) (c : Nat) (l : List (Nat × Nat)), v = .slice o l.length c ∧ Row h 2 o l.length (pr16 l) ∧ l.length ≤ c ∧ ∀ p ∈ l, p.1 < 65536 ∧ p.2 < 65536 := by
  obtain ⟨o, m, c, els, h1, h2, h3, h4, h5, h6, h7⟩ := Rep.row r
  obtain ⟨l, hl, hlen, hb⟩ := pr16_of els h5
  have hm : l.length = m := by rw [hlen, h3]
  subst hm
  exact ⟨o, c, l, h1, by rw [← hl]; exact h2, h6, hb⟩
theorem RepV.u32s {h : Heap} {v : Value} (r : RepV h (.slice (.int .u32)) v) : ∃ (o : Option Addr) (c : Nat) (l : List Nat), v = .slice o l.length c ∧ Row h 1 o l.length (n32 l) ∧ l.length ≤ c ∧ ∀ p ∈ l, p < 4294967296 := by
  obtain ⟨o, m, c, els, h1, h2, h3, h4, h5, h6, h7⟩ := Rep.row r
  obtain ⟨l, hl, hlen, hb⟩ := n32_of els h5
  have hm : l.length = m := by rw [hlen, h3]
  subst hm
  exact ⟨o, c, l, h1, by rw [← hl]; exact h2, h6, hb⟩
abbrev PTp : PT := .pair (.int .u16) (.pair (.int .u16) .unit)
abbrev PTc : PT := .pair (.int .u8) (.pair (.int .u8) (.pair (.int .u32) (.pair (.int .u32) (.pair (.int .u16) (.pair (.int .u16) (.pair (.int .u32) (.pair (.slice PTp) (.pair (.slice (.int .u32)) (.pair (.slice PTp) (.pair (.slice (.pair (.int .u16) (.pair (.slice (.int .u8)) .unit))) (.pair (.slice (.int .u8)) .unit)))))))))))
end Vm
namespace Go.Proofs.Ytdcllpjoejkpnaa
open Go Vm
theorem prl_kind' {h : Heap} : ∀ {l : List Prm} {cs : List Value}, PrL h l cs → ∀ p ∈ l, p.1 < 65536
  | [], [], _, p, hp => by simp at hp
  | q :: l, x :: y :: r, ⟨h1, h2⟩, p, hp => by
    simp only [List.mem_cons] at hp
    rcases hp with rfl | hp
    · exact h1.2.1
    · exact prl_kind' h2 p hp
theorem rep_chunk {h : Heap} {cs : List Value} (r : Rep h PTc cs) : ∃ c : Chk, ChV h c cs ∧ c.Ok := by
  obtain ⟨n1, _, rfl, w1, r⟩ := rep_int r
  obtain ⟨n2, _, rfl, w2, r⟩ := rep_int r
  obtain ⟨n3, _, rfl, w3, r⟩ := rep_int r
  obtain ⟨n4, _, rfl, w4, r⟩ := rep_int r
  obtain ⟨n5, _, rfl, w5, r⟩ := rep_int r
  obtain ⟨n6, _, rfl, w6, r⟩ := rep_int r
  obtain ⟨n7, _, rfl, w7, r⟩ := rep_int r
  obtain ⟨v1, _, rfl, x1, r⟩ := rep_sl r
  obtain ⟨v2, _, rfl, x2, r⟩ := rep_sl r
  obtain ⟨v3, _, rfl, x3, r⟩ := rep_sl r
  obtain ⟨v4, _, rfl, x4, r⟩ := rep_sl r
  obtain ⟨v5, _, rfl, x5, r⟩ := rep_sl r
  obtain rfl := rep_unit r
  obtain ⟨m1, rfl, b1⟩ := wf_nat (.inl rfl) w1
  obtain ⟨m2, rfl, b2⟩ := wf_nat (.inl rfl) w2
  obtain ⟨m3, rfl, b3⟩ := wf_nat (.inr (.inr rfl)) w3
  obtain ⟨m4, rfl, b4⟩ := wf_nat (.inr (.inr rfl)) w4
  obtain ⟨m5, rfl, b5⟩ := wf_nat (.inr (.inl rfl)) w5
  obtain ⟨m6, rfl, b6⟩ := wf_nat (.inr (.inl rfl)) w6
  obtain ⟨m7, rfl, b7⟩ := wf_nat (.inr (.inr rfl)) w7
  obtain ⟨o1, c1, l1, rfl, y1, z1, q1⟩ := x1.p16
  obtain ⟨o2, c2, l2, rfl, y2, z2, q2⟩ := x2.u32s
  obtain ⟨o3, c3, l3, rfl, y3, z3, q3⟩ := x3.p16
  obtain ⟨o4, k4, c4, l4, ps, rfl, y4, p4, q4, z4⟩ := RepV.prms x4
  obtain ⟨o5, k5, c5, l5, rfl, y5, z5, _⟩ := x5.bytes
  subst q4
  have hm : l5.length = k5 := by simpa [u8s_length] using y5.1
  subst hm
  exact ⟨⟨m1, m2, m3, m4, m5, m6, m7, l1, l2, l3, l4, l5⟩, ⟨o1, c1, o2, c2, o3, c3, o4, c4, o5, c5, ps, rfl, y1, y2, y3, ⟨y4, p4⟩, y5, ⟨z1, z2, z3, z4, z5⟩, b1, b2⟩, ⟨b1, b2, b3, b4, b5, b6, b7, q1, q2, q3, prl_kind' p4⟩⟩
theorem repV_chunk {h : Heap} {v : Value} (r : RepV h PTc v) : ∃ (c : Chk) (cs : List Value), v = .agg cs.toArray ∧ ChV h c cs ∧ c.Ok := by
  obtain ⟨cs, rfl, r'⟩ := (show ∃ cs : List Value, v = .agg cs.toArray ∧ Rep h PTc cs from r)
  obtain ⟨c, h1, h2⟩ := rep_chunk r'
  exact ⟨c, cs, rfl, h1, h2⟩
end Go.Proofs.Ytdcllpjoejkpnaa

