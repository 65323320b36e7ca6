/- Part of a proof by an abstract run of the program's code: VmA. No condition. -/
import GoSem.Core.Code
import GoSem.Core.View
import GoSem.Op.String
import GoSem.Machine.Frame
import Derived.CallsIn
import Derived.Laws.Sem
import Derived.Laws.World
import Derived.Laws.Cells
import Derived.Below
import Derived.Laws.Entries
import GoSem.Dispatch
import Derived.Laws.BytesArg
import Derived.Deep.AppendSrc
import Derived.Laws.Strings
import Derived.LaidEql
import Derived.Laws.StructEq
import Derived.ChangeKeysEq
import Derived.MapKept
/-! An abstract interpreter over the model's own code: operations in the order of the text, blocks under numbers of its own, no tape. -/
set_option linter.unusedVariables false
namespace Vm
open Go
noncomputable section

/-! ### frames: 512 slots -/
def undef : Value := .tuple #[]
structure N8 (α : Type) where
  mk ::
  (c0 c1 c2 c3 c4 c5 c6 c7 : α)
def N8.all {α : Type} (v : α) : N8 α := ⟨v, v, v, v, v, v, v, v⟩
def N8.s0 {α : Type} (v : α) (a : N8 α) : N8 α := N8.rec (fun _ x1 x2 x3 x4 x5 x6 x7 => ⟨v, x1, x2, x3, x4, x5, x6, x7⟩) a
def N8.s1 {α : Type} (v : α) (a : N8 α) : N8 α := N8.rec (fun x0 _ x2 x3 x4 x5 x6 x7 => ⟨x0, v, x2, x3, x4, x5, x6, x7⟩) a
def N8.s2 {α : Type} (v : α) (a : N8 α) : N8 α := N8.rec (fun x0 x1 _ x3 x4 x5 x6 x7 => ⟨x0, x1, v, x3, x4, x5, x6, x7⟩) a
def N8.s3 {α : Type} (v : α) (a : N8 α) : N8 α := N8.rec (fun x0 x1 x2 _ x4 x5 x6 x7 => ⟨x0, x1, x2, v, x4, x5, x6, x7⟩) a
def N8.s4 {α : Type} (v : α) (a : N8 α) : N8 α := N8.rec (fun x0 x1 x2 x3 _ x5 x6 x7 => ⟨x0, x1, x2, x3, v, x5, x6, x7⟩) a
def N8.s5 {α : Type} (v : α) (a : N8 α) : N8 α := N8.rec (fun x0 x1 x2 x3 x4 _ x6 x7 => ⟨x0, x1, x2, x3, x4, v, x6, x7⟩) a
def N8.s6 {α : Type} (v : α) (a : N8 α) : N8 α := N8.rec (fun x0 x1 x2 x3 x4 x5 _ x7 => ⟨x0, x1, x2, x3, x4, x5, v, x7⟩) a
def N8.s7 {α : Type} (v : α) (a : N8 α) : N8 α := N8.rec (fun x0 x1 x2 x3 x4 x5 x6 _ => ⟨x0, x1, x2, x3, x4, x5, x6, v⟩) a
abbrev Fr := N8 (N8 (N8 Value))
/-- how a slot is read -/
structure Sel where
  f : Fr → Value
/-- how a slot is written -/
structure Put where
  f : Value → Fr → Fr
def fr0 : Fr := N8.all (N8.all (N8.all undef))
structure Get (α β : Type) where
  f : α → β
structure Set (α β : Type) where
  f : β → α → α
def get8 {α : Type} (i : Nat) : Get (N8 α) α :=
  match i with
  | 0 => ⟨fun a => a.c0⟩
  | 1 => ⟨fun a => a.c1⟩
  | 2 => ⟨fun a => a.c2⟩
  | 3 => ⟨fun a => a.c3⟩
  | 4 => ⟨fun a => a.c4⟩
  | 5 => ⟨fun a => a.c5⟩
  | 6 => ⟨fun a => a.c6⟩
  | _ => ⟨fun a => a.c7⟩
def set8 {α : Type} (i : Nat) : Set (N8 α) α :=
  match i with
  | 0 => ⟨N8.s0⟩
  | 1 => ⟨N8.s1⟩
  | 2 => ⟨N8.s2⟩
  | 3 => ⟨N8.s3⟩
  | 4 => ⟨N8.s4⟩
  | 5 => ⟨N8.s5⟩
  | 6 => ⟨N8.s6⟩
  | _ => ⟨N8.s7⟩
def sel3 (g1 : Get (N8 (N8 (N8 Value))) (N8 (N8 Value))) (g2 : Get (N8 (N8 Value)) (N8 Value)) (g3 : Get (N8 Value) Value) : Sel :=
  match g1, g2, g3 with
  | ⟨f1⟩, ⟨f2⟩, ⟨f3⟩ => ⟨fun a => f3 (f2 (f1 a))⟩
def put3 (g1 : Get (N8 (N8 (N8 Value))) (N8 (N8 Value))) (g2 : Get (N8 (N8 Value)) (N8 Value)) (s1 : Set (N8 (N8 (N8 Value))) (N8 (N8 Value))) (s2 : Set (N8 (N8 Value)) (N8 Value)) (s3 : Set (N8 Value) Value) : Put :=
  match g1, g2, s1, s2, s3 with
  | ⟨f1⟩, ⟨f2⟩, ⟨f3⟩, ⟨f4⟩, ⟨f5⟩ => ⟨fun v a => f3 (f4 (f5 v (f2 (f1 a))) (f1 a)) a⟩
def sel (t : Nat) : Sel := sel3 (get8 (t / 64)) (get8 (t / 8 % 8)) (get8 (t % 8))
def put (t : Nat) : Put := put3 (get8 (t / 64)) (get8 (t / 8 % 8)) (set8 (t / 64)) (set8 (t / 8 % 8)) (set8 (t % 8))
theorem get8_set8 {α : Type} (i j : Nat) (hi : i < 8) (hj : j < 8) (v : α) (a : N8 α) : (get8 i).f ((set8 j).f v a) = if i = j then v else (get8 i).f a := by
  cases a
  match i, hi, j, hj with
  | 0, _, 0, _ | 0, _, 1, _ | 0, _, 2, _ | 0, _, 3, _ | 0, _, 4, _ | 0, _, 5, _ | 0, _, 6, _ | 0, _, 7, _ => rfl
  | 1, _, 0, _ | 1, _, 1, _ | 1, _, 2, _ | 1, _, 3, _ | 1, _, 4, _ | 1, _, 5, _ | 1, _, 6, _ | 1, _, 7, _ => rfl
  | 2, _, 0, _ | 2, _, 1, _ | 2, _, 2, _ | 2, _, 3, _ | 2, _, 4, _ | 2, _, 5, _ | 2, _, 6, _ | 2, _, 7, _ => rfl
  | 3, _, 0, _ | 3, _, 1, _ | 3, _, 2, _ | 3, _, 3, _ | 3, _, 4, _ | 3, _, 5, _ | 3, _, 6, _ | 3, _, 7, _ => rfl
  | 4, _, 0, _ | 4, _, 1, _ | 4, _, 2, _ | 4, _, 3, _ | 4, _, 4, _ | 4, _, 5, _ | 4, _, 6, _ | 4, _, 7, _ => rfl
  | 5, _, 0, _ | 5, _, 1, _ | 5, _, 2, _ | 5, _, 3, _ | 5, _, 4, _ | 5, _, 5, _ | 5, _, 6, _ | 5, _, 7, _ => rfl
  | 6, _, 0, _ | 6, _, 1, _ | 6, _, 2, _ | 6, _, 3, _ | 6, _, 4, _ | 6, _, 5, _ | 6, _, 6, _ | 6, _, 7, _ => rfl
  | 7, _, 0, _ | 7, _, 1, _ | 7, _, 2, _ | 7, _, 3, _ | 7, _, 4, _ | 7, _, 5, _ | 7, _, 6, _ | 7, _, 7, _ => rfl
theorem sel_put (s t : Nat) (hs : s < 512) (ht : t < 512) (v : Value) (a : Fr) : (sel s).f ((put t).f v a) = if s = t then v else (sel s).f a := by
  show (get8 (s % 8)).f ((get8 (s / 8 % 8)).f ((get8 (s / 64)).f ((set8 (t / 64)).f ((set8 (t / 8 % 8)).f ((set8 (t % 8)).f v ((get8 (t / 8 % 8)).f ((get8 (t / 64)).f a))) ((get8 (t / 64)).f a)) a))) = _
  rw [get8_set8 _ _ (by omega) (by omega)]
  by_cases h1 : s / 64 = t / 64
  · rw [if_pos h1, get8_set8 _ _ (by omega) (by omega)]
    by_cases h2 : s / 8 % 8 = t / 8 % 8
    · rw [if_pos h2, get8_set8 _ _ (by omega) (by omega)]
      by_cases h3 : s % 8 = t % 8
      · rw [if_pos h3, if_pos (by omega)]
      · rw [if_neg h3, if_neg (by omega), ← h1, ← h2]; rfl
    · rw [if_neg h2, if_neg (by omega), ← h1]; rfl
  · rw [if_neg h1, if_neg (by omega)]; rfl
theorem sel_fr0 (s : Nat) (hs : s < 512) : (sel s).f fr0 = undef := by
  have h : ∀ {α : Type} (i : Nat) (v : α), (get8 i).f (N8.all v) = v := by
    intro α i v
    unfold get8
    split <;> rfl
  show (get8 (s % 8)).f ((get8 (s / 8 % 8)).f ((get8 (s / 64)).f (N8.all (N8.all (N8.all undef))))) = _
  rw [h, h, h]

def evB : Operand → Sel
  | .tmp t => sel t
  | .const v => ⟨fun _ => v⟩
  | .global g => ⟨fun _ => .pointer (some ⟨g, 0, none⟩)⟩
  | .func f => ⟨fun _ => .func (.func f) #[] #[]⟩

/-- a value without an address -/
def lit : Value → Bool
  | .bool _ => true
  | .int _ _ => true
  | .string _ => true
  | .pointer none => true
  | .slice none _ _ => true
  | .map none => true
  | .nilFunc => true
  | .nilIface => true
  | _ => false
def constB : Value → Bool
  | .agg cs => cs.toList.all lit
  | v => lit v
/-- an operand that the interpreter takes, in a frame of n slots -/
def okX (n : Nat) : Operand → Bool
  | .tmp t => Nat.blt t n
  | .const v => constB v
  | .global _ => false
  | .func _ => true

/-! ### the heap -/
inductive Tr (α : Type) where
  | nil
  | node (l : Tr α) (v : Option α) (r : Tr α)
def Tr.get {α : Type} (t : Tr α) : Nat → Option α :=
  Tr.rec (motive := fun _ => Nat → Option α) (fun _ => none)
    (fun _ v _ il ir k => Nat.rec v (fun k' _ => Bool.rec (ir (k' / 2)) (il (k' / 2)) (Nat.beq (k' % 2) 0)) k) t
/-- a path of one leaf; the first number is fuel -/
def Tr.one {α : Type} (x : α) : Nat → Nat → Tr α :=
  Nat.rec (motive := fun _ => Nat → Tr α) (fun _ => .node .nil (some x) .nil)
    (fun _ ih k => Nat.rec (.node .nil (some x) .nil) (fun k' _ => Bool.rec (.node .nil none (ih (k' / 2))) (.node (ih (k' / 2)) none .nil) (Nat.beq (k' % 2) 0)) k)
def Tr.set {α : Type} (x : α) (t : Tr α) : Nat → Tr α :=
  Tr.rec (motive := fun _ => Nat → Tr α) (fun k => Tr.one x k k)
    (fun l v r il ir k => Nat.rec (.node l (some x) r) (fun k' _ => Bool.rec (.node l v (ir (k' / 2))) (.node (il (k' / 2)) v r) (Nat.beq (k' % 2) 0)) k) t

/-- ro: an argument's; own: the run's own (opn: of unknown capacity at its end); fix: the run's own, only read; dead: not to be touched any more -/
inductive St where
  | ro | own (opn : Bool) | fix | dead
inductive Blk where
  | cells (e : TypeId) (cs : List Value) (st : St)
  | map (es : List (Value × Value × Nat)) (clock : Nat)
  | loop (n : Nat) (params : List Tmp) (assign body : Code) (a : Fr) (st : LoopState) (pending : Option Code)
  | iter (m : Option Nat) (since : Nat) (seen : List Nat) (last : Nat)
structure Heap where
  next : Nat
  t : Tr Blk
def Heap.get (h : Heap) (b : Nat) : Option Blk := h.t.get b
def Heap.put (h : Heap) (b : Nat) (x : Blk) : Heap := ⟨h.next, h.t.set x b⟩
def Heap.new (h : Heap) (x : Blk) : Heap := ⟨h.next + 1, h.t.set x h.next⟩

abbrev G := Nat → Option Blk
inductive Ex where
  | normal | exit (id : Nat) | ret | goto (l : Nat)
inductive Out where
  | no
  | mk (e : Ex) (a : Fr) (h : Heap)
inductive Res where
  | no
  | ok (v : Value) (h : Heap)
inductive It where
  | no
  | mk (a : Fr) (h : Heap)
inductive Job where
  | call (f : FuncId) (args : List Value)
  | yield (l : Nat) (args : List Value)
abbrev Rec := Job → Heap → Res
structure Sem where
  f : Rec → Nat → Fr → Heap → Out
/-- an operation that only reckons or reads -/
structure VSem where
  f : Fr → G → Option Value
/-- one that makes one block: the block, and the value by the block's number -/
structure ASem where
  f : Fr → Option (Blk × (Nat → Value))
/-- any other -/
structure ESem where
  f : Rec → Fr → Heap → Res
/-- rd: does it read the heap? -/
inductive OSem where
  | v (rd : Bool) (s : VSem)
  | a (s : ASem)
  | e (s : ESem)
structure ISem where
  f : Rec → Fr → Heap → It

/-! ### numbers: quick ways where they are small -/
def lim : IntKind → Nat
  | .i64 => 9223372036854775808 | .u8 => 256 | .u16 => 65536 | .u32 => 4294967296 | .u64 => 18446744073709551616 | .i32 => 2147483648 | .i16 => 32768 | .i8 => 128
def wrap (k : IntKind) (n : Int) : Int :=
  match n with
  | .ofNat m => bif Nat.blt m (lim k) then .ofNat m else k.wrap (.ofNat m)
  | .negSucc m => k.wrap (.negSucc m)
def ltI : Int → Int → Bool
  | .ofNat a, .ofNat b => Nat.blt a b
  | .ofNat _, .negSucc _ => false
  | .negSucc _, .ofNat _ => true
  | .negSucc a, .negSucc b => Nat.blt b a
def eqI : Int → Int → Bool
  | .ofNat a, .ofNat b => Nat.beq a b
  | .negSucc a, .negSucc b => Nat.beq a b
  | _, _ => false
/-- a number's bits as a natural number -/
def bitsOf (k : IntKind) : Int → Nat
  | .ofNat a => a
  | .negSucc a => (Int.negSucc a % (2 ^ k.bits : Int)).toNat

/-! ### reading and writing -/
def loadN (g : G) (a : Addr) (n : Nat) : Option (List Value) :=
  match g a.block with
  | some (.cells _ cs st) =>
    match st with
    | .dead => none
    | _ => bif Nat.ble (a.off + n) cs.length then some ((cs.drop a.off).take n) else none
  | _ => none
def nth {α : Type} : List α → Nat → Option α := List.rec (fun _ => none) (fun x _ ih n => Nat.rec (some x) (fun n _ => ih n) n)
def load1 (g : G) (a : Addr) : Option Value :=
  match g a.block with
  | some (.cells _ cs st) =>
    match st with
    | .dead => none
    | _ => nth cs a.off
  | _ => none
def putAt : List Value → Nat → List Value → List Value
  | l, 0, vs => vs ++ l.drop vs.length
  | [], _, _ => []
  | x :: l, n + 1, vs => x :: putAt l n vs
def storeN (h : Heap) (a : Addr) (vs : List Value) : Option Heap :=
  match h.get a.block with
  | some (.cells e cs (.own opn)) =>
    bif Nat.ble (a.off + vs.length) cs.length then some (h.put a.block (.cells e (putAt cs a.off vs) (.own opn))) else none
  | _ => none
def newRow (h : Heap) (e : TypeId) (l : List Value) (opn : Bool) : Heap := h.new (.cells e l (.own opn))

/-! ### operations that only reckon or read -/
def oEv (x : Sel) : VSem := ⟨fun a _ => some (x.f a)⟩
def oConst (v : Value) : VSem := ⟨fun _ _ => some v⟩
def oPick (c x y : Sel) : VSem := ⟨fun a _ => match c.f a with | .bool b => some (Bool.rec (y.f a) (x.f a) b) | _ => none⟩
structure F2 where
  f : IntKind → Int → Int → Option Value
/-- a kind's number -/
def kc : IntKind → Nat
  | .i8 => 0 | .i16 => 1 | .i32 => 2 | .i64 => 3 | .u8 => 4 | .u16 => 5 | .u32 => 6 | .u64 => 7
def oInt2 (g : F2) (x y : Sel) : VSem := ⟨fun a _ => match x.f a with | .int k n => (match y.f a with | .int j m => bif Nat.beq (kc k) (kc j) then g.f k n m else none | _ => none) | _ => none⟩
def oSh (g : F2) (x y : Sel) : VSem := ⟨fun a _ => match x.f a with | .int k n => (match y.f a with | .int _ m => g.f k n m | _ => none) | _ => none⟩
def fAdd : F2 := ⟨fun k n m => some (.int k (wrap k (n + m)))⟩
def fSub : F2 := ⟨fun k n m => some (.int k (wrap k (n - m)))⟩
def fMul : F2 := ⟨fun k n m => some (.int k (wrap k (n * m)))⟩
def fLss : F2 := ⟨fun _ n m => some (.bool (ltI n m))⟩
def fGtr : F2 := ⟨fun _ n m => some (.bool (ltI m n))⟩
def fLeq : F2 := ⟨fun _ n m => some (.bool (!ltI m n))⟩
def fGeq : F2 := ⟨fun _ n m => some (.bool (!ltI n m))⟩
def fAnd : F2 := ⟨fun k n m => some (.int k (wrap k (.ofNat (Nat.land (bitsOf k n) (bitsOf k m)))))⟩
def fOr : F2 := ⟨fun k n m => some (.int k (wrap k (.ofNat (Nat.lor (bitsOf k n) (bitsOf k m)))))⟩
def fXor : F2 := ⟨fun k n m => some (.int k (wrap k (.ofNat (Nat.xor (bitsOf k n) (bitsOf k m)))))⟩
def fAndNot : F2 := ⟨fun k n m => some (.int k (wrap k (.ofNat (Nat.land (bitsOf k n) (Nat.xor (bitsOf k m) (2 ^ k.bits - 1))))))⟩
def fShl : F2 := ⟨fun k n m => match m with
  | .ofNat m => some (.int k (wrap k (n * .ofNat (2 ^ (bif Nat.ble m k.bits then m else k.bits)))))
  | _ => none⟩
def fShr : F2 := ⟨fun k n m => match m with
  | .ofNat m => (match n with
    | .ofNat a => some (.int k (.ofNat (a / 2 ^ (bif Nat.ble m k.bits then m else k.bits))))
    | n => some (.int k (n.fdiv (2 ^ min m k.bits))))
  | _ => none⟩
def fQuo : F2 := ⟨fun k n m => bif eqI m 0 then none else some (.int k (wrap k (n.tdiv m)))⟩
def fRem : F2 := ⟨fun k n m => bif eqI m 0 then none else some (.int k (n.tmod m))⟩

def eqB : List UInt8 → List UInt8 → Bool := List.rec (fun l => List.rec true (fun _ _ _ => false) l) (fun x _ ih l => List.rec false (fun y l _ => bif Nat.beq x.toNat y.toNat then ih l else false) l)
def eqA (a b : Addr) : Bool := bif Nat.beq a.block b.block then (bif Nat.beq a.off b.off then true else false) else false
/-- how a type's values are compared: of one cell (by a number for the kind), or cell by cell -/
inductive KT where
  | one (k : Nat) | agg (ks : List Nat)
/-- equality of values of one cell; kinds: 0 bool, 1 int, 2 string, 3 pointer, 4 slice, 5 map, 6 func; addresses: of blocks of the run's own that nothing else can share (no mark) -/
def eqP (kd : Nat) : Value → Value → Option Bool
  | .int k n, .int j m => bif Nat.beq kd 1 then (bif Nat.beq (kc k) (kc j) then some (eqI n m) else none) else none
  | .bool a, .bool b => bif Nat.beq kd 0 then some (Bool.rec (!b) b a) else none
  | .string a, .string b => bif Nat.beq kd 2 then some (eqB a.data.toList b.data.toList) else none
  | .pointer none, .pointer none => bif Nat.beq kd 3 then some true else none
  | .pointer none, .pointer (some _) => bif Nat.beq kd 3 then some false else none
  | .pointer (some _), .pointer none => bif Nat.beq kd 3 then some false else none
  | .pointer (some a), .pointer (some b) => bif Nat.beq kd 3 then (match a.spot with
    | none => (match b.spot with | none => some (eqA a b) | some _ => none)
    | some _ => none) else none
  | .slice none _ _, .slice none _ _ => bif Nat.beq kd 4 then some true else none
  | .slice none _ _, .slice (some _) _ _ => bif Nat.beq kd 4 then some false else none
  | .slice (some _) _ _, .slice none _ _ => bif Nat.beq kd 4 then some false else none
  | .map none, .map none => bif Nat.beq kd 5 then some true else none
  | .map none, .map (some _) => bif Nat.beq kd 5 then some false else none
  | .map (some _), .map none => bif Nat.beq kd 5 then some false else none
  | .nilFunc, .nilFunc => bif Nat.beq kd 6 then some true else none
  | .nilFunc, .func _ _ _ => bif Nat.beq kd 6 then some false else none
  | .func _ _ _, .nilFunc => bif Nat.beq kd 6 then some false else none
  | _, _ => none
def eqL : List Nat → List Value → List Value → Option Bool := List.rec (fun l r => List.rec (List.rec (some true) (fun _ _ _ => none) r) (fun _ _ _ => none) l)
  (fun k _ ih l r => List.rec none (fun x l _ => List.rec none (fun y r _ => match eqP k x y with | some true => ih l r | some false => some false | none => none) r) l)
def eqV (K : KT) : Value → Value → Option Bool
  | .agg x, .agg y => match K with | .agg ks => eqL ks x.toList y.toList | .one _ => none
  | x, y => match K with | .one k => eqP k x y | .agg _ => none
def oEq (n : KT) (x y : Sel) : VSem := ⟨fun a h => match eqV n (x.f a) (y.f a) with | some b => some (.bool b) | none => none⟩
def oNe (n : KT) (x y : Sel) : VSem := ⟨fun a h => match eqV n (x.f a) (y.f a) with | some b => some (.bool !b) | none => none⟩
def oNot (x : Sel) : VSem := ⟨fun a _ => match x.f a with | .bool b => some (.bool !b) | _ => none⟩
def oNeg (x : Sel) : VSem := ⟨fun a _ => match x.f a with | .int k n => some (.int k (wrap k (0 - n))) | _ => none⟩
def oCom (x : Sel) : VSem := ⟨fun a _ => match x.f a with | .int k n => some (.int k (wrap k (.ofNat (Nat.xor (2 ^ k.bits - 1) (bitsOf k n))))) | _ => none⟩
def oConvInt (k : IntKind) (x : Sel) : VSem := ⟨fun a _ => match x.f a with | .int _ n => some (.int k (wrap k n)) | _ => none⟩
def bytesL : List Value → Option (List UInt8) := List.rec (some []) (fun v _ ih => match v with
  | .int .u8 (.ofNat n) => (match ih with | some l => some (UInt8.ofNat n :: l) | none => none)
  | _ => none)
def oToString (x : Sel) : VSem := ⟨fun a h => match x.f a with
  | .slice none _ _ => some (.string ⟨#[]⟩)
  | .slice (some p) n _ => match loadN h p n with
    | some l => (match bytesL l with | some l => some (.string ⟨l.toArray⟩) | none => none)
    | none => none
  | _ => none⟩
def oNilCheck (x : Sel) : VSem := ⟨fun a _ => match x.f a with
  | .pointer (some p) => some (.pointer (some p))
  | .func (.func f) x y => some (.func (.func f) x y)
  | .func (.yield f) x y => some (.func (.yield f) x y)
  | _ => none⟩
def oField1 (off : Nat) (x : Sel) : VSem := ⟨fun a _ => match x.f a with | .agg cs => nth cs.toList off | _ => none⟩
def oFieldN (off n : Nat) (x : Sel) : VSem := ⟨fun a _ => match x.f a with | .agg cs => bif Nat.ble (off + n) cs.toList.length then some (.agg ((cs.toList.drop off).take n).toArray) else none | _ => none⟩
def oFieldAddr (off : Nat) (x : Sel) : VSem := ⟨fun a _ => match x.f a with | .pointer (some p) => some (.pointer (some ⟨p.block, p.off + off, p.spot⟩)) | _ => none⟩
def idx (n : Nat) (i : Int) : Option Nat := match i with | .ofNat k => bif Nat.blt k n then some k else none | _ => none
def oIndexAddrS (sz : Nat) (x i : Sel) : VSem := ⟨fun a _ => match x.f a with
  | .slice (some p) n _ => (match i.f a with
    | .int _ i => (match idx n i with | some k => some (.pointer (some ⟨p.block, p.off + k * sz, some 0⟩)) | none => none)
    | _ => none)
  | _ => none⟩
def oIndexAddrA (n sz : Nat) (x i : Sel) : VSem := ⟨fun a _ => match x.f a with
  | .pointer (some p) => (match i.f a with
    | .int _ i => (match idx n i with | some k => some (.pointer (some ⟨p.block, p.off + k * sz, p.spot⟩)) | none => none)
    | _ => none)
  | _ => none⟩
def oIndexA1 (n : Nat) (x i : Sel) : VSem := ⟨fun a _ => match x.f a with
  | .agg cs => (match i.f a with
    | .int _ i => (match idx n i with | some k => nth cs.toList k | none => none)
    | _ => none)
  | _ => none⟩
def oIndexS (x i : Sel) : VSem := ⟨fun a _ => match x.f a with
  | .string s => (match i.f a with
    | .int _ (.ofNat i) => (match nth s.data.toList i with | some b => some (.int .u8 (.ofNat b.toNat)) | none => none)
    | _ => none)
  | _ => none⟩
def oExtract (x : Sel) (i : Nat) : VSem := ⟨fun a _ => match x.f a with | .tuple vs => nth vs.toList i | _ => none⟩
def oIface (t : TypeId) (x : Sel) : VSem := ⟨fun a _ => some (.iface t (x.f a))⟩
def evs (a : Fr) : List Sel → List Value := List.rec [] (fun x _ ih => x.f a :: ih)
def oFunc (fn : Fn) (first cap : List Sel) : VSem := ⟨fun a _ => some (.func fn (evs a first).toArray (evs a cap).toArray)⟩
def oLoad1 (x : Sel) : VSem := ⟨fun a h => match x.f a with | .pointer (some p) => load1 h p | _ => none⟩
def oLoadN (n : Nat) (x : Sel) : VSem := ⟨fun a h => match x.f a with
  | .pointer (some p) => (match loadN h p n with | some l => some (.agg l.toArray) | none => none)
  | _ => none⟩
def bnd (a : Fr) (v : Option Sel) (d y : Nat) : Option Nat := match v with
  | none => some d
  | some o => match o.f a with | .int _ (.ofNat k) => bif Nat.ble k y then some k else none | _ => none
/-- the mark of a slice whose capacity may be greater than it says: its elements' size -/
def cutSpot (sz l h m : Nat) (mx : Option Sel) (s : Option Nat) : Option (Option Nat) := match s with
  | none => some none
  | some z => match mx with
    | some _ => some none
    | none => bif Nat.beq l 0 then some (some z) else bif Nat.beq z sz then (bif Nat.ble h m then some (some z) else none) else none
def oSlice (sz : Nat) (x : Sel) (lo hi mx : Option Sel) : VSem := ⟨fun a _ => match x.f a with
  | .slice p len cap => match bnd a mx cap cap with
    | none => none
    | some m => match bnd a hi len m with
      | none => none
      | some h => match bnd a lo 0 h with
        | none => none
        | some l => match p with
          | none => some (.slice none (h - l) (m - l))
          | some q => match cutSpot sz l h m mx q.spot with
            | none => none
            | some s => some (.slice (some ⟨q.block, bif Nat.beq m l then q.off else q.off + l * sz, s⟩) (h - l) (m - l))
  | _ => none⟩
def oSliceA (n sz : Nat) (x : Sel) (lo hi mx : Option Sel) : VSem := ⟨fun a _ => match x.f a with
  | .pointer (some q) => match bnd a mx n n with
    | none => none
    | some m => match bnd a hi n m with
      | none => none
      | some h => match bnd a lo 0 h with
        | none => none
        | some l => some (.slice (some ⟨q.block, bif Nat.beq m l then q.off else q.off + l * sz, none⟩) (h - l) (m - l))
  | _ => none⟩
def oSliceStr (x : Sel) (lo hi : Option Sel) : VSem := ⟨fun a _ => match x.f a with
  | .string s => match bnd a hi s.data.toList.length s.data.toList.length with
      | none => none
      | some h => match bnd a lo 0 h with
        | none => none
        | some l => some (.string ⟨((s.data.toList.drop l).take (h - l)).toArray⟩)
  | _ => none⟩
/-- a value's cells -/
def cellsL : Value → Option (List Value)
  | .agg cs => some cs.toList
  | .tuple _ => none
  | v => some [v]
/-- parts at their places: (offset, size, value) -/
def fillL (a : Fr) : List (Nat × Nat × Sel) → List Value → Option (List Value) := List.rec (fun z => some z)
  (fun p _ ih z => match p with
    | (off, n, x) => match cellsL (x.f a) with
      | some c => bif Nat.beq c.length n then (bif Nat.ble (off + n) z.length then ih (putAt z off c) else none) else none
      | none => none)
def oBuild (z : List Value) (ps : List (Nat × Nat × Sel)) : VSem := ⟨fun a _ => match fillL a ps z with | some l => some (.agg l.toArray) | none => none⟩
def mapOf (g : G) : Option Nat → Option (List (Value × Value × Nat))
  | none => some []
  | some r => match g r with | some (.map es _) => some es | _ => none
def mFind (n : KT) (k : Value) : List (Value × Value × Nat) → Option (Option (Value × Nat)) := List.rec (some none)
  (fun e _ ih => match e with | (a, v, s) => match eqV n k a with | some true => some (some (v, s)) | some false => ih | none => none)
def mPut (n : KT) (k v : Value) (c : Nat) : List (Value × Value × Nat) → Option (List (Value × Value × Nat) × Nat) := List.rec (some ([(k, v, c)], c + 1))
  (fun e r ih => match e with | (a, u, s) => match eqV n k a with
    | some true => some ((k, v, s) :: r, c)
    | some false => (match ih with | some (r, c) => some ((a, u, s) :: r, c) | none => none)
    | none => none)
def mDel (n : KT) (k : Value) : List (Value × Value × Nat) → Option (List (Value × Value × Nat)) := List.rec (some [])
  (fun e r ih => match e with | (a, u, s) => match eqV n k a with
    | some true => some r
    | some false => (match ih with | some r => some ((a, u, s) :: r) | none => none)
    | none => none)
/-- has a key as many cells as its type? -/
def keyOk (n : KT) (k : Value) : Bool := match n with
  | .one _ => true
  | .agg ks => match k with | .agg cs => Nat.beq cs.toList.length ks.length | _ => false
def mSet (b : Nat) (v : Value) : List (Value × Value × Nat) → Option (List (Value × Value × Nat)) := List.rec none
  (fun e r ih => match e with | (a, u, n) => bif Nat.beq n b then some ((a, v, n) :: r) else (match ih with | some r => some ((a, u, n) :: r) | none => none))
def oLookup (n : KT) (z : Value) (ok : Bool) (x i : Sel) : VSem := ⟨fun a h => match x.f a with
  | .map r => match mapOf h r with
    | some es => bif keyOk n (i.f a) then (match mFind n (i.f a) es with
      | some (some (v, _)) => some (Bool.rec v (.tuple #[v, .bool true]) ok)
      | some none => some (Bool.rec z (.tuple #[z, .bool false]) ok)
      | none => none) else none
    | none => none
  | _ => none⟩
def oLenS (x : Sel) : VSem := ⟨fun a _ => match x.f a with | .slice _ n _ => some (.int .i64 (.ofNat n)) | _ => none⟩
def oLenStr (x : Sel) : VSem := ⟨fun a _ => match x.f a with | .string s => some (.int .i64 (.ofNat s.data.toList.length)) | _ => none⟩
def oLenM (x : Sel) : VSem := ⟨fun a h => match x.f a with
  | .map r => (match mapOf h r with | some es => some (.int .i64 (.ofNat es.length)) | none => none)
  | _ => none⟩
def oStr (x : Sel) : VSem := ⟨fun a _ => match x.f a with | .string s => some (.string s) | _ => none⟩
def best (less : Bool) : List Value → Value → Option Value := List.rec (fun v => some v) (fun x _ ih v => match v with
  | .int k n => (match x with
    | .int _ m => ih (.int k (Bool.rec n m (Bool.rec (ltI n m) (ltI m n) less)))
    | _ => none)
  | _ => none)
def oBest (less : Bool) (x : Sel) (l : List Sel) : VSem := ⟨fun a _ => best less (evs a l) (x.f a)⟩

/-! ### operations that make a block -/
def ptrTo (b : Nat) : Value := .pointer (some ⟨b, 0, none⟩)
def sliceTo (len cap : Nat) (s : Option Nat) (b : Nat) : Value := .slice (some ⟨b, 0, s⟩) len cap
def aAlloc (e : TypeId) (z : List Value) : ASem := ⟨fun _ => some (.cells e z (.own false), ptrTo)⟩
def aBox (e : TypeId) (x : Sel) : ASem := ⟨fun a => match cellsL (x.f a) with | some l => some (.cells e l (.own false), ptrTo) | none => none⟩
/-- opn: octets, a row that may yet be marked as a text's (its addresses are not compared) -/
def aBuildSlice (opn : Bool) (e : TypeId) (len : Nat) (z : List Value) (ps : List (Nat × Nat × Sel)) : ASem := ⟨fun a => match fillL a ps z with
  | some l => some (.cells e l (.own opn), sliceTo len len none)
  | none => none⟩
def aMakeMap : ASem := ⟨fun _ => some (.map [] 0, fun b => .map (some b))⟩
def rep (n : Nat) (z : List Value) : List Value := Nat.rec [] (fun _ l => z ++ l) n
def aMakeSlice (e : TypeId) (bytes : Nat) (z : List Value) (l c : Sel) : ASem := ⟨fun a => match l.f a with
  | .int .i64 (.ofNat l) => (match c.f a with
    | .int .i64 (.ofNat c) => bif Nat.ble l c then (bif Nat.ble (c * bytes) 140737488355328 then (bif Nat.ble c 9223372036854775807 then some (.cells e (rep c z) (.own false), sliceTo l c none) else none) else none) else none
    | _ => none)
  | _ => none⟩
def u8s : List UInt8 → List Value := List.rec [] (fun b _ ih => .int .u8 (.ofNat b.toNat) :: ih)
def aStrBytes (e : TypeId) (x : Sel) : ASem := ⟨fun a => match x.f a with
  | .string b => some (.cells e (u8s b.data.toList) .fix, sliceTo b.data.toList.length b.data.toList.length (some 1))
  | _ => none⟩

/-! ### operations that turn the heap -/
def eStore (n : Nat) (x y : Sel) : ESem := ⟨fun _ a h => match x.f a with
  | .pointer (some p) => (match cellsL (y.f a) with
    | some c => bif Nat.beq c.length n then (match storeN h p c with | some h => .ok undef h | none => .no) else .no
    | none => .no)
  | _ => .no⟩
/-- a row of octets becomes a text's: only read from now on -/
def eFix (x : Sel) : ESem := ⟨fun _ a h => match x.f a with
  | .slice (some p) n c => bif Nat.beq n 0 then .no else (match h.get p.block with
    | some (.cells e cs (.own true)) => .ok (.slice (some p) n c) (h.put p.block (.cells e cs .fix))
    | _ => .no)
  | _ => .no⟩
def eMapUpdate (n : KT) (m k x : Sel) : ESem := ⟨fun _ a h => match m.f a with
  | .map (some r) => (match h.get r with
    | some (.map es c) => bif keyOk n (k.f a) then (match mPut n (k.f a) (x.f a) c es with | some (es, c) => .ok undef (h.put r (.map es c)) | none => .no) else .no
    | _ => .no)
  | _ => .no⟩
def eMapEntry (n : KT) (z : Value) (m k : Sel) : ESem := ⟨fun _ a h => match m.f a with
  | .map (some r) => (match h.get r with
    | some (.map es c) => bif keyOk n (k.f a) then (match mFind n (k.f a) es with
      | some (some (v, s)) => (match mPut n (k.f a) v c es with | some (es, c) => .ok (.tuple #[v, .int .i64 (.ofNat s)]) (h.put r (.map es c)) | none => .no)
      | some none => (match mPut n (k.f a) z c es with | some (es, c') => .ok (.tuple #[z, .int .i64 (.ofNat c)]) (h.put r (.map es c')) | none => .no)
      | none => .no) else .no
    | _ => .no)
  | _ => .no⟩
def eEntryStore (m s x : Sel) : ESem := ⟨fun _ a h => match m.f a with
  | .map (some r) => (match h.get r with
    | some (.map es c) => (match s.f a with
      | .int _ (.ofNat b) => (match mSet b (x.f a) es with | some es => .ok undef (h.put r (.map es c)) | none => .no)
      | _ => .no)
    | _ => .no)
  | _ => .no⟩
def eDelete (n : KT) (m k : Sel) : ESem := ⟨fun _ a h => match m.f a with
  | .map none => bif keyOk n (k.f a) then .ok (.tuple #[]) h else .no
  | .map (some r) => (match h.get r with
    | some (.map es c) => bif keyOk n (k.f a) then (match mDel n (k.f a) es with | some es => .ok (.tuple #[]) (h.put r (.map es c)) | none => .no) else .no
    | _ => .no)
  | _ => .no⟩
def eCall (f : Sel) (args : List Sel) : ESem := ⟨fun rec a h => match f.f a with
  | .func (.func g) first cap => rec (.call g (first.toList ++ evs a args ++ cap.toList)) h
  | .func (.yield l) first _ => rec (.yield l (first.toList ++ evs a args)) h
  | _ => .no⟩
def eCallF (g : FuncId) (args : List Sel) : ESem := ⟨fun rec a h => rec (.call g (evs a args)) h⟩
def srcCells (g : G) (sz : Nat) : Value → Option (Nat × List Value)
  | .slice (some p) n _ => match loadN g p (n * sz) with | some l => some (n, l) | none => none
  | .slice none n _ => bif Nat.beq n 0 then some (0, []) else none
  | .string s => bif Nat.beq sz 1 then some (s.data.toList.length, u8s s.data.toList) else none
  | _ => none
def eAppend (e : TypeId) (sz bytes : Nat) (s x : Sel) : ESem := ⟨fun _ a h => match s.f a with
  | .slice base len cap => match srcCells h.get sz (x.f a) with
    | none => .no
    | some (n, new) =>
      bif Nat.ble ((len + n) * bytes) 140737488355328 then
        bif Nat.ble (len + n) cap then
          match base with
          | none => .ok (.slice none (len + n) cap) h
          | some p => bif Nat.beq n 0 then .ok (.slice (some p) (len + n) cap) h else
            match storeN h ⟨p.block, p.off + len * sz, none⟩ new with
            | some h => .ok (.slice (some p) (len + n) cap) h
            | none => .no
        else
          match base with
          | none => bif Nat.beq len 0 then .ok (.slice (some ⟨h.next, 0, some sz⟩) (len + n) (len + n)) (newRow h e new true) else .no
          | some p => match loadN h.get p (len * sz) with
            | none => .no
            | some old => match p.spot with
              | none => .ok (.slice (some ⟨h.next, 0, some sz⟩) (len + n) (len + n)) (newRow h e (old ++ new) true)
              | some z => match h.get p.block with
                | some (.cells be cs (.own true)) => bif Nat.beq z sz && Nat.beq be e then
                    .ok (.slice (some ⟨h.next, 0, some sz⟩) (len + n) (len + n)) ((h.put p.block (.cells be cs .dead)).new (.cells e (old ++ new) (.own true)))
                  else .no
                | _ => .no
      else .no
  | _ => .no⟩
def eCopy (sz : Nat) (x y : Sel) : ESem := ⟨fun _ a h => match x.f a with
  | .slice d n _ => match srcCells h.get sz (y.f a) with
    | none => .no
    | some (m, l) =>
      match (bif Nat.ble n m then n else m) with
      | k => match d with
        | none => .ok (.int .i64 (.ofNat k)) h
        | some p => bif Nat.beq k 0 then .ok (.int .i64 (.ofNat 0)) h else match storeN h ⟨p.block, p.off, none⟩ (l.take (k * sz)) with
          | some h => .ok (.int .i64 (.ofNat k)) h
          | none => .no
  | _ => .no⟩
/-! ranges over maps: as long as there is one way to go on, and no other -/
def iterTo (b : Nat) : Value := .pointer (some ⟨b, 0, some 0⟩)
def eRange (x : Sel) : ESem := ⟨fun _ a h => match x.f a with
  | .map none => .ok (iterTo h.next) (h.new (.iter none 0 [] 0))
  | .map (some r) => (match h.get r with
    | some (.map _ c) => .ok (iterTo h.next) (h.new (.iter (some r) c [] c))
    | _ => .no)
  | _ => .no⟩
def hasN (s : Nat) : List Nat → Bool := List.rec false (fun x _ ih => bif Nat.beq s x then true else ih)
/-- entries that were not met yet -/
def leftE (seen : List Nat) : List (Value × Value × Nat) → List (Value × Value × Nat) := List.rec [] (fun e _ ih => bif hasN e.2.2 seen then ih else e :: ih)
/-- are all entries new? -/
def allNew (last : Nat) : List (Value × Value × Nat) → Bool := List.rec true (fun e _ ih => bif Nat.ble last e.2.2 then ih else false)
def stale (seen : List Nat) (last : Nat) (es : List (Value × Value × Nat)) : Bool := match seen with
  | [] => false
  | _ => match es with | [] => false | es => allNew last es
def eNext (it : Sel) : ESem := ⟨fun _ a h => match it.f a with
  | .pointer (some p) => bif Nat.beq p.off 0 then (match h.get p.block with
    | some (.iter m since seen last) => (match m with
      | none => .ok (.tuple #[.bool false]) h
      | some r => (match h.get r with
        | some (.map es c) => bif stale seen last es then .no else (match leftE seen es with
          | [] => .ok (.tuple #[.bool false]) h
          | e :: l => (match l with
            | [] => bif Nat.blt e.2.2 since then .ok (.tuple #[.bool true, e.1, e.2.1]) (h.put p.block (.iter (some r) since (seen ++ [e.2.2]) c)) else .no
            | _ => .no))
        | _ => .no))
    | _ => .no) else .no
  | _ => .no⟩
def lastN : List Nat → Option Nat := List.rec none (fun x l ih => match l with | [] => some x | _ => ih)
def stampE (s : Nat) : List (Value × Value × Nat) → Option (Value × Value) := List.rec none (fun e _ ih => bif Nat.beq e.2.2 s then some (e.1, e.2.1) else ih)
def oEntry (it : Sel) : VSem := ⟨fun a g => match it.f a with
  | .pointer (some p) => bif Nat.beq p.off 0 then (match g p.block with
    | some (.iter (some r) _ seen last) => (match lastN seen with
      | some s => (match g r with
        | some (.map es c) => bif Nat.beq c last then (match stampE s es with | some (k, v) => some (.tuple #[k, v]) | none => none) else none
        | _ => none)
      | none => none)
    | _ => none) else none
  | _ => none⟩
def eClearM (x : Sel) : ESem := ⟨fun _ a h => match x.f a with
  | .map none => .ok (.tuple #[]) h
  | .map (some r) => (match h.get r with
    | some (.map _ c) => .ok (.tuple #[]) (h.put r (.map [] c))
    | _ => .no)
  | _ => .no⟩
def eClearS (z : List Value) (x : Sel) : ESem := ⟨fun _ a h => match x.f a with
  | .slice none _ _ => .ok (.tuple #[]) h
  | .slice (some p) n _ => bif Nat.beq n 0 then .ok (.tuple #[]) h else match storeN h ⟨p.block, p.off, none⟩ (rep n z) with
    | some h => .ok (.tuple #[]) h
    | none => .no
  | _ => .no⟩
def oNo : OSem := .v false ⟨fun _ _ => none⟩

/-! ### from the program's text to these -/
def und (P : Program) (t : TypeId) : TypeDesc := (P.underlying t).getD .invalid
def szO (P : Program) (t : TypeId) : Option Nat := (P.info? t).map (·.size)
def bytesO (P : Program) (t : TypeId) : Option Nat := (P.info? t).map (·.bytes)
/-- a type's zero value -/
def zO (P : Program) (t : TypeId) : Option Value := match (P.info? t).bind (·.zero) with
  | some v => bif constB v then some v else none
  | none => none
/-- as cells -/
def zCells (P : Program) (t : TypeId) : Option (List Value) := match zO P t with
  | some v => (match cellsL v with
    | some l => (match szO P t with | some n => bif Nat.beq l.length n then some l else none | none => none)
    | none => none)
  | none => none
/-- is it a struct or an array? with its size -/
def aggO (P : Program) (t : TypeId) : Option (Bool × Nat) := match szO P t with
  | some n => (match und P t with
    | .struct _ => some (true, n)
    | .array _ _ => some (true, n)
    | .invalid => none
    | _ => some (false, n))
  | none => none
/-- the kind of a type of one cell -/
def kdOf (P : Program) (t : TypeId) : Option Nat := match szO P t with
  | some 1 => (match und P t with
    | .bool => some 0
    | .int _ => some 1
    | .string => some 2
    | .pointer e => (match szO P e with | some n => bif Nat.beq n 0 then none else some 3 | none => none)
    | .slice _ => some 4
    | .map _ _ => some 5
    | .func _ _ _ => some 6
    | _ => none)
  | _ => none
/-- the fields follow each other from a place on, and each is such a one -/
def kdFields (P : Program) : List Field → Nat → Option (List Nat)
  | [], _ => some []
  | f :: r, n => bif Nat.beq f.offset n && f.name != "_" then (match kdOf P f.type with
    | some k => (match kdFields P r (n + 1) with | some ks => some (k :: ks) | none => none)
    | none => none) else none
def ktOf (P : Program) (t : TypeId) : Option KT := match und P t with
  | .struct fs => bif !P.stoodInHeld t && !P.eqGuardType P.depth t then (match kdFields P fs.toList 0 with
    | some ks => (match szO P t with | some n => bif Nat.beq ks.length n then some (.agg ks) else none | none => none)
    | none => none) else none
  | .array len e => bif !P.eqGuardType P.depth t then (match kdOf P e with
    | some k => (match szO P t with | some n => bif Nat.beq n len then some (.agg (List.replicate len k)) else none | none => none)
    | none => none) else none
  | _ => match kdOf P t with | some k => some (.one k) | none => none
/-- of a map's key: no kind of which but nil can be compared -/
def ktKey (P : Program) (t : TypeId) : Option KT := match ktOf P t with
  | some (.one k) => bif Nat.ble k 3 then some (.one k) else none
  | some (.agg ks) => bif ks.all (fun k => Nat.ble k 3) then some (.agg ks) else none
  | none => none
/-- parts at their places -/
def partsL (l : List (Nat × Operand)) (place : Nat → Option (Nat × Nat)) : Option (List (Nat × Nat × Sel)) := match l with
  | [] => some []
  | (i, x) :: r => match place i with
    | some (off, n) => (match partsL r place with | some q => some ((off, n, evB x) :: q) | none => none)
    | none => none
def fieldPl (P : Program) (fs : List Field) (i : Nat) : Option (Nat × Nat) := match fs[i]? with
  | some f => (match szO P f.type with | some n => some (f.offset, n) | none => none)
  | none => none
def allSz (P : Program) (fs : List Field) : Bool := fs.all fun f => (szO P f.type).isSome
def selsB (l : Array Operand) : List Sel := l.toList.map evB
def optB (o : Option Operand) : Option Sel := o.map evB
def denBin (P : Program) (op : BinOp) (t : TypeId) (x y : Sel) : OSem := match op with
  | .add => .v false (oInt2 fAdd x y)
  | .sub => .v false (oInt2 fSub x y)
  | .mul => .v false (oInt2 fMul x y)
  | .lss => .v false (oInt2 fLss x y)
  | .leq => .v false (oInt2 fLeq x y)
  | .gtr => .v false (oInt2 fGtr x y)
  | .geq => .v false (oInt2 fGeq x y)
  | .and => .v false (oInt2 fAnd x y)
  | .or => .v false (oInt2 fOr x y)
  | .xor => .v false (oInt2 fXor x y)
  | .andNot => .v false (oInt2 fAndNot x y)
  | .shl => .v false (oSh fShl x y)
  | .shr => .v false (oSh fShr x y)
  | .quo => .v false (oInt2 fQuo x y)
  | .rem => .v false (oInt2 fRem x y)
  | .eql => (match ktOf P t with | some n => .v false (oEq n x y) | none => oNo)
  | .neq => (match ktOf P t with | some n => .v false (oNe n x y) | none => oNo)
def denConvert (P : Program) (s d : TypeId) (x : Sel) : OSem := match und P s with
  | .int _ => (match und P d with
    | .int k => .v false (oConvInt k x)
    | _ => oNo)
  | .slice e => (match und P d, und P e with
    | .string, .int .u8 => .v true (oToString x)
    | .slice _, .int .u8 => bif Nat.beq s d then .e (eFix x) else oNo
    | _, _ => oNo)
  | .string => (match und P d with
    | .slice e => (match und P e with | .int .u8 => .a (aStrBytes e x) | _ => oNo)
    | .string => .v false (oStr x)
    | _ => oNo)
  | _ => oNo
def denLen (P : Program) (t : TypeId) (x : Sel) : OSem := match und P t with
  | .array n _ => .v false (oConst (.int .i64 (.ofNat n)))
  | .pointer e => (match und P e with | .array n _ => .v false (oConst (.int .i64 (.ofNat n))) | _ => oNo)
  | .slice _ => .v false (oLenS x)
  | .string => .v false (oLenStr x)
  | .map _ _ => .v true (oLenM x)
  | _ => oNo
def denAppend (P : Program) (t u : TypeId) (s x : Sel) : OSem := match und P t, und P u with
  | .slice e, .slice _ => (match szO P e, bytesO P e, zCells P e with | some sz, some by_, some z => bif Nat.blt 0 sz && Nat.blt 0 by_ then .e (eAppend e sz by_ s x) else oNo | _, _, _ => oNo)
  | .slice e, .string => (match szO P e, bytesO P e, zCells P e with | some sz, some by_, some z => bif Nat.blt 0 sz && Nat.blt 0 by_ then .e (eAppend e sz by_ s x) else oNo | _, _, _ => oNo)
  | _, _ => oNo
def denBuiltin (P : Program) (b : Builtin) (args : List Operand) (ts : List TypeId) : OSem := match b with
  | .len => (match args, ts with | [x], [t] => denLen P t (evB x) | _, _ => oNo)
  | .append => (match args, ts with | [s, x], [t, u] => denAppend P t u (evB s) (evB x) | _, _ => oNo)
  | .copy => (match args, ts with
    | [x, y], [t, _] => (match und P t with | .slice e => (match szO P e with | some sz => .e (eCopy sz (evB x) (evB y)) | none => oNo) | _ => oNo)
    | _, _ => oNo)
  | .clear => (match args, ts with
    | [x], [t] => (match und P t with
      | .slice e => (match zCells P e with | some z => bif Nat.blt 0 z.length then .e (eClearS z (evB x)) else oNo | none => oNo)
      | .map _ _ => .e (eClearM (evB x))
      | _ => oNo)
    | _, _ => oNo)
  | .delete => (match args, ts with
    | [m, k], t :: _ => (match und P t with
      | .map kt _ => (match ktKey P kt with | some n => .e (eDelete n (evB m) (evB k)) | none => oNo)
      | _ => oNo)
    | _, _ => oNo)
  | .min => (match args with | x :: l => .v false (oBest true (evB x) (l.map evB)) | _ => oNo)
  | .max => (match args with | x :: l => .v false (oBest false (evB x) (l.map evB)) | _ => oNo)
  | _ => oNo
def denBuild (P : Program) (t : TypeId) (ps : Array (Nat × Operand)) : OSem := match zCells P t, und P t with
  | some z, .struct fs => bif allSz P fs.toList then (match partsL ps.toList (fieldPl P fs.toList) with | some q => .v false (oBuild z q) | none => oNo) else oNo
  | some z, .array _ e => (match szO P e with
    | some sz => (match partsL ps.toList (fun i => some (i * sz, sz)) with | some q => .v false (oBuild z q) | none => oNo)
    | none => oNo)
  | _, _ => oNo
def isU8 (P : Program) (e : TypeId) : Bool := match und P e with | .int .u8 => true | _ => false
def denBuildSlice (P : Program) (t : TypeId) (len : Nat) (ps : Array (Nat × Operand)) : OSem := match und P t with
  | .slice e => (match zCells P e with
    | some z => bif Nat.ble (len * z.length) 16777216 && Nat.blt 0 z.length then (match partsL ps.toList (fun i => some (i * z.length, z.length)) with
      | some q => .a (aBuildSlice (isU8 P e) e len (rep len z) q)
      | none => oNo) else oNo
    | none => oNo)
  | _ => oNo
def denSlice (P : Program) (t : TypeId) (x : Sel) (lo hi mx : Option Sel) : OSem := bif hi.isNone && mx.isSome then oNo else match und P t with
  | .slice e => (match szO P e with | some sz => .v false (oSlice sz x lo hi mx) | none => oNo)
  | .array n e => (match szO P e with | some sz => .v false (oSliceA n sz x lo hi mx) | none => oNo)
  | .string => (match mx with | none => .v false (oSliceStr x lo hi) | some _ => oNo)
  | _ => oNo
def denFieldAddr (P : Program) (t : TypeId) (x : Sel) (f : Nat) : OSem := match und P t with
  | .struct fs => (match fieldPl P fs.toList f with | some (off, n) => bif Nat.beq n 0 then oNo else .v false (oFieldAddr off x) | none => oNo)
  | _ => oNo
def denField (P : Program) (t : TypeId) (x : Sel) (f : Nat) : OSem := match und P t with
  | .struct fs => (match fs.toList[f]? with
    | some f => (match aggO P f.type with
      | some (true, n) => .v false (oFieldN f.offset n x)
      | some (false, _) => .v false (oField1 f.offset x)
      | none => oNo)
    | none => oNo)
  | _ => oNo
def denIndexAddr (P : Program) (t : TypeId) (x i : Sel) : OSem := match und P t with
  | .slice e => (match szO P e with | some sz => .v false (oIndexAddrS sz x i) | none => oNo)
  | .array n e => (match szO P e with | some sz => .v false (oIndexAddrA n sz x i) | none => oNo)
  | _ => oNo
def denIndex (P : Program) (t : TypeId) (x i : Sel) : OSem := match und P t with
  | .array n e => (match aggO P e with | some (false, 1) => .v false (oIndexA1 n x i) | _ => oNo)
  | .string => .v false (oIndexS x i)
  | _ => oNo
def denMap (P : Program) (t : TypeId) (k : KT → Value → OSem) : OSem := match und P t with
  | .map kt et => (match ktKey P kt, zO P et with | some n, some z => k n z | _, _ => oNo)
  | _ => oNo
def denRange (P : Program) (t : TypeId) (x : Sel) : OSem := match und P t with | .map _ _ => .e (eRange x) | _ => oNo
def denNext (s : Bool) (it : Sel) : OSem := bif s then oNo else .e (eNext it)
def denOp (P : Program) (op : Op) : OSem :=
  match op with
  | .move x => .v false (oEv (evB x))
  | .assign x => .v false (oEv (evB x))
  | .pick c x y => .v false (oPick (evB c) (evB x) (evB y))
  | .alloc e => (match zCells P e with | some z => .a (aAlloc e z) | none => oNo)
  | .box e x => .a (aBox e (evB x))
  | .build t ps => denBuild P t ps
  | .buildSlice t len ps => denBuildSlice P t len ps
  | .load t x => (match aggO P t with
    | some (true, n) => .v true (oLoadN n (evB x))
    | some (false, _) => .v true (oLoad1 (evB x))
    | none => oNo)
  | .store t x y => (match szO P t with | some n => .e (eStore n (evB x) (evB y)) | none => oNo)
  | .nilCheck x => .v false (oNilCheck (evB x))
  | .binOp op t x y _ => denBin P op t (evB x) (evB y)
  | .unOp .neg _ x => .v false (oNeg (evB x))
  | .unOp .not _ x => .v false (oNot (evB x))
  | .unOp .xor _ x => .v false (oCom (evB x))
  | .convert s d x => denConvert P s d (evB x)
  | .makeInterface t x => (match und P t with
    | .interface _ => oNo
    | .invalid => oNo
    | _ => .v false (oIface t (evB x)))
  | .makeFunc fn first cap => (match fn with | .func _ => .v false (oFunc fn (selsB first) (selsB cap)) | _ => oNo)
  | .makeMap _ none => .a aMakeMap
  | .makeSlice t l c => (match und P t with
    | .slice e => (match bytesO P e, zCells P e with | some by_, some z => bif Nat.blt 0 z.length then .a (aMakeSlice e by_ z (evB l) (evB c)) else oNo | _, _ => oNo)
    | _ => oNo)
  | .slice t x lo hi mx => denSlice P t (evB x) (optB lo) (optB hi) (optB mx)
  | .fieldAddr t x f => denFieldAddr P t (evB x) f
  | .field t x f => denField P t (evB x) f
  | .indexAddr t x i => denIndexAddr P t (evB x) (evB i)
  | .index t x i => denIndex P t (evB x) (evB i)
  | .lookup t x i ok => denMap P t fun n z => .v true (oLookup n z ok (evB x) (evB i))
  | .mapUpdate t m k x => denMap P t fun n _ => .e (eMapUpdate n (evB m) (evB k) (evB x))
  | .insert t m k x => denMap P t fun n _ => .e (eMapUpdate n (evB m) (evB k) (evB x))
  | .mapEntry t m k => denMap P t fun n z => .e (eMapEntry n z (evB m) (evB k))
  | .entryStore _ m s x => .e (eEntryStore (evB m) (evB s) (evB x))
  | .extract x i => .v false (oExtract (evB x) i)
  | .range t x => denRange P t (evB x)
  | .next it s => denNext s (evB it)
  | .entry it => .v true (oEntry (evB it))
  | .call c => (match c.callee with
    | .value f => (match f with
      | .func g => .e (eCallF g (selsB c.args))
      | f => .e (eCall (evB f) (selsB c.args)))
    | .builtin b => denBuiltin P b c.args.toList c.argTypes.toList
    | .invoke _ _ => oNo)
  | _ => oNo

/-! ### items of a region -/
def dstB : Option Tmp → Put
  | some d => put d
  | none => ⟨fun _ a => a⟩
def iOp (d : Put) : OSem → ISem
  | .v _ s => ⟨fun rec a h => match s.f a h.get with | none => .no | some v => .mk (d.f v a) h⟩
  | .a s => ⟨fun rec a h => match s.f a with | none => .no | some (blk, v) => .mk (d.f (v h.next) a) (h.new blk)⟩
  | .e s => ⟨fun rec a h => match s.f rec a h with | .no => .no | .ok v h => .mk (d.f v a) h⟩
def iGuard (s : Sel) (want : Bool) (d : Put) (i : ISem) : ISem := ⟨fun rec a h => match s.f a with
  | .bool b => Bool.rec (.mk (d.f undef a) h) (i.f rec a h) (Bool.rec (!b) b want)
  | _ => .mk (d.f undef a) h⟩
def iBad : ISem := ⟨fun _ _ _ => .no⟩
def okDst (n : Nat) : Option Tmp → Bool
  | some d => Nat.blt d n
  | none => true
/-- the slot of a guard -/
def guardSlot (ops : List Oper) (n j : Nat) : Option Tmp := match ops[j]? with
  | some p => (match p.dst with | some s => bif Nat.blt s n then some s else none | none => none)
  | none => none
def okOper (n : Nat) (o : Oper) : Bool := okDst n o.dst && o.op.operands.toList.all (okX n)
def denItem (P : Program) (n : Nat) (ops : List Oper) (o : Oper) : ISem :=
  bif okOper n o then
    match o.guard with
    | none => iOp (dstB o.dst) (denOp P o.op)
    | some (j, want) => (match guardSlot ops n j with
      | some s => iGuard (sel s) want (dstB o.dst) (iOp (dstB o.dst) (denOp P o.op))
      | none => iBad)
  else iBad
def runItems (rec : Rec) : List ISem → Fr → Heap → It := List.rec (fun a h => .mk a h) (fun i _ ih a h => match i.f rec a h with | .no => .no | .mk a h => ih a h)
def sRegion (l : List ISem) : Sem := ⟨fun rec _ a h => match runItems rec l a h with | .no => .no | .mk a h => .mk .normal a h⟩
/-! ### a region whose order is open -/
def isE : OSem → Bool | .e _ => true | _ => false
def isRd : OSem → Bool | .v rd _ => rd | _ => false
/-- what stands ahead of an operation whatever the order: a bit a place -/
def befs (ops : List Oper) : List Nat := ops.foldl (fun acc o =>
  acc ++ [o.after.toList.foldl (fun s e => bif Region.binds .any e then Nat.lor s (Nat.lor (2 ^ e.on) (acc[e.on]?.getD 0)) else s) 0]) []
def bit (m j : Nat) : Bool := Nat.beq (Nat.land (m / 2 ^ j) 1) 1
/-- slots that an operation looks at -/
def looks (ops : List Oper) (n : Nat) (o : Oper) : List Tmp :=
  o.op.operands.toList.filterMap (fun x => match x with | .tmp t => some t | _ => none) ++
  (match o.guard with | some (j, _) => (guardSlot ops n j).toList | none => [])
def noClash (ops : List Oper) (n : Nat) (x y : Oper) : Bool :=
  (match x.dst with | some d => !(looks ops n y).contains d && !(y.dst == some d) | none => true) &&
  (match y.dst with | some d => !(looks ops n x).contains d | none => true)
/-- every edge leads back; what is not ordered does not clash; what turns the heap is ordered -/
def okDraw (P : Program) (n : Nat) (ops : List Oper) : Bool :=
  let bs := befs ops
  (List.range ops.length).all fun j => match ops[j]?, bs[j]? with
    | some y, some m => y.after.toList.all (fun e => !Region.binds .any e || Nat.blt e.on j) && (List.range j).all fun i => bit m i || (match ops[i]? with
      | some x => noClash ops n x y && !(isE (denOp P x.op) && isE (denOp P y.op))
      | none => false)
    | _, _ => false
/-- the places behind which a reading operation may be carried out: 0 (at the head), or k + 1 behind the heap's turning at k -/
def windows (P : Program) (ops : List Oper) (bs : List Nat) (i : Nat) : List Nat :=
  let es := (List.range ops.length).filter fun j => match ops[j]? with | some o => isE (denOp P o.op) | none => false
  (0 :: es.map (· + 1)).filter fun m => es.all fun j =>
    (!(bit (bs[i]?.getD 0) j) || Nat.blt j m) && (!(bit (bs[j]?.getD 0) i) || Nat.ble m j)
/-- the readings that are to be held at several places -/
def checks (P : Program) (ops : List Oper) : List (Nat × List Nat) :=
  let bs := befs ops
  ((List.range ops.length).filter fun i => match ops[i]? with | some o => isRd (denOp P o.op) | none => false).filterMap fun i =>
    match windows P ops bs i with
    | [] => none
    | [_] => none
    | l => some (i, l)
def same1 : Value → Value → Bool
  | .int k n, .int j m => bif k == j then eqI n m else false
  | .bool a, .bool b => Bool.rec (!b) b a
  | .string a, .string b => eqB a.data.toList b.data.toList
  | .pointer none, .pointer none => true
  | .pointer (some a), .pointer (some b) => bif eqA a b then a.spot == b.spot else false
  | .slice none n c, .slice none m d => bif Nat.beq n m then Nat.beq c d else false
  | .slice (some a) n c, .slice (some b) m d => bif Nat.beq n m then (bif Nat.beq c d then (bif eqA a b then a.spot == b.spot else false) else false) else false
  | .map none, .map none => true
  | .map (some a), .map (some b) => Nat.beq a b
  | .nilFunc, .nilFunc => true
  | .nilIface, .nilIface => true
  | _, _ => false
def sameL : List Value → List Value → Bool := List.rec (fun l => List.rec true (fun _ _ _ => false) l)
  (fun x _ ih l => List.rec false (fun y l _ => bif same1 x y then ih l else false) l)
def sameV : Value → Value → Bool
  | .agg x, .agg y => sameL x.toList y.toList
  | .tuple x, .tuple y => sameL x.toList y.toList
  | x, y => same1 x y
/-- the states on the way -/
def runStates (rec : Rec) : List ISem → Fr → Heap → Option (List (Fr × Heap)) := List.rec (fun a h => some [(a, h)])
  (fun i _ ih a h => match i.f rec a h with | .no => none | .mk a' h' => (match ih a' h' with | some l => some ((a, h) :: l) | none => none))
def checkOne (P : Program) (n : Nat) (ops : List Oper) (st : List (Fr × Heap)) (c : Nat × List Nat) : Bool := match ops[c.1]?, st[c.1]? with
  | some o, some (a, h) => (match denOp P o.op with
    | .v _ s => (match o.guard with
      | some (j, want) => (match guardSlot ops n j with
        | some g => (match (sel g).f a with | .bool b => (bif b == want then false else true) | _ => true)
        | none => false)
      | none => false) || (match s.f a h.get with
      | some v => c.2.all fun m => (match st[m]? with
        | some (_, h') => (match s.f a h'.get with | some v' => sameV v v' | none => false)
        | none => false)
      | none => false)
    | _ => false)
  | _, _ => false
def sDraw (P : Program) (n : Nat) (ops : List Oper) (items : List ISem) (cs : List (Nat × List Nat)) : Sem := ⟨fun rec _ a h => match runStates rec items a h with
  | none => .no
  | some st => bif cs.all (checkOne P n ops st) then (match st.getLast? with | some (a, h) => .mk .normal a h | none => .no) else .no⟩
def denDraw (P : Program) (n : Nat) (ops : Array Oper) : Sem :=
  bif okDraw P n ops.toList then
    match checks P ops.toList with
    | [] => sRegion (ops.toList.map (denItem P n ops.toList))
    | cs => sDraw P n ops.toList (ops.toList.map (denItem P n ops.toList)) cs
  else ⟨fun _ _ _ _ => .no⟩

/-! ### code -/
def sEx (e : Ex) : Sem := ⟨fun _ _ a h => .mk e a h⟩
def sNo : Sem := ⟨fun _ _ _ _ => .no⟩
def sSeq (x y : Sem) : Sem := ⟨fun rec n a h => match x.f rec n a h with
  | .no => .no
  | .mk e a h => match e with
    | .normal => y.f rec n a h
    | e => .mk e a h⟩
def sCond (c : Sel) (x y : Sem) : Sem := ⟨fun rec n a h => match c.f a with
  | .bool b => Bool.rec (y.f rec n a h) (x.f rec n a h) b
  | _ => .no⟩
def sBlock (id : Nat) (x : Sem) : Sem := ⟨fun rec n a h => match x.f rec n a h with
  | .no => .no
  | .mk e a h => match e with
    | .exit i => bif Nat.beq i id then .mk .normal a h else .mk (.exit i) a h
    | e => .mk e a h⟩
def loopGo (x : Fr → Heap → Out) : Nat → Fr → Heap → Out := Nat.rec (motive := fun _ => Fr → Heap → Out) (fun _ _ => .no) (fun _ ih a h => match x a h with
  | .no => .no
  | .mk e a h => match e with
    | .normal => ih a h
    | e => .mk e a h)
def sLoop (x : Sem) : Sem := ⟨fun rec n a h => loopGo (x.f rec n) n a h⟩
def sRangeFunc (nt : Nat) (f : Sel) (params : List Tmp) (assign body : Code) : Sem := ⟨fun rec _ a h =>
  match f.f a with
  | .func (.func g) first cap =>
    match rec (.call g (first.toList ++ [Value.func (.yield h.next) #[] #[]] ++ cap.toList)) (h.new (.loop nt params assign body a .ready none)) with
    | .ok _ h' => (match h'.get h.next with
      | some (.loop nt ps s b a' st p) => (match st with
        | .busy => .no
        | _ => (match p with
          | none => .mk .normal a (h'.put h.next (.loop nt ps s b a' .exhausted p))
          | some c => (match c with
            | .exit id => .mk (.exit id) a (h'.put h.next (.loop nt ps s b a' .exhausted p))
            | .ret => .mk .ret a (h'.put h.next (.loop nt ps s b a' .exhausted p))
            | _ => .no)))
      | _ => .no)
    | .no => .no
  | _ => .no⟩
/-- ir: within a loop over a function no second one -/
def den0 (P : Program) (n : Nat) (ir : Bool) : Code → Sem
  | .skip => sEx .normal
  | .region _ ops false => sRegion (ops.toList.map (denItem P n ops.toList))
  | .region _ ops true => denDraw P n ops
  | .seq x y => sSeq (den0 P n ir x) (den0 P n ir y)
  | .cond c x y => bif okX n c then sCond (evB c) (den0 P n ir x) (den0 P n ir y) else sNo
  | .block id b => sBlock id (den0 P n ir b)
  | .loop b => sLoop (den0 P n ir b)
  | .rangeFunc f ps s b => bif !ir && okX n f && ps.toList.all (fun t => Nat.blt t n) then sRangeFunc n (evB f) ps.toList s b else sNo
  | .exit id => sEx (.exit id)
  | .label _ => sEx .normal
  | .goto l => sEx (.goto l)
  | .ret => sEx .ret
  | _ => sNo
def scopeGo (P : Program) (nt : Nat) (b : Code) (rec : Rec) (n : Nat) : Nat → Code → Fr → Heap → Out := Nat.rec (motive := fun _ => Code → Fr → Heap → Out) (fun _ _ _ => .no) (fun _ ih c a h => match (den0 P nt false c).f rec n a h with
    | .no => .no
    | .mk e a h => match e with
      | .goto l => (match findLabel b l with | some r => ih r a h | none => .no)
      | e => .mk e a h)
def sScope (P : Program) (nt : Nat) (b : Code) : Sem := ⟨fun rec n a h => scopeGo P nt b rec n n b a h⟩
/-- a scope stands at the head alone -/
def den (P : Program) (n : Nat) : Code → Sem
  | .scope b => sScope P n b
  | c => den0 P n false c

/-! ### calls -/
inductive RV where
  | tmp (s : Sel) | one (c : Sel) | agg (c : Sel) (n : Nat)
def okRV (P : Program) (n : Nat) : ResultVar → Bool
  | .tmp t => Nat.blt t n
  | .cell c t => Nat.blt c n && (aggO P t).isSome
def denRV (P : Program) : ResultVar → RV
  | .tmp t => .tmp (sel t)
  | .cell c t => match aggO P t with | some (true, n) => .agg (sel c) n | _ => .one (sel c)
def rv (h : Heap) (a : Fr) : RV → Option Value
  | .tmp t => some (t.f a)
  | .one c => match c.f a with | .pointer (some p) => load1 h.get p | _ => none
  | .agg c n => match c.f a with | .pointer (some p) => (match loadN h.get p n with | some l => some (.agg l.toArray) | none => none) | _ => none
def rvs (h : Heap) (a : Fr) : List RV → Option (List Value) := List.rec (some []) (fun r _ ih => match rv h a r with
  | none => none
  | some v => match ih with | none => none | some vs => some (v :: vs))
structure CF where
  nt : Nat
  rs : List RV
  body : Sem
def denF (P : Program) (f : FuncId) : Option CF := match P.funcs[f]? with
  | none => none
  | some fn => match fn.body with
    | none => none
    | some c => bif !(fn.name == "runtime.NumGoroutine") && Nat.ble fn.ntmps 512 && fn.results.toList.all (okRV P fn.ntmps) then some ⟨fn.ntmps, fn.results.toList.map (denRV P), den P fn.ntmps c⟩ else none
def finish (rs : List RV) : Out → Res
  | .no => .no
  | .mk e a h => match e with
    | .exit _ => .no
    | .goto _ => .no
    | _ => match rvs h a rs with
      | none => .no
      | some l => match l with
        | [v] => .ok v h
        | l => .ok (.tuple l.toArray) h
def setAll : List Tmp → List Value → Fr → Fr := List.rec (fun _ a => a) (fun t _ ih vs a => List.rec a (fun v vs _ => ih vs ((put t).f v a)) vs)
def frameOf (vs : List Value) : Fr := List.rec (motive := fun _ => Nat → Fr → Fr) (fun _ a => a) (fun v _ ih i a => ih (i + 1) ((put i).f v a)) vs 0 fr0
/-- a round's end -/
def roundEnd (l : Nat) (h : Heap) (go : Bool) (st : LoopState) (p : Option Code) : Res := match h.get l with
  | some (.loop nt ps s b a _ _) => .ok (.bool go) (h.put l (.loop nt ps s b a st p))
  | _ => .no
/-- a round: the left sides, then the body -/
def roundGo (P : Program) (rec : Rec) (n nt : Nat) (s b : Code) (l : Nat) (a : Fr) (h : Heap) : Res :=
  match (den0 P nt true s).f rec n a h with
  | .no => .no
  | .mk e a1 h1 => match e with
    | .normal => (match h1.get l with
      | some (.loop nt' ps' s' b' a' st' p') => (match st' with
        | .ready => (match (den0 P nt true b).f rec n a1 (h1.put l (.loop nt' ps' s' b' a' .busy p')) with
          | .no => .no
          | .mk e a2 h2 => match e with
            | .normal => roundEnd l h2 true .ready none
            | .exit id => roundEnd l h2 false .done (some (.exit id))
            | .ret => roundEnd l h2 false .done (some .ret)
            | .goto _ => .no)
        | _ => .no)
      | _ => .no)
    | _ => .no
abbrev Sums := FuncId → Option (List Value → Heap → Res)
def callN (P : Program) (Γ : Sums) : Nat → Job → Heap → Res :=
  Nat.rec (fun _ _ => .no) (fun n ih j h => match j with
    | .call f args => (match Γ f with
      | some s => s args h
      | none => (match denF P f with
        | none => .no
        | some c => bif Nat.ble args.length c.nt then finish c.rs (c.body.f ih n (frameOf args) h) else .no))
    | .yield l args => (match h.get l with
      | some (.loop nt ps s b a _ _) => bif Nat.beq args.length ps.length then roundGo P ih n nt s b l (setAll ps args a) h else .no
      | _ => .no))
def says (P : Program) (Γ : Sums) (n f : Nat) (args : List Value) : Bool :=
  match callN P Γ n (.call f args) ⟨0, .nil⟩ with
  | .ok (.bool b) _ => b
  | _ => false
end
end Vm

/-! How the abstract run and the model's run are tied: values by a renaming of blocks, heaps block by block. -/
set_option linter.unusedVariables false
namespace Vm
open Go

/-- where a block of the abstract heap lies: the model's block, the place of its first cell, the model's block's size; c: it is shared with nothing (addresses in it may be compared) -/
structure Inf where
  r : Nat
  o : Nat
  n : Nat
  c : Bool
abbrev Ren := Nat → Option Inf
def Ren.le (ρ σ : Ren) : Prop := ∀ b i, ρ b = some i → σ b = some i
theorem Ren.le_refl (ρ : Ren) : ρ.le ρ := fun _ _ h => h
theorem Ren.le_trans {ρ σ τ : Ren} (h : ρ.le σ) (k : σ.le τ) : ρ.le τ := fun b i hb => k b i (h b i hb)

def AddrR (ρ : Ren) (a a' : Addr) : Prop := ∃ i, ρ a.block = some i ∧ a' = ⟨i.r, i.o + a.off, none⟩

/-- a slice's address: that of an empty slice at the end of what is known may lie elsewhere in its block; that of one without capacity anywhere -/
def AddrS (ρ : Ren) (a a' : Addr) (n c : Nat) : Prop := AddrR ρ a a' ∨ (n = 0 ∧ c = 0 ∧ ∃ i, ρ a.block = some i ∧ (a.spot = none ∨ (a'.spot = none ∧ a'.block = i.r)))
mutual
inductive VR (ρ : Ren) : Value → Value → Prop
  | same {v : Value} (h : lit v = true) : VR ρ v v
  | ptr {a a' : Addr} (h : AddrR ρ a a') (hc : a.spot = none → ∀ i, ρ a.block = some i → i.c = true) : VR ρ (.pointer (some a)) (.pointer (some a'))
  | slice {a a' : Addr} {n c c' : Nat} (h : AddrS ρ a a' n c) (h0 : a.spot = none → c' = c) (h1 : ∀ z, a.spot = some z → c ≤ c' ∧ ∀ i, ρ a.block = some i → a'.off + c' * z ≤ i.n) :
      VR ρ (.slice (some a) n c) (.slice (some a') n c')
  | map {b : Nat} {i : Inf} (h : ρ b = some i) : VR ρ (.map (some b)) (.map (some i.r))
  | func {f : FuncId} {x x' y y' : Array Value} (h1 : VRs ρ x.toList x'.toList) (h2 : VRs ρ y.toList y'.toList) : VR ρ (.func (.func f) x y) (.func (.func f) x' y')
  | yield {l : Nat} {i : Inf} {x x' y y' : Array Value} (h : ρ l = some i) (h1 : VRs ρ x.toList x'.toList) (h2 : VRs ρ y.toList y'.toList) : VR ρ (.func (.yield l) x y) (.func (.yield i.r) x' y')
  | iface {t : TypeId} {v v' : Value} (h : VR ρ v v') : VR ρ (.iface t v) (.iface t v')
  | agg {x x' : Array Value} (h : VRs ρ x.toList x'.toList) (h1 : ∀ v ∈ x'.toList, v.oneCell' = true) : VR ρ (.agg x) (.agg x')
  | tuple {x x' : Array Value} (h : VRs ρ x.toList x'.toList) : VR ρ (.tuple x) (.tuple x')
inductive VRs (ρ : Ren) : List Value → List Value → Prop
  | nil : VRs ρ [] []
  | cons {v v' : Value} {l l' : List Value} (h : VR ρ v v') (h' : VRs ρ l l') : VRs ρ (v :: l) (v' :: l')
end

theorem AddrR.mono {ρ σ : Ren} (hle : ρ.le σ) {a a' : Addr} (h : AddrR ρ a a') : AddrR σ a a' := by
  obtain ⟨i, hi, e⟩ := h
  exact ⟨i, hle _ _ hi, e⟩

theorem AddrS.mono {ρ σ : Ren} (hle : ρ.le σ) {a a' : Addr} {n c : Nat} (h : AddrS ρ a a' n c) : AddrS σ a a' n c := by
  rcases h with h | ⟨h1, h2, i, h4, h5⟩
  · exact .inl (h.mono hle)
  · exact .inr ⟨h1, h2, i, hle _ _ h4, h5⟩
theorem AddrS.dom {ρ : Ren} {a a' : Addr} {n c : Nat} (h : AddrS ρ a a' n c) : ∃ i, ρ a.block = some i := by
  rcases h with ⟨i, hi, _⟩ | ⟨_, _, i, hi, _⟩ <;> exact ⟨i, hi⟩
theorem AddrS.plain {ρ : Ren} {a a' : Addr} {n c : Nat} (h : AddrS ρ a a' n c) : a'.spot = none ∨ (n = 0 ∧ c = 0 ∧ a.spot = none) := by
  rcases h with ⟨i, hi, rfl⟩ | ⟨h1, h2, i, _, h | ⟨h, _⟩⟩
  · exact .inl rfl
  · exact .inr ⟨h1, h2, h⟩
  · exact .inl h
mutual
theorem VR.mono {ρ σ : Ren} (hle : ρ.le σ) {v v' : Value} (h : VR ρ v v') : VR σ v v' := by
  cases h with
  | same h => exact .same h
  | ptr h hc =>
    obtain ⟨i, hi, e⟩ := h
    exact .ptr ⟨i, hle _ _ hi, e⟩ (fun hs j hj => by
      have := hle _ _ hi; rw [hj] at this; cases this; exact hc hs i hi)
  | slice h h0 h1 =>
    obtain ⟨i, hi⟩ := h.dom
    exact .slice (h.mono hle) h0 (fun z hz => ⟨(h1 z hz).1, fun j hj => by
      have := hle _ _ hi; rw [hj] at this; cases this; exact (h1 z hz).2 i hi⟩)
  | map h => exact .map (hle _ _ h)
  | func h1 h2 => exact .func (h1.mono hle) (h2.mono hle)
  | yield h h1 h2 => exact .yield (hle _ _ h) (h1.mono hle) (h2.mono hle)
  | iface h => exact .iface (h.mono hle)
  | agg h h1 => exact .agg (h.mono hle) h1
  | tuple h => exact .tuple (h.mono hle)
theorem VRs.mono {ρ σ : Ren} (hle : ρ.le σ) {l l' : List Value} (h : VRs ρ l l') : VRs σ l l' := by
  cases h with
  | nil => exact .nil
  | cons h h' => exact .cons (h.mono hle) (h'.mono hle)
end

section
variable {ρ : Ren}
theorem VRs.length {l l' : List Value} (h : VRs ρ l l') : l.length = l'.length := by
  induction l generalizing l' with
  | nil => cases h; rfl
  | cons v l ih => cases h with | cons h h' => simp [ih h']
theorem VRs.get {l l' : List Value} (h : VRs ρ l l') (i : Nat) (v : Value) (hv : l[i]? = some v) : ∃ v', l'[i]? = some v' ∧ VR ρ v v' := by
  induction l generalizing l' i with
  | nil => simp at hv
  | cons u l ih =>
    cases h with
    | cons h h' =>
      cases i with
      | zero => simp at hv; subst hv; exact ⟨_, rfl, h⟩
      | succ i => simpa using ih h' i (by simpa using hv)
theorem VRs.append {l l' k k' : List Value} (h : VRs ρ l l') (g : VRs ρ k k') : VRs ρ (l ++ k) (l' ++ k') := by
  induction l generalizing l' with
  | nil => cases h; exact g
  | cons u l ih => cases h with | cons h h' => exact .cons h (ih h')
theorem VRs.drop {l l' : List Value} (h : VRs ρ l l') (n : Nat) : VRs ρ (l.drop n) (l'.drop n) := by
  induction n generalizing l l' with
  | zero => exact h
  | succ n ih => cases h with | nil => exact .nil | cons h h' => exact ih h'
theorem VRs.take {l l' : List Value} (h : VRs ρ l l') (n : Nat) : VRs ρ (l.take n) (l'.take n) := by
  induction n generalizing l l' with
  | zero => simpa using VRs.nil
  | succ n ih => cases h with | nil => exact .nil | cons h h' => exact .cons h (ih h')
theorem VRs.ofGet {l l' : List Value} (hl : l.length = l'.length) (h : ∀ (i : Nat) (v v' : Value), l[i]? = some v → l'[i]? = some v' → VR ρ v v') : VRs ρ l l' := by
  induction l generalizing l' with
  | nil => cases l' with | nil => exact .nil | cons _ _ => simp at hl
  | cons u l ih =>
    cases l' with
    | nil => simp at hl
    | cons u' l' =>
      refine .cons (h 0 u u' rfl rfl) (ih (by simpa using hl) fun i v v' h1 h2 => h (i + 1) v v' (by simpa using h1) (by simpa using h2))

theorem VRs.lits {l : List Value} (h : l.all lit = true) : VRs ρ l l := by
  induction l with
  | nil => exact .nil
  | cons v l ih => simp at h; exact .cons (.same h.1) (ih (by simpa using h.2))
theorem lit_one {v : Value} (h : lit v = true) : v.oneCell' = true := by cases v <;> simp_all [lit, Value.oneCell']
theorem VR.const {v : Value} (h : constB v = true) : VR ρ v v := by
  cases v
  case agg cs =>
    have h' : cs.toList.all lit = true := h
    exact .agg (VRs.lits h') fun v hv => lit_one (List.all_eq_true.1 h' v hv)
  all_goals exact .same h
theorem VR.undef : VR ρ Vm.undef Vm.undef := .tuple .nil

/-! inversions -/
theorem VR.int {k : IntKind} {n : Int} {v' : Value} (h : VR ρ (.int k n) v') : v' = .int k n := by cases h; rfl
theorem VR.bool {b : Bool} {v' : Value} (h : VR ρ (.bool b) v') : v' = .bool b := by cases h; rfl
theorem VR.string {s : ByteArray} {v' : Value} (h : VR ρ (.string s) v') : v' = .string s := by cases h; rfl
theorem VR.nilPtr {v' : Value} (h : VR ρ (.pointer none) v') : v' = .pointer none := by cases h; rfl
theorem VR.nilSlice {n c : Nat} {v' : Value} (h : VR ρ (.slice none n c) v') : v' = .slice none n c := by cases h; rfl
theorem VR.nilMap {v' : Value} (h : VR ρ (.map none) v') : v' = .map none := by cases h; rfl
theorem VR.ptr_inv {p : Addr} {v' : Value} (h : VR ρ (.pointer (some p)) v') : ∃ p', v' = .pointer (some p') ∧ AddrR ρ p p' ∧ (p.spot = none → ∀ i, ρ p.block = some i → i.c = true) := by
  cases h with
  | same h => simp [Vm.lit] at h
  | ptr h hc => exact ⟨_, rfl, h, hc⟩
theorem VR.slice_inv {p : Addr} {n c : Nat} {v' : Value} (h : VR ρ (.slice (some p) n c) v') : ∃ p' c', v' = .slice (some p') n c' ∧ AddrS ρ p p' n c ∧ (p.spot = none → c' = c) ∧ ∀ z, p.spot = some z → c ≤ c' ∧ ∀ i, ρ p.block = some i → p'.off + c' * z ≤ i.n := by
  cases h with
  | same h => simp [Vm.lit] at h
  | slice h h0 h1 => exact ⟨_, _, rfl, h, h0, h1⟩
theorem VR.map_inv {b : Nat} {v' : Value} (h : VR ρ (.map (some b)) v') : ∃ i, ρ b = some i ∧ v' = .map (some i.r) := by
  cases h with
  | same h => simp [Vm.lit] at h
  | map h => exact ⟨_, h, rfl⟩
theorem VR.func_inv {f : FuncId} {x y : Array Value} {v' : Value} (h : VR ρ (.func (.func f) x y) v') : ∃ x' y', v' = .func (.func f) x' y' ∧ VRs ρ x.toList x'.toList ∧ VRs ρ y.toList y'.toList := by
  cases h with
  | same h => simp [Vm.lit] at h
  | func h1 h2 => exact ⟨_, _, rfl, h1, h2⟩
theorem VR.yield_inv {l : Nat} {x y : Array Value} {v' : Value} (h : VR ρ (.func (.yield l) x y) v') : ∃ i x' y', ρ l = some i ∧ v' = .func (.yield i.r) x' y' ∧ VRs ρ x.toList x'.toList ∧ VRs ρ y.toList y'.toList := by
  cases h with
  | same h => simp [Vm.lit] at h
  | yield h h1 h2 => exact ⟨_, _, _, h, rfl, h1, h2⟩
theorem VR.agg_inv {x : Array Value} {v' : Value} (h : VR ρ (.agg x) v') : ∃ x', v' = .agg x' ∧ VRs ρ x.toList x'.toList ∧ ∀ v ∈ x'.toList, v.oneCell' = true := by
  cases h with
  | same h => simp [Vm.lit] at h
  | agg h h1 => exact ⟨_, rfl, h, h1⟩
theorem VR.tuple_inv {x : Array Value} {v' : Value} (h : VR ρ (.tuple x) v') : ∃ x', v' = .tuple x' ∧ VRs ρ x.toList x'.toList := by
  cases h with
  | same h => simp [Vm.lit] at h
  | tuple h => exact ⟨_, rfl, h⟩
/-- the same way round -/
theorem VR.int' {k : IntKind} {n : Int} {v : Value} (h : VR ρ v (.int k n)) : v = .int k n := by cases h; rfl
theorem VR.bool' {b : Bool} {v : Value} (h : VR ρ v (.bool b)) : v = .bool b := by cases h; rfl

/-- what is one cell stays one -/
theorem VR.one {v v' : Value} (h : VR ρ v v') (h1 : v.oneCell' = true) : v'.oneCell' = true := by cases h <;> simp_all [Value.oneCell']

/-- cells of a value -/
theorem VR.cells {v v' : Value} (h : VR ρ v v') {l : List Value} (hl : cellsL v = some l) : VRs ρ l v'.cells.toList ∧ ∀ u ∈ v'.cells.toList, u.oneCell' = true := by
  cases h with
  | same h =>
    have h1 := lit_one h
    have e : cellsL v = some [v] := by cases v <;> first | rfl | simp [lit] at h
    have e' : v.cells.toList = [v] := by cases v <;> first | rfl | simp [lit] at h
    rw [e] at hl
    cases hl
    rw [e']
    exact ⟨.cons (.same h) .nil, by simpa using h1⟩
  | ptr h hc => simp [cellsL] at hl; subst hl; exact ⟨.cons (.ptr h hc) .nil, by simp [Value.cells, Value.oneCell']⟩
  | slice h h0 h1 => simp [cellsL] at hl; subst hl; exact ⟨.cons (.slice h h0 h1) .nil, by simp [Value.cells, Value.oneCell']⟩
  | map h => simp [cellsL] at hl; subst hl; exact ⟨.cons (.map h) .nil, by simp [Value.cells, Value.oneCell']⟩
  | func h1 h2 => simp [cellsL] at hl; subst hl; exact ⟨.cons (.func h1 h2) .nil, by simp [Value.cells, Value.oneCell']⟩
  | yield h h1 h2 => simp [cellsL] at hl; subst hl; exact ⟨.cons (.yield h h1 h2) .nil, by simp [Value.cells, Value.oneCell']⟩
  | iface h => simp [cellsL] at hl; subst hl; exact ⟨.cons (.iface h) .nil, by simp [Value.cells, Value.oneCell']⟩
  | agg h h1 => simp [cellsL] at hl; subst hl; exact ⟨h, h1⟩
  | tuple h => simp [cellsL] at hl
end

/-! ### frames -/
def FR (nt : Nat) (ρ : Ren) (a : Fr) (ra : Array Value) : Prop := ra.size = nt ∧ nt ≤ 512 ∧ ∀ t, t < nt → VR ρ ((sel t).f a) (ra.getD t Go.undef)
theorem FR.mono {nt : Nat} {ρ σ : Ren} (hle : ρ.le σ) {a : Fr} {ra : Array Value} (h : FR nt ρ a ra) : FR nt σ a ra := ⟨h.1, h.2.1, fun t ht => (h.2.2 t ht).mono hle⟩
theorem FR.put {nt : Nat} {ρ : Ren} {a : Fr} {ra : Array Value} (h : FR nt ρ a ra) {d : Tmp} (hd : d < nt) {v v' : Value} (hv : VR ρ v v') :
    FR nt ρ ((put d).f v a) (ra.setIfInBounds d v') := by
  obtain ⟨h0, h1, h2⟩ := h
  refine ⟨by simpa using h0, h1, fun t ht => ?_⟩
  have hd' : d < nt := hd
  rw [sel_put t d (by omega) (Nat.lt_of_lt_of_le hd' h1)]
  by_cases htd : t = d
  · subst htd
    rw [if_pos rfl]
    have : t < ra.size := by omega
    simpa [Array.getD_eq_getD_getElem?, this] using hv
  · rw [if_neg htd]
    have := h2 t ht
    rwa [Array.getD_eq_getD_getElem?, Array.getElem?_setIfInBounds_ne (Ne.symm htd), ← Array.getD_eq_getD_getElem?]
/-- operands -/
theorem FR.eval {nt : Nat} {ρ : Ren} {a : Fr} {ra : Act} (h : FR nt ρ a ra.tmps) {x : Operand} (hx : okX nt x = true) : VR ρ ((evB x).f a) (ra.eval x) := by
  cases x with
  | tmp t =>
    simp [okX] at hx
    exact h.2.2 t hx
  | const v => exact VR.const hx
  | global g => simp [okX] at hx
  | func f => exact .func .nil .nil
end Vm

/-! The abstract heap's laws; how it is tied to the world's. -/
set_option linter.unusedVariables false
namespace Vm
open Go Go.RowKit

section
variable {α : Type}
theorem Tr.get_node_zero (l r : Tr α) (v : Option α) : (Tr.node l v r).get 0 = v := rfl
theorem Tr.get_node_succ (l r : Tr α) (v : Option α) (k : Nat) : (Tr.node l v r).get (k + 1) = if k % 2 = 0 then l.get (k / 2) else r.get (k / 2) := by
  show (Bool.rec (r.get (k / 2)) (l.get (k / 2)) (Nat.beq (k % 2) 0) : Option α) = _
  by_cases h : k % 2 = 0
  · rw [if_pos h, show Nat.beq (k % 2) 0 = true from (by rw [h]; rfl)]
  · rw [if_neg h, show Nat.beq (k % 2) 0 = false from by rw [← Bool.not_eq_true]; exact fun e => h (Nat.eq_of_beq_eq_true e)]
theorem Tr.get_nil (k : Nat) : (Tr.nil : Tr α).get k = none := rfl
theorem Tr.get_one (x : α) : ∀ (f k j : Nat), k ≤ f → (Tr.one x f k).get j = if j = k then some x else none := by
  intro f
  induction f with
  | zero =>
    intro k j hk
    obtain rfl : k = 0 := by omega
    show (Tr.node .nil (some x) .nil).get j = _
    cases j with
    | zero => rfl
    | succ j => rw [Tr.get_node_succ]; simp [Tr.get_nil]
  | succ f ih =>
    intro k j hk
    cases k with
    | zero =>
      show (Tr.node .nil (some x) .nil).get j = _
      cases j with
      | zero => rfl
      | succ j => rw [Tr.get_node_succ]; simp [Tr.get_nil]
    | succ k =>
      show (Bool.rec (.node .nil none (Tr.one x f (k / 2))) (.node (Tr.one x f (k / 2)) none .nil) (Nat.beq (k % 2) 0) : Tr α).get j = _
      by_cases h : k % 2 = 0
      · rw [show Nat.beq (k % 2) 0 = true from (by rw [h]; rfl)]
        cases j with
        | zero => rfl
        | succ j =>
          rw [Tr.get_node_succ, ih _ _ (by omega), Tr.get_nil]
          by_cases hj : j % 2 = 0
          · rw [if_pos hj]
            by_cases e : j = k
            · subst e; simp
            · rw [if_neg (by omega), if_neg (by omega)]
          · rw [if_neg hj, if_neg (by omega)]
      · rw [show Nat.beq (k % 2) 0 = false from by rw [← Bool.not_eq_true]; exact fun e => h (Nat.eq_of_beq_eq_true e)]
        cases j with
        | zero => rfl
        | succ j =>
          rw [Tr.get_node_succ, ih _ _ (by omega), Tr.get_nil]
          by_cases hj : j % 2 = 0
          · rw [if_pos hj, if_neg (by omega)]
          · rw [if_neg hj]
            by_cases e : j = k
            · subst e; simp
            · rw [if_neg (by omega), if_neg (by omega)]
theorem Tr.get_set (x : α) (t : Tr α) : ∀ k j, (Tr.set x t k).get j = if j = k then some x else t.get j := by
  induction t with
  | nil => intro k j; exact (Tr.get_one x k k j (Nat.le_refl _)).trans (by rw [Tr.get_nil])
  | node l v r ihl ihr =>
    intro k j
    cases k with
    | zero =>
      show (Tr.node l (some x) r).get j = _
      cases j with
      | zero => rfl
      | succ j => rw [Tr.get_node_succ, Tr.get_node_succ, if_neg (show ¬ (j + 1 = 0) by omega)]
    | succ k =>
      show (Bool.rec (.node l v (r.set x (k / 2))) (.node (l.set x (k / 2)) v r) (Nat.beq (k % 2) 0) : Tr α).get j = _
      by_cases h : k % 2 = 0
      · rw [show Nat.beq (k % 2) 0 = true from (by rw [h]; rfl)]
        cases j with
        | zero => rfl
        | succ j =>
          rw [Tr.get_node_succ, Tr.get_node_succ, ihl]
          by_cases hj : j % 2 = 0
          · rw [if_pos hj, if_pos hj]
            by_cases e : j = k
            · subst e; simp
            · rw [if_neg (by omega), if_neg (by omega)]
          · rw [if_neg hj, if_neg hj, if_neg (by omega)]
      · rw [show Nat.beq (k % 2) 0 = false from by rw [← Bool.not_eq_true]; exact fun e => h (Nat.eq_of_beq_eq_true e)]
        cases j with
        | zero => rfl
        | succ j =>
          rw [Tr.get_node_succ, Tr.get_node_succ, ihr]
          by_cases hj : j % 2 = 0
          · rw [if_pos hj, if_pos hj, if_neg (by omega)]
          · rw [if_neg hj, if_neg hj]
            by_cases e : j = k
            · subst e; simp
            · rw [if_neg (by omega), if_neg (by omega)]
end
theorem Heap.get_put (h : Heap) (b : Nat) (x : Blk) (j : Nat) : (h.put b x).get j = if j = b then some x else h.get j := Tr.get_set x h.t b j
theorem Heap.get_new (h : Heap) (x : Blk) (j : Nat) : (h.new x).get j = if j = h.next then some x else h.get j := Tr.get_set x h.t h.next j
@[simp] theorem Heap.next_put (h : Heap) (b : Nat) (x : Blk) : (h.put b x).next = h.next := rfl
@[simp] theorem Heap.next_new (h : Heap) (x : Blk) : (h.new x).next = h.next + 1 := rfl
/-- no block beyond the next one's number -/
def Heap.wf (h : Heap) : Prop := ∀ b, h.next ≤ b → h.get b = none
theorem Heap.wf_put {h : Heap} (w : h.wf) {b : Nat} (hb : b < h.next) (x : Blk) : (h.put b x).wf := fun j hj => by
  rw [Heap.get_put]
  rw [if_neg (by have : h.next ≤ j := hj; omega)]
  exact w j hj
theorem Heap.wf_new {h : Heap} (w : h.wf) (x : Blk) : (h.new x).wf := fun j hj => by
  have hj' : h.next + 1 ≤ j := hj
  rw [Heap.get_new, if_neg (by omega)]
  exact w j (by omega)
theorem Heap.get_lt {h : Heap} (w : h.wf) {b : Nat} {x : Blk} (hb : h.get b = some x) : b < h.next := by
  rcases Nat.lt_or_ge b h.next with h' | h'
  · exact h'
  · rw [w b h'] at hb; cases hb

/-! ### blocks -/
/-- a row of cells: the model's block bears it from i.o on -/
def RowR (ρ : Ren) (w : World) (i : Inf) (cs : List Value) (ok : TypeId → Nat × Nat → Prop) : Prop :=
  ∃ rc fe fz, w.heap[i.r]? = some (.cells rc fe fz) ∧ ok fe fz ∧ i.n = rc.size ∧ i.o + cs.length ≤ rc.size ∧
    ∀ (j : Nat) v, cs[j]? = some v → ∃ v', rc[i.o + j]? = some v' ∧ VR ρ v v' ∧ v'.oneCell' = true
def EntR (ρ : Ren) (x : Value × Value × Nat) (e : MapEntry) : Prop := VR ρ x.1 e.key ∧ VR ρ x.2.1 e.val ∧ e.born = x.2.2
inductive EntsR (ρ : Ren) : List (Value × Value × Nat) → List MapEntry → Prop
  | nil : EntsR ρ [] []
  | cons {x : Value × Value × Nat} {e : MapEntry} {l : List (Value × Value × Nat)} {l' : List MapEntry} (h : EntR ρ x e) (h' : EntsR ρ l l') : EntsR ρ (x :: l) (e :: l')
def LoopR (ρ : Ren) (nt : Nat) (ps : List Tmp) (s b : Code) (a : Fr) (st : LoopState) (p : Option Code) (l : Loop) : Prop :=
  l.state = st ∧ l.pending = p ∧ l.params.toList = ps ∧ l.assign = s ∧ l.body = b ∧ FR nt ρ a l.tmps ∧ ∀ t ∈ ps, t < nt
/-- a block and what it stands for; B: the first block of the run's own -/
def BlkR (ρ : Ren) (B : Nat) (w : World) (i : Inf) : Blk → Prop
  | .cells _ _ .dead => i.c = false
  | .cells _ cs .ro => i.r < B ∧ i.c = false ∧ RowR ρ w i cs (fun _ _ => True)
  | .cells _ cs .fix => B ≤ i.r ∧ i.c = false ∧ RowR ρ w i cs (fun _ _ => True)
  | .cells e cs (.own opn) => B ≤ i.r ∧ i.c = !opn ∧ RowR ρ w i cs (fun fe fz => fe = e ∧ fz = (0, 0))
  | .map es c => B ≤ i.r ∧ i.c = false ∧ ∃ re, w.heap[i.r]? = some (.map re c) ∧ EntsR ρ es re.toList
  | .loop nt ps s b a st p => B ≤ i.r ∧ i.c = false ∧ ∃ l, w.heap[i.r]? = some (.loop l) ∧ LoopR ρ nt ps s b a st p l
  | .iter m since seen last => B ≤ i.r ∧ i.o = 0 ∧ i.c = false ∧ ∃ m', w.heap[i.r]? = some (.mapIter m' since seen.toArray last) ∧ ((m = none ∧ m' = none) ∨ ∃ r j, m = some r ∧ ρ r = some j ∧ m' = some j.r)
def Blk.live : Blk → Bool
  | .cells _ _ .dead => false
  | _ => true
def Blk.own : Blk → Bool
  | .cells _ _ (.own _) => true
  | .cells _ _ .fix => true
  | .map .. => true
  | .loop .. => true
  | .iter .. => true
  | _ => false
/-- the heap's tie; g: what stands under a number -/
structure HR (ρ : Ren) (B : Nat) (g : Nat → Option Blk) (w : World) : Prop where
  blk : ∀ b i, ρ b = some i → ∃ x, g b = some x ∧ BlkR ρ B w i x
  apart : ∀ b c i j x y, b ≠ c → ρ b = some i → ρ c = some j → g b = some x → g c = some y → x.own = true → y.own = true → i.r ≠ j.r
  size : ∀ b i, ρ b = some i → i.r < w.heap.size
  base : B ≤ w.heap.size

/-- a model's block that the renaming does not come to -/
def Free (ρ : Ren) (k : Nat) : Prop := ∀ b i, ρ b = some i → i.r ≠ k
/-- what the world may have become: nothing but blocks of the renaming's, from B on, has turned -/
structure Kept (ρ : Ren) (B : Nat) (w w' : World) : Prop where
  os : w'.os = w.os
  tape : w'.tape = w.tape
  output : w'.output = w.output
  size : w.heap.size ≤ w'.heap.size
  old : ∀ k, k < B → w'.heap[k]? = w.heap[k]?
  free : ∀ k, k < w.heap.size → Free ρ k → w'.heap[k]? = w.heap[k]?
/-- how the renaming may have grown -/
structure Grew (ρ σ : Ren) (n n' : Nat) (w w' : World) : Prop where
  le : ρ.le σ
  fresh : ∀ b i, σ b = some i → ρ b = none → n ≤ b ∧ b < n' ∧ i.r < w'.heap.size ∧ (w.heap.size ≤ i.r ∨ ∃ c j, ρ c = some j ∧ j.r = i.r)
/-- what the abstract heap may have become -/
structure HeapKept (ρ : Ren) (h h' : Heap) : Prop where
  next : h.next ≤ h'.next
  wf : h'.wf
  same : ∀ b, b < h.next → ρ b = none → h'.get b = h.get b

theorem Kept.refl (ρ : Ren) (B : Nat) (w : World) : Kept ρ B w w := ⟨rfl, rfl, rfl, Nat.le_refl _, fun _ _ => rfl, fun _ _ _ => rfl⟩
theorem Grew.refl (ρ : Ren) (n n' : Nat) (w w' : World) : Grew ρ ρ n n' w w' := ⟨Ren.le_refl ρ, fun b i h h' => by rw [h] at h'; cases h'⟩
theorem Grew.free {ρ σ : Ren} {n n' : Nat} {w w' : World} (g : Grew ρ σ n n' w w') {k : Nat} (hk : k < w.heap.size) (h : Free ρ k) : Free σ k := by
  intro b i hb e
  cases hr : ρ b with
  | some j =>
    have := g.le b j hr
    rw [hb] at this
    cases this
    exact h b i hr e
  | none =>
    rcases (g.fresh b i hb hr).2.2.2 with h1 | ⟨c, j, hc, hj⟩
    · omega
    · exact h c j hc (hj.trans e)
theorem Kept.trans {ρ σ : Ren} {B n n' : Nat} {w w' w'' : World} (h : Kept ρ B w w') (g : Grew ρ σ n n' w w') (k : Kept σ B w' w'') : Kept ρ B w w'' :=
  ⟨k.os.trans h.os, k.tape.trans h.tape, k.output.trans h.output, Nat.le_trans h.size k.size, fun b hb => (k.old b hb).trans (h.old b hb),
   fun b hb hf => (k.free b (Nat.lt_of_lt_of_le hb h.size) (g.free hb hf)).trans (h.free b hb hf)⟩
theorem Grew.trans {ρ σ τ : Ren} {n n' n'' : Nat} {w w' w'' : World} (h : Grew ρ σ n n' w w') (k : Grew σ τ n' n'' w' w'') (hn : n ≤ n') (hn' : n' ≤ n'') (hw : w.heap.size ≤ w'.heap.size) (hw' : w'.heap.size ≤ w''.heap.size) : Grew ρ τ n n'' w w'' := by
  refine ⟨Ren.le_trans h.le k.le, fun b i hb hr => ?_⟩
  cases hs : σ b with
  | some j =>
    have := k.le b j hs
    rw [hb] at this
    cases this
    obtain ⟨h1, h2, h3, h4⟩ := h.fresh b i hs hr
    exact ⟨h1, by omega, by omega, h4⟩
  | none =>
    obtain ⟨h1, h2, h3, h4⟩ := k.fresh b i hb hs
    refine ⟨by omega, h2, h3, ?_⟩
    rcases h4 with h4 | ⟨c, j, hc, hj⟩
    · exact .inl (by omega)
    · cases hr' : ρ c with
      | some j' =>
        have := h.le c j' hr'
        rw [hc] at this
        cases this
        exact .inr ⟨c, j, hr', hj⟩
      | none =>
        rcases (h.fresh c j hc hr').2.2.2 with h5 | ⟨c', j', hc', hj'⟩
        · exact .inl (by omega)
        · exact .inr ⟨c', j', hc', hj'.trans hj⟩
theorem HeapKept.trans {ρ σ : Ren} {h h' h'' : Heap} {w w' : World} (k : HeapKept ρ h h') (g : Grew ρ σ h.next h'.next w w') (k' : HeapKept σ h' h'') : HeapKept ρ h h'' := by
  refine ⟨Nat.le_trans k.next k'.next, k'.wf, fun b hb hr => ?_⟩
  have hs : σ b = none := by
    cases hs : σ b with
    | none => rfl
    | some i => have := (g.fresh b i hs hr).1; omega
  rw [k'.same b (Nat.lt_of_lt_of_le hb k.next) hs, k.same b hb hr]
end Vm

/-! What becomes of the tie when a block is made, or turned. -/
set_option linter.unusedVariables false
namespace Vm
open Go

section
variable {ρ σ : Ren} {B : Nat} {w w' : World} {i : Inf} {g g' : Nat → Option Blk}
theorem RowR.mono (hle : ρ.le σ) {cs : List Value} {ok : TypeId → Nat × Nat → Prop} (hw : w'.heap[i.r]? = w.heap[i.r]?) (h : RowR ρ w i cs ok) : RowR σ w' i cs ok := by
  obtain ⟨rc, fe, fz, h1, h2, h3, h4, h5⟩ := h
  exact ⟨rc, fe, fz, hw.trans h1, h2, h3, h4, fun j v hj => let ⟨v', e, hv, ho⟩ := h5 j v hj; ⟨v', e, hv.mono hle, ho⟩⟩
theorem EntsR.mono (hle : ρ.le σ) {l : List (Value × Value × Nat)} {l' : List MapEntry} (h : EntsR ρ l l') : EntsR σ l l' := by
  induction h with
  | nil => exact .nil
  | cons h _ ih => exact .cons ⟨h.1.mono hle, h.2.1.mono hle, h.2.2⟩ ih
theorem BlkR.mono (hle : ρ.le σ) {x : Blk} (hw : x.live = true → w'.heap[i.r]? = w.heap[i.r]?) (h : BlkR ρ B w i x) : BlkR σ B w' i x := by
  cases x with
  | cells e cs st =>
    cases st with
    | dead => exact h
    | ro => exact ⟨h.1, h.2.1, h.2.2.mono hle (hw rfl)⟩
    | fix => exact ⟨h.1, h.2.1, h.2.2.mono hle (hw rfl)⟩
    | own o => exact ⟨h.1, h.2.1, h.2.2.mono hle (hw rfl)⟩
  | map es c =>
    obtain ⟨h1, hc, re, h2, h3⟩ := h
    exact ⟨h1, hc, re, (hw rfl).trans h2, h3.mono hle⟩
  | loop nt ps s b a st p =>
    obtain ⟨h1, hc, l, h2, h3⟩ := h
    exact ⟨h1, hc, l, (hw rfl).trans h2, h3.1, h3.2.1, h3.2.2.1, h3.2.2.2.1, h3.2.2.2.2.1, h3.2.2.2.2.2.1.mono hle, h3.2.2.2.2.2.2⟩
  | iter m since seen last =>
    obtain ⟨h1, ho, hc, m', h2, h3⟩ := h
    refine ⟨h1, ho, hc, m', (hw rfl).trans h2, ?_⟩
    rcases h3 with h3 | ⟨r, j, e1, e2, e3⟩
    · exact .inl h3
    · exact .inr ⟨r, j, e1, hle _ _ e2, e3⟩
theorem BlkR.base {x : Blk} (h : BlkR ρ B w i x) (ho : x.own = true) : B ≤ i.r := by
  cases x with
  | cells e cs st => cases st <;> first | exact h.1 | simp [Blk.own] at ho
  | map es c => exact h.1
  | loop nt ps s b a st p => exact h.1
  | iter m since seen last => exact h.1
theorem Blk.ro_or {x : Blk} (hl : x.live = true) (ho : x.own = false) : ∃ e cs, x = .cells e cs .ro := by
  cases x with
  | cells e cs st => cases st <;> simp_all [Blk.live, Blk.own]
  | map es c => simp [Blk.own] at ho
  | loop nt ps s b a st p => simp [Blk.own] at ho
  | iter m since seen last => simp [Blk.own] at ho
theorem Blk.live_of_own {x : Blk} (h : x.own = true) : x.live = true := by
  cases x with
  | cells e cs st => cases st <;> simp_all [Blk.live, Blk.own]
  | _ => rfl
/-- only the numbers of the renaming count -/
theorem HR.congr (H : HR ρ B g w) (hg : ∀ b i, ρ b = some i → g' b = g b) : HR ρ B g' w :=
  ⟨fun b i h => by rw [hg b i h]; exact H.blk b i h, fun b c i j x y hne hb hc hx hy => H.apart b c i j x y hne hb hc (by rw [← hg b i hb]; exact hx) (by rw [← hg c j hc]; exact hy), H.size, H.base⟩
/-- fewer numbers -/
theorem HR.restrict (H : HR ρ B g w) (hle : σ.le ρ) (hcl : ∀ b i x, σ b = some i → g b = some x → BlkR ρ B w i x → BlkR σ B w i x) : HR σ B g w :=
  ⟨fun b i h => let ⟨x, hx, hr⟩ := H.blk b i (hle b i h); ⟨x, hx, hcl b i x h hx hr⟩, fun b c i j x y hne hb hc => H.apart b c i j x y hne (hle b i hb) (hle c j hc), fun b i h => H.size b i (hle b i h), H.base⟩
theorem HR.drew (H : HR ρ B g w) (n : Nat) : HR ρ B g { w with drawn := n } :=
  ⟨fun b i h => let ⟨x, hx, hr⟩ := H.blk b i h; ⟨x, hx, hr.mono (Ren.le_refl _) (fun _ => rfl)⟩, H.apart, H.size, H.base⟩
theorem Kept.drew (ρ : Ren) (B : Nat) (w : World) (n : Nat) : Kept ρ B w { w with drawn := n } := ⟨rfl, rfl, rfl, Nat.le_refl _, fun _ _ => rfl, fun _ _ _ => rfl⟩

/-- one number more -/
def Ren.with (ρ : Ren) (b : Nat) (i : Inf) : Ren := fun c => if c = b then some i else ρ c
theorem Ren.le_with (ρ : Ren) {b : Nat} (i : Inf) (hb : ρ b = none) : ρ.le (ρ.with b i) := fun c j h => by
  unfold Ren.with
  by_cases e : c = b
  · subst e; rw [hb] at h; cases h
  · rw [if_neg e]; exact h
theorem Ren.with_self (ρ : Ren) (b : Nat) (i : Inf) : (ρ.with b i) b = some i := if_pos rfl
theorem heap_alloc (w : World) (o : Obj) (k : Nat) : (w.alloc o).heap[k]? = if k = w.heap.size then some o else w.heap[k]? := by
  show (w.heap.push o)[k]? = _
  rw [Array.getElem?_push]
theorem heap_alloc_ne (w : World) (o : Obj) {k : Nat} (h : k < w.heap.size) : (w.alloc o).heap[k]? = w.heap[k]? := by
  rw [heap_alloc, if_neg (by omega)]

/-- a block is made -/
theorem HR.new (H : HR ρ B g w) {b : Nat} (hb : ρ b = none) (o : Obj) (i : Inf) (hi : i.r = w.heap.size) (x : Blk)
    (hx : BlkR (ρ.with b i) B (w.alloc o) i x) : HR (ρ.with b i) B (fun j => if j = b then some x else g j) (w.alloc o) := by
  refine ⟨fun c j hc => ?_, fun c d j k y z hne hc hd hy hz hyo hzo => ?_, fun c j hc => ?_, by have := H.base; rw [World.size_alloc]; omega⟩
  · unfold Ren.with at hc
    by_cases e : c = b
    · subst e
      rw [if_pos rfl] at hc
      cases hc
      exact ⟨x, by rw [if_pos rfl], hx⟩
    · rw [if_neg e] at hc
      obtain ⟨y, hy, hr⟩ := H.blk c j hc
      exact ⟨y, by rw [if_neg e]; exact hy, hr.mono (Ren.le_with ρ i hb) (fun _ => heap_alloc_ne w o (H.size c j hc))⟩
  · unfold Ren.with at hc hd
    by_cases e : c = b
    · subst e
      rw [if_pos rfl] at hc
      cases hc
      rw [if_neg (Ne.symm hne)] at hd
      have := H.size d k hd
      omega
    · rw [if_neg e] at hc
      by_cases e' : d = b
      · subst e'
        rw [if_pos rfl] at hd
        cases hd
        have := H.size c j hc
        omega
      · rw [if_neg e'] at hd
        rw [if_neg e] at hy
        rw [if_neg e'] at hz
        exact H.apart c d j k y z hne hc hd hy hz hyo hzo
  · unfold Ren.with at hc
    rw [World.size_alloc]
    by_cases e : c = b
    · subst e; rw [if_pos rfl] at hc; cases hc; omega
    · rw [if_neg e] at hc; have := H.size c j hc; omega
theorem Grew.new {b n n' : Nat} (hb : ρ b = none) (o : Obj) (i : Inf) (hi : i.r = w.heap.size) (hn : n ≤ b) (hn' : b < n') : Grew ρ (ρ.with b i) n n' w (w.alloc o) :=
  ⟨Ren.le_with ρ i hb, fun c j hc hr => by
    unfold Ren.with at hc
    by_cases e : c = b
    · subst e; rw [if_pos rfl] at hc; cases hc; exact ⟨hn, hn', by rw [World.size_alloc]; omega, .inl (by omega)⟩
    · rw [if_neg e, hr] at hc; cases hc⟩
theorem Kept.new (ρ : Ren) (hB : B ≤ w.heap.size) (o : Obj) : Kept ρ B w (w.alloc o) :=
  ⟨rfl, rfl, rfl, by rw [World.size_alloc]; omega, fun k hk => heap_alloc_ne w o (by omega), fun k hk _ => heap_alloc_ne w o hk⟩

/-- the world with another thing in a block -/
def setBlk (w : World) (r : Nat) (o : Obj) : World := { w with heap := w.heap.setIfInBounds r o }
theorem setBlk_ne (w : World) {r k : Nat} (o : Obj) (h : k ≠ r) : (setBlk w r o).heap[k]? = w.heap[k]? := by
  simp [setBlk, Array.getElem?_setIfInBounds_ne (Ne.symm h)]
theorem setBlk_self (w : World) {r : Nat} (o : Obj) (h : r < w.heap.size) : (setBlk w r o).heap[r]? = some o := by
  simp [setBlk, h]
/-- a block is turned -/
theorem HR.put (H : HR ρ B g w) {b : Nat} (hb : ρ b = some i) {x x' : Blk} (hx : g b = some x) (ho : x.own = true) (hw : ∀ k, k ≠ i.r → w'.heap[k]? = w.heap[k]?)
    (hs : w'.heap.size = w.heap.size) (hx' : BlkR ρ B w' i x') : HR ρ B (fun j => if j = b then some x' else g j) w' := by
  have hbase : B ≤ i.r := by
    obtain ⟨y, hy, hr⟩ := H.blk b i hb
    rw [hx] at hy
    cases hy
    exact hr.base ho
  refine ⟨fun c j hc => ?_, fun c d j k y z hne hc hd hy hz hyo hzo => ?_, fun c j hc => by rw [hs]; exact H.size c j hc, by rw [hs]; exact H.base⟩
  · by_cases e : c = b
    · subst e
      rw [hb] at hc
      cases hc
      exact ⟨x', by rw [if_pos rfl], hx'⟩
    · obtain ⟨y, hy, hr⟩ := H.blk c j hc
      refine ⟨y, by rw [if_neg e]; exact hy, hr.mono (Ren.le_refl _) fun hl => hw _ ?_⟩
      cases hyo : y.own with
      | true => exact H.apart c b j i y x e hc hb hy hx hyo ho
      | false =>
        obtain ⟨e', cs, rfl⟩ := Blk.ro_or hl hyo
        have := hr.1
        omega
  · by_cases e : c = b
    · subst e
      rw [hb] at hc
      cases hc
      rw [if_neg (Ne.symm hne)] at hz
      exact H.apart c d i k x z hne hb hd hx hz ho hzo
    · rw [if_neg e] at hy
      by_cases e' : d = b
      · subst e'
        rw [hb] at hd
        cases hd
        exact H.apart c d j i y x hne hc hb hy hx hyo ho
      · rw [if_neg e'] at hz
        exact H.apart c d j k y z hne hc hd hy hz hyo hzo
theorem Kept.put {b : Nat} (hb : ρ b = some i) (hbase : B ≤ i.r) (ho : w'.os = w.os) (ht : w'.tape = w.tape) (hou : w'.output = w.output) (hw : ∀ k, k ≠ i.r → w'.heap[k]? = w.heap[k]?)
    (hs : w'.heap.size = w.heap.size) : Kept ρ B w w' :=
  ⟨ho, ht, hou, by omega, fun k hk => hw k (by omega), fun k hk hf => hw k (fun e => hf b i hb e.symm)⟩
theorem HeapKept.put {h : Heap} (wf : h.wf) {b : Nat} (hb : ρ b = some i) (hlt : b < h.next) (x : Blk) : HeapKept ρ h (h.put b x) :=
  ⟨Nat.le_refl _, Heap.wf_put wf hlt x, fun c hc hr => by
    rw [Heap.get_put]
    by_cases e : c = b
    · subst e; rw [hb] at hr; cases hr
    · rw [if_neg e]⟩
theorem HeapKept.new {h : Heap} (wf : h.wf) (x : Blk) : HeapKept ρ h (h.new x) :=
  ⟨by simp, Heap.wf_new wf x, fun c hc hr => by rw [Heap.get_new, if_neg (by omega)]⟩
theorem HeapKept.refl {h : Heap} (wf : h.wf) : HeapKept ρ h h := ⟨Nat.le_refl _, wf, fun _ _ _ => rfl⟩
end
end Vm

/-! Operations that only reckon or read: what the abstract run answers, the model's run answers. -/
set_option linter.unusedVariables false
namespace Vm
open Go

section
variable {P : Program} {w : World}
/-- the step of an operation that hands back a value -/
theorem run_v {s : Go.Sem Value} {x : Value} {w' : World} (h : s.run P w = .ok x w') : (do pure (Next.value (← s)) : Go.Sem Next).run P w = .ok (.value x) w' := by
  simp [h]
theorem run_und {t : TypeId} {d : TypeDesc} (h : und P t = d) (hd : d ≠ .invalid) : (underlying t).run P w = .ok d w := by
  unfold und at h
  cases hu : P.underlying t with
  | none => rw [hu] at h; exact absurd h.symm hd
  | some e => rw [hu] at h; simp at h; subst h; exact run_underlying hu w
theorem und_some {t : TypeId} {d : TypeDesc} (h : und P t = d) (hd : d ≠ .invalid) : P.underlying t = some d := by
  unfold und at h
  cases hu : P.underlying t with
  | none => rw [hu] at h; exact absurd h.symm hd
  | some e => rw [hu] at h; simp at h; subst h; rfl
theorem run_sz {t : TypeId} {n : Nat} (h : szO P t = some n) : (Go.sizeOf t).run P w = .ok n w := by
  unfold szO at h
  cases hi : P.info? t with
  | none => rw [hi] at h; cases h
  | some i =>
    rw [hi] at h
    simp at h
    simp [Go.sizeOf, typeInfo, hi, h]
theorem run_bytes {t : TypeId} {n : Nat} (h : bytesO P t = some n) : ∃ i, P.info? t = some i ∧ i.bytes = n := by
  unfold bytesO at h
  cases hi : P.info? t with
  | none => rw [hi] at h; cases h
  | some i => rw [hi] at h; exact ⟨i, rfl, by simpa using h⟩
theorem run_zero {t : TypeId} {v : Value} (h : zO P t = some v) : (zeroValue t).run P w = .ok v w ∧ constB v = true := by
  unfold zO at h
  cases hi : P.info? t with
  | none => rw [hi] at h; cases h
  | some i =>
    rw [hi] at h
    cases hz : i.zero with
    | none => simp [hz] at h
    | some z =>
      simp only [Option.bind_some, hz] at h
      cases hc : constB z with
      | false => simp [hc] at h
      | true =>
        simp [hc] at h
        subst h
        exact ⟨by simp [zeroValue, typeInfo, hi, hz], hc⟩
theorem run_aggO {t : TypeId} {b : Bool} {n : Nat} (h : aggO P t = some (b, n)) : (isAgg t).run P w = .ok b w ∧ szO P t = some n := by
  unfold aggO at h
  cases hs : szO P t with
  | none => rw [hs] at h; cases h
  | some m =>
    rw [hs] at h
    simp only at h
    cases hu : und P t <;> rw [hu] at h <;> simp at h <;> obtain ⟨rfl, rfl⟩ := h <;> exact ⟨by simp [isAgg, run_und hu (by simp)], rfl⟩
end

/-! lists -/
theorem nth_eq {α : Type} (l : List α) (n : Nat) : nth l n = l[n]? := by
  induction l generalizing n with
  | nil => rfl
  | cons x l ih =>
    cases n with
    | zero => rfl
    | succ n => exact ih n
theorem nth_some {α : Type} {l : List α} {n : Nat} {v : α} (h : nth l n = some v) : l[n]? = some v := by rw [← nth_eq]; exact h

/-! numbers -/
theorem wrap_eq (k : IntKind) (n : Int) : wrap k n = k.wrap n := by
  cases n with
  | negSucc m => rfl
  | ofNat m =>
    show (bif Nat.blt m (lim k) then Int.ofNat m else k.wrap (.ofNat m)) = _
    cases h : Nat.blt m (lim k) with
    | false => rfl
    | true =>
      have hm : m < lim k := by simpa using h
      simp only [cond_true]
      unfold IntKind.wrap
      cases k <;> simp [IntKind.bits, IntKind.signed, lim] at * <;> omega
theorem ltI_eq (a b : Int) : ltI a b = decide (a < b) := by
  rw [Bool.eq_iff_iff, decide_eq_true_eq]
  cases a with
  | ofNat a =>
    cases b with
    | ofNat b => show Nat.blt a b = true ↔ (a : Int) < (b : Int); simp
    | negSucc b => show false = true ↔ (a : Int) < _; rw [Int.negSucc_eq]; simp only [Bool.false_eq_true, false_iff]; omega
  | negSucc a =>
    cases b with
    | ofNat b => show true = true ↔ _ < (b : Int); rw [Int.negSucc_eq]; simp <;> omega
    | negSucc b => show Nat.blt b a = true ↔ _; rw [Int.negSucc_eq, Int.negSucc_eq]; simp <;> omega
theorem eqI_eq (a b : Int) : eqI a b = (a == b) := by
  rw [Bool.eq_iff_iff]
  cases a with
  | ofNat a =>
    cases b with
    | ofNat b =>
      show Nat.beq a b = true ↔ _
      rw [Nat.beq_eq, beq_iff_eq]
      exact ⟨fun h => by rw [h], fun h => Int.ofNat.inj h⟩
    | negSucc b => simp [eqI]
  | negSucc a =>
    cases b with
    | ofNat b => simp [eqI]
    | negSucc b => show Nat.beq a b = true ↔ _; rw [Nat.beq_eq]; simp
theorem addr_add {a : Addr} (h : a.spot = none) (n : Nat) : a.add n = ⟨a.block, a.off + n, none⟩ := by
  obtain ⟨b, o, s⟩ := a
  simp at h
  subst h
  unfold Addr.add
  split <;> simp_all

/-- operand for operand -/
def Ops (ρ : Ren) (a : Fr) (E : Operand → Value) (l : List Operand) : Prop := ∀ x ∈ l, VR ρ ((evB x).f a) (E x)
section
variable {P : Program} {w : World} {ρ : Ren} {a : Fr} {E : Operand → Value} {B : Nat} {g : G}

theorem kc_inj {k j : IntKind} (h : Nat.beq (kc k) (kc j) = true) : k = j := by
  have := Nat.eq_of_beq_eq_true h
  cases k <;> cases j <;> first | rfl | (simp [kc] at this)
theorem sim_int2 {x y : Operand} {f : F2} {v : Value} (h : (oInt2 f (evB x) (evB y)).f a g = some v) (hx : VR ρ ((evB x).f a) (E x)) (hy : VR ρ ((evB y).f a) (E y)) :
    ∃ k n m, E x = .int k n ∧ E y = .int k m ∧ f.f k n m = some v := by
  simp only [oInt2] at h
  cases hx' : (evB x).f a with
  | int k n =>
    rw [hx'] at h hx
    cases hy' : (evB y).f a with
    | int j m =>
      rw [hy'] at h hy
      simp only at h
      cases hk : Nat.beq (kc k) (kc j) with
      | false => simp [hk] at h
      | true =>
        have := kc_inj hk
        subst this
        exact ⟨k, n, m, hx.int, hy.int, by simpa [hk] using h⟩
    | _ => rw [hy'] at h; cases h
  | _ => rw [hx'] at h; cases h
theorem sim_sh {x y : Operand} {f : F2} {v : Value} (h : (oSh f (evB x) (evB y)).f a g = some v) (hx : VR ρ ((evB x).f a) (E x)) (hy : VR ρ ((evB y).f a) (E y)) :
    ∃ k n j m, E x = .int k n ∧ E y = .int j m ∧ f.f k n m = some v := by
  simp only [oSh] at h
  cases hx' : (evB x).f a with
  | int k n =>
    rw [hx'] at h hx
    cases hy' : (evB y).f a with
    | int j m => rw [hy'] at h hy; exact ⟨k, n, j, m, hx.int, hy.int, h⟩
    | _ => rw [hy'] at h; cases h
  | _ => rw [hx'] at h; cases h
theorem wrap_mod (k : IntKind) (x : Nat) : k.wrap ((x % 2 ^ k.bits : Nat) : Int) = k.wrap (x : Int) := by
  unfold IntKind.wrap
  have : ((x % 2 ^ k.bits : Nat) : Int) % (2 ^ k.bits : Int) = (x : Int) % (2 ^ k.bits : Int) := by
    rw [Int.natCast_emod]; simp
  rw [this]
theorem bitsOf_mod (k : IntKind) (n : Int) : bitsOf k n % 2 ^ k.bits = (BitVec.ofInt k.bits n).toNat := by
  rw [BitVec.toNat_ofInt]
  cases n with
  | ofNat a =>
    show a % 2 ^ k.bits = ((a : Int) % _).toNat
    norm_cast
  | negSucc a =>
    show (Int.negSucc a % (2 ^ k.bits : Int)).toNat % 2 ^ k.bits = _
    have hp : (0 : Int) < 2 ^ k.bits := by cases k <;> simp [IntKind.bits]
    have h1 := Int.emod_nonneg (Int.negSucc a) (Int.ne_of_gt hp)
    have h2 := Int.emod_lt_of_pos (Int.negSucc a) hp
    rw [Nat.mod_eq_of_lt]
    · norm_cast
    · cases k <;> simp [IntKind.bits] at * <;> omega
theorem bits_and (k : IntKind) (n m : Int) : k.wrap (.ofNat (Nat.land (bitsOf k n) (bitsOf k m))) = k.wrap ((BitVec.ofInt k.bits n &&& BitVec.ofInt k.bits m).toNat : Nat) := by
  rw [BitVec.toNat_and, ← bitsOf_mod, ← bitsOf_mod, ← Nat.and_mod_two_pow]
  exact (wrap_mod k _).symm
theorem bits_or (k : IntKind) (n m : Int) : k.wrap (.ofNat (Nat.lor (bitsOf k n) (bitsOf k m))) = k.wrap ((BitVec.ofInt k.bits n ||| BitVec.ofInt k.bits m).toNat : Nat) := by
  rw [BitVec.toNat_or, ← bitsOf_mod, ← bitsOf_mod, ← Nat.or_mod_two_pow]
  exact (wrap_mod k _).symm
theorem bits_xor (k : IntKind) (n m : Int) : k.wrap (.ofNat (Nat.xor (bitsOf k n) (bitsOf k m))) = k.wrap ((BitVec.ofInt k.bits n ^^^ BitVec.ofInt k.bits m).toNat : Nat) := by
  rw [BitVec.toNat_xor, ← bitsOf_mod, ← bitsOf_mod, ← Nat.xor_mod_two_pow]
  exact (wrap_mod k _).symm
theorem bits_not (k : IntKind) (m : Int) : (~~~ BitVec.ofInt k.bits m).toNat = (Nat.xor (bitsOf k m) (2 ^ k.bits - 1)) % 2 ^ k.bits := by
  have h : (~~~ BitVec.ofInt k.bits m) = BitVec.ofInt k.bits m ^^^ BitVec.allOnes k.bits := by simp
  rw [h, BitVec.toNat_xor, ← bitsOf_mod, BitVec.toNat_allOnes]
  show _ = (bitsOf k m ^^^ (2 ^ k.bits - 1)) % 2 ^ k.bits
  rw [Nat.xor_mod_two_pow]
  congr 1
  rw [Nat.mod_eq_of_lt]
  have : 0 < 2 ^ k.bits := Nat.pos_of_ne_zero (by cases k <;> simp [IntKind.bits])
  omega
theorem bits_andNot (k : IntKind) (n m : Int) : k.wrap (.ofNat (Nat.land (bitsOf k n) (Nat.xor (bitsOf k m) (2 ^ k.bits - 1)))) = k.wrap ((BitVec.ofInt k.bits n &&& ~~~ BitVec.ofInt k.bits m).toNat : Nat) := by
  rw [BitVec.toNat_and, bits_not, ← bitsOf_mod, ← Nat.and_mod_two_pow]
  exact (wrap_mod k _).symm

def isEq : BinOp → Bool | .eql => true | .neq => true | _ => false
theorem guard_other {op : BinOp} {t : TypeId} {x y : Operand} {u v : Value} (h : isEq op = false) : (eqGuard op t x y u v).run P w = .ok () w := by
  unfold eqGuard
  cases op <;> first | (simp [isEq] at h; done) | simp
theorem same_int {ρ : Ren} (k : IntKind) (n : Int) : VR ρ (.int k n) (.int k n) := .same rfl
theorem same_bool {ρ : Ren} (b : Bool) : VR ρ (.bool b) (.bool b) := .same rfl
theorem sim_arith {op : BinOp} {t : TypeId} {x y : Operand} {rd : Bool} {s : VSem} {v : Value} (hd : denBin P op t (evB x) (evB y) = .v rd s) (ho : isEq op = false)
    (h : s.f a g = some v) (hx : VR ρ ((evB x).f a) (E x)) (hy : VR ρ ((evB y).f a) (E y)) :
    ∃ v', (do eqGuard op t x y (E x) (E y); Go.binOp op t (E x) (E y) : Go.Sem Value).run P w = .ok v' w ∧ VR ρ v v' := by
  have hg := guard_other (P := P) (w := w) (t := t) (x := x) (y := y) (u := E x) (v := E y) ho
  simp only [Sem.run_bind, hg, Result.andThen_ok]
  cases op
  case eql => simp [isEq] at ho
  case neq => simp [isEq] at ho
  case add =>
    simp only [denBin, OSem.v.injEq] at hd; obtain ⟨rfl, rfl⟩ := hd
    obtain ⟨k, n, m, e1, e2, e3⟩ := sim_int2 h hx hy
    simp only [fAdd, Option.some.injEq] at e3; subst e3
    exact ⟨_, by rw [e1, e2]; simp [Go.binOp, Op.intArith]; rfl, by rw [wrap_eq]; exact same_int _ _⟩
  case sub =>
    simp only [denBin, OSem.v.injEq] at hd; obtain ⟨rfl, rfl⟩ := hd
    obtain ⟨k, n, m, e1, e2, e3⟩ := sim_int2 h hx hy
    simp only [fSub, Option.some.injEq] at e3; subst e3
    exact ⟨_, by rw [e1, e2]; simp [Go.binOp, Op.intArith]; rfl, by rw [wrap_eq]; exact same_int _ _⟩
  case mul =>
    simp only [denBin, OSem.v.injEq] at hd; obtain ⟨rfl, rfl⟩ := hd
    obtain ⟨k, n, m, e1, e2, e3⟩ := sim_int2 h hx hy
    simp only [fMul, Option.some.injEq] at e3; subst e3
    exact ⟨_, by rw [e1, e2]; simp [Go.binOp, Op.intArith]; rfl, by rw [wrap_eq]; exact same_int _ _⟩
  case lss =>
    simp only [denBin, OSem.v.injEq] at hd; obtain ⟨rfl, rfl⟩ := hd
    obtain ⟨k, n, m, e1, e2, e3⟩ := sim_int2 h hx hy
    simp only [fLss, Option.some.injEq] at e3; subst e3
    exact ⟨_, by rw [e1, e2]; simp [Go.binOp, Op.intCmp]; rfl, by rw [ltI_eq]; exact same_bool _⟩
  case gtr =>
    simp only [denBin, OSem.v.injEq] at hd; obtain ⟨rfl, rfl⟩ := hd
    obtain ⟨k, n, m, e1, e2, e3⟩ := sim_int2 h hx hy
    simp only [fGtr, Option.some.injEq] at e3; subst e3
    exact ⟨_, by rw [e1, e2]; simp [Go.binOp, Op.intCmp]; rfl, by rw [ltI_eq]; exact same_bool _⟩
  case leq =>
    simp only [denBin, OSem.v.injEq] at hd; obtain ⟨rfl, rfl⟩ := hd
    obtain ⟨k, n, m, e1, e2, e3⟩ := sim_int2 h hx hy
    simp only [fLeq, Option.some.injEq] at e3; subst e3
    refine ⟨_, by rw [e1, e2]; simp [Go.binOp, Op.intCmp]; rfl, ?_⟩
    rw [ltI_eq]
    have : (!decide (m < n)) = decide (n ≤ m) := by by_cases h : m < n <;> simp [h] <;> omega
    rw [this]; exact same_bool _
  case geq =>
    simp only [denBin, OSem.v.injEq] at hd; obtain ⟨rfl, rfl⟩ := hd
    obtain ⟨k, n, m, e1, e2, e3⟩ := sim_int2 h hx hy
    simp only [fGeq, Option.some.injEq] at e3; subst e3
    refine ⟨_, by rw [e1, e2]; simp [Go.binOp, Op.intCmp]; rfl, ?_⟩
    rw [ltI_eq]
    have : (!decide (n < m)) = decide (m ≤ n) := by by_cases h : n < m <;> simp [h] <;> omega
    rw [this]; exact same_bool _
  case and =>
    simp only [denBin, OSem.v.injEq] at hd; obtain ⟨rfl, rfl⟩ := hd
    obtain ⟨k, n, m, e1, e2, e3⟩ := sim_int2 h hx hy
    simp only [fAnd, Option.some.injEq] at e3; subst e3
    exact ⟨_, by rw [e1, e2]; simp only [Go.binOp, ne_eq, not_true_eq_false, if_false, Op.intBits]; rfl, by rw [wrap_eq, bits_and]; exact same_int _ _⟩
  case or =>
    simp only [denBin, OSem.v.injEq] at hd; obtain ⟨rfl, rfl⟩ := hd
    obtain ⟨k, n, m, e1, e2, e3⟩ := sim_int2 h hx hy
    simp only [fOr, Option.some.injEq] at e3; subst e3
    exact ⟨_, by rw [e1, e2]; simp only [Go.binOp, ne_eq, not_true_eq_false, if_false, Op.intBits]; rfl, by rw [wrap_eq, bits_or]; exact same_int _ _⟩
  case xor =>
    simp only [denBin, OSem.v.injEq] at hd; obtain ⟨rfl, rfl⟩ := hd
    obtain ⟨k, n, m, e1, e2, e3⟩ := sim_int2 h hx hy
    simp only [fXor, Option.some.injEq] at e3; subst e3
    exact ⟨_, by rw [e1, e2]; simp only [Go.binOp, ne_eq, not_true_eq_false, if_false, Op.intBits]; rfl, by rw [wrap_eq, bits_xor]; exact same_int _ _⟩
  case andNot =>
    simp only [denBin, OSem.v.injEq] at hd; obtain ⟨rfl, rfl⟩ := hd
    obtain ⟨k, n, m, e1, e2, e3⟩ := sim_int2 h hx hy
    simp only [fAndNot, Option.some.injEq] at e3; subst e3
    exact ⟨_, by rw [e1, e2]; simp only [Go.binOp, ne_eq, not_true_eq_false, if_false, Op.intBits]; rfl, by rw [wrap_eq, bits_andNot]; exact same_int _ _⟩
  case quo =>
    simp only [denBin, OSem.v.injEq] at hd; obtain ⟨rfl, rfl⟩ := hd
    obtain ⟨k, n, m, e1, e2, e3⟩ := sim_int2 h hx hy
    simp only [fQuo, eqI_eq] at e3
    cases hm : (m == 0) with
    | true => simp [hm] at e3
    | false =>
      simp [hm] at e3; subst e3
      exact ⟨_, by rw [e1, e2]; simp [Go.binOp, Op.intDiv, show m ≠ 0 by simpa using hm]; rfl, by rw [wrap_eq]; exact same_int _ _⟩
  case rem =>
    simp only [denBin, OSem.v.injEq] at hd; obtain ⟨rfl, rfl⟩ := hd
    obtain ⟨k, n, m, e1, e2, e3⟩ := sim_int2 h hx hy
    simp only [fRem, eqI_eq] at e3
    cases hm : (m == 0) with
    | true => simp [hm] at e3
    | false =>
      simp [hm] at e3; subst e3
      exact ⟨_, by rw [e1, e2]; simp [Go.binOp, Op.intDiv, show m ≠ 0 by simpa using hm], same_int _ _⟩
  case shl =>
    simp only [denBin, OSem.v.injEq] at hd; obtain ⟨rfl, rfl⟩ := hd
    obtain ⟨k, n, j, m, e1, e2, e3⟩ := sim_sh h hx hy
    cases m with
    | negSucc m => simp [fShl] at e3
    | ofNat m =>
      simp only [fShl, Option.some.injEq] at e3; subst e3
      refine ⟨_, by rw [e1, e2]; simp [Go.binOp, Op.shift]; rfl, ?_⟩
      rw [wrap_eq]
      have : (bif Nat.ble m k.bits then m else k.bits) = min m k.bits := by
        cases hb : Nat.ble m k.bits with
        | true => have := Nat.le_of_ble_eq_true hb; simp <;> omega
        | false => have : ¬ m ≤ k.bits := fun h => by rw [Nat.ble_eq_true_of_le h] at hb; cases hb
                   simp <;> omega
      rw [this]
      have h2 : (Int.ofNat (2 ^ min m k.bits)) = (2 : Int) ^ min m k.bits := by simp
      rw [h2]
      exact same_int _ _
  case shr =>
    simp only [denBin, OSem.v.injEq] at hd; obtain ⟨rfl, rfl⟩ := hd
    obtain ⟨k, n, j, m, e1, e2, e3⟩ := sim_sh h hx hy
    cases m with
    | negSucc m => simp [fShr] at e3
    | ofNat m =>
      have hmin : (bif Nat.ble m k.bits then m else k.bits) = min m k.bits := by
        cases hb : Nat.ble m k.bits with
        | true => have := Nat.le_of_ble_eq_true hb; simp <;> omega
        | false => have : ¬ m ≤ k.bits := fun h => by rw [Nat.ble_eq_true_of_le h] at hb; cases hb
                   simp <;> omega
      cases n with
      | ofNat n =>
        simp only [fShr, Option.some.injEq, hmin] at e3; subst e3
        refine ⟨_, by rw [e1, e2]; simp [Go.binOp, Op.shift]; rfl, ?_⟩
        have : (Int.ofNat (n / 2 ^ min m k.bits)) = ((n : Int)).fdiv (2 ^ min m k.bits) := by
          rw [Int.fdiv_eq_ediv_of_nonneg _ (by exact Int.le_of_lt (Int.pow_pos (by decide)))]
          simp
        rw [this]
        exact same_int _ _
      | negSucc n =>
        simp only [fShr, Option.some.injEq] at e3; subst e3
        exact ⟨_, by rw [e1, e2]; simp [Go.binOp, Op.shift, show ¬ ((m : Int) < 0) by omega], same_int _ _⟩
end
end Vm

/-! Reading. -/
set_option linter.unusedVariables false
namespace Vm
open Go
section
variable {P : Program} {w : World} {ρ : Ren} {a : Fr} {E : Operand → Value} {B : Nat} {g : G}

/-- the row under an address, whatever its mark -/
theorem HR.row (H : HR ρ B g w) {b : Nat} {i : Inf} {e : TypeId} {cs : List Value} {st : St} (hb : ρ b = some i) (hg : g b = some (.cells e cs st)) (hs : st ≠ .dead) :
    RowR ρ w i cs (fun _ _ => True) := by
  obtain ⟨x, hx, hr⟩ := H.blk b i hb
  rw [hg] at hx
  cases hx
  cases st with
  | dead => exact absurd rfl hs
  | ro => exact hr.2.2
  | fix => exact hr.2.2
  | own o => obtain ⟨rc, fe, fz, h1, _, h3⟩ := hr.2.2; exact ⟨rc, fe, fz, h1, trivial, h3⟩
theorem RowR.cell {i : Inf} {cs : List Value} {ok : TypeId → Nat × Nat → Prop} (h : RowR ρ w i cs ok) {j : Nat} {v : Value} (hj : cs[j]? = some v) :
    ∃ v', w.cell? ⟨i.r, i.o + j, none⟩ = some v' ∧ VR ρ v v' ∧ v'.oneCell' = true := by
  obtain ⟨rc, fe, fz, h1, h2, h3, h4, h5⟩ := h
  obtain ⟨v', e, hv, ho⟩ := h5 j v hj
  exact ⟨v', by simp [World.cell?, h1, e], hv, ho⟩
theorem load1_some {g : G} {p : Addr} {v : Value} (h : load1 g p = some v) : ∃ e cs st, g p.block = some (.cells e cs st) ∧ st ≠ .dead ∧ cs[p.off]? = some v := by
  unfold load1 at h
  split at h
  · rename_i e cs st hg
    split at h
    · cases h
    · rename_i hs
      exact ⟨e, cs, st, hg, fun e => hs e, nth_some h⟩
  · cases h
theorem loadN_some {g : G} {p : Addr} {n : Nat} {l : List Value} (h : loadN g p n = some l) : ∃ e cs st, g p.block = some (.cells e cs st) ∧ st ≠ .dead ∧ p.off + n ≤ cs.length ∧ l = (cs.drop p.off).take n := by
  unfold loadN at h
  split at h
  · rename_i e cs st hg
    split at h
    · cases h
    · rename_i hs
      cases hb : Nat.ble (p.off + n) cs.length with
      | false => simp [hb] at h
      | true => simp [hb] at h; exact ⟨e, cs, st, hg, fun e => hs e, Nat.le_of_ble_eq_true hb, h.symm⟩
  · cases h
theorem read1 (H : HR ρ B g w) {p p' : Addr} (hp : AddrR ρ p p') {v : Value} (h : load1 g p = some v) : ∃ v', w.cell? p' = some v' ∧ VR ρ v v' ∧ v'.oneCell' = true := by
  obtain ⟨e, cs, st, hg, hs, hc⟩ := load1_some h
  obtain ⟨i, hi, rfl⟩ := hp
  exact (H.row hi hg hs).cell hc
theorem readN (H : HR ρ B g w) {p p' : Addr} (hp : AddrR ρ p p') {n : Nat} {l : List Value} (h : loadN g p n = some l) :
    ∃ l', VRs ρ l l' ∧ (∀ v ∈ l', v.oneCell' = true) ∧ l'.length = n ∧ (loadCells p' n).run P w = .ok l'.toArray w ∧ ∀ (j : Nat) (v : Value), l'[j]? = some v → w.cell? ⟨p'.block, p'.off + j, none⟩ = some v := by
  obtain ⟨e, cs, st, hg, hs, hle, rfl⟩ := loadN_some h
  obtain ⟨i, hi, rfl⟩ := hp
  have hr := H.row hi hg hs
  have hlen : ((cs.drop p.off).take n).length = n := by simp; omega
  have hget : ∀ j, j < n → ((cs.drop p.off).take n)[j]? = cs[p.off + j]? := fun j hj => by rw [List.getElem?_take, if_pos hj, List.getElem?_drop]
  -- the model's cells
  let f : Nat → Value := fun j => (w.cell? ⟨i.r, i.o + p.off + j, none⟩).getD Go.undef
  have hf : ∀ j, j < n → w.cell? ⟨i.r, i.o + p.off + j, none⟩ = some (f j) ∧ (∀ v, cs[p.off + j]? = some v → VR ρ v (f j)) ∧ (f j).oneCell' = true := by
    intro j hj
    have hlt : p.off + j < cs.length := by omega
    obtain ⟨v', h1, h2, h3⟩ := hr.cell (List.getElem?_eq_getElem hlt)
    rw [← Nat.add_assoc] at h1
    have : f j = v' := by simp [f, h1]
    rw [this]
    refine ⟨h1, fun v hv => ?_, h3⟩
    rw [List.getElem?_eq_getElem hlt] at hv
    cases hv
    exact h2
  refine ⟨(List.range n).map f, ?_, ?_, by simp, ?_, ?_⟩
  · refine VRs.ofGet (by rw [hlen]; simp) fun j v v' h1 h2 => ?_
    have hj : j < n := by
      rcases Nat.lt_or_ge j n with h | h
      · exact h
      · rw [List.getElem?_eq_none (by simp; omega)] at h1; cases h1
    rw [hget j hj] at h1
    simp [hj] at h2
    subst h2
    exact (hf j hj).2.1 v h1
  · intro v hv
    simp at hv
    obtain ⟨j, hj, rfl⟩ := hv
    exact (hf j hj).2.2
  · exact run_loadCells w _ n f (fun j hj => by rw [addr_add rfl]; exact (hf j hj).1)
  · intro j v hv
    have hj : j < n := by
      rcases Nat.lt_or_ge j n with h | h
      · exact h
      · rw [List.getElem?_eq_none (by simp; omega)] at hv; cases hv
    simp [hj] at hv
    subst hv
    exact (hf j hj).1
/-- what a slice holds -/
theorem readS (H : HR ρ B g w) {p p' : Addr} {m c z : Nat} (hp : AddrS ρ p p' m c) {l : List Value} (h : loadN g p (m * z) = some l) :
    ∃ l', VRs ρ l l' ∧ (∀ v ∈ l', v.oneCell' = true) ∧ l'.length = m * z ∧ (loadCells p' (m * z)).run P w = .ok l'.toArray w ∧ ∀ (j : Nat) (v : Value), l'[j]? = some v → w.cell? ⟨p'.block, p'.off + j, none⟩ = some v := by
  rcases hp with hp | ⟨rfl, rfl, _⟩
  · exact readN H hp h
  · obtain ⟨e, cs, st, _, _, _, rfl⟩ := loadN_some h
    exact ⟨[], by simpa using VRs.nil, by simp, by simp, by simp [loadCells, loadCellsFrom], by simp⟩
/-- a value of an aggregate type, or of one cell, is loaded -/
theorem run_load1 {t : TypeId} {n : Nat} (ht : aggO P t = some (false, n)) {p : Addr} {v : Value} (h : w.cell? p = some v) : (loadVar t p).run P w = .ok v w := by
  simp [loadVar, (run_aggO ht).1, h]
theorem run_loadN {t : TypeId} {n : Nat} (ht : aggO P t = some (true, n)) {p : Addr} {l : List Value} (h : (loadCells p n).run P w = .ok l.toArray w) : (loadVar t p).run P w = .ok (.agg l.toArray) w := by
  simp [loadVar, (run_aggO ht).1, run_sz (run_aggO (w := w) ht).2, h]
theorem sim_load {t : TypeId} {x : Operand} {rd : Bool} {s : VSem} (hd : denOp P (.load t x) = .v rd s) {v : Value} (h : s.f a g = some v) (H : HR ρ B g w) (hx : VR ρ ((evB x).f a) (E x)) :
    ∃ v', (Instr.loadAt t (E x)).run P w = .ok v' w ∧ VR ρ v v' := by
  unfold denOp at hd
  simp only at hd
  split at hd
  · rename_i n ht
    simp only [OSem.v.injEq] at hd
    obtain ⟨_, rfl⟩ := hd
    simp only [oLoadN] at h
    split at h
    · rename_i p hp
      rw [hp] at hx
      obtain ⟨p', e, hp', _⟩ := hx.ptr_inv
      rw [e]
      · split at h
        · rename_i l hl
          cases h
          obtain ⟨l', h1, h2, h3, h4, _⟩ := readN (P := P) H hp' hl
          exact ⟨.agg l'.toArray, by simp [Instr.loadAt, Instr.sureAddr, run_loadN ht h4], .agg (by simpa using h1) (by simpa using h2)⟩
        · cases h
    · cases h
  · rename_i n ht
    simp only [OSem.v.injEq] at hd
    obtain ⟨_, rfl⟩ := hd
    simp only [oLoad1] at h
    split at h
    · rename_i p hp
      rw [hp] at hx
      obtain ⟨p', e, hp', _⟩ := hx.ptr_inv
      rw [e]
      · obtain ⟨v', h1, h2, _⟩ := read1 H hp' h
        exact ⟨v', by simp [Instr.loadAt, Instr.sureAddr, run_load1 ht h1], h2⟩
    · cases h
  · simp [oNo] at hd
    obtain ⟨_, rfl⟩ := hd
    cases h
end
end Vm

/-! Reckoning on one value. -/
set_option linter.unusedVariables false
namespace Vm
open Go
section
variable {P : Program} {w : World} {ρ : Ren} {a : Fr} {E : Operand → Value} {B : Nat} {g : G}

theorem sim_neg {x : Operand} {v : Value} (h : (oNeg (evB x)).f a g = some v) (hx : VR ρ ((evB x).f a) (E x)) : ∃ v', (Op.unary .neg (E x)).run P w = .ok v' w ∧ VR ρ v v' := by
  simp only [oNeg] at h
  split at h
  · rename_i k n hp
    rw [hp] at hx
    rw [hx.int]
    cases h
    refine ⟨.int k (k.wrap (0 - n)), by simp [Op.unary, Op.intArith], ?_⟩
    rw [wrap_eq]; exact same_int _ _
  · cases h
theorem sim_not {x : Operand} {v : Value} (h : (oNot (evB x)).f a g = some v) (hx : VR ρ ((evB x).f a) (E x)) : ∃ v', (Op.unary .not (E x)).run P w = .ok v' w ∧ VR ρ v v' := by
  simp only [oNot] at h
  split at h
  · rename_i b hp
    rw [hp] at hx
    rw [hx.bool]
    cases h
    exact ⟨.bool !b, by simp [Op.unary], same_bool _⟩
  · cases h
theorem ones (k : IntKind) : (BitVec.ofInt k.bits (if k.signed then -1 else k.max)).toNat = 2 ^ k.bits - 1 := by cases k <;> rfl
theorem sim_com {x : Operand} {v : Value} (h : (oCom (evB x)).f a g = some v) (hx : VR ρ ((evB x).f a) (E x)) : ∃ v', (Op.unary .xor (E x)).run P w = .ok v' w ∧ VR ρ v v' := by
  simp only [oCom] at h
  split at h
  · rename_i k n hp
    rw [hp] at hx
    rw [hx.int]
    cases h
    refine ⟨.int k (k.wrap ((BitVec.ofInt k.bits (if k.signed then -1 else k.max) ^^^ BitVec.ofInt k.bits n).toNat : Nat)), by simp only [Op.unary, Op.intBits]; rfl, ?_⟩
    have : k.wrap (.ofNat (Nat.xor (2 ^ k.bits - 1) (bitsOf k n))) = k.wrap ((BitVec.ofInt k.bits (if k.signed then -1 else k.max) ^^^ BitVec.ofInt k.bits n).toNat : Nat) := by
      rw [BitVec.toNat_xor, ones, ← bitsOf_mod]
      have h1 : 2 ^ k.bits - 1 = (2 ^ k.bits - 1) % 2 ^ k.bits := by
        rw [Nat.mod_eq_of_lt]
        have : 0 < 2 ^ k.bits := Nat.pos_of_ne_zero (by cases k <;> simp [IntKind.bits])
        omega
      rw [h1, ← Nat.xor_mod_two_pow, ← h1]
      exact (wrap_mod k _).symm
    rw [wrap_eq, this]
    exact same_int _ _
  · cases h
theorem sim_pick {c x y : Operand} {v : Value} (h : (oPick (evB c) (evB x) (evB y)).f a g = some v) (hc : VR ρ ((evB c).f a) (E c)) (hx : VR ρ ((evB x).f a) (E x)) (hy : VR ρ ((evB y).f a) (E y)) :
    ∃ v', (do pure (.value (if ← asBool (E c) then E x else E y)) : Go.Sem Next).run P w = .ok (.value v') w ∧ VR ρ v v' := by
  simp only [oPick] at h
  split at h
  · rename_i b hp
    rw [hp] at hc
    rw [hc.bool]
    cases h
    cases b with
    | true => exact ⟨_, by simp [asBool], hx⟩
    | false => exact ⟨_, by simp [asBool], hy⟩
  · cases h
theorem sim_convInt {s d : TypeId} {ks k : IntKind} {x : Operand} {v : Value} (hs : und P s = .int ks) (hd : und P d = .int k) (h : (oConvInt k (evB x)).f a g = some v) (hx : VR ρ ((evB x).f a) (E x)) :
    ∃ v', (convert s d (E x)).run P w = .ok v' w ∧ VR ρ v v' := by
  simp only [oConvInt] at h
  split at h
  · rename_i j n hp
    rw [hp] at hx
    rw [hx.int]
    cases h
    refine ⟨.int k (k.wrap n), by simp [convert, run_und hs (by simp), run_und hd (by simp), Conv.intToInt], ?_⟩
    rw [wrap_eq]; exact same_int _ _
  · cases h
theorem sim_convStr {s d : TypeId} {x : Operand} {v : Value} (hs : und P s = .string) (hd : und P d = .string) (h : (oStr (evB x)).f a g = some v) (hx : VR ρ ((evB x).f a) (E x)) :
    ∃ v', (convert s d (E x)).run P w = .ok v' w ∧ VR ρ v v' := by
  simp only [oStr] at h
  split at h
  · rename_i b hp
    rw [hp] at hx
    rw [hx.string]
    cases h
    exact ⟨.string b, by simp [convert, run_und hs (by simp), run_und hd (by simp)], .same rfl⟩
  · cases h
/-- cells that are bytes -/
theorem bytesL_cons (v : Value) (l : List Value) : bytesL (v :: l) = match v with
    | .int .u8 (.ofNat n) => (match bytesL l with | some l => some (UInt8.ofNat n :: l) | none => none)
    | _ => none := rfl
theorem bytesL_some {l : List Value} {bs : List UInt8} (h : bytesL l = some bs) : ∃ xs : List Int, l = xs.map (Value.int .u8) ∧ bs = xs.map (fun n => UInt8.ofNat n.toNat) := by
  induction l generalizing bs with
  | nil => cases h; exact ⟨[], rfl, rfl⟩
  | cons v l ih =>
    rw [bytesL_cons] at h
    split at h
    · rename_i n
      split at h
      · rename_i bs' hb
        cases h
        obtain ⟨xs, rfl, rfl⟩ := ih hb
        exact ⟨(n : Int) :: xs, rfl, rfl⟩
      · cases h
    · cases h
theorem VRs.ints {k : IntKind} {xs : List Int} {l' : List Value} (h : VRs ρ (xs.map (Value.int k)) l') : l' = xs.map (Value.int k) := by
  induction xs generalizing l' with
  | nil => cases h; rfl
  | cons n xs ih =>
    cases h with
    | cons h h' => rw [h.int, ih h']; rfl
theorem sim_toString {s d e : TypeId} {x : Operand} {v : Value} (hs : und P s = .slice e) (hd : und P d = .string) (he : und P e = .int .u8) (h : (oToString (evB x)).f a g = some v) (H : HR ρ B g w) (hx : VR ρ ((evB x).f a) (E x)) :
    ∃ v', (convert s d (E x)).run P w = .ok v' w ∧ VR ρ v v' := by
  have hs' := und_some hs (by simp)
  have hd' := und_some hd (by simp)
  have he' := und_some he (by simp)
  simp only [oToString] at h
  split at h
  · rename_i n c hp
    rw [hp] at hx
    rw [hx.nilSlice]
    cases h
    exact ⟨.string .empty, run_convert_bytes_nil w s e hs' he' n c d hd', .same rfl⟩
  · rename_i p n c hp
    rw [hp] at hx
    split at h
    · rename_i l hl
      split at h
      · rename_i bs hb
        cases h
        obtain ⟨p', c', e1, hp', _⟩ := hx.slice_inv
        rw [e1]
        rw [← Nat.mul_one n] at hl
        obtain ⟨l', h1, h2, h3, h4, h5⟩ := readS (P := P) H hp' hl
        rw [Nat.mul_one] at h3
        obtain ⟨xs, rfl, rfl⟩ := bytesL_some hb
        have := h1.ints
        subst this
        have hlen : xs.length = n := by simpa using h3
        rcases hp'.plain with hpl | ⟨hn0, _, _⟩
        case inr =>
          subst hn0
          have : xs = [] := List.length_eq_zero_iff.1 hlen
          subst this
          refine ⟨.string ⟨#[]⟩, ?_, .same rfl⟩
          rw [run_convert_bytes_string w s _ e _ 0 c' hs' he' hd']
          simp [Conv.bytesToString, loadCells, loadCellsFrom]
          rfl
        obtain ⟨b', o', s'⟩ := p'
        simp only at hpl
        subst hpl
        have hc := run_convert_bytes_arg (P := P) w s e hs' he' b' o' n c' xs hlen (fun j hj => by
          have := h5 j (.int .u8 (xs.getD j 0)) (by simp [List.getD, List.getElem?_eq_getElem (show j < xs.length by omega)])
          exact this) d hd'
        exact ⟨_, hc, .same rfl⟩
      · cases h
    · cases h
  · cases h
theorem sim_iface {t : TypeId} {x : Operand} {v : Value} (ht : ∀ m, und P t ≠ .interface m) (ht' : und P t ≠ .invalid) (h : (oIface t (evB x)).f a g = some v) (hx : VR ρ ((evB x).f a) (E x)) :
    ∃ v', (Instr.makeInterface t (E x)).run P w = .ok v' w ∧ VR ρ v v' := by
  cases h
  refine ⟨.iface t (E x), ?_, .iface hx⟩
  simp only [Instr.makeInterface, Sem.run_bind, run_und rfl ht', Result.andThen_ok]
  first
    | rfl
    | (split
       · rename_i m hm; exact absurd hm (ht m)
       · rfl)
theorem evs_cons (a : Fr) (x : Sel) (l : List Sel) : evs a (x :: l) = x.f a :: evs a l := rfl
theorem sim_evs {l : List Operand} (h : Ops ρ a E l) : VRs ρ (evs a (l.map evB)) (l.map E) := by
  induction l with
  | nil => exact .nil
  | cons x l ih => exact .cons (h x (by simp)) (ih fun y hy => h y (by simp [hy]))
theorem sim_func {f : FuncId} {first cap : Array Operand} {v : Value} (h : (oFunc (.func f) (selsB first) (selsB cap)).f a g = some v) (h1 : Ops ρ a E first.toList) (h2 : Ops ρ a E cap.toList) :
    VR ρ v (.func (.func f) (first.map E) (cap.map E)) := by
  cases h
  refine .func ?_ ?_
  · simpa [selsB] using sim_evs h1
  · simpa [selsB] using sim_evs h2
theorem sim_nilCheck {x : Operand} {v : Value} (h : (oNilCheck (evB x)).f a g = some v) (hx : VR ρ ((evB x).f a) (E x)) : v = (evB x).f a ∧ ((∃ p, E x = .pointer (some p)) ∨ (∃ f y z, E x = .func (.func f) y z) ∨ ∃ f y z, E x = .func (.yield f) y z) := by
  simp only [oNilCheck] at h
  split at h
  · rename_i p hp
    rw [hp] at hx
    cases h
    obtain ⟨p', e, _⟩ := hx.ptr_inv
    exact ⟨hp.symm, .inl ⟨p', e⟩⟩
  · rename_i f y z hp
    rw [hp] at hx
    cases h
    obtain ⟨y', z', e, _⟩ := hx.func_inv
    exact ⟨hp.symm, .inr (.inl ⟨f, y', z', e⟩)⟩
  · rename_i f y z hp
    rw [hp] at hx
    cases h
    obtain ⟨i, y', z', _, e, _⟩ := hx.yield_inv
    exact ⟨hp.symm, .inr (.inr ⟨_, y', z', e⟩)⟩
  · cases h
theorem sim_extract {x : Operand} {i : Nat} {v : Value} (h : (oExtract (evB x) i).f a g = some v) (hx : VR ρ ((evB x).f a) (E x)) : ∃ v', (Instr.extract (E x) i).run P w = .ok v' w ∧ VR ρ v v' := by
  simp only [oExtract] at h
  split at h
  · rename_i vs hp
    rw [hp] at hx
    obtain ⟨vs', e, hv⟩ := hx.tuple_inv
    rw [e]
    obtain ⟨v', h1, h2⟩ := hv.get i v (nth_some h)
    exact ⟨v', by simp [Instr.extract, show vs'[i]? = some v' by simpa using h1], h2⟩
  · cases h
theorem run_part1 {t : TypeId} {n : Nat} (ht : aggO P t = some (false, n)) {cs : Array Value} {off : Nat} {v : Value} (h : cs.toList[off]? = some v) : (part t cs off).run P w = .ok v w := by
  simp [part, (run_aggO ht).1, show cs[off]? = some v by simpa using h]
theorem run_partN {t : TypeId} {n : Nat} (ht : aggO P t = some (true, n)) {cs : Array Value} {off : Nat} : (part t cs off).run P w = .ok (.agg ((cs.toList.drop off).take n).toArray) w := by
  simp only [part, Sem.run_bind, (run_aggO ht).1, Result.andThen_ok, if_true, run_sz (run_aggO (w := w) ht).2, Sem.run_pure]
  congr 2
  apply Array.ext'
  simp
theorem sim_field {t : TypeId} {x : Operand} {f : Nat} {rd : Bool} {s : VSem} (hd : denField P t (evB x) f = .v rd s) {v : Value} (h : s.f a g = some v) (hx : VR ρ ((evB x).f a) (E x)) :
    ∃ v', (Instr.field t (E x) f).run P w = .ok v' w ∧ VR ρ v v' := by
  unfold denField at hd
  split at hd
  · rename_i fs hu
    split at hd
    · rename_i f' hf
      have hf' : fs[f]? = some f' := by simpa using hf
      split at hd
      · rename_i n ht
        simp only [OSem.v.injEq] at hd
        obtain ⟨_, rfl⟩ := hd
        simp only [oFieldN] at h
        split at h
        · rename_i cs hp
          rw [hp] at hx
          obtain ⟨cs', e, hv, h1⟩ := hx.agg_inv
          rw [e]
          cases hb : Nat.ble (f'.offset + n) cs.size with
          | false => simp [hb] at h
          | true =>
            simp [hb] at h
            subst h
            refine ⟨.agg ((cs'.toList.drop f'.offset).take n).toArray, ?_, ?_⟩
            · simp [Instr.field, run_und hu (by simp), hf', asAgg, run_partN ht]
            · exact .agg (by simpa using (hv.drop _).take _) (fun v hv => h1 v (List.mem_of_mem_drop (List.mem_of_mem_take (by simpa using hv))))
        · cases h
      · rename_i n ht
        simp only [OSem.v.injEq] at hd
        obtain ⟨_, rfl⟩ := hd
        simp only [oField1] at h
        split at h
        · rename_i cs hp
          rw [hp] at hx
          obtain ⟨cs', e, hv, h1⟩ := hx.agg_inv
          rw [e]
          obtain ⟨v', h2, h3⟩ := hv.get _ v (nth_some h)
          exact ⟨v', by simp [Instr.field, run_und hu (by simp), hf', asAgg, run_part1 ht h2], h3⟩
        · cases h
      · simp [oNo] at hd; obtain ⟨_, rfl⟩ := hd; cases h
    · simp [oNo] at hd; obtain ⟨_, rfl⟩ := hd; cases h
  · simp [oNo] at hd; obtain ⟨_, rfl⟩ := hd; cases h
end
end Vm

/-! Addresses, slices, places. -/
set_option linter.unusedVariables false
namespace Vm
open Go
section
variable {P : Program} {w : World} {ρ : Ren} {a : Fr} {E : Operand → Value} {B : Nat} {g : G}

theorem AddrR.plain {p p' : Addr} (h : AddrR ρ p p') : p'.spot = none := by obtain ⟨i, _, rfl⟩ := h; rfl
theorem AddrR.plus {p p' : Addr} (h : AddrR ρ p p') (n : Nat) (s : Option Nat) : AddrR ρ ⟨p.block, p.off + n, s⟩ (p'.add n) := by
  obtain ⟨i, hi, rfl⟩ := h
  exact ⟨i, hi, by rw [addr_add rfl]; simp [Nat.add_assoc]⟩
theorem fieldPl_some {fs : Array Field} {f off n : Nat} (h : fieldPl P fs.toList f = some (off, n)) : ∃ x, fs[f]? = some x ∧ x.offset = off ∧ szO P x.type = some n := by
  unfold fieldPl at h
  split at h
  · rename_i x hx
    split at h
    · rename_i m hm
      simp at h
      exact ⟨x, by simpa using hx, h.1, by rw [hm, h.2]⟩
    · cases h
  · cases h
theorem sim_fieldAddr {t : TypeId} {x : Operand} {f : Nat} {rd : Bool} {s : VSem} (hd : denFieldAddr P t (evB x) f = .v rd s) {v : Value} (h : s.f a g = some v) (hx : VR ρ ((evB x).f a) (E x)) :
    ∃ v', (Instr.fieldAt t (E x) f).run P w = .ok v' w ∧ VR ρ v v' := by
  unfold denFieldAddr at hd
  split at hd
  · rename_i fs hu
    split at hd
    · rename_i off n hf
      obtain ⟨y, hy, rfl, hn⟩ := fieldPl_some hf
      cases hb : Nat.beq n 0 with
      | true => simp [hb, oNo] at hd; obtain ⟨_, rfl⟩ := hd; cases h
      | false =>
        have hn0 : n ≠ 0 := fun e => by subst e; cases hb
        simp only [hb, cond_false, OSem.v.injEq] at hd
        obtain ⟨_, rfl⟩ := hd
        simp only [oFieldAddr] at h
        split at h
        · rename_i p hp
          rw [hp] at hx
          obtain ⟨p', e, hp', hc⟩ := hx.ptr_inv
          cases h
          rw [e]
          refine ⟨.pointer (some (p'.add y.offset)), ?_, .ptr (hp'.plus _ _) hc⟩
          simp [Instr.fieldAt, run_und hu (by simp), hy, Instr.sureAddr, fieldPlace, run_sz hn, hn0]
        · cases h
    · simp [oNo] at hd; obtain ⟨_, rfl⟩ := hd; cases h
  · simp [oNo] at hd; obtain ⟨_, rfl⟩ := hd; cases h
theorem idx_some {n : Nat} {i : Int} {k : Nat} (h : idx n i = some k) : i = (k : Int) ∧ k < n := by
  unfold idx at h
  split at h
  · rename_i j
    cases hb : Nat.blt j n with
    | false => simp [hb] at h
    | true => simp [hb] at h; subst h; exact ⟨rfl, by simpa using hb⟩
  · cases h
theorem sim_indexAddr {t : TypeId} {x y : Operand} {rd : Bool} {s : VSem} (hd : denIndexAddr P t (evB x) (evB y) = .v rd s) {v : Value} (h : s.f a g = some v) (hx : VR ρ ((evB x).f a) (E x)) (hy : VR ρ ((evB y).f a) (E y)) :
    ∃ v', (Instr.indexAt t (E x) (E y)).run P w = .ok v' w ∧ VR ρ v v' := by
  unfold denIndexAddr at hd
  split at hd
  · rename_i e hu
    split at hd
    · rename_i sz hsz
      simp only [OSem.v.injEq] at hd
      obtain ⟨_, rfl⟩ := hd
      simp only [oIndexAddrS] at h
      split at h
      · rename_i p n c hp
        rw [hp] at hx
        obtain ⟨p', c', e1, hp', _⟩ := hx.slice_inv
        split at h
        · rename_i k i hi
          rw [hi] at hy
          split at h
          · rename_i j hj
            obtain ⟨rfl, hlt⟩ := idx_some hj
            cases h
            rw [e1, hy.int]
            have hp'' : AddrR ρ p p' := by
              rcases hp' with h | ⟨h, _⟩
              · exact h
              · omega
            refine ⟨.pointer (some (p'.add (j * sz))), ?_, .ptr (hp''.plus _ _) (by simp)⟩
            simp [Instr.indexAt, run_und hu (by simp), asIntOf, hlt, run_sz hsz]
          · cases h
        · cases h
      · cases h
    · simp [oNo] at hd; obtain ⟨_, rfl⟩ := hd; cases h
  · rename_i n e hu
    split at hd
    · rename_i sz hsz
      simp only [OSem.v.injEq] at hd
      obtain ⟨_, rfl⟩ := hd
      simp only [oIndexAddrA] at h
      split at h
      · rename_i p hp
        rw [hp] at hx
        obtain ⟨p', e1, hp', hc⟩ := hx.ptr_inv
        split at h
        · rename_i k i hi
          rw [hi] at hy
          split at h
          · rename_i j hj
            obtain ⟨rfl, hlt⟩ := idx_some hj
            cases h
            rw [e1, hy.int]
            refine ⟨.pointer (some (p'.add (j * sz))), ?_, .ptr (hp'.plus _ _) hc⟩
            simp [Instr.indexAt, run_und hu (by simp), asIntOf, Instr.sureAddr, hlt, run_sz hsz]
          · cases h
        · cases h
      · cases h
    · simp [oNo] at hd; obtain ⟨_, rfl⟩ := hd; cases h
  · simp [oNo] at hd; obtain ⟨_, rfl⟩ := hd; cases h
theorem sim_index {t : TypeId} {x y : Operand} {rd : Bool} {s : VSem} (hd : denIndex P t (evB x) (evB y) = .v rd s) {v : Value} (h : s.f a g = some v) (hx : VR ρ ((evB x).f a) (E x)) (hy : VR ρ ((evB y).f a) (E y)) :
    ∃ v', (Instr.index t (E x) (E y)).run P w = .ok v' w ∧ VR ρ v v' := by
  unfold denIndex at hd
  split at hd
  · rename_i n e hu
    split at hd
    · rename_i hsz
      simp only [OSem.v.injEq] at hd
      obtain ⟨_, rfl⟩ := hd
      simp only [oIndexA1] at h
      split at h
      · rename_i cs hp
        rw [hp] at hx
        obtain ⟨cs', e1, hv, h1⟩ := hx.agg_inv
        split at h
        · rename_i k i hi
          rw [hi] at hy
          split at h
          · rename_i j hj
            obtain ⟨rfl, hlt⟩ := idx_some hj
            rw [e1, hy.int]
            obtain ⟨v', h2, h3⟩ := hv.get j v (nth_some h)
            refine ⟨v', ?_, h3⟩
            simp [Instr.index, run_und hu (by simp), asIntOf, hlt, run_sz (run_aggO (w := w) hsz).2, run_part1 hsz h2]
          · cases h
        · cases h
      · cases h
    · simp [oNo] at hd; obtain ⟨_, rfl⟩ := hd; cases h
  · rename_i hu
    simp only [OSem.v.injEq] at hd
    obtain ⟨_, rfl⟩ := hd
    simp only [oIndexS] at h
    split at h
    · rename_i st hp
      rw [hp] at hx
      split at h
      · rename_i k i hi
        rw [hi] at hy
        split at h
        · rename_i b hb
          cases h
          rw [hx.string, hy.int]
          have hb' := nth_some hb
          have hlt : i < st.size := (List.getElem?_eq_some_iff.1 hb').1
          have hg : st[i]? = some b := by
            have h2 : st.data[i]? = some b := by simpa using hb'
            obtain ⟨h3, h4⟩ := Array.getElem?_eq_some_iff.1 h2
            rw [getElem?_pos st i hlt]
            exact congrArg some h4
          refine ⟨.int .u8 b.toNat, ?_, same_int _ _⟩
          have h0 : (if (0 : Int) ≤ Int.ofNat i then st[(Int.ofNat i).toNat]? else none) = some b := by
            have : (0 : Int) ≤ Int.ofNat i := Int.natCast_nonneg i
            simp only [this, if_true]
            exact hg
          unfold Instr.index
          simp only [Sem.run_bind, asIntOf, Sem.run_pure, Result.andThen_ok, run_und hu (show TypeDesc.string ≠ .invalid by simp)]
          show Sem.run P (match (if (0 : Int) ≤ Int.ofNat i then st[(Int.ofNat i).toNat]? else none) with
            | some b => pure (Value.int .u8 b.toNat)
            | none => boundsPanic k (Int.ofNat i) st.size .index) w = _
          rw [h0]
          rfl
        · cases h
      · cases h
    · cases h
  · simp [oNo] at hd; obtain ⟨_, rfl⟩ := hd; cases h
end
end Vm

/-! Slices of things, things built of parts, lengths, the least and the greatest. -/
set_option linter.unusedVariables false
namespace Vm
open Go
section
variable {P : Program} {w : World} {ρ : Ren} {a : Fr} {E : Operand → Value} {B : Nat} {g : G}

/-- an operand that may be lacking -/
def OptR (ρ : Ren) (a : Fr) (E : Operand → Value) (x : Option Operand) : Prop := ∀ y, x = some y → VR ρ ((evB y).f a) (E y)
theorem bnd_some {lo : Option Operand} (h : OptR ρ a E lo) {d y k : Nat} (hk : bnd a (optB lo) d y = some k) :
    (lo = none ∧ k = d) ∨ ∃ x kk, lo = some x ∧ E x = .int kk (k : Int) ∧ k ≤ y := by
  cases lo with
  | none => simp [bnd, optB] at hk; exact .inl ⟨rfl, hk.symm⟩
  | some x =>
    right
    simp only [bnd, optB, Option.map_some] at hk
    split at hk
    · rename_i kk i hi
      cases hb : Nat.ble i y with
      | false => simp [hb] at hk
      | true =>
        simp [hb] at hk
        subst hk
        have := h x rfl
        rw [hi] at this
        exact ⟨x, kk, rfl, this.int, Nat.le_of_ble_eq_true hb⟩
    · cases hk
theorem run_sliceBound (kk : IntKind) (k y : Nat) (h : k ≤ y) (c : BoundsCode) : (Instr.sliceBound (.int kk (k : Int)) y c).run P w = .ok k w := by
  have h0 : (0 : Int) ≤ (k : Int) ∧ (k : Int) ≤ (y : Int) := ⟨Int.natCast_nonneg k, Int.ofNat_le.2 h⟩
  simp only [Instr.sliceBound, asIntOf, Sem.run_bind, Sem.run_pure, Result.andThen_ok, if_pos h0]
  rfl
/-- the bounds, at a true capacity that may be greater than the known one -/
theorem run_bounds {lo hi mx : Option Operand} (hlo : OptR ρ a E lo) (hhi : OptR ρ a E hi) (hmx : OptR ρ a E mx) (hmh : (optB hi).isNone = true → (optB mx).isSome = true → False)
    {len cap cap' m h l : Nat} (hc : cap ≤ cap') (h1 : bnd a (optB mx) cap cap = some m) (h2 : bnd a (optB hi) len m = some h) (h3 : bnd a (optB lo) 0 h = some l) (b : Bool) :
    (Instr.sliceBounds b len cap' (lo.map E) (hi.map E) (mx.map E)).run P w = .ok (l, h, if mx.isSome then m else cap') w ∧ l ≤ h ∧ (hi.isSome = true → h ≤ m) ∧ (mx = none → m = cap) ∧ m ≤ cap := by
  have e1 : l ≤ h := by rcases bnd_some hlo h3 with ⟨_, rfl⟩ | ⟨_, _, _, _, h⟩ <;> omega
  have e2 : hi.isSome = true → h ≤ m := by rcases bnd_some hhi h2 with ⟨rfl, _⟩ | ⟨_, _, _, _, h⟩ <;> simp_all
  have e3 : mx = none → m = cap := fun e => by subst e; simp [bnd, optB] at h1; exact h1.symm
  have e4 : m ≤ cap := by rcases bnd_some hmx h1 with ⟨_, rfl⟩ | ⟨_, _, _, _, h⟩ <;> omega
  refine ⟨?_, e1, e2, e3, e4⟩
  rcases bnd_some hmx h1 with ⟨rfl, rfl⟩ | ⟨xm, km, rfl, hxm, hm⟩
  · rcases bnd_some hhi h2 with ⟨rfl, rfl⟩ | ⟨xh, kh, rfl, hxh, hh⟩
    · rcases bnd_some hlo h3 with ⟨rfl, rfl⟩ | ⟨xl, kl, rfl, hxl, hl⟩
      · simp [Instr.sliceBounds]
      · simp [Instr.sliceBounds, hxl, run_sliceBound _ _ _ hl]
    · rcases bnd_some hlo h3 with ⟨rfl, rfl⟩ | ⟨xl, kl, rfl, hxl, hl⟩
      · simp [Instr.sliceBounds, hxh, run_sliceBound _ _ _ (Nat.le_trans hh hc)]
      · simp [Instr.sliceBounds, hxh, hxl, run_sliceBound _ _ _ (Nat.le_trans hh hc), run_sliceBound _ _ _ hl]
  · rcases bnd_some hhi h2 with ⟨rfl, rfl⟩ | ⟨xh, kh, rfl, hxh, hh⟩
    · exact (hmh rfl rfl).elim
    · rcases bnd_some hlo h3 with ⟨rfl, rfl⟩ | ⟨xl, kl, rfl, hxl, hl⟩
      · simp [Instr.sliceBounds, hxm, hxh, run_sliceBound _ _ _ (Nat.le_trans hm hc), run_sliceBound _ _ _ hh]
      · simp [Instr.sliceBounds, hxm, hxh, hxl, run_sliceBound _ _ _ (Nat.le_trans hm hc), run_sliceBound _ _ _ hh, run_sliceBound _ _ _ hl]
theorem AddrR.cut {p p' : Addr} (h : AddrR ρ p p') (m l sz : Nat) (s : Option Nat) : AddrR ρ ⟨p.block, bif Nat.beq m l then p.off else p.off + l * sz, s⟩ (if m = l then p' else p'.add (l * sz)) := by
  by_cases e : m = l
  · subst e
    rw [if_pos rfl, show Nat.beq m m = true by simp]
    obtain ⟨i, hi, rfl⟩ := h
    exact ⟨i, hi, rfl⟩
  · rw [if_neg e, show Nat.beq m l = false by rw [← Bool.not_eq_true]; exact fun h => e (Nat.eq_of_beq_eq_true h)]
    exact h.plus _ _
theorem sim_slice {t : TypeId} {x : Operand} {lo hi mx : Option Operand} {rd : Bool} {s : VSem} (hd : denSlice P t (evB x) (optB lo) (optB hi) (optB mx) = .v rd s) {v : Value} (h : s.f a g = some v)
    (hx : VR ρ ((evB x).f a) (E x)) (hlo : OptR ρ a E lo) (hhi : OptR ρ a E hi) (hmx : OptR ρ a E mx) :
    ∃ v', (Instr.sliceAt t (E x) (lo.map E) (hi.map E) (mx.map E)).run P w = .ok v' w ∧ VR ρ v v' := by
  unfold denSlice at hd
  cases hmh : ((optB hi).isNone && (optB mx).isSome) with
  | true => simp [hmh, oNo] at hd; obtain ⟨_, rfl⟩ := hd; cases h
  | false =>
  have hmh' : (optB hi).isNone = true → (optB mx).isSome = true → False := fun h1 h2 => by rw [h1, h2] at hmh; cases hmh
  simp only [hmh, cond_false] at hd
  split at hd
  · -- a slice
    rename_i e hu
    split at hd
    · rename_i sz hsz
      simp only [OSem.v.injEq] at hd
      obtain ⟨_, rfl⟩ := hd
      simp only [oSlice] at h
      split at h
      · rename_i p len cap hp
        rw [hp] at hx
        split at h
        · cases h
        rename_i m hm
        split at h
        · cases h
        rename_i hh hh'
        split at h
        · cases h
        rename_i l hl
        split at h
        · -- of nothing
          cases h
          rw [hx.nilSlice]
          obtain ⟨h1, h2, h3, h4, h5⟩ := run_bounds (P := P) (w := w) hlo hhi hmx hmh' (Nat.le_refl cap) hm hh' hl true
          refine ⟨.slice none (hh - l) (m - l), ?_, .same rfl⟩
          simp [Instr.sliceAt, Instr.slice, run_und hu (by simp), h1, run_sz hsz]
          cases mx with
          | none => simp [h4 rfl]
          | some _ => simp
        · rename_i q
          split at h
          · cases h
          rename_i sp hsp
          cases h
          obtain ⟨q', c', e1, hq, hc0, hc1⟩ := hx.slice_inv
          have hcc : cap ≤ c' := by
            cases hs : q.spot with
            | none => rw [hc0 hs]; exact Nat.le_refl _
            | some z => exact (hc1 z hs).1
          obtain ⟨h1, h2, h3, h4, h5⟩ := run_bounds (P := P) (w := w) hlo hhi hmx hmh' hcc hm hh' hl true
          rw [e1]
          -- the true upper bound
          let m' := if mx.isSome then m else c'
          have hm' : (if mx.isSome then m else c') = m' := rfl
          have hmm : m ≤ m' := by
            show m ≤ if mx.isSome then m else c'
            split <;> omega
          refine ⟨.slice (some (if m' = l then q' else q'.add (l * sz))) (hh - l) (m' - l), ?_, ?_⟩
          · simp only [Instr.sliceAt, Instr.slice, Sem.run_bind, run_und hu (show TypeDesc.slice e ≠ .invalid by simp), Result.andThen_ok, h1, run_sz hsz, Sem.run_pure]
            rw [hm']
            by_cases hml : m' = l <;> simp [hml]
          · -- empty and of no capacity: it may lie elsewhere
            have hweak : ∀ r : Addr, r.block = q.block → len = 0 → cap = 0 → (r.spot = none ∨ q.spot ≠ none) → ∀ r' : Addr, r' = q' → AddrS ρ r (if m' = l then r' else r'.add (l * sz)) (hh - l) (m - l) := by
              intro r hr hl0 hc0 hsp r' e
              subst e
              subst hl0 hc0
              have hmz : m = 0 := by omega
              have hhz : hh = 0 := by
                rcases bnd_some hhi hh' with ⟨_, h⟩ | ⟨_, _, _, _, h⟩ <;> omega
              have hlz : l = 0 := by omega
              obtain ⟨i, hi⟩ := hq.dom
              rcases hsp with hsp | hsp
              · exact .inr ⟨by omega, by omega, i, by rw [hr]; exact hi, .inl hsp⟩
              have hpl : r'.spot = none := by
                rcases hq.plain with hpl | ⟨_, _, hs⟩
                · exact hpl
                · exact absurd hs hsp
              have hb : r'.block = i.r := by
                rcases hq with ⟨j, hj, rfl⟩ | ⟨_, _, j, hj, hjb | ⟨_, hjb⟩⟩
                · rw [hi] at hj; cases hj; rfl
                · exact absurd hjb hsp
                · rw [hi] at hj; cases hj; exact hjb
              refine .inr ⟨by omega, by omega, i, by rw [hr]; exact hi, .inr ⟨?_, ?_⟩⟩
              · split
                · exact hpl
                · rw [addr_add hpl]
              · split
                · exact hb
                · rw [addr_add hpl]; exact hb
            cases hqs : q.spot with
            | none =>
              rw [hqs] at hsp
              cases hsp
              have hcc' : c' = cap := hc0 hqs
              have hmm' : m' = m := by
                show (if mx.isSome then m else c') = m
                split
                · rfl
                · rename_i hn
                  have : mx = none := by cases mx with | none => rfl | some _ => exact absurd rfl hn
                  rw [h4 this, hcc']
              refine .slice ?_ (fun _ => by rw [hmm']) (fun z hz => by cases hz)
              rcases hq with hq | ⟨hl0, hc0', _⟩
              · rw [hmm']; exact .inl (hq.cut m l sz none)
              · exact hweak ⟨q.block, _, none⟩ rfl hl0 hc0' (.inl rfl) q' rfl
            | some z =>
              rw [hqs] at hsp
              obtain ⟨hz1, hz2⟩ := hc1 z hqs
              have hpl : q'.spot = none := by
                rcases hq.plain with hpl | ⟨_, _, hs⟩
                · exact hpl
                · rw [hqs] at hs; cases hs
              cases mx with
              | some xm =>
                simp [cutSpot, optB] at hsp
                subst hsp
                have hmm' : m' = m := rfl
                refine .slice ?_ (fun _ => by rw [hmm']) (fun z hz => by cases hz)
                rcases hq with hq | ⟨hl0, hc0', _⟩
                · rw [hmm']; exact .inl (hq.cut m l sz none)
                · exact hweak ⟨q.block, _, none⟩ rfl hl0 hc0' (.inl rfl) q' rfl
              | none =>
                have hm'' : m' = c' := rfl
                have hmc : m = cap := h4 rfl
                simp only [cutSpot, optB, Option.map_none] at hsp
                -- either from the front, or whole elements
                have hcase : sp = some z ∧ (l = 0 ∨ (z = sz ∧ hh ≤ m)) := by
                  cases hb : Nat.beq l 0 with
                  | true => simp [hb] at hsp; exact ⟨hsp.symm, .inl (Nat.eq_of_beq_eq_true hb)⟩
                  | false =>
                    simp [hb] at hsp
                    cases hb2 : Nat.beq z sz with
                    | false => simp [hb2] at hsp
                    | true =>
                      simp [hb2] at hsp
                      cases hb3 : Nat.ble hh m with
                      | false => simp [hb3] at hsp
                      | true => simp [hb3] at hsp; exact ⟨hsp.symm, .inr ⟨Nat.eq_of_beq_eq_true hb2, Nat.le_of_ble_eq_true hb3⟩⟩
                obtain ⟨rfl, hcase⟩ := hcase
                refine .slice ?_ (fun h => by cases h) (fun z' hz' => ?_)
                · rcases hq with hq | ⟨hl0, hc0', _⟩
                  · rcases hcase with rfl | ⟨rfl, hhm⟩
                    · -- from the front
                      left
                      have e2 : (bif Nat.beq m 0 then q.off else q.off + 0 * sz) = q.off := by simp
                      have e3 : (if m' = 0 then q' else q'.add (0 * sz)) = q' := by
                        split
                        · rfl
                        · rw [Nat.zero_mul, addr_add hpl]; obtain ⟨b, o, s⟩ := q'; simp at hpl; subst hpl; rfl
                      rw [e2, e3]
                      obtain ⟨i, hi, rfl⟩ := hq
                      exact ⟨i, hi, rfl⟩
                    · by_cases hml : m = l
                      · by_cases hml' : m' = l
                        · left
                          have := hq.cut m l z (some z)
                          rw [if_pos hml] at this
                          rw [if_pos hml']; exact this
                        · right
                          obtain ⟨i, hi, rfl⟩ := hq
                          refine ⟨by omega, by omega, i, hi, .inr ⟨?_, ?_⟩⟩
                          · rw [if_neg hml', addr_add rfl]
                          · rw [if_neg hml', addr_add rfl]
                      · left
                        have := hq.cut m l z (some z)
                        rw [if_neg hml] at this
                        rw [if_neg (by omega)]; exact this
                  · exact hweak ⟨q.block, _, some z⟩ rfl hl0 hc0' (.inr (by rw [hqs]; simp)) q' rfl
                · cases hz'
                  refine ⟨by omega, fun i hi => ?_⟩
                  have hb := hz2 i hi
                  rcases hcase with rfl | ⟨rfl, hhm⟩
                  · have e3 : (if m' = 0 then q' else q'.add (0 * sz)) = q' := by
                      split
                      · rfl
                      · rw [Nat.zero_mul, addr_add hpl]; obtain ⟨b, o, s⟩ := q'; simp at hpl; subst hpl; rfl
                    rw [e3, Nat.sub_zero, hm'']
                    exact hb
                  · by_cases hml' : m' = l
                    · rw [if_pos hml', hml']
                      simp
                      have : 0 ≤ c' * z := Nat.zero_le _
                      omega
                    · rw [if_neg hml', addr_add hpl]
                      show q'.off + l * z + (m' - l) * z ≤ i.n
                      rw [Nat.sub_mul]
                      have hlm : l * z ≤ m' * z := Nat.mul_le_mul_right z (by omega)
                      rw [hm''] at *
                      omega
      · cases h
    · simp [oNo] at hd; obtain ⟨_, rfl⟩ := hd; cases h
  · -- an array
    rename_i n e hu
    split at hd
    · rename_i sz hsz
      simp only [OSem.v.injEq] at hd
      obtain ⟨_, rfl⟩ := hd
      simp only [oSliceA] at h
      split at h
      · rename_i q hp
        rw [hp] at hx
        split at h
        · cases h
        rename_i m hm
        split at h
        · cases h
        rename_i hh hh'
        split at h
        · cases h
        rename_i l hl
        cases h
        obtain ⟨q', e1, hq, _⟩ := hx.ptr_inv
        obtain ⟨h1, h2, h3, h4, h5⟩ := run_bounds (P := P) (w := w) hlo hhi hmx hmh' (Nat.le_refl n) hm hh' hl false
        have hmm : (if mx.isSome then m else n) = m := by
          cases mx with
          | none => simp [h4 rfl]
          | some _ => rfl
        rw [hmm] at h1
        rw [e1]
        refine ⟨.slice (some (if m = l then q' else q'.add (l * sz))) (hh - l) (m - l), ?_, .slice (.inl (hq.cut m l sz none)) (fun _ => rfl) (fun z hz => by cases hz)⟩
        simp [Instr.sliceAt, run_und hu (by simp), Instr.sureAddr, h1, run_sz hsz]
      · cases h
    · simp [oNo] at hd; obtain ⟨_, rfl⟩ := hd; cases h
  · -- a string
    rename_i hu
    cases mx with
    | some _ => simp [optB, oNo] at hd; obtain ⟨_, rfl⟩ := hd; cases h
    | none =>
      simp only [optB, Option.map_none, OSem.v.injEq] at hd
      obtain ⟨_, rfl⟩ := hd
      simp only [oSliceStr] at h
      split at h
      · rename_i st hp
        rw [hp] at hx
        split at h
        · cases h
        rename_i hh hh'
        split at h
        · cases h
        rename_i l hl
        cases h
        rw [hx.string]
        obtain ⟨h1, h2, h3, h4, h5⟩ := run_bounds (P := P) (w := w) hlo hhi hmx hmh' (Nat.le_refl st.data.toList.length) rfl hh' hl false
        refine ⟨.string (st.extract l hh), ?_, ?_⟩
        · have h1' : (Instr.sliceBounds false st.size st.size (lo.map E) (hi.map E) none).run P w = _ := h1
          simp [Instr.sliceAt, Instr.slice, run_und hu (by simp), h1']
        · have : st.extract l hh = ⟨((st.data.toList.drop l).take (hh - l)).toArray⟩ := by
            apply ByteArray.ext
            rw [ByteArray.data_extract]
            apply Array.ext'
            simp [List.take_drop]
          rw [this]
          exact .same rfl
      · cases h
  · simp [oNo] at hd; obtain ⟨_, rfl⟩ := hd; cases h
end
end Vm

/-! Things built of parts; lengths; the least and the greatest. -/
set_option linter.unusedVariables false
namespace Vm
open Go
section
variable {P : Program} {w : World} {ρ : Ren} {a : Fr} {E : Operand → Value} {B : Nat} {g : G}

theorem putAt_zero (l vs : List Value) : putAt l 0 vs = vs ++ l.drop vs.length := by cases l <;> rfl
theorem putAt_length (vs : List Value) : ∀ (l : List Value) (n : Nat), n + vs.length ≤ l.length → (putAt l n vs).length = l.length
  | l, 0, h => by rw [putAt_zero]; simp; omega
  | [], n + 1, h => by simp at h
  | x :: l, n + 1, h => by
    have := putAt_length vs l n (by simp at h; omega)
    simp [putAt, this]
theorem putAt_get (vs : List Value) : ∀ (l : List Value) (n : Nat), n + vs.length ≤ l.length → ∀ i, (putAt l n vs)[i]? = if n ≤ i ∧ i < n + vs.length then vs[i - n]? else l[i]?
  | l, 0, h => fun i => by
    rw [putAt_zero, List.getElem?_append]
    by_cases hi : i < vs.length
    · rw [if_pos hi, if_pos ⟨Nat.zero_le _, by omega⟩, Nat.sub_zero]
    · rw [if_neg hi, if_neg (by omega), List.getElem?_drop]
      congr 1
      omega
  | [], n + 1, h => by simp at h
  | x :: l, n + 1, h => fun i => by
    cases i with
    | zero => rw [if_neg (by omega)]; rfl
    | succ i =>
      have := putAt_get vs l n (by simp at h; omega) i
      show (putAt l n vs)[i]? = _
      rw [this]
      by_cases hc : n ≤ i ∧ i < n + vs.length
      · rw [if_pos hc, if_pos (by omega)]
        congr 1
        omega
      · rw [if_neg hc, if_neg (by omega)]
        rfl
/-- the model's way to lay a part into cells -/
theorem lay_list (off : Nat) : ∀ (vs : List Value) (k : Nat) (cs : Array Value), off + k + vs.length ≤ cs.size →
    ((vs.zipIdx k).foldl (fun (cs : Array Value) (x : Value × Nat) => cs.setIfInBounds (off + x.2) x.1) cs).size = cs.size ∧
    ∀ i : Nat, ((vs.zipIdx k).foldl (fun (cs : Array Value) (x : Value × Nat) => cs.setIfInBounds (off + x.2) x.1) cs)[i]? = if off + k ≤ i ∧ i < off + k + vs.length then vs[i - (off + k)]? else cs[i]?
  | [], k, cs, h => ⟨rfl, fun i => by rw [if_neg (by simp)]; rfl⟩
  | v :: vs, k, cs, h => by
    have ih := lay_list off vs (k + 1) (cs.setIfInBounds (off + k) v) (by simp at h ⊢; omega)
    simp only [List.zipIdx_cons, List.foldl_cons]
    refine ⟨by rw [ih.1]; simp, fun i => ?_⟩
    rw [ih.2 i]
    simp only [List.length_cons] at h ⊢
    by_cases h1 : i = off + k
    · subst h1
      rw [if_neg (by omega), if_pos (by omega), Nat.sub_self]
      simp [show off + k < cs.size by omega]
    · rw [Array.getElem?_setIfInBounds_ne (Ne.symm h1)]
      by_cases h2 : off + (k + 1) ≤ i ∧ i < off + (k + 1) + vs.length
      · rw [if_pos h2, if_pos (by omega), show i - (off + k) = (i - (off + (k + 1))) + 1 by omega]
        rfl
      · rw [if_neg h2, if_neg (by omega)]
theorem fillL_cons (p : Nat × Nat × Sel) (ps : List (Nat × Nat × Sel)) (z : List Value) : fillL a (p :: ps) z = match cellsL (p.2.2.f a) with
      | some c => bif Nat.beq c.length p.2.1 then (bif Nat.ble (p.1 + p.2.1) z.length then fillL a ps (putAt z p.1 c) else none) else none
      | none => none := rfl
theorem sim_fill {place : Nat → Option (Nat × Nat)} : ∀ {ps : List (Nat × Operand)} {q : List (Nat × Nat × Sel)} {z l : List Value} {cs : Array Value}, partsL ps place = some q → fillL a q z = some l →
    (∀ p ∈ ps, VR ρ ((evB p.2).f a) (E p.2)) → VRs ρ z cs.toList → (∀ v ∈ cs.toList, v.oneCell' = true) →
    ∃ cs', Instr.fill place cs (ps.map fun p => (p.1, E p.2)) = some cs' ∧ VRs ρ l cs'.toList ∧ ∀ v ∈ cs'.toList, v.oneCell' = true := by
  intro ps
  induction ps with
  | nil => intro q z l cs h1 h2 _ h3 h4; cases h1; cases h2; exact ⟨cs, rfl, h3, h4⟩
  | cons p ps ih =>
    intro q z l cs h1 h2 hp h3 h4
    unfold partsL at h1
    split at h1
    · rename_i off n hpl
      split at h1
      · rename_i q' hq
        cases h1
        rw [fillL_cons] at h2
        simp only at h2
        split at h2
        · rename_i c hc
          cases hb : Nat.beq c.length n with
          | false => simp [hb] at h2
          | true =>
            cases hb' : Nat.ble (off + n) z.length with
            | false => simp [hb, hb'] at h2
            | true =>
              simp only [hb, hb', cond_true] at h2
              have hcn : c.length = n := Nat.eq_of_beq_eq_true hb
              have hoff : off + n ≤ z.length := Nat.le_of_ble_eq_true hb'
              obtain ⟨hv, h1'⟩ := (hp p (by simp)).cells hc
              have hlen := hv.length
              have hsz : (E p.2).cells.size = n := by have : (E p.2).cells.toList.length = n := by omega
                                                      simpa using this
              have hzs : z.length = cs.size := by have := h3.length; simpa using this
              have hlay := lay_list off (E p.2).cells.toList 0 cs (by simp; omega)
              have he : (E p.2).cells.zipIdx.foldl (fun (cs : Array Value) (x : Value × Nat) => cs.setIfInBounds (off + x.2) x.1) cs = ((E p.2).cells.toList.zipIdx 0).foldl (fun (cs : Array Value) (x : Value × Nat) => cs.setIfInBounds (off + x.2) x.1) cs := by
                rw [← Array.foldl_toList, Array.toList_zipIdx]
              generalize hcs2 : ((E p.2).cells.toList.zipIdx 0).foldl (fun (cs : Array Value) (x : Value × Nat) => cs.setIfInBounds (off + x.2) x.1) cs = cs2 at hlay he
              have hget : ∀ i : Nat, cs2.toList[i]? = if off ≤ i ∧ i < off + n then (E p.2).cells.toList[i - off]? else cs.toList[i]? := by
                intro i
                have := hlay.2 i
                simp only [Nat.add_zero, Array.length_toList, hsz] at this
                rw [Array.getElem?_toList, this]
                simp only [Array.getElem?_toList]
              have hput := putAt_get c z off (by omega)
              obtain ⟨cs', e', hr, h1''⟩ := ih (cs := cs2) hq h2 (fun p' hp' => hp p' (by simp [hp'])) (by
                  refine VRs.ofGet (by rw [putAt_length c z off (by omega)]; simpa [hlay.1] using h3.length) fun i v v' hvi hvi' => ?_
                  rw [hput] at hvi
                  rw [hget] at hvi'
                  rw [hcn] at hvi
                  by_cases hc' : off ≤ i ∧ i < off + n
                  · rw [if_pos hc'] at hvi hvi'
                    obtain ⟨u, hu, hr⟩ := hv.get _ _ hvi
                    rw [hvi'] at hu
                    cases hu
                    exact hr
                  · rw [if_neg hc'] at hvi hvi'
                    obtain ⟨u, hu, hr⟩ := h3.get _ _ hvi
                    rw [hvi'] at hu
                    cases hu
                    exact hr) (by
                  intro v hvm
                  obtain ⟨i, hi⟩ := List.getElem?_of_mem hvm
                  rw [hget] at hi
                  split at hi
                  · exact h1' v (List.mem_of_getElem? hi)
                  · exact h4 v (List.mem_of_getElem? hi))
              refine ⟨cs', ?_, hr, h1''⟩
              simp only [List.map_cons, Instr.fill, hpl]
              rw [if_neg (by simp [hsz]; omega)]
              have he' : ((E p.2).cells.zipIdx.foldl (fun cs (c, j) => cs.setIfInBounds (off + j) c) cs) = cs2 := he
              rw [he']
              exact e'
        · cases h2
      · cases h1
    · cases h1
theorem run_zCells {t : TypeId} {z : List Value} (h : zCells P t = some z) : ∃ v, (zeroValue t).run P w = .ok v w ∧ v.cells.toList = z ∧ VRs ρ z z ∧ (∀ v ∈ z, v.oneCell' = true) ∧ szO P t = some z.length := by
  unfold zCells at h
  split at h
  · rename_i v hv
    split at h
    · rename_i l hl
      split at h
      · rename_i n hn
        cases hb : Nat.beq l.length n with
        | false => simp [hb] at h
        | true =>
          simp [hb] at h
          subst h
          obtain ⟨h1, h2⟩ := run_zero (w := w) hv
          have hc := (VR.const (ρ := ρ) h2).cells hl
          have hvl : v.cells.toList = l := by
            cases v <;> simp [cellsL] at hl <;> subst hl <;> rfl
          rw [hvl] at hc
          exact ⟨v, h1, hvl, hc.1, hc.2, by rw [hn, Nat.eq_of_beq_eq_true hb]⟩
      · cases h
    · cases h
  · cases h
theorem run_placesM (w : World) : ∀ (fs : List Field), allSz P fs = true → ∃ l : List (Nat × Nat), (fs.mapM fun f => (Prod.mk f.offset <$> Go.sizeOf f.type : Go.Sem (Nat × Nat))).run P w = .ok l w ∧ ∀ i : Nat, l[i]? = fieldPl P fs i
  | [], _ => ⟨[], rfl, fun i => by simp [fieldPl]⟩
  | f :: fs, h => by
    simp [allSz] at h
    obtain ⟨h1, h2⟩ := h
    obtain ⟨n, hn⟩ := Option.isSome_iff_exists.1 h1
    obtain ⟨l, e, hl⟩ := run_placesM w fs (by simpa [allSz] using h2)
    refine ⟨(f.offset, n) :: l, by simp [List.mapM_cons, run_sz hn, e], fun i => ?_⟩
    cases i with
    | zero => simp [fieldPl, hn]
    | succ i => simpa [fieldPl] using hl i
theorem sim_build {t : TypeId} {ps : Array (Nat × Operand)} {rd : Bool} {s : VSem} (hd : denBuild P t ps = .v rd s) {v : Value} (h : s.f a g = some v) (hp : ∀ p ∈ ps.toList, VR ρ ((evB p.2).f a) (E p.2)) :
    ∃ v', (Instr.build t (ps.map fun (i, x) => (i, E x))).run P w = .ok v' w ∧ VR ρ v v' := by
  unfold denBuild at hd
  split at hd
  · rename_i z fs hz hu
    obtain ⟨zv, hz1, hz2, hz3, hz4, _⟩ := run_zCells (w := w) (ρ := ρ) hz
    cases ha : allSz P fs.toList with
    | false => simp [ha, oNo] at hd; obtain ⟨_, rfl⟩ := hd; cases h
    | true =>
      simp only [ha, cond_true] at hd
      split at hd
      · rename_i q hq
        simp only [OSem.v.injEq] at hd
        obtain ⟨_, rfl⟩ := hd
        simp only [oBuild] at h
        split at h
        · rename_i l hl
          cases h
          obtain ⟨pl, hpl, hpl'⟩ := run_placesM (P := P) w fs.toList ha
          have : (fun i => pl[i]?) = fieldPl P fs.toList := funext hpl'
          obtain ⟨cs', h1, h2, h3⟩ := sim_fill (E := E) (cs := zv.cells) hq hl hp (by rw [hz2]; exact hz3) (by rw [hz2]; exact hz4)
          refine ⟨.agg cs', ?_, .agg (by simpa using h2) h3⟩
          rw [← this] at h1
          simp [Instr.build, run_und hu (by simp), hz1, Array.mapM_eq_mapM_toList, hpl, h1]
        · cases h
      · simp [oNo] at hd; obtain ⟨_, rfl⟩ := hd; cases h
  · rename_i z n e hz hu
    obtain ⟨zv, hz1, hz2, hz3, hz4, _⟩ := run_zCells (w := w) (ρ := ρ) hz
    split at hd
    · rename_i sz hsz
      split at hd
      · rename_i q hq
        simp only [OSem.v.injEq] at hd
        obtain ⟨_, rfl⟩ := hd
        simp only [oBuild] at h
        split at h
        · rename_i l hl
          cases h
          obtain ⟨cs', h1, h2, h3⟩ := sim_fill (E := E) (cs := zv.cells) hq hl hp (by rw [hz2]; exact hz3) (by rw [hz2]; exact hz4)
          refine ⟨.agg cs', ?_, .agg (by simpa using h2) h3⟩
          simp [Instr.build, run_und hu (by simp), hz1, run_sz hsz, h1]
        · cases h
      · simp [oNo] at hd; obtain ⟨_, rfl⟩ := hd; cases h
    · simp [oNo] at hd; obtain ⟨_, rfl⟩ := hd; cases h
  · simp [oNo] at hd; obtain ⟨_, rfl⟩ := hd; cases h
theorem EntsR.length {l : List (Value × Value × Nat)} {l' : List MapEntry} (h : EntsR ρ l l') : l.length = l'.length := by
  induction h with
  | nil => rfl
  | cons _ _ ih => simp [ih]
/-- a map's entries -/
theorem HR.ents (H : HR ρ B g w) {b : Nat} {i : Inf} (hb : ρ b = some i) {es : List (Value × Value × Nat)} {c : Nat} (hg : g b = some (.map es c)) :
    B ≤ i.r ∧ i.c = false ∧ ∃ re, w.heap[i.r]? = some (.map re c) ∧ EntsR ρ es re.toList := by
  obtain ⟨x, hx, hr⟩ := H.blk b i hb
  rw [hg] at hx
  cases hx
  exact hr
theorem run_getObj {k : Nat} {es : Array MapEntry} {c : Nat} (h : w.heap[k]? = some (.map es c)) : (getObj k).run P w = .ok (.map es c) w := by simp only [getObj, Sem.run, h]
theorem run_getLoop {k : Nat} {l : Loop} (h : w.heap[k]? = some (.loop l)) : (getObj k).run P w = .ok (.loop l) w := by simp only [getObj, Sem.run, h]
theorem mapOf_some {x : Option Nat} {es : List (Value × Value × Nat)} (h : mapOf g x = some es) : (x = none ∧ es = []) ∨ ∃ r c, x = some r ∧ g r = some (.map es c) := by
  cases x with
  | none => simp [mapOf] at h; exact .inl ⟨rfl, h⟩
  | some r =>
    right
    simp only [mapOf] at h
    split at h
    · rename_i es' c hg; cases h; exact ⟨r, c, rfl, hg⟩
    · cases h
theorem sim_len {t ty : TypeId} {x : Operand} {rd : Bool} {s : VSem} (hd : denLen P t (evB x) = .v rd s) {v : Value} (h : s.f a g = some v) (H : HR ρ B g w) (hx : VR ρ ((evB x).f a) (E x)) :
    ∃ v', (Builtin.len_ #[t] ty #[E x]).run P w = .ok v' w ∧ VR ρ v v' := by
  unfold denLen at hd
  split at hd
  · rename_i n e hu
    simp only [OSem.v.injEq] at hd
    obtain ⟨_, rfl⟩ := hd
    cases h
    refine ⟨goInt n, ?_, .same rfl⟩
    simp [Builtin.len_, run_und hu (by simp)]
  · rename_i e hu
    split at hd
    · rename_i n e' hu'
      simp only [OSem.v.injEq] at hd
      obtain ⟨_, rfl⟩ := hd
      cases h
      refine ⟨goInt n, ?_, .same rfl⟩
      simp [Builtin.len_, run_und hu (by simp), run_und hu' (by simp)]
    · simp [oNo] at hd; obtain ⟨_, rfl⟩ := hd; cases h
  · rename_i e hu
    simp only [OSem.v.injEq] at hd
    obtain ⟨_, rfl⟩ := hd
    simp only [oLenS] at h
    split at h
    · rename_i p n c hp
      rw [hp] at hx
      cases h
      refine ⟨goInt n, ?_, .same rfl⟩
      cases p with
      | none => rw [hx.nilSlice]; simp [Builtin.len_, run_und hu (by simp)]
      | some p =>
        obtain ⟨p', c', e, _⟩ := hx.slice_inv
        rw [e]; simp [Builtin.len_, run_und hu (by simp)]
    · cases h
  · rename_i hu
    simp only [OSem.v.injEq] at hd
    obtain ⟨_, rfl⟩ := hd
    simp only [oLenStr] at h
    split at h
    · rename_i st hp
      rw [hp] at hx
      cases h
      rw [hx.string]
      refine ⟨goInt st.size, by simp [Builtin.len_, run_und hu (by simp)], .same rfl⟩
    · cases h
  · rename_i k e hu
    simp only [OSem.v.injEq] at hd
    obtain ⟨_, rfl⟩ := hd
    simp only [oLenM] at h
    split at h
    · rename_i r hp
      rw [hp] at hx
      split at h
      · rename_i es hes
        cases h
        rcases mapOf_some hes with ⟨rfl, rfl⟩ | ⟨r, c, rfl, hg⟩
        · rw [hx.nilMap]
          exact ⟨goInt 0, by simp [Builtin.len_, run_und hu (by simp)], .same rfl⟩
        · obtain ⟨i, hi, e⟩ := hx.map_inv
          rw [e]
          obtain ⟨_, _, re, h1, h2⟩ := H.ents hi hg
          refine ⟨goInt re.size, by simp [Builtin.len_, run_und hu (by simp), run_getObj h1], ?_⟩
          have := h2.length
          simp at this
          rw [← this]
          exact .same rfl
      · cases h
    · cases h
  · simp [oNo] at hd; obtain ⟨_, rfl⟩ := hd; cases h
theorem best_cons (less : Bool) (x : Value) (l : List Value) (v : Value) : best less (x :: l) v = match v with
    | .int k n => (match x with
      | .int _ m => best less l (.int k (Bool.rec n m (Bool.rec (ltI n m) (ltI m n) less)))
      | _ => none)
    | _ => none := rfl
theorem sim_best (less : Bool) : ∀ (l : List Value) (v u : Value), best less l v = some u → ∀ l' : List Value, VRs ρ l l' → ∀ v', VR ρ v v' →
    ∃ u', (l'.foldlM (if less then Builtin.min2 else Builtin.max2) v').run P w = .ok u' w ∧ VR ρ u u'
  | [], v, u, h, l', hl, v', hv => by cases hl; cases h; exact ⟨v', by simp, hv⟩
  | x :: l, v, u, h, l', hl, v', hv => by
    cases hl with
    | cons hx hl =>
      rw [best_cons] at h
      split at h
      · rename_i k n
        split at h
        · rename_i j m
          rw [hv.int, hx.int]
          obtain ⟨u', h1, h2⟩ := sim_best less l _ u h _ hl _ (.same rfl)
          refine ⟨u', ?_, h2⟩
          rw [List.foldlM_cons]
          cases less with
          | true =>
            have e : (Bool.rec n m (Bool.rec (ltI n m) (ltI m n) true : Bool) : Int) = if m < n then m else n := by
              show (Bool.rec n m (ltI m n) : Int) = _
              rw [ltI_eq]
              by_cases h : m < n <;> simp [h]
            rw [e] at h1
            simpa [Builtin.min2] using h1
          | false =>
            have e : (Bool.rec n m (Bool.rec (ltI n m) (ltI m n) false : Bool) : Int) = if n < m then m else n := by
              show (Bool.rec n m (ltI n m) : Int) = _
              rw [ltI_eq]
              by_cases h : n < m <;> simp [h]
            rw [e] at h1
            simpa [Builtin.max2] using h1
        · cases h
      · cases h
end
end Vm

/-! Equality. -/
set_option linter.unusedVariables false
namespace Vm
open Go
section
variable {P : Program} {w : World} {ρ : Ren} {a : Fr} {E : Operand → Value} {B : Nat} {g : G}

theorem eqB_cons (x : UInt8) (l k : List UInt8) : eqB (x :: l) k = match k with | [] => false | y :: k => bif Nat.beq x.toNat y.toNat then eqB l k else false := by cases k <;> rfl
theorem eqB_eq : ∀ (l k : List UInt8), eqB l k = (l == k)
  | [], [] => rfl
  | [], _ :: _ => rfl
  | x :: l, [] => rfl
  | x :: l, y :: k => by
    rw [eqB_cons]
    simp only
    rw [eqB_eq l k]
    cases h : Nat.beq x.toNat y.toNat with
    | true =>
      have : x = y := UInt8.toNat_inj.1 (Nat.eq_of_beq_eq_true h)
      subst this
      simp
    | false =>
      have : x ≠ y := fun e => by subst e; simp at h
      simp [this]
theorem bytes_eq (a b : ByteArray) : (a == b) = eqB a.data.toList b.data.toList := by
  obtain ⟨a⟩ := a
  obtain ⟨b⟩ := b
  show (a == b) = eqB a.toList b.toList
  rw [eqB_eq, Bool.eq_iff_iff, beq_iff_eq, beq_iff_eq]
  exact ⟨fun h => by rw [h], fun h => Array.toList_inj.mp h⟩
theorem eqA_eq {a b : Addr} : eqA a b = decide (a.block = b.block ∧ a.off = b.off) := by
  unfold eqA
  rw [Bool.eq_iff_iff, decide_eq_true_eq]
  by_cases h : a.block = b.block
  · by_cases h' : a.off = b.off
    · simp [h, h']
    · have : Nat.beq a.off b.off = false := by rw [← Bool.not_eq_true]; exact fun e => h' (Nat.eq_of_beq_eq_true e)
      simp [h, h', this]
  · have : Nat.beq a.block b.block = false := by rw [← Bool.not_eq_true]; exact fun e => h (Nat.eq_of_beq_eq_true e)
    simp [h, this]
/-- an address that may be compared -/
theorem HR.own (H : HR ρ B g w) {b : Nat} {i : Inf} (hb : ρ b = some i) (hc : i.c = true) : ∃ e cs, g b = some (.cells e cs (.own false)) ∧ ∃ rc fe, w.heap[i.r]? = some (.cells rc fe (0, 0)) := by
  obtain ⟨x, hx, hr⟩ := H.blk b i hb
  cases x with
  | cells e cs st =>
    cases st with
    | dead => simp [BlkR, hc] at hr
    | ro => simp [BlkR, hc] at hr
    | fix => simp [BlkR, hc] at hr
    | own o =>
      cases o with
      | true => simp [BlkR, hc] at hr
      | false =>
        obtain ⟨_, _, rc, fe, fz, h1, ⟨_, rfl⟩, _⟩ := hr
        exact ⟨e, cs, hx, rc, fe, h1⟩
  | map es c => simp [BlkR, hc] at hr
  | loop nt ps s b a st p => simp [BlkR, hc] at hr
  | iter m since seen last => simp [BlkR, hc] at hr
theorem sim_addr (H : HR ρ B g w) {p q p' q' : Addr} (hp : AddrR ρ p p') (hq : AddrR ρ q q') (hpc : ∀ i, ρ p.block = some i → i.c = true) (hqc : ∀ i, ρ q.block = some i → i.c = true) :
    (sameAddr p' q').run P w = .ok (eqA p q) w := by
  obtain ⟨i, hi, rfl⟩ := hp
  obtain ⟨j, hj, rfl⟩ := hq
  obtain ⟨e, cs, hg, rc, fe, hw⟩ := H.own hi (hpc i hi)
  obtain ⟨e', cs', hg', rc', fe', hw'⟩ := H.own hj (hqc j hj)
  rw [eqA_eq]
  by_cases h : p.block = q.block ∧ p.off = q.off
  · have : i = j := by rw [h.1, hj] at hi; cases hi; rfl
    subst this
    rw [h.2, run_sameAddr_same]
    simp [h]
  · rw [run_sameAddr_other (ca := rc) (cb := rc') (ta := fe) (tb := fe') w _ hw hw']
    · simp [h]
    · intro e
      simp only [Addr.mk.injEq] at e
      by_cases hb : p.block = q.block
      · have : i = j := by rw [hb, hj] at hi; cases hi; rfl
        subst this
        exact h ⟨hb, by omega⟩
      · exact H.apart p.block q.block i j _ _ hb hi hj hg hg' rfl rfl e.1
theorem kdOf_one {t : TypeId} {k : Nat} (h : kdOf P t = some k) : szO P t = some 1 ∧ ((und P t = .bool ∧ k = 0) ∨ (∃ ik, und P t = .int ik) ∧ k = 1 ∨ (und P t = .string ∧ k = 2) ∨
    (∃ e n, und P t = .pointer e ∧ szO P e = some n ∧ n ≠ 0) ∧ k = 3 ∨ (∃ e, und P t = .slice e) ∧ k = 4 ∨ (∃ e f, und P t = .map e f) ∧ k = 5 ∨ (∃ e f g, und P t = .func e f g) ∧ k = 6) := by
  unfold kdOf at h
  split at h
  · rename_i hs
    refine ⟨hs, ?_⟩
    split at h
    · rename_i hu; cases h; exact .inl ⟨hu, rfl⟩
    · rename_i ik hu; cases h; exact .inr (.inl ⟨⟨ik, hu⟩, rfl⟩)
    · rename_i hu; cases h; exact .inr (.inr (.inl ⟨hu, rfl⟩))
    · rename_i e hu
      split at h
      · rename_i n hn
        cases hb : Nat.beq n 0 with
        | true => simp [hb] at h
        | false =>
          simp [hb] at h
          subst h
          exact .inr (.inr (.inr (.inl ⟨⟨e, n, hu, hn, fun e => by subst e; simp at hb⟩, rfl⟩)))
      · cases h
    · rename_i e hu; cases h; exact .inr (.inr (.inr (.inr (.inl ⟨⟨e, hu⟩, rfl⟩))))
    · rename_i e f hu; cases h; exact .inr (.inr (.inr (.inr (.inr (.inl ⟨⟨e, f, hu⟩, rfl⟩)))))
    · rename_i e f g hu; cases h; exact .inr (.inr (.inr (.inr (.inr (.inr ⟨⟨e, f, g, hu⟩, rfl⟩)))))
    · cases h
  · cases h
theorem kdOf_int {t : TypeId} (h : kdOf P t = some 1) : ∃ ik, und P t = .int ik := by
  rcases (kdOf_one h).2 with ⟨_, h⟩ | ⟨h, _⟩ | ⟨_, h⟩ | ⟨_, h⟩ | ⟨_, h⟩ | ⟨_, h⟩ | ⟨_, h⟩ <;> first | exact h | omega
theorem kdOf_bool {t : TypeId} (h : kdOf P t = some 0) : und P t = .bool := by
  rcases (kdOf_one h).2 with ⟨h, _⟩ | ⟨_, h⟩ | ⟨_, h⟩ | ⟨_, h⟩ | ⟨_, h⟩ | ⟨_, h⟩ | ⟨_, h⟩ <;> first | exact h | omega
theorem kdOf_string {t : TypeId} (h : kdOf P t = some 2) : und P t = .string := by
  rcases (kdOf_one h).2 with ⟨_, h⟩ | ⟨_, h⟩ | ⟨h, _⟩ | ⟨_, h⟩ | ⟨_, h⟩ | ⟨_, h⟩ | ⟨_, h⟩ <;> first | exact h | omega
theorem kdOf_ptr {t : TypeId} (h : kdOf P t = some 3) : ∃ e n, und P t = .pointer e ∧ szO P e = some n ∧ n ≠ 0 := by
  rcases (kdOf_one h).2 with ⟨_, h⟩ | ⟨_, h⟩ | ⟨_, h⟩ | ⟨h, _⟩ | ⟨_, h⟩ | ⟨_, h⟩ | ⟨_, h⟩ <;> first | exact h | omega
theorem kdOf_slice {t : TypeId} (h : kdOf P t = some 4) : ∃ e, und P t = .slice e := by
  rcases (kdOf_one h).2 with ⟨_, h⟩ | ⟨_, h⟩ | ⟨_, h⟩ | ⟨_, h⟩ | ⟨h, _⟩ | ⟨_, h⟩ | ⟨_, h⟩ <;> first | exact h | omega
theorem kdOf_map {t : TypeId} (h : kdOf P t = some 5) : ∃ e f, und P t = .map e f := by
  rcases (kdOf_one h).2 with ⟨_, h⟩ | ⟨_, h⟩ | ⟨_, h⟩ | ⟨_, h⟩ | ⟨_, h⟩ | ⟨h, _⟩ | ⟨_, h⟩ <;> first | exact h | omega
theorem kdOf_func {t : TypeId} (h : kdOf P t = some 6) : ∃ e f g, und P t = .func e f g := by
  rcases (kdOf_one h).2 with ⟨_, h⟩ | ⟨_, h⟩ | ⟨_, h⟩ | ⟨_, h⟩ | ⟨_, h⟩ | ⟨_, h⟩ | ⟨h, _⟩ <;> first | exact h | omega
theorem beq_k {n m : Nat} {α : Type} {x : Option α} {b : α} (h : (bif Nat.beq n m then x else none) = some b) : n = m ∧ x = some b := by
  cases hb : Nat.beq n m with
  | true => simp [hb] at h; exact ⟨Nat.eq_of_beq_eq_true hb, h⟩
  | false => simp [hb] at h
/-- equality of values of one cell, at whatever depth -/
theorem sim_eqP {t : TypeId} {k : Nat} (hk : kdOf P t = some k) {x y x' y' : Value} {b : Bool} (h : eqP k x y = some b) (H : HR ρ B g w) (hx : VR ρ x x') (hy : VR ρ y y') (d : Nat) :
    (Op.equalIn (d + 1) t x' y').run P w = .ok b w := by
  unfold eqP at h
  split at h
  · rename_i i n j m
    obtain ⟨rfl, h⟩ := beq_k h
    obtain ⟨ik, hu⟩ := kdOf_int hk
    cases hkk : Nat.beq (kc i) (kc j) with
    | false => simp [hkk] at h
    | true =>
      have h2 : eqI n m = b := by simpa [hkk] using h
      have := kc_inj hkk
      clear h
      subst this h2
      rw [hx.int, hy.int]
      simp [Op.equalIn, run_und hu (by simp), eqI_eq]
  · obtain ⟨rfl, h⟩ := beq_k h
    cases h
    rename_i p q
    rw [hx.bool, hy.bool]
    simp [Op.equalIn, run_und (kdOf_bool hk) (by simp)]
    cases p <;> cases q <;> rfl
  · obtain ⟨rfl, h⟩ := beq_k h
    cases h
    rw [hx.string, hy.string]
    simp [Op.equalIn, run_und (kdOf_string hk) (by simp), ← bytes_eq]
  · obtain ⟨rfl, h⟩ := beq_k h
    cases h
    obtain ⟨e, n, hu, hn, hn0⟩ := kdOf_ptr hk
    rw [hx.nilPtr, hy.nilPtr]
    simp [Op.equalIn, run_und hu (by simp)]
  · obtain ⟨rfl, h⟩ := beq_k h
    cases h
    obtain ⟨e, n, hu, hn, hn0⟩ := kdOf_ptr hk
    obtain ⟨q', e', _⟩ := hy.ptr_inv
    rw [hx.nilPtr, e']
    simp [Op.equalIn, run_und hu (by simp)]
  · obtain ⟨rfl, h⟩ := beq_k h
    cases h
    obtain ⟨e, n, hu, hn, hn0⟩ := kdOf_ptr hk
    obtain ⟨q', e', _⟩ := hx.ptr_inv
    rw [hy.nilPtr, e']
    simp [Op.equalIn, run_und hu (by simp)]
  · rename_i p q
    obtain ⟨rfl, h⟩ := beq_k h
    obtain ⟨e, n, hu, hn, hn0⟩ := kdOf_ptr hk
    obtain ⟨p', e1, hp, hpc⟩ := hx.ptr_inv
    obtain ⟨q', e2, hq, hqc⟩ := hy.ptr_inv
    split at h
    · rename_i hps
      split at h
      · rename_i hqs
        cases h
        rw [e1, e2]
        simp [Op.equalIn, run_und hu (by simp), run_sz hn, hn0, sim_addr H hp hq (hpc hps) (hqc hqs)]
      · cases h
    · cases h
  · obtain ⟨rfl, h⟩ := beq_k h
    cases h
    obtain ⟨e, hu⟩ := kdOf_slice hk
    rw [hx.nilSlice, hy.nilSlice]
    simp [Op.equalIn, run_und hu (by simp)]
  · obtain ⟨rfl, h⟩ := beq_k h
    cases h
    obtain ⟨e, hu⟩ := kdOf_slice hk
    obtain ⟨q', c', e', _⟩ := hy.slice_inv
    rw [hx.nilSlice, e']
    simp [Op.equalIn, run_und hu (by simp)]
  · obtain ⟨rfl, h⟩ := beq_k h
    cases h
    obtain ⟨e, hu⟩ := kdOf_slice hk
    obtain ⟨q', c', e', _⟩ := hx.slice_inv
    rw [hy.nilSlice, e']
    simp [Op.equalIn, run_und hu (by simp)]
  · obtain ⟨rfl, h⟩ := beq_k h
    cases h
    obtain ⟨e, f, hu⟩ := kdOf_map hk
    rw [hx.nilMap, hy.nilMap]
    simp [Op.equalIn, run_und hu (by simp)]
  · obtain ⟨rfl, h⟩ := beq_k h
    cases h
    obtain ⟨e, f, hu⟩ := kdOf_map hk
    obtain ⟨i, _, e'⟩ := hy.map_inv
    rw [hx.nilMap, e']
    simp [Op.equalIn, run_und hu (by simp)]
  · obtain ⟨rfl, h⟩ := beq_k h
    cases h
    obtain ⟨e, f, hu⟩ := kdOf_map hk
    obtain ⟨i, _, e'⟩ := hx.map_inv
    rw [hy.nilMap, e']
    simp [Op.equalIn, run_und hu (by simp)]
  · obtain ⟨rfl, h⟩ := beq_k h
    cases h
    obtain ⟨e, f, g', hu⟩ := kdOf_func hk
    have e1 : x' = .nilFunc := by cases hx; rfl
    have e2 : y' = .nilFunc := by cases hy; rfl
    rw [e1, e2]
    simp [Op.equalIn, run_und hu (by simp)]
  · obtain ⟨rfl, h⟩ := beq_k h
    cases h
    obtain ⟨e, f, g', hu⟩ := kdOf_func hk
    have e1 : x' = .nilFunc := by cases hx; rfl
    have e2 : ∃ p q r, y' = .func p q r := by cases hy <;> first | exact ⟨_, _, _, rfl⟩ | (rename_i h; cases h)
    obtain ⟨p, q, r, e2⟩ := e2
    rw [e1, e2]
    simp [Op.equalIn, run_und hu (by simp)]
  · obtain ⟨rfl, h⟩ := beq_k h
    cases h
    obtain ⟨e, f, g', hu⟩ := kdOf_func hk
    have e1 : y' = .nilFunc := by cases hy; rfl
    have e2 : ∃ p q r, x' = .func p q r := by cases hx <;> first | exact ⟨_, _, _, rfl⟩ | (rename_i h; cases h)
    obtain ⟨p, q, r, e2⟩ := e2
    rw [e1, e2]
    simp [Op.equalIn, run_und hu (by simp)]
  · cases h
end
end Vm

/-! Equality: of aggregates; the operators; keys of maps. -/
set_option linter.unusedVariables false
namespace Vm
open Go
section
variable {P : Program} {w : World} {ρ : Ren} {a : Fr} {E : Operand → Value} {B : Nat} {g : G}

theorem kdOf_agg {t : TypeId} {k : Nat} (h : kdOf P t = some k) : aggO P t = some (false, 1) := by
  obtain ⟨hs, h⟩ := kdOf_one h
  unfold aggO
  rw [hs]
  rcases h with ⟨h, _⟩ | ⟨⟨_, h⟩, _⟩ | ⟨h, _⟩ | ⟨⟨_, _, h, _⟩, _⟩ | ⟨⟨_, h⟩, _⟩ | ⟨⟨_, _, h⟩, _⟩ | ⟨⟨_, _, _, h⟩, _⟩ <;> rw [h]
theorem run_partK {t : TypeId} {k : Nat} (h : kdOf P t = some k) {cs : Array Value} {off : Nat} {v : Value} (hv : cs[off]? = some v) : (part t cs off).run P w = .ok v w :=
  run_part1 (kdOf_agg h) (by simpa using hv)
theorem eqL_nil {l r : List Value} {b : Bool} (h : eqL [] l r = some b) : l = [] ∧ r = [] ∧ b = true := by
  cases l <;> cases r <;> first | (cases h; exact ⟨rfl, rfl, rfl⟩) | cases h
theorem eqL_cons {k : Nat} {ks : List Nat} {l r : List Value} {b : Bool} (h : eqL (k :: ks) l r = some b) : ∃ x l1 y r1, l = x :: l1 ∧ r = y :: r1 ∧ ∃ c, eqP k x y = some c ∧ (c = false ∧ b = false ∨ c = true ∧ eqL ks l1 r1 = some b) := by
  cases l with
  | nil => cases h
  | cons x l =>
    cases r with
    | nil => cases h
    | cons y r =>
      refine ⟨x, l, y, r, rfl, rfl, ?_⟩
      have h' : (match eqP k x y with | some true => eqL ks l r | some false => some false | none => none) = some b := h
      split at h'
      · rename_i hc; exact ⟨true, hc, .inr ⟨rfl, h'⟩⟩
      · rename_i hc; cases h'; exact ⟨false, hc, .inl ⟨rfl, rfl⟩⟩
      · cases h'
theorem sim_eqFields (H : HR ρ B g w) (d : Nat) {xs ys : Array Value} : ∀ (fs : List Field) (ks : List Nat) (n : Nat) (l r l' r' : List Value) (b : Bool), kdFields P fs n = some ks → eqL ks l r = some b → VRs ρ l l' → VRs ρ r r' →
    (∀ (j : Nat) v, l'[j]? = some v → xs[n + j]? = some v) → (∀ (j : Nat) v, r'[j]? = some v → ys[n + j]? = some v) → (Op.eqFields (d + 1) xs ys fs).run P w = .ok b w
  | [], ks, n, l, r, l', r', b, hk, he, _, _, _, _ => by
    cases hk
    obtain ⟨_, _, rfl⟩ := eqL_nil he
    rfl
  | f :: fs, ks, n, l, r, l', r', b, hk, he, hl, hr, hx, hy => by
    unfold kdFields at hk
    cases hb : (Nat.beq f.offset n && f.name != "_") with
    | false => simp [hb] at hk
    | true =>
      simp only [hb, cond_true] at hk
      simp only [Bool.and_eq_true] at hb
      have hoff : f.offset = n := Nat.eq_of_beq_eq_true hb.1
      split at hk
      · rename_i k hkk
        split at hk
        · rename_i ks' hks
          cases hk
          obtain ⟨x, l1, y, r1, rfl, rfl, c, hc, hrest⟩ := eqL_cons he
          cases hl with
          | cons hx0 hl =>
            cases hr with
            | cons hy0 hr =>
              have e1 := run_partK (w := w) hkk (hx 0 _ rfl)
              have e2 := run_partK (w := w) hkk (hy 0 _ rfl)
              have e3 := sim_eqP hkk hc H hx0 hy0 d
              rw [Nat.add_zero, ← hoff] at e1 e2
              have hname : f.name ≠ "_" := by simpa using hb.2
              rw [Op.eqFields, if_pos hname]
              simp only [Sem.run_bind, e1, Result.andThen_ok, e2, e3]
              rcases hrest with ⟨rfl, rfl⟩ | ⟨rfl, hrest⟩
              · simp
              · simp only [Bool.not_true, Bool.false_eq_true, if_false]
                exact sim_eqFields H d fs ks' (n + 1) l1 r1 _ _ b hks hrest hl hr
                  (fun j v hv => by rw [show n + 1 + j = n + (j + 1) by omega]; exact hx (j + 1) v hv)
                  (fun j v hv => by rw [show n + 1 + j = n + (j + 1) by omega]; exact hy (j + 1) v hv)
        · cases hk
      · cases hk
theorem sim_eqItems (H : HR ρ B g w) (d : Nat) {e : TypeId} {k : Nat} (hk : kdOf P e = some k) (hce : P.cellsOf e = 1) {xs ys : Array Value} : ∀ (m n : Nat) (l r l' r' : List Value) (b : Bool), eqL (List.replicate m k) l r = some b → VRs ρ l l' → VRs ρ r r' →
    (∀ (j : Nat) v, l'[j]? = some v → xs[n + j]? = some v) → (∀ (j : Nat) v, r'[j]? = some v → ys[n + j]? = some v) → (Op.eqItems (d + 1) e (P.cellsOf e) xs ys (List.range' n m)).run P w = .ok b w
  | 0, n, l, r, l', r', b, he, _, _, _, _ => by
    obtain ⟨_, _, rfl⟩ := eqL_nil he
    rfl
  | m + 1, n, l, r, l', r', b, he, hl, hr, hx, hy => by
    rw [List.replicate_succ] at he
    obtain ⟨x, l1, y, r1, rfl, rfl, c, hc, hrest⟩ := eqL_cons he
    cases hl with
    | cons hx0 hl =>
      cases hr with
      | cons hy0 hr =>
        have e1 := run_partK (w := w) hk (hx 0 _ rfl)
        have e2 := run_partK (w := w) hk (hy 0 _ rfl)
        have e3 := sim_eqP hk hc H hx0 hy0 d
        rw [Nat.add_zero] at e1 e2
        rw [List.range'_succ, Op.eqItems, hce, Nat.mul_one]
        simp only [Sem.run_bind, e1, Result.andThen_ok, e2, e3]
        rcases hrest with ⟨rfl, rfl⟩ | ⟨rfl, hrest⟩
        · simp
        · simp only [Bool.not_true, Bool.false_eq_true, if_false]
          have := sim_eqItems H d hk hce (xs := xs) (ys := ys) m (n + 1) l1 r1 _ _ b hrest hl hr
            (fun j v hv => by rw [show n + 1 + j = n + (j + 1) by omega]; exact hx (j + 1) v hv)
            (fun j v hv => by rw [show n + 1 + j = n + (j + 1) by omega]; exact hy (j + 1) v hv)
          rw [hce] at this
          exact this
theorem cellsOf_sz {e : TypeId} {n : Nat} (h : szO P e = some n) : P.cellsOf e = n ∧ ∃ i, P.info? e = some i := by
  unfold szO at h
  cases hi : P.info? e with
  | none => rw [hi] at h; cases h
  | some i => rw [hi] at h; simp at h; exact ⟨by simp [Program.cellsOf, hi, h], i, rfl⟩
theorem ktOf_cases {t : TypeId} {K : KT} (h : ktOf P t = some K) :
    (∃ k, K = .one k ∧ kdOf P t = some k) ∨
    (∃ fs ks, K = .agg ks ∧ und P t = .struct fs ∧ P.stoodInHeld t = false ∧ P.eqGuardType P.depth t = false ∧ kdFields P fs.toList 0 = some ks) ∨
    ∃ len e k, K = .agg (List.replicate len k) ∧ und P t = .array len e ∧ P.eqGuardType P.depth t = false ∧ kdOf P e = some k := by
  unfold ktOf at h
  split at h
  · rename_i fs hu
    right; left
    cases hb : (!P.stoodInHeld t && !P.eqGuardType P.depth t) with
    | false => simp [hb] at h
    | true =>
      simp only [hb, cond_true] at h
      simp only [Bool.and_eq_true, Bool.not_eq_true'] at hb
      split at h
      · rename_i ks hks
        split at h
        · rename_i n hn
          cases hbn : Nat.beq ks.length n with
          | false => simp [hbn] at h
          | true => simp [hbn] at h; subst h; exact ⟨fs, ks, rfl, hu, hb.1, hb.2, hks⟩
        · cases h
      · cases h
  · rename_i len e hu
    right; right
    cases hb : (!P.eqGuardType P.depth t) with
    | false => simp [hb] at h
    | true =>
      simp only [hb, cond_true] at h
      split at h
      · rename_i k hk
        split at h
        · rename_i n hn
          cases hbn : Nat.beq n len with
          | false => simp [hbn] at h
          | true => simp [hbn] at h; subst h; exact ⟨len, e, k, rfl, hu, by simpa using hb, hk⟩
        · cases h
      · cases h
  · left
    split at h
    · rename_i k hk; cases h; exact ⟨k, rfl, hk⟩
    · cases h
/-- equality, at a depth of two at least -/
theorem sim_eqV {t : TypeId} {K : KT} (hK : ktOf P t = some K) {x y x' y' : Value} {b : Bool} (h : eqV K x y = some b) (H : HR ρ B g w) (hx : VR ρ x x') (hy : VR ρ y y') (d : Nat) :
    (Op.equalIn (d + 2) t x' y').run P w = .ok b w := by
  rcases ktOf_cases hK with ⟨k, rfl, hk⟩ | ⟨fs, ks, rfl, hu, hs, hg, hf⟩ | ⟨len, e, k, rfl, hu, hg, hk⟩
  · have h' : eqP k x y = some b := by
      unfold eqV at h
      split at h
      · cases h
      · exact h
    exact sim_eqP hk h' H hx hy (d + 1)
  · have h' : ∃ X Y, x = .agg X ∧ y = .agg Y ∧ eqL ks X.toList Y.toList = some b := by
      unfold eqV at h
      split at h
      · exact ⟨_, _, rfl, rfl, h⟩
      · cases h
    obtain ⟨X, Y, rfl, rfl, h'⟩ := h'
    obtain ⟨X', rfl, hX, _⟩ := hx.agg_inv
    obtain ⟨Y', rfl, hY, _⟩ := hy.agg_inv
    have hu' := und_some hu (by simp)
    have hfo : P.fieldsOf t = fs := by simp [Program.fieldsOf, hu']
    rw [run_equalIn_struct w (d + 1) t X' Y' (by rw [hfo]; exact hu') hs, hfo]
    exact sim_eqFields H d fs.toList ks 0 _ _ _ _ b hf h' hX hY (fun j v hv => by simpa using hv) (fun j v hv => by simpa using hv)
  · have h' : ∃ X Y, x = .agg X ∧ y = .agg Y ∧ eqL (List.replicate len k) X.toList Y.toList = some b := by
      unfold eqV at h
      split at h
      · exact ⟨_, _, rfl, rfl, h⟩
      · cases h
    obtain ⟨X, Y, rfl, rfl, h'⟩ := h'
    obtain ⟨X', rfl, hX, _⟩ := hx.agg_inv
    obtain ⟨Y', rfl, hY, _⟩ := hy.agg_inv
    have hu' := und_some hu (by simp)
    obtain ⟨hce, i, hi⟩ := cellsOf_sz (kdOf_one hk).1
    rw [run_equalIn_array w (d + 1) X' Y' hu' hi, List.range_eq_range']
    exact sim_eqItems H d hk hce len 0 _ _ _ _ b h' hX hY (fun j v hv => by simpa using hv) (fun j v hv => by simpa using hv)
/-- not a number nor a text -/
def plainish : Value → Bool
  | .bool _ => true
  | .pointer _ => true
  | .slice _ _ _ => true
  | .map _ => true
  | .nilFunc => true
  | .func _ _ _ => true
  | .agg _ => true
  | _ => false
theorem eqP_cases {k : Nat} {x y : Value} {b : Bool} (h : eqP k x y = some b) : (plainish x = true ∧ ∀ z, x ≠ .agg z) ∨ (∃ i n m, x = .int i n ∧ y = .int i m ∧ b = eqI n m) ∨ ∃ p q, x = .string p ∧ y = .string q ∧ b = eqB p.data.toList q.data.toList := by
  unfold eqP at h
  split at h
  case h_1 i n j m =>
    obtain ⟨_, h⟩ := beq_k h
    cases hkk : Nat.beq (kc i) (kc j) with
    | false => simp [hkk] at h
    | true =>
      have := kc_inj hkk
      subst this
      right; left
      exact ⟨i, n, m, rfl, rfl, by simpa using h.symm⟩
  case h_3 p q =>
    obtain ⟨_, h⟩ := beq_k h
    cases h
    exact .inr (.inr ⟨p, q, rfl, rfl, rfl⟩)
  all_goals first | exact .inl ⟨rfl, fun z e => by cases e⟩ | (cases h; done)
theorem plainish_to {x x' : Value} (h : VR ρ x x') (hp : plainish x = true) : plainish x' = true := by
  cases h <;> first | rfl | exact hp | cases hp
theorem binOp_eql {t : TypeId} {x y : Value} (h : plainish x = true) : Go.binOp .eql t x y = (do pure (.bool (← Op.equal t x y)) : Go.Sem Value) := by
  cases x <;> first | (cases h; done) | (cases y <;> rfl)
theorem binOp_neq {t : TypeId} {x y : Value} (h : plainish x = true) : Go.binOp .neq t x y = (do pure (.bool (!(← Op.equal t x y))) : Go.Sem Value) := by
  cases x <;> first | (cases h; done) | (cases y <;> rfl)
theorem eqV_cases {K : KT} {x y : Value} {b : Bool} (h : eqV K x y = some b) : plainish x = true ∨ (∃ i n m, x = .int i n ∧ y = .int i m ∧ b = eqI n m) ∨ ∃ p q, x = .string p ∧ y = .string q ∧ b = eqB p.data.toList q.data.toList := by
  unfold eqV at h
  split at h
  · exact .inl rfl
  · split at h
    · rcases eqP_cases h with ⟨h, _⟩ | h | h
      · exact .inl h
      · exact .inr (.inl h)
      · exact .inr (.inr h)
    · cases h
/-- the guard ahead of an equality -/
theorem run_guard {op : BinOp} {t : TypeId} {K : KT} (hK : ktOf P t = some K) {x y : Operand} {u v u' v' : Value} {b : Bool} (h : eqV K u v = some b) (hu : VR ρ u u') (hv : VR ρ v v') :
    (eqGuard op t x y u' v').run P w = .ok () w := by
  have hn : u' ≠ .nilIface ∧ (∀ z, u' = .agg z → P.eqGuardType P.depth t = false) := by
    rcases eqV_cases h with h1 | ⟨i, n, m, rfl, _, _⟩ | ⟨p, q, rfl, _, _⟩
    · have h2 := plainish_to hu h1
      refine ⟨fun e => (by subst e; cases h2), fun z e => ?_⟩
      subst e
      have : ∃ z', u = .agg z' := by cases hu with
        | same h => simp [Vm.lit] at h
        | agg h _ => exact ⟨_, rfl⟩
      obtain ⟨z', rfl⟩ := this
      rcases ktOf_cases hK with ⟨k, rfl, _⟩ | ⟨fs, ks, rfl, _, _, hg, _⟩ | ⟨len, e, k, rfl, _, hg, _⟩
      · unfold eqV at h
        split at h
        · cases h
        · rcases eqP_cases h with ⟨_, h⟩ | ⟨_, _, _, h, _⟩ | ⟨_, _, h, _⟩
          · exact absurd rfl (h z')
          · cases h
          · cases h
      · exact hg
      · exact hg
    · rw [hu.int]
      exact ⟨fun e => (by cases e), fun z e => (by cases e)⟩
    · rw [hu.string]
      exact ⟨fun e => (by cases e), fun z e => (by cases e)⟩
  unfold eqGuard
  cases u' with
  | nilIface => exact absurd rfl hn.1
  | agg z => cases v' <;> cases op <;> simp [hn.2 z rfl]
  | _ => cases op <;> simp
theorem sim_eq {op : BinOp} {t : TypeId} {x y : Operand} {rd : Bool} {s : VSem} {v : Value} (hd : denBin P op t (evB x) (evB y) = .v rd s) (ho : isEq op = true)
    (h : s.f a g = some v) (H : HR ρ B g w) (hx : VR ρ ((evB x).f a) (E x)) (hy : VR ρ ((evB y).f a) (E y)) :
    ∃ v', (do eqGuard op t x y (E x) (E y); Go.binOp op t (E x) (E y) : Go.Sem Value).run P w = .ok v' w ∧ VR ρ v v' := by
  have key : ∀ K b, ktOf P t = some K → eqV K ((evB x).f a) ((evB y).f a) = some b →
      (Go.binOp .eql t (E x) (E y)).run P w = .ok (.bool b) w ∧ (Go.binOp .neq t (E x) (E y)).run P w = .ok (.bool !b) w := by
    intro K b hK hb
    have he := sim_eqV hK hb H hx hy 9998
    rcases eqV_cases hb with h1 | ⟨i, n, m, e1, e2, rfl⟩ | ⟨p, q, e1, e2, rfl⟩
    · have h2 := plainish_to hx h1
      rw [binOp_eql h2, binOp_neq h2]
      simp [Op.equal, Op.maxDepth, he]
    · rw [e1] at hx
      rw [e2] at hy
      rw [hx.int, hy.int]
      simp [Go.binOp, Op.intCmp, eqI_eq]
      rfl
    · rw [e1] at hx
      rw [e2] at hy
      rw [hx.string, hy.string, eqB_eq, ← ByteArray.toList_eq, ← ByteArray.toList_eq]
      simp [Go.binOp, Op.stringOp]
  cases op <;> simp only [isEq, Bool.false_eq_true] at ho
  · simp only [denBin] at hd
    split at hd
    · rename_i K hK
      simp only [OSem.v.injEq] at hd
      obtain ⟨_, rfl⟩ := hd
      simp only [oEq] at h
      split at h
      · rename_i b hb
        cases h
        refine ⟨.bool b, ?_, .same rfl⟩
        simp only [Sem.run_bind, run_guard hK hb hx hy, Result.andThen_ok]
        exact (key K b hK hb).1
      · cases h
    · simp [oNo] at hd; obtain ⟨_, rfl⟩ := hd; cases h
  · simp only [denBin] at hd
    split at hd
    · rename_i K hK
      simp only [OSem.v.injEq] at hd
      obtain ⟨_, rfl⟩ := hd
      simp only [oNe] at h
      split at h
      · rename_i b hb
        cases h
        refine ⟨.bool !b, ?_, .same rfl⟩
        simp only [Sem.run_bind, run_guard hK hb hx hy, Result.andThen_ok]
        exact (key K b hK hb).2
      · cases h
    · simp [oNo] at hd; obtain ⟨_, rfl⟩ := hd; cases h
/-! keys -/
theorem check_fields (e : Bool) (n : Nat) {cs : Array Value} : ∀ (fs : List Field) (ks : List Nat) (m : Nat), kdFields P fs m = some ks → (∀ j, j < ks.length → ∃ v, cs[m + j]? = some v) →
    (forIn fs PUnit.unit fun f r => (do
      if f.name ≠ "_" then do
        Instr.checkKey e (n + 1) f.type (← part f.type cs f.offset)
        pure (ForInStep.yield PUnit.unit)
      else pure (ForInStep.yield PUnit.unit) : Go.Sem (ForInStep PUnit))).run P w = .ok PUnit.unit w
  | [], ks, m, _, _ => rfl
  | f :: fs, ks, m, hk, hc => by
    unfold kdFields at hk
    cases hb : (Nat.beq f.offset m && f.name != "_") with
    | false => simp [hb] at hk
    | true =>
      simp only [hb, cond_true] at hk
      simp only [Bool.and_eq_true] at hb
      have hoff : f.offset = m := Nat.eq_of_beq_eq_true hb.1
      have hname : f.name ≠ "_" := by simpa using hb.2
      split at hk
      · rename_i k hkk
        split at hk
        · rename_i ks' hks
          cases hk
          obtain ⟨v, hv⟩ := hc 0 (by simp)
          rw [Nat.add_zero, ← hoff] at hv
          have ih := check_fields e n (cs := cs) fs ks' (m + 1) hks (fun j hj => by rw [show m + 1 + j = m + (j + 1) by omega]; exact hc (j + 1) (by simp; omega))
          rw [List.forIn_cons]
          simp only [if_pos hname, Sem.run_bind, run_partK (w := w) hkk hv, Result.andThen_ok, checkK hkk, Sem.run_pure]
          exact ih
        · cases hk
      · cases hk
  where
  checkK {P : Program} {w : World} {e : Bool} {n : Nat} {t : TypeId} {k : Nat} (h : kdOf P t = some k) {v : Value} : (Instr.checkKey e (n + 1) t v).run P w = .ok () w := by
    unfold Instr.checkKey
    rcases (kdOf_one h).2 with ⟨h, _⟩ | ⟨⟨_, h⟩, _⟩ | ⟨h, _⟩ | ⟨⟨_, _, h, _⟩, _⟩ | ⟨⟨_, h⟩, _⟩ | ⟨⟨_, _, h⟩, _⟩ | ⟨⟨_, _, _, h⟩, _⟩ <;>
    simp only [Sem.run_bind, run_und h (by simp), Result.andThen_ok] <;> cases v <;> rfl
end
end Vm

/-! Maps: finding a key. -/
set_option linter.unusedVariables false
namespace Vm
open Go
section
variable {P : Program} {w : World} {ρ : Ren} {a : Fr} {E : Operand → Value} {B : Nat} {g : G}

abbrev Ent := Value × Value × Nat
/-- at what place a key lies -/
inductive Found (K : KT) (k : Value) : List Ent → Nat → Value → Nat → Prop
  | here {a v : Value} {s : Nat} {l : List Ent} (h : eqV K k a = some true) : Found K k ((a, v, s) :: l) 0 v s
  | there {a u v : Value} {t s i : Nat} {l : List Ent} (h : eqV K k a = some false) (h' : Found K k l i v s) : Found K k ((a, u, t) :: l) (i + 1) v s
inductive Lacks (K : KT) (k : Value) : List Ent → Prop
  | nil : Lacks K k []
  | cons {a u : Value} {t : Nat} {l : List Ent} (h : eqV K k a = some false) (h' : Lacks K k l) : Lacks K k ((a, u, t) :: l)
theorem mFind_cons (K : KT) (k a v : Value) (s : Nat) (l : List Ent) : mFind K k ((a, v, s) :: l) = match eqV K k a with | some true => some (some (v, s)) | some false => mFind K k l | none => none := rfl
theorem mFind_some {K : KT} {k : Value} : ∀ {l : List Ent} {v : Value} {s : Nat}, mFind K k l = some (some (v, s)) → ∃ i, Found K k l i v s
  | [], v, s, h => by cases h
  | (a, u, t) :: l, v, s, h => by
    rw [mFind_cons] at h
    split at h
    · rename_i he; cases h; exact ⟨0, .here he⟩
    · rename_i he; obtain ⟨i, hi⟩ := mFind_some h; exact ⟨i + 1, .there he hi⟩
    · cases h
theorem mFind_none {K : KT} {k : Value} : ∀ {l : List Ent}, mFind K k l = some none → Lacks K k l
  | [], h => .nil
  | (a, u, t) :: l, h => by
    rw [mFind_cons] at h
    split at h
    · cases h
    · rename_i he; exact .cons he (mFind_none h)
    · cases h
theorem mPut_cons (K : KT) (k v : Value) (c : Nat) (a u : Value) (s : Nat) (r : List Ent) : mPut K k v c ((a, u, s) :: r) = match eqV K k a with
    | some true => some ((k, v, s) :: r, c)
    | some false => (match mPut K k v c r with | some (r, c) => some ((a, u, s) :: r, c) | none => none)
    | none => none := rfl
theorem mPut_some {K : KT} {k v : Value} {c : Nat} : ∀ {l l' : List Ent} {c' : Nat}, mPut K k v c l = some (l', c') →
    (∃ i u s, Found K k l i u s ∧ l' = l.set i (k, v, s) ∧ c' = c) ∨ (Lacks K k l ∧ l' = l ++ [(k, v, c)] ∧ c' = c + 1)
  | [], l', c', h => by cases h; exact .inr ⟨.nil, rfl, rfl⟩
  | (a, u, t) :: l, l', c', h => by
    rw [mPut_cons] at h
    split at h
    · rename_i he; cases h; exact .inl ⟨0, u, t, .here he, rfl, rfl⟩
    · rename_i he
      split at h
      · rename_i r c2 hr
        cases h
        rcases mPut_some hr with ⟨i, u', s, h1, h2, h3⟩ | ⟨h1, h2, h3⟩
        · exact .inl ⟨i + 1, u', s, .there he h1, by rw [h2]; rfl, h3⟩
        · exact .inr ⟨.cons he h1, by rw [h2]; rfl, h3⟩
      · cases h
    · cases h
theorem mDel_cons (K : KT) (k : Value) (a u : Value) (s : Nat) (r : List Ent) : mDel K k ((a, u, s) :: r) = match eqV K k a with
    | some true => some r
    | some false => (match mDel K k r with | some r => some ((a, u, s) :: r) | none => none)
    | none => none := rfl
theorem mDel_some {K : KT} {k : Value} : ∀ {l l' : List Ent}, mDel K k l = some l' → (∃ i u s, Found K k l i u s ∧ l' = l.eraseIdx i) ∨ (Lacks K k l ∧ l' = l)
  | [], l', h => by cases h; exact .inr ⟨.nil, rfl⟩
  | (a, u, t) :: l, l', h => by
    rw [mDel_cons] at h
    split at h
    · rename_i he; cases h; exact .inl ⟨0, u, t, .here he, rfl⟩
    · rename_i he
      split at h
      · rename_i r hr
        cases h
        rcases mDel_some hr with ⟨i, u', s, h1, h2⟩ | ⟨h1, h2⟩
        · exact .inl ⟨i + 1, u', s, .there he h1, by rw [h2]; rfl⟩
        · exact .inr ⟨.cons he h1, by rw [h2]⟩
      · cases h
    · cases h
theorem same_now {t : TypeId} {K : KT} (hK : ktOf P t = some K) {d : TypeDesc} {x y x' y' : Value} {b b' : Bool} (h : eqV K x y = some b) (hx : VR ρ x x') (hy : VR ρ y y') (hs : Instr.sameNow d x' y' = some b') : b' = b := by
  unfold Instr.sameNow at hs
  split at hs
  · rename_i k n k' m
    have ex := hx.int'
    have ey := hy.int'
    subst ex ey
    split at hs
    · rename_i hk
      cases hs
      rcases eqV_cases h with h1 | ⟨i, n', m', e1, e2, rfl⟩ | ⟨p, q, e1, _⟩
      · cases h1
      · cases e1; cases e2; rw [eqI_eq]
      · cases e1
    · cases hs
  · rename_i p q
    have ex : x = .string p := by cases hx; rfl
    have ey : y = .string q := by cases hy; rfl
    subst ex ey
    cases hs
    rcases eqV_cases h with h1 | ⟨i, n', m', e1, e2, rfl⟩ | ⟨p', q', e1, e2, rfl⟩
    · cases h1
    · cases e1
    · cases e1; cases e2; rw [← bytes_eq]
  · rename_i p q
    have ex := hx.bool'
    have ey := hy.bool'
    subst ex ey
    cases hs
    unfold eqV at h
    split at h
    · rename_i e _; cases e
    · split at h
      · simp only [eqP] at h
        obtain ⟨_, h⟩ := beq_k h
        cases h
        cases p <;> cases q <;> rfl
      · cases h
  · cases hs
/-- where the model finds it -/
theorem findNow_found {t : TypeId} {K : KT} (hK : ktOf P t = some K) {d : TypeDesc} {k k' : Value} (hk : VR ρ k k') {l : List Ent} {i : Nat} {v : Value} {s : Nat} (hf : Found K k l i v s) :
    ∀ {l' : List MapEntry} {n : Nat} {r : Option (Nat × Value)}, EntsR ρ l l' → Instr.findNow d k' l' n = some r → ∃ e, l'[i]? = some e ∧ r = some (n + i, e.val) := by
  induction hf with
  | here h =>
    intro l' n r hl hr
    cases hl with
    | cons he hl =>
      unfold Instr.findNow at hr
      split at hr
      · cases hr; exact ⟨_, rfl, rfl⟩
      · rename_i h2; cases same_now hK h hk he.1 h2
      · cases hr
  | there h _ ih =>
    intro l' n r hl hr
    cases hl with
    | cons he hl =>
      unfold Instr.findNow at hr
      split at hr
      · rename_i h2; cases same_now hK h hk he.1 h2
      · obtain ⟨e, h1, h2⟩ := ih hl hr
        exact ⟨e, by simpa using h1, by rw [h2]; congr 2; omega⟩
      · cases hr
theorem findNow_lacks {t : TypeId} {K : KT} (hK : ktOf P t = some K) {d : TypeDesc} {k k' : Value} (hk : VR ρ k k') {l : List Ent} (hf : Lacks K k l) :
    ∀ {l' : List MapEntry} {n : Nat} {r : Option (Nat × Value)}, EntsR ρ l l' → Instr.findNow d k' l' n = some r → r = none := by
  induction hf with
  | nil => intro l' n r hl hr; cases hl; cases hr; rfl
  | cons h _ ih =>
    intro l' n r hl hr
    cases hl with
    | cons he hl =>
      unfold Instr.findNow at hr
      split at hr
      · rename_i h2; cases same_now hK h hk he.1 h2
      · exact ih hl hr
      · cases hr
theorem asking_found (H : HR ρ B g w) {t : TypeId} {K : KT} (hK : ktOf P t = some K) {k k' : Value} (hk : VR ρ k k') {l : List Ent} {i : Nat} {v : Value} {s : Nat} (hf : Found K k l i v s) :
    ∀ {l' : List MapEntry} {n : Nat}, EntsR ρ l l' → ∃ e, l'[i]? = some e ∧ (Instr.findAsking t k' l' n).run P w = .ok (some (n + i, e.val)) w := by
  induction hf with
  | here h =>
    intro l' n hl
    cases hl with
    | cons he hl =>
      have := sim_eqV hK h H hk he.1 9998
      exact ⟨_, rfl, by simp [Instr.findAsking, Op.equal, Op.maxDepth, this]⟩
  | there h _ ih =>
    intro l' n hl
    cases hl with
    | cons he hl =>
      have := sim_eqV hK h H hk he.1 9998
      obtain ⟨e, h1, h2⟩ := ih (n := n + 1) hl
      refine ⟨e, by simpa using h1, ?_⟩
      simp only [Instr.findAsking, Op.equal, Op.maxDepth, Sem.run_bind, this, Result.andThen_ok, Bool.false_eq_true, if_false, h2]
      congr 3
      omega
theorem asking_lacks (H : HR ρ B g w) {t : TypeId} {K : KT} (hK : ktOf P t = some K) {k k' : Value} (hk : VR ρ k k') {l : List Ent} (hf : Lacks K k l) :
    ∀ {l' : List MapEntry} {n : Nat}, EntsR ρ l l' → (Instr.findAsking t k' l' n).run P w = .ok none w := by
  induction hf with
  | nil => intro l' n hl; cases hl; rfl
  | cons h _ ih =>
    intro l' n hl
    cases hl with
    | cons he hl =>
      have := sim_eqV hK h H hk he.1 9998
      simp only [Instr.findAsking, Op.equal, Op.maxDepth, Sem.run_bind, this, Result.andThen_ok, Bool.false_eq_true, if_false, ih hl]
theorem kt_und {t : TypeId} {K : KT} (hK : ktOf P t = some K) : ∃ d, (underlying t).run P w = .ok d w := by
  rcases ktOf_cases hK with ⟨k, _, hk⟩ | ⟨fs, ks, _, hu, _⟩ | ⟨len, e, k, _, hu, _⟩
  · rcases (kdOf_one hk).2 with ⟨h, _⟩ | ⟨⟨_, h⟩, _⟩ | ⟨h, _⟩ | ⟨⟨_, _, h, _⟩, _⟩ | ⟨⟨_, h⟩, _⟩ | ⟨⟨_, _, h⟩, _⟩ | ⟨⟨_, _, _, h⟩, _⟩ <;> exact ⟨_, run_und h (by simp)⟩
  · exact ⟨_, run_und hu (by simp)⟩
  · exact ⟨_, run_und hu (by simp)⟩
theorem find_found (H : HR ρ B g w) {t : TypeId} {K : KT} (hK : ktOf P t = some K) {k k' : Value} (hk : VR ρ k k') {l : List Ent} {i : Nat} {v : Value} {s : Nat} (hf : Found K k l i v s)
    {l' : List MapEntry} (hl : EntsR ρ l l') : ∃ e, l'[i]? = some e ∧ (Instr.findKey t k' l').run P w = .ok (some (i, e.val)) w := by
  obtain ⟨d, hd⟩ := kt_und (w := w) hK
  unfold Instr.findKey
  simp only [Sem.run_bind, hd, Result.andThen_ok]
  cases hn : Instr.findNow d k' l' 0 with
  | some r =>
    obtain ⟨e, h1, h2⟩ := findNow_found hK hk hf hl hn
    exact ⟨e, h1, by rw [h2, Nat.zero_add]; rfl⟩
  | none =>
    obtain ⟨e, h1, h2⟩ := asking_found H hK hk hf hl (n := 0)
    exact ⟨e, h1, by rw [Nat.zero_add] at h2; exact h2⟩
theorem find_lacks (H : HR ρ B g w) {t : TypeId} {K : KT} (hK : ktOf P t = some K) {k k' : Value} (hk : VR ρ k k') {l : List Ent} (hf : Lacks K k l)
    {l' : List MapEntry} (hl : EntsR ρ l l') : (Instr.findKey t k' l').run P w = .ok none w := by
  obtain ⟨d, hd⟩ := kt_und (w := w) hK
  unfold Instr.findKey
  simp only [Sem.run_bind, hd, Result.andThen_ok]
  cases hn : Instr.findNow d k' l' 0 with
  | some r => rw [findNow_lacks hK hk hf hl hn]; rfl
  | none => exact asking_lacks H hK hk hf hl
theorem EntsR.get {l : List Ent} {l' : List MapEntry} (h : EntsR ρ l l') : ∀ (i : Nat) (x : Ent), l[i]? = some x → ∃ e, l'[i]? = some e ∧ EntR ρ x e := by
  induction h with
  | nil => intro i x hx; simp at hx
  | cons h _ ih =>
    intro i x hx
    cases i with
    | zero => simp at hx; subst hx; exact ⟨_, rfl, h⟩
    | succ i => simpa using ih i x (by simpa using hx)
theorem Found.get {K : KT} {k : Value} {l : List Ent} {i : Nat} {v : Value} {s : Nat} (h : Found K k l i v s) : ∃ a, l[i]? = some (a, v, s) ∧ eqV K k a = some true := by
  induction h with
  | here h => exact ⟨_, rfl, h⟩
  | there _ _ ih => simpa using ih
/-- the key is looked at -/
theorem run_checkKey {t : TypeId} {K : KT} (hK : ktOf P t = some K) {k k' : Value} (hk : VR ρ k k') (ho : keyOk K k = true) (e : Bool) : (Instr.checkKey e 10000 t k').run P w = .ok () w := by
  rcases ktOf_cases hK with ⟨kd, rfl, h⟩ | ⟨fs, ks, rfl, hu, _, _, hf⟩ | ⟨len, et, kd, rfl, hu, _, hkd⟩
  · exact check_fields.checkK (n := 9999) h
  · simp only [keyOk] at ho
    split at ho
    · rename_i cs
      obtain ⟨cs', rfl, hc, _⟩ := hk.agg_inv
      have hlen : cs.toList.length = ks.length := Nat.eq_of_beq_eq_true ho
      have hl2 := hc.length
      have := check_fields (P := P) (w := w) e 9998 (cs := cs') fs.toList ks 0 hf (fun j hj => by
        have hj' : j < cs'.size := by simp at hl2 hlen; omega
        exact ⟨cs'[j], by simp [hj']⟩)
      unfold Instr.checkKey
      simp only [Sem.run_bind, run_und hu (show TypeDesc.struct fs ≠ .invalid by simp), Result.andThen_ok]
      rw [← Array.forIn_toList]
      exact (congrArg (fun r => Result.andThen r _) this).trans rfl
    · cases ho
  · simp only [keyOk] at ho
    split at ho
    · rename_i cs
      obtain ⟨cs', rfl, hc, _⟩ := hk.agg_inv
      have hlen : cs.toList.length = len := by simpa using Nat.eq_of_beq_eq_true ho
      have hl2 := hc.length
      have hlen' : cs'.size = len := by simp at hl2 hlen; omega
      unfold Instr.checkKey
      simp only [Sem.run_bind, run_und hu (show TypeDesc.array len et ≠ .invalid by simp), Result.andThen_ok]
      simp only [Std.Legacy.Range.forIn_eq_forIn_range', Std.Legacy.Range.size, Nat.sub_zero, Nat.add_one_sub_one, Nat.div_one]
      have : ∀ (m n : Nat), n + m ≤ cs'.size → (forIn (List.range' n m) PUnit.unit fun i r => (do
          Instr.checkKey e 9999 et (← part et cs' (i * (← Go.sizeOf et)))
          pure (ForInStep.yield PUnit.unit) : Go.Sem (ForInStep PUnit))).run P w = .ok PUnit.unit w := by
        intro m
        induction m with
        | zero => intro n _; rfl
        | succ m ih =>
          intro n hn
          have hv : cs'[n]? = some cs'[n] := by simp
          rw [List.range'_succ, List.forIn_cons]
          simp only [Sem.run_bind, run_sz (kdOf_one hkd).1, Result.andThen_ok, Nat.mul_one, run_partK (w := w) hkd hv, check_fields.checkK (n := 9998) hkd, Sem.run_pure]
          exact ih (n + 1) (by omega)
      exact (congrArg (fun r => Result.andThen r _) (this len 0 (by omega))).trans rfl
    · cases ho
/-- the entries in the model -/
theorem mapOf_real (H : HR ρ B g w) {x : Option Nat} {es : List Ent} (h : mapOf g x = some es) {v' : Value} (hx : VR ρ (.map x) v') :
    ∃ re : Array MapEntry, EntsR ρ es re.toList ∧ ((v' = .map none ∧ re = #[]) ∨ ∃ r c, v' = .map (some r) ∧ w.heap[r]? = some (.map re c)) := by
  rcases mapOf_some h with ⟨rfl, rfl⟩ | ⟨b, c, rfl, hg⟩
  · exact ⟨#[], .nil, .inl ⟨hx.nilMap, rfl⟩⟩
  · obtain ⟨i, hi, e⟩ := hx.map_inv
    obtain ⟨_, _, re, h1, h2⟩ := H.ents hi hg
    exact ⟨re, h2, .inr ⟨i.r, c, e, h1⟩⟩
theorem ktKey_some {t : TypeId} {K : KT} (h : ktKey P t = some K) : ktOf P t = some K ∧ ((∃ k, K = .one k ∧ k ≤ 3) ∨ ∃ ks : List Nat, K = .agg ks ∧ ∀ k ∈ ks, k ≤ 3) := by
  unfold ktKey at h
  split at h
  · rename_i k hk
    cases hb : Nat.ble k 3 with
    | false => simp [hb] at h
    | true => simp [hb] at h; subst h; exact ⟨hk, .inl ⟨k, rfl, Nat.le_of_ble_eq_true hb⟩⟩
  · rename_i ks hk
    cases hb : ks.all (fun k => Nat.ble k 3) with
    | false => simp [hb] at h
    | true =>
      simp only [hb, cond_true, Option.some.injEq] at h
      subst h
      exact ⟨hk, .inr ⟨ks, rfl, fun k hk' => Nat.le_of_ble_eq_true (List.all_eq_true.1 hb k hk')⟩⟩
  · cases h
theorem sim_lookup {t : TypeId} {x y : Operand} {ok : Bool} {rd : Bool} {s : VSem} (hd : denMap P t (fun n z => .v true (oLookup n z ok (evB x) (evB y))) = .v rd s) {v : Value} (h : s.f a g = some v) (H : HR ρ B g w)
    (hx : VR ρ ((evB x).f a) (E x)) (hy : VR ρ ((evB y).f a) (E y)) :
    ∃ v', (Instr.lookup t (E x) (E y) ok).run P w = .ok v' w ∧ VR ρ v v' := by
  unfold denMap at hd
  split at hd
  · rename_i kt et hu
    split at hd
    · rename_i K z hK' hz
      have hK := (ktKey_some hK').1
      simp only [OSem.v.injEq] at hd
      obtain ⟨_, rfl⟩ := hd
      simp only [oLookup] at h
      obtain ⟨hz1, hz2⟩ := run_zero (w := w) hz
      split at h
      · rename_i r hp
        rw [hp] at hx
        split at h
        · rename_i es hes
          cases hko : keyOk K ((evB y).f a) with
          | false => simp [hko] at h
          | true =>
            simp only [hko, cond_true] at h
            obtain ⟨re, hre, hm⟩ := mapOf_real H hes hx
            have hc : ∀ em, (Instr.checkKey em 10000 kt (E y)).run P w = .ok () w := fun em => run_checkKey hK hy hko em
            split at h
            · rename_i u st hf
              obtain ⟨i, hi⟩ := mFind_some hf
              obtain ⟨e, h1, h2⟩ := find_found H hK hy hi hre
              obtain ⟨a0, h3, _⟩ := hi.get
              obtain ⟨e', h4, h5⟩ := hre.get _ _ h3
              rw [h1] at h4
              cases h4
              cases ok with
              | true =>
                cases h
                refine ⟨.tuple #[e.val, .bool true], ?_, .tuple (.cons h5.2.1 (.cons (.same rfl) .nil))⟩
                rcases hm with ⟨e1, rfl⟩ | ⟨r, c, e1, e2⟩
                · simp at h1
                · simp [Instr.lookup, run_und hu (show TypeDesc.map kt et ≠ .invalid by simp), e1, run_getObj e2, hc, h2]
              | false =>
                cases h
                refine ⟨e.val, ?_, h5.2.1⟩
                rcases hm with ⟨e1, rfl⟩ | ⟨r, c, e1, e2⟩
                · simp at h1
                · simp [Instr.lookup, run_und hu (show TypeDesc.map kt et ≠ .invalid by simp), e1, run_getObj e2, hc, h2]
            · rename_i hf
              have h2 := find_lacks H hK hy (mFind_none hf) hre
              cases ok with
              | true =>
                cases h
                refine ⟨.tuple #[z, .bool false], ?_, .tuple (.cons (.const hz2) (.cons (.same rfl) .nil))⟩
                rcases hm with ⟨e1, rfl⟩ | ⟨r, c, e1, e2⟩
                · simp at h2; simp [Instr.lookup, run_und hu (show TypeDesc.map kt et ≠ .invalid by simp), e1, hc, h2, hz1]
                · simp [Instr.lookup, run_und hu (show TypeDesc.map kt et ≠ .invalid by simp), e1, run_getObj e2, hc, h2, hz1]
              | false =>
                cases h
                refine ⟨z, ?_, .const hz2⟩
                rcases hm with ⟨e1, rfl⟩ | ⟨r, c, e1, e2⟩
                · simp at h2; simp [Instr.lookup, run_und hu (show TypeDesc.map kt et ≠ .invalid by simp), e1, hc, h2, hz1]
                · simp [Instr.lookup, run_und hu (show TypeDesc.map kt et ≠ .invalid by simp), e1, run_getObj e2, hc, h2, hz1]
            · cases h
        · cases h
      · cases h
    · simp [oNo] at hd; obtain ⟨_, rfl⟩ := hd; cases h
  · simp [oNo] at hd; obtain ⟨_, rfl⟩ := hd; cases h
end
end Vm

/-! Ranges over maps: an entry once more. -/
set_option linter.unusedVariables false
namespace Vm
open Go
section
variable {P : Program} {w w' : World} {ρ σ : Ren} {a : Fr} {E : Operand → Value} {B M : Nat} {g : G}
theorem run_getIter {k : Nat} {m : Option Nat} {since last : Nat} {seen : Array Nat} (h : w.heap[k]? = some (.mapIter m since seen last)) : (getObj k).run P w = .ok (.mapIter m since seen last) w := by simp only [getObj, Sem.run, h]
theorem lastN_eq : ∀ (l : List Nat), lastN l = l.getLast?
  | [] => rfl
  | [x] => rfl
  | x :: y :: l => by
    show lastN (y :: l) = _
    rw [lastN_eq (y :: l), List.getLast?_cons_cons]
theorem stampE_some {l : List Ent} {l' : List MapEntry} (hl : EntsR ρ l l') {s : Nat} {k v : Value} (h : stampE s l = some (k, v)) : ∃ e, l'.find? (fun e => e.born == s) = some e ∧ VR ρ k e.key ∧ VR ρ v e.val := by
  induction hl with
  | nil => cases h
  | @cons e e' l l' hh _ ih =>
    have h' : (bif Nat.beq e.2.2 s then some (e.1, e.2.1) else stampE s l) = some (k, v) := h
    cases hb : Nat.beq e.2.2 s with
    | true =>
      rw [hb] at h'
      cases h'
      exact ⟨e', by rw [List.find?_cons, hh.2.2, Nat.eq_of_beq_eq_true hb]; simp, hh.1, hh.2.1⟩
    | false =>
      rw [hb] at h'
      obtain ⟨f, h1, h2⟩ := ih h'
      refine ⟨f, ?_, h2⟩
      have : (e'.born == s) = false := by
        rw [← Bool.not_eq_true, beq_iff_eq, hh.2.2]
        intro e; rw [e] at hb; simp at hb
      rw [List.find?_cons, this]
      exact h1
theorem sim_entry {p : Operand} (H : HR ρ B g w) {v : Value} (h : (oEntry (evB p)).f a g = some v) (hp : VR ρ ((evB p).f a) (E p)) :
    ∃ v', (Instr.entry (E p)).run P w = .ok v' w ∧ VR ρ v v' := by
  simp only [oEntry] at h
  split at h
  · rename_i q hq
    rw [hq] at hp
    cases hb : Nat.beq q.off 0 <;> simp only [hb, cond_true, cond_false] at h
    · cases h
    · split at h
      · rename_i r since seen last hg
        split at h
        · rename_i s hs
          split at h
          · rename_i es c hg2
            cases hbc : Nat.beq c last <;> simp only [hbc, cond_true, cond_false] at h
            · cases h
            · split at h
              · rename_i k u hst
                cases h
                obtain ⟨q', e, ⟨i, hi, hq'⟩, _⟩ := hp.ptr_inv
                obtain ⟨y, hy, hr⟩ := H.blk _ i hi
                rw [hg] at hy
                cases hy
                obtain ⟨hB, ho, hcf, m', hm1, hm2⟩ := hr
                rcases hm2 with ⟨h0, _⟩ | ⟨r', j, h0, hj, rfl⟩
                · cases h0
                · cases h0
                  obtain ⟨_, _, re, e2, e3⟩ := H.ents hj hg2
                  have hE : E p = .pointer (some ⟨i.r, 0, none⟩) := by rw [e, hq', ho, Nat.eq_of_beq_eq_true hb]
                  obtain ⟨en, f1, f2, f3⟩ := stampE_some e3 hst
                  rw [lastN_eq] at hs
                  refine ⟨.tuple #[en.key, en.val], ?_, .tuple (.cons f2 (.cons f3 .nil))⟩
                  have hba : seen.toArray.back? = some s := by simpa using hs
                  have hfi : re.find? (fun e => e.born == s) = some en := by rw [← Array.find?_toList]; exact f1
                  rw [hE]
                  simp [Instr.entry, run_getIter hm1, hba, run_getObj e2, Nat.eq_of_beq_eq_true hbc, hfi]
              · cases h
          · cases h
        · cases h
      · cases h
  · cases h
end
end Vm

/-! Every operation that only reckons or reads. -/
set_option linter.unusedVariables false
namespace Vm
open Go
section
variable {P : Program} {w : World} {ρ : Ren} {a : Fr} {E : Operand → Value} {B : Nat} {g : G}

theorem oNo_v {rd : Bool} {s : VSem} (h : oNo = .v rd s) {v : Value} (h' : s.f a g = some v) : False := by
  simp [oNo] at h
  obtain ⟨_, rfl⟩ := h
  cases h'
theorem sim_convert {s d : TypeId} {x : Operand} {rd : Bool} {f : VSem} (hd : denConvert P s d (evB x) = .v rd f) {v : Value} (h : f.f a g = some v) (H : HR ρ B g w) (hx : VR ρ ((evB x).f a) (E x)) :
    ∃ v', (convert s d (E x)).run P w = .ok v' w ∧ VR ρ v v' := by
  unfold denConvert at hd
  split at hd
  · rename_i ks hs
    split at hd
    · rename_i k hk
      simp only [OSem.v.injEq] at hd
      obtain ⟨_, rfl⟩ := hd
      exact sim_convInt hs hk h hx
    · exact (oNo_v hd h).elim
  · rename_i e hs
    split at hd
    · rename_i hk he
      simp only [OSem.v.injEq] at hd
      obtain ⟨_, rfl⟩ := hd
      exact sim_toString hs hk he h H hx
    · cases hb : Nat.beq s d <;> simp only [hb, cond_true, cond_false] at hd
      · exact (oNo_v hd h).elim
      · cases hd
    · exact (oNo_v hd h).elim
  · rename_i hs
    split at hd
    · rename_i e hk
      split at hd
      · cases hd
      · exact (oNo_v hd h).elim
    · rename_i hk
      simp only [OSem.v.injEq] at hd
      obtain ⟨_, rfl⟩ := hd
      exact sim_convStr hs hk h hx
    · exact (oNo_v hd h).elim
  · exact (oNo_v hd h).elim
theorem sim_builtinV {b : Builtin} {c : Call} {ty : TypeId} {cs : Array Bool} {rd : Bool} {f : VSem} (hd : denBuiltin P b c.args.toList c.argTypes.toList = .v rd f) {v : Value} (h : f.f a g = some v) (H : HR ρ B g w)
    (hx : Ops ρ a E c.args.toList) : ∃ v', (Go.builtin b c.argTypes ty cs (c.args.map E)).run P w = .ok (.value v') w ∧ VR ρ v v' := by
  unfold denBuiltin at hd
  split at hd
  · split at hd
    · rename_i x t ha ht
      have ea : c.args = #[x] := Array.toList_inj.mp (by rw [ha])
      have et : c.argTypes = #[t] := Array.toList_inj.mp (by rw [ht])
      obtain ⟨v', h1, h2⟩ := sim_len (P := P) (ty := ty) hd h H (hx x (by rw [ha]; simp))
      refine ⟨v', ?_, h2⟩
      rw [ea, et, show Array.map E #[x] = #[E x] by simp]
      exact run_v h1
    · exact (oNo_v hd h).elim
  · split at hd
    · rename_i s x t u ha ht
      unfold denAppend at hd
      split at hd
      · split at hd
        · rename_i sz by_ z _ _ _
          cases hb : (Nat.blt 0 sz && Nat.blt 0 by_) <;> simp only [hb, cond_true, cond_false] at hd
          · exact (oNo_v hd h).elim
          · cases hd
        · exact (oNo_v hd h).elim
      · split at hd
        · rename_i sz by_ z _ _ _
          cases hb : (Nat.blt 0 sz && Nat.blt 0 by_) <;> simp only [hb, cond_true, cond_false] at hd
          · exact (oNo_v hd h).elim
          · cases hd
        · exact (oNo_v hd h).elim
      · exact (oNo_v hd h).elim
    · exact (oNo_v hd h).elim
  · split at hd
    · split at hd
      · split at hd
        · cases hd
        · exact (oNo_v hd h).elim
      · exact (oNo_v hd h).elim
    · exact (oNo_v hd h).elim
  · split at hd
    · split at hd
      · split at hd
        · rename_i z _
          cases hb : (Nat.blt 0 z.length) <;> simp only [hb, cond_true, cond_false] at hd
          · exact (oNo_v hd h).elim
          · cases hd
        · exact (oNo_v hd h).elim
      · cases hd
      · exact (oNo_v hd h).elim
    · exact (oNo_v hd h).elim
  · split at hd
    · split at hd
      · split at hd
        · cases hd
        · exact (oNo_v hd h).elim
      · exact (oNo_v hd h).elim
    · exact (oNo_v hd h).elim
  · split at hd
    · rename_i x l ha
      simp only [OSem.v.injEq] at hd
      obtain ⟨_, rfl⟩ := hd
      simp only [oBest] at h
      obtain ⟨v', h1, h2⟩ := sim_best (P := P) (w := w) true _ _ _ h _ (sim_evs (fun y hy => hx y (by rw [ha]; simp [hy]))) _ (hx x (by rw [ha]; simp))
      refine ⟨v', run_v ?_, h2⟩
      simp only [Builtin.min_, Array.toList_map, ha, List.map_cons]
      exact h1
    · exact (oNo_v hd h).elim
  · split at hd
    · rename_i x l ha
      simp only [OSem.v.injEq] at hd
      obtain ⟨_, rfl⟩ := hd
      simp only [oBest] at h
      obtain ⟨v', h1, h2⟩ := sim_best (P := P) (w := w) false _ _ _ h _ (sim_evs (fun y hy => hx y (by rw [ha]; simp [hy]))) _ (hx x (by rw [ha]; simp))
      refine ⟨v', run_v ?_, h2⟩
      simp only [Builtin.max_, Array.toList_map, ha, List.map_cons]
      exact h1
    · exact (oNo_v hd h).elim
  · exact (oNo_v hd h).elim
theorem simV {o : Oper} {rd : Bool} {s : VSem} (hd : denOp P o.op = .v rd s) {v : Value} (h : s.f a g = some v) (H : HR ρ B g w) (hE : Ops ρ a E o.op.operands.toList) :
    ∃ v', (execOp E o).run P w = .ok (.value v') w ∧ VR ρ v v' := by
  unfold execOp
  cases ho : o.op <;> rw [ho] at hd hE <;> simp only [denOp] at hd <;> simp only [Op.operands] at hE
  case move x =>
    simp only [OSem.v.injEq] at hd; obtain ⟨_, rfl⟩ := hd
    cases h
    exact ⟨E x, rfl, hE x (by simp)⟩
  case assign x =>
    simp only [OSem.v.injEq] at hd; obtain ⟨_, rfl⟩ := hd
    cases h
    exact ⟨E x, rfl, hE x (by simp)⟩
  case pick c x y =>
    simp only [OSem.v.injEq] at hd; obtain ⟨_, rfl⟩ := hd
    exact sim_pick h (hE c (by simp)) (hE x (by simp)) (hE y (by simp))
  case alloc e => split at hd; · cases hd
                  · exact (oNo_v hd h).elim
  case box e x => cases hd
  case build t ps =>
    obtain ⟨v', h1, h2⟩ := sim_build (P := P) (w := w) hd h (fun p hp => hE p.2 (by simp; exact ⟨p.1, by simpa using hp⟩))
    exact ⟨v', run_v h1, h2⟩
  case buildSlice t len ps =>
    unfold denBuildSlice at hd
    split at hd
    · split at hd
      · rename_i z _
        cases hb : (Nat.ble (len * z.length) 16777216 && Nat.blt 0 z.length) <;> simp only [hb, cond_true, cond_false] at hd
        · exact (oNo_v hd h).elim
        · split at hd
          · cases hd
          · exact (oNo_v hd h).elim
      · exact (oNo_v hd h).elim
    · exact (oNo_v hd h).elim
  case load t x =>
    obtain ⟨v', h1, h2⟩ := sim_load (P := P) (t := t) (x := x) (rd := rd) (s := s) (by simp only [denOp]; exact hd) h H (hE x (by simp))
    exact ⟨v', run_v h1, h2⟩
  case store t x y => split at hd; · cases hd
                      · exact (oNo_v hd h).elim
  case nilCheck x =>
    simp only [OSem.v.injEq] at hd; obtain ⟨_, rfl⟩ := hd
    obtain ⟨e, h1⟩ := sim_nilCheck h (hE x (by simp))
    refine ⟨E x, ?_, by rw [e]; exact hE x (by simp)⟩
    rcases h1 with ⟨p, h1⟩ | ⟨f, y, z, h1⟩ | ⟨f, y, z, h1⟩ <;> simp [h1]
  case binOp op t x y p =>
    by_cases hq : isEq op = true
    · obtain ⟨v', h1, h2⟩ := sim_eq (P := P) hd hq h H (hE x (by simp)) (hE y (by simp))
      exact ⟨v', run_v h1, h2⟩
    · obtain ⟨v', h1, h2⟩ := sim_arith (P := P) (w := w) hd (by simpa using hq) h (hE x (by simp)) (hE y (by simp))
      exact ⟨v', run_v h1, h2⟩
  case unOp op t x =>
    cases op <;> simp only [] at hd
    case neg =>
      simp only [OSem.v.injEq] at hd; obtain ⟨_, rfl⟩ := hd
      obtain ⟨v', h1, h2⟩ := sim_neg (P := P) (w := w) h (hE x (by simp))
      exact ⟨v', run_v h1, h2⟩
    case not =>
      simp only [OSem.v.injEq] at hd; obtain ⟨_, rfl⟩ := hd
      obtain ⟨v', h1, h2⟩ := sim_not (P := P) (w := w) h (hE x (by simp))
      exact ⟨v', run_v h1, h2⟩
    case xor =>
      simp only [OSem.v.injEq] at hd; obtain ⟨_, rfl⟩ := hd
      obtain ⟨v', h1, h2⟩ := sim_com (P := P) (w := w) h (hE x (by simp))
      exact ⟨v', run_v h1, h2⟩
    all_goals exact (oNo_v hd h).elim
  case convert s' d x =>
    obtain ⟨v', h1, h2⟩ := sim_convert (P := P) hd h H (hE x (by simp))
    exact ⟨v', run_v h1, h2⟩
  case makeInterface t x =>
    split at hd
    · exact (oNo_v hd h).elim
    · exact (oNo_v hd h).elim
    · rename_i h1 h2
      simp only [OSem.v.injEq] at hd; obtain ⟨_, rfl⟩ := hd
      obtain ⟨v', h1, h2⟩ := sim_iface (P := P) (w := w) (fun m e => h1 m e) (fun e => h2 e) h (hE x (by simp))
      exact ⟨v', run_v h1, h2⟩
  case makeFunc fn first cap =>
    split at hd
    · rename_i f
      simp only [OSem.v.injEq] at hd; obtain ⟨_, rfl⟩ := hd
      exact ⟨_, rfl, sim_func h (fun y hy => hE y (by simp at hy ⊢; exact .inl hy)) (fun y hy => hE y (by simp at hy ⊢; exact .inr hy))⟩
    · exact (oNo_v hd h).elim
  case makeMap t r =>
    cases r <;> simp only [] at hd
    · cases hd
    · exact (oNo_v hd h).elim
  case makeSlice t l c =>
    split at hd
    · split at hd
      · rename_i z _ _
        cases hb : (Nat.blt 0 z.length) <;> simp only [hb, cond_true, cond_false] at hd
        · exact (oNo_v hd h).elim
        · cases hd
      · exact (oNo_v hd h).elim
    · exact (oNo_v hd h).elim
  case slice t x lo hi mx =>
    obtain ⟨v', h1, h2⟩ := sim_slice (P := P) (w := w) hd h (hE x (by simp)) (fun y hy => hE y (by subst hy; simp)) (fun y hy => hE y (by subst hy; simp)) (fun y hy => hE y (by subst hy; simp))
    exact ⟨v', run_v h1, h2⟩
  case fieldAddr t x f =>
    obtain ⟨v', h1, h2⟩ := sim_fieldAddr (P := P) (w := w) hd h (hE x (by simp))
    exact ⟨v', run_v h1, h2⟩
  case field t x f =>
    obtain ⟨v', h1, h2⟩ := sim_field (P := P) (w := w) hd h (hE x (by simp))
    exact ⟨v', run_v h1, h2⟩
  case indexAddr t x y =>
    obtain ⟨v', h1, h2⟩ := sim_indexAddr (P := P) (w := w) hd h (hE x (by simp)) (hE y (by simp))
    exact ⟨v', run_v h1, h2⟩
  case index t x y =>
    obtain ⟨v', h1, h2⟩ := sim_index (P := P) (w := w) hd h (hE x (by simp)) (hE y (by simp))
    exact ⟨v', run_v h1, h2⟩
  case lookup t x y ok =>
    obtain ⟨v', h1, h2⟩ := sim_lookup (P := P) hd h H (hE x (by simp)) (hE y (by simp))
    exact ⟨v', run_v h1, h2⟩
  case mapUpdate t m k x =>
    unfold denMap at hd
    split at hd
    · split at hd
      · cases hd
      · exact (oNo_v hd h).elim
    · exact (oNo_v hd h).elim
  case insert t m k x =>
    unfold denMap at hd
    split at hd
    · split at hd
      · cases hd
      · exact (oNo_v hd h).elim
    · exact (oNo_v hd h).elim
  case mapEntry t m k =>
    unfold denMap at hd
    split at hd
    · split at hd
      · cases hd
      · exact (oNo_v hd h).elim
    · exact (oNo_v hd h).elim
  case entryStore => cases hd
  case extract x i =>
    simp only [OSem.v.injEq] at hd; obtain ⟨_, rfl⟩ := hd
    obtain ⟨v', h1, h2⟩ := sim_extract (P := P) (w := w) h (hE x (by simp))
    exact ⟨v', run_v h1, h2⟩
  case range t x =>
    unfold denRange at hd
    split at hd
    · cases hd
    · exact (oNo_v hd h).elim
  case next x s =>
    cases s
    · cases hd
    · exact (oNo_v hd h).elim
  case entry x =>
    simp only [OSem.v.injEq] at hd; obtain ⟨_, rfl⟩ := hd
    obtain ⟨v', h1, h2⟩ := sim_entry (P := P) H h (hE x (by simp))
    exact ⟨v', run_v h1, h2⟩
  case call c =>
    cases hc : c.callee <;> rw [hc] at hd <;> simp only at hd
    case value f => cases f <;> cases hd
    case builtin b =>
      obtain ⟨v', h1, h2⟩ := sim_builtinV (P := P) (ty := o.type) (cs := (c.args.map fun | .const _ => true | _ => false)) hd h H (fun x hx => hE x (by simp [Call.operands, hc]; simpa using hx))
      refine ⟨v', ?_, h2⟩
      simp only [resolve, hc, Sem.run_bind, Sem.run_pure, Result.andThen_ok, invoke]
      exact h1
    case invoke => exact (oNo_v hd h).elim
  all_goals exact (oNo_v hd h).elim
end
end Vm

