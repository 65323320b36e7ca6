/- Part of a proof by an abstract run of the program's code: BJ. No condition. -/
import Derived.Test.YtnffglfpjcbfaaaBC
import Derived.Test.YtnffglfpjcbfaaaGx
/-! Functions of this program with one way alone. -/
set_option linter.unusedVariables false
namespace Go.Proofs.Ytnffglfpjcbfaaa
open Go Vm
theorem g0det : ∀ f s, G0 f = some s → ∀ args h x y, s args h ≠ .or x y := by
  intro f s hs args h x y e
  unfold G0 oneSum at hs
  cases hb : Nat.beq f 8 with
  | false => rw [hb] at hs; cases hs
  | true =>
    rw [hb] at hs
    cases hs
    cases args <;> cases e
theorem detD : detFns Try.prog [30, 31, 39, 38, 32, 23, 20, 19, 22, 21] = true := by kernel_rfl
instance : FDet Try.prog G0 30 := ⟨fun n args h x y => fns_det detD g0det n _ (by decide) args h x y⟩
instance : FDet Try.prog G0 23 := ⟨fun n args h x y => fns_det detD g0det n _ (by decide) args h x y⟩
instance : FDet Try.prog G0 19 := ⟨fun n args h x y => fns_det detD g0det n _ (by decide) args h x y⟩
instance : FDet Try.prog G0 31 := ⟨fun n args h x y => fns_det detD g0det n _ (by decide) args h x y⟩
end Go.Proofs.Ytnffglfpjcbfaaa

/-! Join: what a chunk is, and the small functions, walked. -/
set_option linter.unusedVariables false
namespace Go.Proofs.Ytnffglfpjcbfaaa
open Go Vm
/-- a chunk of Data -/
structure Ck where
  fl : Nat
  A : Nat
  out : Nat
  inn : Nat
  pp : Nat
  dt : List UInt8
  x3 : Nat
  x7 : Value
  x8 : Value
  x9 : Value
  x10 : Value
structure Ck.wf (c : Ck) : Prop where
  fl : c.fl < 256
  A : c.A < 4294967296
  out : c.out < 65536
  inn : c.inn < 65536
  pp : c.pp < 4294967296
def ckv (c : Ck) (o : Option Addr) (cap : Nat) : List Value := [.int .u8 ((0 : Nat) : Int), .int .u8 (c.fl : Int), .int .u32 (c.A : Int), .int .u32 (c.x3 : Int), .int .u16 (c.out : Int), .int .u16 (c.inn : Int), .int .u32 (c.pp : Int), c.x7, c.x8, c.x9, c.x10, .slice o c.dt.length cap]
structure Fol (a b : Ck) : Prop where
  out : a.out = b.out
  inn : a.inn = b.inn
  pp : a.pp = b.pp
  fr : (a.fl ^^^ b.fl) &&& 4 = 0
  nx : b.A = (a.A + 1) % 4294967296
  en : a.fl &&& 1 = 0
  bg : b.fl &&& 2 = 0
theorem i_andn {rec : Rec} {L : List (Nat × Value)} {f : Fr} {dt : Nat} {h : Heap} {K : Fr → Heap → Prop} {rd : Bool} {x y : Sel} {l : List ISem} {k : IntKind} {m q : Nat} (b : Nat) (hx : x.f (puts L f) = .int k (m : Int)) (hy : y.f (puts L f) = .int k (q : Int)) (hb : lim k = 2 ^ b) (hm : m < 2 ^ b)
    (hq : ItQ (runItems rec l (puts ((dt, .int k ((m &&& q : Nat) : Int)) :: L) f) h) K) : ItQ (runItems rec (iOp (put dt) (.v rd (oInt2 fAnd x y)) :: l) (puts L f) h) K :=
  i_v (int2w _ hx hy (by
    show some (Value.int k (wrap k (.ofNat (Nat.land m q)))) = _
    rw [wrap_lt (by rw [hb]; exact Nat.lt_of_le_of_lt Nat.and_le_left hm)]; rfl)) hq
theorem i_and0 {rec : Rec} {L : List (Nat × Value)} {f : Fr} {dt : Nat} {h : Heap} {K : Fr → Heap → Prop} {rd : Bool} {x y : Sel} {l : List ISem} {k : IntKind} {m q r : Nat} (b : Nat) (hx : x.f (puts L f) = .int k (m : Int)) (hy : y.f (puts L f) = .int k (q : Int)) (hb : lim k = 2 ^ b) (hm : m < 2 ^ b) (hr : m &&& q = r)
    (hq : ItQ (runItems rec l (puts ((dt, .int k ((r : Nat) : Int)) :: L) f) h) K) : ItQ (runItems rec (iOp (put dt) (.v rd (oInt2 fAnd x y)) :: l) (puts L f) h) K := by
  subst hr; exact i_andn b hx hy hb hm hq
theorem i_addW {rec : Rec} {L : List (Nat × Value)} {f : Fr} {dt : Nat} {h : Heap} {K : Fr → Heap → Prop} {rd : Bool} {x y : Sel} {l : List ISem} {k : IntKind} {p q r : Int} (hx : x.f (puts L f) = .int k p) (hy : y.f (puts L f) = .int k q) (e : wrap k (p + q) = r)
    (hq : ItQ (runItems rec l (puts ((dt, .int k r) :: L) f) h) K) : ItQ (runItems rec (iOp (put dt) (.v rd (oInt2 fAdd x y)) :: l) (puts L f) h) K := by subst e; exact i_add hx hy hq
theorem i_subW {rec : Rec} {L : List (Nat × Value)} {f : Fr} {dt : Nat} {h : Heap} {K : Fr → Heap → Prop} {rd : Bool} {x y : Sel} {l : List ISem} {k : IntKind} {p q r : Int} (hx : x.f (puts L f) = .int k p) (hy : y.f (puts L f) = .int k q) (e : wrap k (p - q) = r)
    (hq : ItQ (runItems rec l (puts ((dt, .int k r) :: L) f) h) K) : ItQ (runItems rec (iOp (put dt) (.v rd (oInt2 fSub x y)) :: l) (puts L f) h) K := by subst e; exact i_sub hx hy hq
theorem add32 (a b : Nat) : wrap .u32 ((a : Int) + (b : Int)) = (((a + b) % 4294967296 : Nat) : Int) := wrap_u32 (a + b)
theorem sub16 {a : Nat} (b : Nat) (ha : a < 65536) : wrap .u16 ((b : Int) - (a : Int)) = (((b + 65536 - a) % 65536 : Nat) : Int) := by
  rw [wrap_eq]
  unfold IntKind.wrap
  simp only [IntKind.bits, IntKind.signed]
  simp
  omega
theorem sub32 {a : Nat} (b : Nat) (ha : a < 4294967296) : wrap .u32 ((b : Int) - (a : Int)) = (((b + 4294967296 - a) % 4294967296 : Nat) : Int) := by
  rw [wrap_eq]
  unfold IntKind.wrap
  simp only [IntKind.bits, IntKind.signed]
  simp
  omega
section
variable {h : Heap} {n : Nat}
set_option maxHeartbeats 2000000 in
theorem w_follows {a b : Ck} {o o' : Option Addr} {c c' : Nat} (ha : a.wf) (hb : b.wf) (hf : Fol a b) (hn : 1 ≤ n) :
    ResQ (callN Try.prog G0 n (.call 30 [.agg (ckv a o c).toArray, .agg (ckv b o' c').toArray]) h) (fun v h' => v = .bool true ∧ Keeps h h') := by
  obtain ⟨n, rfl⟩ : ∃ m, n = m + 1 := ⟨n - 1, by omega⟩
  refine res_enter rfl d30 rfl ?_; simp only [c30]
  refine o_cut (fun f h1 => (Keeps h h1 ∧ h1.get h.next = some (.cells 42 (ckv a o c) (.own false)) ∧ h1.get (h.next + 1) = some (.cells 42 (ckv b o' c') (.own false))) ∧ Sl [(2, .pointer (some ⟨h.next, 0, none⟩)), (3, .pointer (some ⟨h.next + 1, 0, none⟩))] f) ?_ ?_
  · refine gg ?_
    obtain ⟨g1, g2, k1, n1⟩ := box_two h (.cells 42 (ckv a o c) (.own false)) (.cells 42 (ckv b o' c') (.own false))
    exact ⟨rfl, ⟨k1, g1, g2⟩, sel_of rfl, sel_of rfl, trivial⟩
  rintro f1 h1 ⟨⟨k1, g1, g2⟩, hs⟩
  obtain ⟨f0, rfl⟩ := hs.puts
  clear hs
  refine o_cut (fun f h2 => h2 = h1 ∧ Sl [(2, .pointer (some ⟨h.next, 0, none⟩)), (3, .pointer (some ⟨h.next + 1, 0, none⟩)), (5, .bool true)] f) ?_ ?_
  · refine gg ?_; repeat (refine i_ldown (by exact sel_of rfl) (by assumption) (by rfl) ?_; refine gg ?_)
    exact ⟨rfl, rfl, sel_of rfl, sel_of rfl, sel_of rfl, trivial⟩
  rintro f2 h2 ⟨e, hs⟩
  subst e
  obtain ⟨f0, rfl⟩ := hs.puts
  clear hs
  refine o_cut (fun f h3 => h3 = h2 ∧ Sl [(2, .pointer (some ⟨h.next, 0, none⟩)), (3, .pointer (some ⟨h.next + 1, 0, none⟩)), (5, .bool true), (6, .bool true)] f) ?_ ?_
  · refine gg ?_; repeat (refine i_ldown (by exact sel_of rfl) (by assumption) (by rfl) ?_; refine gg ?_)
    rw [decide_eq_true (congrArg (Nat.cast : Nat → Int) hf.out)]
    refine gg ?_; repeat (refine i_ldown (by exact sel_of rfl) (by assumption) (by rfl) ?_; refine gg ?_)
    rw [decide_eq_true (congrArg (Nat.cast : Nat → Int) hf.inn)]
    refine gg ?_; repeat (refine i_ldown (by exact sel_of rfl) (by assumption) (by rfl) ?_; refine gg ?_)
    rw [decide_eq_true (congrArg (Nat.cast : Nat → Int) hf.pp)]
    refine gg ?_; repeat (refine i_ldown (by exact sel_of rfl) (by assumption) (by rfl) ?_; refine gg ?_)
    refine i_xorn 8 (by exact sel_of rfl) (by exact sel_of rfl) rfl ha.fl hb.fl ?_
    refine gg ?_
    refine i_and0 8 (by exact sel_of rfl) (by rfl) rfl (Nat.xor_lt_two_pow ha.fl hb.fl) hf.fr ?_
    refine gg ?_
    exact ⟨rfl, rfl, sel_of rfl, sel_of rfl, sel_of rfl, sel_of rfl, trivial⟩
  rintro f3 h3 ⟨e, hs⟩
  subst e
  obtain ⟨f0, rfl⟩ := hs.puts
  clear hs
  refine gg ?_; repeat (refine i_ldown (by exact sel_of rfl) (by assumption) (by rfl) ?_; refine gg ?_)
  refine i_addW (by exact sel_of rfl) (by rfl) ((add32 a.A 1).trans (congrArg (Nat.cast : Nat → Int) hf.nx.symm)) ?_
  refine gg ?_; repeat (refine i_ldown (by exact sel_of rfl) (by assumption) (by rfl) ?_; refine gg ?_)
  rw [decide_eq_true (rfl : (b.A : Int) = (b.A : Int))]
  refine gg ?_; repeat (refine i_ldown (by exact sel_of rfl) (by assumption) (by rfl) ?_; refine gg ?_)
  refine i_and0 8 (by exact sel_of rfl) (by rfl) rfl ha.fl hf.en ?_
  refine gg ?_; repeat (refine i_ldown (by exact sel_of rfl) (by assumption) (by rfl) ?_; refine gg ?_)
  refine i_and0 8 (by exact sel_of rfl) (by rfl) rfl hb.fl hf.bg ?_
  refine gg ?_; repeat (refine i_ldown (by exact sel_of rfl) (by assumption) (by rfl) ?_; refine gg ?_)
  exact ⟨rfl, k1⟩
theorem w_clone {o : Option Addr} {c : Nat} {l : List UInt8} (hr : Row h 1 o l.length (u8s l)) (ho : l ≠ []) (hbig : l.length ≤ 1000000) (hn : 1 ≤ n) :
    ResQ (callN Try.prog G0 n (.call 20 [.slice o l.length c]) h) (fun v h' => ∃ q, v = .slice (some q) l.length l.length ∧ Keeps h h' ∧ Ap h.next h' 5 1 (some q) l.length l.length (u8s l) ∧ h.next ≤ q.block) := by
  obtain ⟨u, rfl⟩ : ∃ u, o = some u := by
    cases o with
    | none => exact absurd (List.length_eq_zero_iff.1 hr.2) ho
    | some u => exact ⟨u, rfl⟩
  obtain ⟨n, rfl⟩ : ∃ m, n = m + 1 := ⟨n - 1, by omega⟩
  refine res_enter rfl d20 rfl ?_; simp only [c20]
  refine gg ?_
  have ap : Ap h.next (h.new (.cells 5 (rep 0 [.int .u8 0]) (.own false))) 5 1 (some ⟨h.next, 0, none⟩) 0 0 [] := ⟨rfl, Row.new (by simp) rfl (.inl rfl), fun q e => .inl (by cases e; rfl)⟩
  refine i_appF (B := h.next) (m := l.length) (t := l.length) (es := u8s l) (List.length_pos_iff.2 ho) (Nat.le_succ _) (by exact sel_of rfl) ap (by rw [sel_of rfl]; exact (hr.keeps (Keeps.new h _)).src) (by show (u8s l).length = _; rw [u8s_length]; omega) (by omega) (by omega) rfl fun h' n' k' a' => ?_
  refine gg ?_
  refine ⟨_, rfl, ⟨by rw [n']; exact Nat.le_succ_of_le (Nat.le_succ _), fun d hd => ?_⟩, a', Nat.le_succ _⟩
  rw [k' d (Nat.lt_succ_of_lt hd) (fun q e => .inr (by cases e; rfl)), Heap.get_new, if_neg (Nat.ne_of_lt hd)]
theorem w_less0 {a b : Nat} (ha : a < 65536) (hb : b < 65536) (hn : 1 ≤ n) :
    ResQ (callN Try.prog G0 n (.call 39 [.int .u16 (a : Int), .int .u16 (b : Int)]) h) (fun v h' => v = .bool (decide (a ≠ b ∧ (b + 65536 - a) % 65536 ≤ 32767)) ∧ h = h') := by
  obtain ⟨n, rfl⟩ : ∃ m, n = m + 1 := ⟨n - 1, by omega⟩
  refine res_enter rfl d39 rfl ?_; simp only [c39]
  refine gg ?_
  obtain ⟨z, hz⟩ : ∃ z, (b + 65536 - a) % 65536 = z := ⟨_, rfl⟩
  refine i_subW (r := (z : Int)) (by exact sel_of rfl) (by exact sel_of rfl) (by rw [sub16 b ha, hz]) ?_
  rw [hz]
  have hzl : z < 65536 := by omega
  refine gg ?_
  by_cases e : z = 0
  · rw [decide_eq_false (p := (z : Int) ≠ 0) (by omega)]
    refine gg ?_
    refine ⟨?_, rfl⟩
    rw [decide_eq_false (by omega)]
  · rw [decide_eq_true (p := (z : Int) ≠ 0) (by omega)]
    refine gg ?_
    refine i_v (v := .int .u16 ((65535 : Nat) : Int)) (by rfl) ?_
    refine gg ?_
    refine ⟨congrArg Value.bool ?_, rfl⟩
    rw [decide_eq_decide]
    show ((z : Nat) : Int) ≤ ((32767 : Nat) : Int) ↔ _
    omega
theorem w_less {a b : Nat} (ha : a < 65536) (hb : b < 65536) (hn : 2 ≤ n) :
    ResQ (callN Try.prog G0 n (.call 31 [.int .u16 (a : Int), .int .u16 (b : Int)]) h) (fun v h' => v = .bool (decide (a ≠ b ∧ (b + 65536 - a) % 65536 ≤ 32767)) ∧ h = h') := by
  obtain ⟨n, rfl⟩ : ∃ m, n = m + 1 := ⟨n - 1, by omega⟩
  refine res_enter rfl d31 rfl ?_; simp only [c31]
  refine gg ?_
  refine i_call2 (by exact sel_of rfl) (by exact sel_of rfl) (w_less0 ha hb (by omega)) ?_
  rintro _ _ ⟨rfl, rfl⟩
  refine gg ?_
  exact ⟨rfl, rfl⟩
end
end Go.Proofs.Ytnffglfpjcbfaaa

/-! Join: the state in memory, and what keeps it. -/
set_option linter.unusedVariables false
namespace Go.Proofs.Ytnffglfpjcbfaaa
open Go Vm
/-- a message -/
structure Mg where
  str : Nat
  un : Bool
  pp : Nat
  dt : List UInt8
def mgv (m : Mg) (o : Option Addr) (cap : Nat) : List Value := [.int .u16 (m.str : Int), .bool m.un, .int .u32 (m.pp : Int), .slice o m.dt.length cap]
/-- data of the state's: apart from its own blocks -/
def Dt (h : Heap) (N : Nat) (ro : Option Addr) (o : Option Addr) (bs : List UInt8) : Prop :=
  Row h 1 o bs.length (u8s bs) ∧ ∀ q, o = some q → N + 4 ≤ q.block ∧ ∀ r, ro = some r → q.block ≠ r.block
def CkAt (h : Heap) (N : Nat) (ro : Option Addr) (c : Ck) (v : List Value) : Prop := ∃ o cap, v = ckv c o cap ∧ Dt h N ro o c.dt
def MgAt (h : Heap) (N : Nat) (ro : Option Addr) (m : Mg) (v : List Value) : Prop := ∃ o cap, v = mgv m o cap ∧ Dt h N ro o m.dt
def ChL (h : Heap) (N : Nat) (ro : Option Addr) : List (Value × Value × Nat) → List (Nat × Ck) → Prop
  | [], [] => True
  | e :: es, p :: l => (e.1 = .int .u32 (p.1 : Int) ∧ ∃ v, e.2.1 = .agg v.toArray ∧ CkAt h N ro p.2 v) ∧ ChL h N ro es l
  | _, _ => False
def StL (h : Heap) (N : Nat) (ro : Option Addr) : List (Value × Value × Nat) → List ((Nat × Nat) × Mg) → Prop
  | [], [] => True
  | e :: es, p :: l => (e.1 = .agg #[.int .u16 (p.1.1 : Int), .int .u16 (p.1.2 : Int)] ∧ ∃ v, e.2.1 = .agg v.toArray ∧ MgAt h N ro p.2 v) ∧ StL h N ro es l
  | _, _ => False
def RdL (h : Heap) (N : Nat) (ro : Option Addr) : List Value → List Mg → Prop
  | cs, [] => cs = []
  | cs, m :: l => ∃ v cs', cs = v ++ cs' ∧ MgAt h N ro m v ∧ RdL h N ro cs' l
def CkL (h : Heap) (N : Nat) (ro : Option Addr) : List Value → List Ck → Prop
  | cs, [] => cs = []
  | cs, c :: l => ∃ v cs', cs = v ++ cs' ∧ CkAt h N ro c v ∧ CkL h N ro cs' l
def jcells (N : Nat) (nx : List Nat) (ro : Option Addr) (k : Nat) (held : Nat) : List Value :=
  [.slice (some ⟨N, 0, none⟩) nx.length nx.length, .map (some (N + 1)), .map (some (N + 2)), .slice ro k k, .int .i64 (held : Int)]
/-- the chunks, older than their clock -/
structure ChC (h : Heap) (N : Nat) (ro : Option Addr) (es : List (Value × Value × Nat)) (cc : Nat) (ch : List (Nat × Ck)) : Prop where
  l : ChL h N ro es ch
  lt : ∀ e ∈ es, e.2.2 < cc
/-- the stash, older than its clock -/
structure StC (h : Heap) (N : Nat) (ro : Option Addr) (es : List (Value × Value × Nat)) (cc : Nat) (st : List ((Nat × Nat) × Mg)) : Prop where
  l : StL h N ro es st
  lt : ∀ e ∈ es, e.2.2 < cc
/-- a Join in memory: four blocks from N on, and the row of what is ready -/
structure Jn (h : Heap) (N : Nat) (nx : List Nat) (ch : List (Nat × Ck)) (st : List ((Nat × Nat) × Mg)) (rd : List Mg) (held : Nat) (ro : Option Addr) : Prop where
  up : N + 4 ≤ h.next
  top : h.get (N + 3) = some (.cells 64 (jcells N nx ro rd.length held) (.own false))
  nxt : h.get N = some (.cells 27 (nx.map fun (x : Nat) => Value.int .u16 (x : Int)) (.own false))
  chs : ∃ es cc, h.get (N + 1) = some (.map es cc) ∧ ChC h N ro es cc ch
  sts : ∃ es cc, h.get (N + 2) = some (.map es cc) ∧ StC h N ro es cc st
  rdy : ∃ cs, Ap (N + 4) h 30 4 ro rd.length rd.length cs ∧ RdL h N ro cs rd
  ofr : ∀ r, ro = some r → N + 4 ≤ r.block
/-- the data are kept -/
def KD (h : Heap) (N : Nat) (ro : Option Addr) (h' : Heap) (ro' : Option Addr) : Prop := ∀ o bs, Dt h N ro o bs → Dt h' N ro' o bs
section
variable {h h' : Heap} {N : Nat} {ro ro' : Option Addr}
theorem KD.refl (h : Heap) (N : Nat) (ro : Option Addr) : KD h N ro h ro := fun _ _ d => d
theorem KD.trans {h'' : Heap} {ro'' : Option Addr} (k : KD h N ro h' ro') (k' : KD h' N ro' h'' ro'') : KD h N ro h'' ro'' := fun o bs d => k' o bs (k o bs d)
theorem KD.keeps (k : Keeps h h') : KD h N ro h' ro := fun o bs d => ⟨d.1.keeps k, d.2⟩
theorem KD.put {b : Nat} (hb : b < N + 4) (x : Blk) : KD h N ro (h.put b x) ro := fun o bs d =>
  ⟨d.1.keepsB (b := b) ⟨Nat.le_refl _, fun c hc hcb => by rw [Heap.get_put, if_neg hcb]⟩ (fun q e => by have := (d.2 q e).1; omega), d.2⟩
theorem CkAt.mono {c : Ck} {v : List Value} (k : KD h N ro h' ro') (x : CkAt h N ro c v) : CkAt h' N ro' c v := by
  obtain ⟨o, cap, e, d⟩ := x; exact ⟨o, cap, e, k _ _ d⟩
theorem MgAt.mono {c : Mg} {v : List Value} (k : KD h N ro h' ro') (x : MgAt h N ro c v) : MgAt h' N ro' c v := by
  obtain ⟨o, cap, e, d⟩ := x; exact ⟨o, cap, e, k _ _ d⟩
theorem ChL.mono (k : KD h N ro h' ro') : ∀ {es : List (Value × Value × Nat)} {l : List (Nat × Ck)}, ChL h N ro es l → ChL h' N ro' es l
  | [], [], _ => trivial
  | _ :: _, _ :: _, ⟨⟨e, v, e', x⟩, r⟩ => ⟨⟨e, v, e', x.mono k⟩, ChL.mono k r⟩
  | [], _ :: _, x => x.elim
  | _ :: _, [], x => x.elim
theorem StL.mono (k : KD h N ro h' ro') : ∀ {es : List (Value × Value × Nat)} {l : List ((Nat × Nat) × Mg)}, StL h N ro es l → StL h' N ro' es l
  | [], [], _ => trivial
  | _ :: _, _ :: _, ⟨⟨e, v, e', x⟩, r⟩ => ⟨⟨e, v, e', x.mono k⟩, StL.mono k r⟩
  | [], _ :: _, x => x.elim
  | _ :: _, [], x => x.elim
theorem ChC.mono (k : KD h N ro h' ro') {es : List (Value × Value × Nat)} {cc : Nat} {l : List (Nat × Ck)} (s : ChC h N ro es cc l) : ChC h' N ro' es cc l := ⟨s.l.mono k, s.lt⟩
theorem StC.mono (k : KD h N ro h' ro') {es : List (Value × Value × Nat)} {cc : Nat} {l : List ((Nat × Nat) × Mg)} (s : StC h N ro es cc l) : StC h' N ro' es cc l := ⟨s.l.mono k, s.lt⟩
theorem RdL.mono (k : KD h N ro h' ro') : ∀ {l : List Mg} {cs : List Value}, RdL h N ro cs l → RdL h' N ro' cs l
  | [], _, x => x
  | _ :: _, _, ⟨v, cs', e, x, r⟩ => ⟨v, cs', e, x.mono k, RdL.mono k r⟩
theorem CkL.mono (k : KD h N ro h' ro') : ∀ {l : List Ck} {cs : List Value}, CkL h N ro cs l → CkL h' N ro' cs l
  | [], _, x => x
  | _ :: _, _, ⟨v, cs', e, x, r⟩ => ⟨v, cs', e, x.mono k, CkL.mono k r⟩
theorem Jn.keeps {nx : List Nat} {ch : List (Nat × Ck)} {st : List ((Nat × Nat) × Mg)} {rd : List Mg} {held : Nat} (j : Jn h N nx ch st rd held ro) (k : Keeps h h') : Jn h' N nx ch st rd held ro := by
  obtain ⟨up, top, nxt, ⟨es, cc, e1, e2⟩, ⟨fs, fc, f1, f2⟩, ⟨cs, a, r⟩, ofr⟩ := j
  have kd : KD h N ro h' ro := KD.keeps k
  exact ⟨Nat.le_trans up k.next, by rw [k.get _ (by omega)]; exact top, by rw [k.get _ (by omega)]; exact nxt, ⟨es, cc, by rw [k.get _ (by omega)]; exact e1, e2.mono kd⟩, ⟨fs, fc, by rw [k.get _ (by omega)]; exact f1, f2.mono kd⟩, ⟨cs, a.keeps k, r.mono kd⟩, ofr⟩
/-! looked up, put, deleted -/
theorem ChL.find (k : Nat) : ∀ {es : List (Value × Value × Nat)} {l : List (Nat × Ck)}, ChL h N ro es l →
    (l.find? (fun p => p.1 == k) = none → mFind (.one 1) (.int .u32 (k : Int)) es = some none) ∧
    ∀ p, l.find? (fun p => p.1 == k) = some p → ∃ v s, mFind (.one 1) (.int .u32 (k : Int)) es = some (some (.agg v.toArray, s)) ∧ CkAt h N ro p.2 v
  | [], [], _ => ⟨fun _ => rfl, fun p e => by cases e⟩
  | [], _ :: _, x => x.elim
  | _ :: _, [], x => x.elim
  | (ek, ev, es0) :: es, (a, c) :: l, ⟨⟨e, v, e', x⟩, r⟩ => by
    cases e
    cases e'
    have ih := ChL.find k r
    have hm : mFind (.one 1) (.int .u32 (k : Int)) ((.int .u32 (a : Int), Value.agg v.toArray, es0) :: es) = (match eqV (.one 1) (Value.int .u32 (k : Int)) (Value.int .u32 (a : Int)) with | some true => some (some (.agg v.toArray, es0)) | some false => mFind (.one 1) (.int .u32 (k : Int)) es | none => none) := rfl
    rw [hm, eqV_int, List.find?_cons]
    cases hb : Nat.beq k a with
    | true =>
      have := Nat.eq_of_beq_eq_true hb
      subst this
      simp only [beq_self_eq_true]
      exact ⟨fun e => (by cases e), fun p e => (by cases e; exact ⟨v, es0, rfl, x⟩)⟩
    | false =>
      have : (a == k) = false := by rw [← Bool.not_eq_true, beq_iff_eq]; intro e; rw [e] at hb; simp at hb
      simp only [this]
      exact ih
theorem ChL.put {k : Nat} {v : List Value} {cc : Nat} {c : Ck} (hc : CkAt h N ro c v) : ∀ {es : List (Value × Value × Nat)} {l : List (Nat × Ck)}, ChL h N ro es l → l.find? (fun p => p.1 == k) = none →
    ∃ es' cc', mPut (.one 1) (.int .u32 (k : Int)) (Value.agg v.toArray) cc es = some (es', cc') ∧ ChL h N ro es' (l ++ [(k, c)])
  | [], [], _, _ => ⟨_, _, rfl, ⟨rfl, v, rfl, hc⟩, trivial⟩
  | [], _ :: _, x, _ => x.elim
  | _ :: _, [], x, _ => x.elim
  | (ek, ev, es0) :: es, (a, c') :: l, ⟨⟨e, v', e', x⟩, r⟩, hn => by
    cases e
    cases e'
    rw [List.find?_cons] at hn
    cases hb : (a == k) with
    | true => rw [hb] at hn; cases hn
    | false =>
      rw [hb] at hn
      obtain ⟨es', cc', h1, h2⟩ := ChL.put hc r hn
      have hk : Nat.beq k a = false := by
        rw [← Bool.not_eq_true]; intro e; have := Nat.eq_of_beq_eq_true e; subst this; simp at hb
      refine ⟨(.int .u32 (a : Int), Value.agg v'.toArray, es0) :: es', cc', ?_, ⟨⟨rfl, v', rfl, x⟩, h2⟩⟩
      show (match eqV (.one 1) (Value.int .u32 (k : Int)) (Value.int .u32 (a : Int)) with
        | some true => some ((Value.int .u32 (k : Int), Value.agg v.toArray, es0) :: es, cc)
        | some false => (match mPut (.one 1) (.int .u32 (k : Int)) (.agg v.toArray) cc es with | some (r, c) => some ((Value.int .u32 (a : Int), Value.agg v'.toArray, es0) :: r, c) | none => none)
        | none => none) = _
      rw [eqV_int, hk, h1]
def delK (k : Nat) : List (Nat × Ck) → List (Nat × Ck)
  | [] => []
  | (a, c) :: l => if k = a then l else (a, c) :: delK k l
theorem ChL.del (k : Nat) : ∀ {es : List (Value × Value × Nat)} {l : List (Nat × Ck)}, ChL h N ro es l → ∃ es', mDel (.one 1) (.int .u32 (k : Int)) es = some es' ∧ ChL h N ro es' (delK k l)
  | [], [], _ => ⟨_, rfl, trivial⟩
  | [], _ :: _, x => x.elim
  | _ :: _, [], x => x.elim
  | (ek, ev, es0) :: es, (a, c') :: l, ⟨⟨e, v', e', x⟩, r⟩ => by
    cases e
    cases e'
    obtain ⟨es', h1, h2⟩ := ChL.del k r
    have hm : mDel (.one 1) (.int .u32 (k : Int)) ((.int .u32 (a : Int), Value.agg v'.toArray, es0) :: es) = (match eqV (.one 1) (Value.int .u32 (k : Int)) (Value.int .u32 (a : Int)) with
        | some true => some es
        | some false => (match mDel (.one 1) (.int .u32 (k : Int)) es with | some r => some ((Value.int .u32 (a : Int), Value.agg v'.toArray, es0) :: r) | none => none)
        | none => none) := rfl
    rw [hm, eqV_int, delK]
    cases hb : Nat.beq k a with
    | true => rw [if_pos (Nat.eq_of_beq_eq_true hb)]; exact ⟨es, rfl, r⟩
    | false =>
      have : k ≠ a := by intro e; rw [e] at hb; simp at hb
      rw [if_neg this, h1]
      exact ⟨_, rfl, ⟨rfl, v', rfl, x⟩, h2⟩
theorem mPut_lt {N : KT} {k v : Value} : ∀ {es es' : List (Value × Value × Nat)} {c c' : Nat}, mPut N k v c es = some (es', c') → (∀ e ∈ es, e.2.2 < c) → c ≤ c' ∧ ∀ e ∈ es', e.2.2 < c'
  | [], es', c, c', h, _ => by
    cases h
    exact ⟨Nat.le_succ c, fun e he => by rw [List.mem_singleton.1 he]; exact Nat.lt_succ_self c⟩
  | (ek, ev, s) :: es, es', c, c', h, hl => by
    have h : (match eqV N k ek with
      | some true => some ((k, v, s) :: es, c)
      | some false => (match mPut N k v c es with | some (r, c) => some ((ek, ev, s) :: r, c) | none => none)
      | none => none) = some (es', c') := h
    split at h
    · cases h
      refine ⟨Nat.le_refl _, fun e he => ?_⟩
      rcases List.mem_cons.1 he with rfl | he
      · exact hl (ek, ev, s) (List.mem_cons_self ..)
      · exact hl e (List.mem_cons_of_mem _ he)
    · split at h
      · rename_i r c2 hp
        cases h
        obtain ⟨h1, h2⟩ := mPut_lt hp (fun e he => hl e (List.mem_cons_of_mem _ he))
        refine ⟨h1, fun e he => ?_⟩
        rcases List.mem_cons.1 he with rfl | he
        · exact Nat.lt_of_lt_of_le (hl (ek, ev, s) (List.mem_cons_self ..)) h1
        · exact h2 e he
      · cases h
    · cases h
theorem mDel_sub {N : KT} {k : Value} : ∀ {es es' : List (Value × Value × Nat)}, mDel N k es = some es' → ∀ e ∈ es', e ∈ es
  | [], es', h, e, he => by cases h; exact he
  | (ek, ev, s) :: es, es', h, e, he => by
    have h : (match eqV N k ek with
      | some true => some es
      | some false => (match mDel N k es with | some r => some ((ek, ev, s) :: r) | none => none)
      | none => none) = some es' := h
    split at h
    · cases h; exact List.mem_cons_of_mem _ he
    · split at h
      · rename_i r hp
        cases h
        rcases List.mem_cons.1 he with rfl | he
        · exact List.mem_cons_self ..
        · exact List.mem_cons_of_mem _ (mDel_sub hp e he)
      · cases h
    · cases h
theorem ChC.find (k : Nat) {es : List (Value × Value × Nat)} {cc : Nat} {l : List (Nat × Ck)} (s : ChC h N ro es cc l) :
    (l.find? (fun p => p.1 == k) = none → mFind (.one 1) (.int .u32 (k : Int)) es = some none) ∧
    ∀ p, l.find? (fun p => p.1 == k) = some p → ∃ v s, mFind (.one 1) (.int .u32 (k : Int)) es = some (some (.agg v.toArray, s)) ∧ CkAt h N ro p.2 v := s.l.find k
theorem ChC.put {k : Nat} {v : List Value} {cc : Nat} {c : Ck} (hc : CkAt h N ro c v) {es : List (Value × Value × Nat)} {l : List (Nat × Ck)} (s : ChC h N ro es cc l) (hz : l.find? (fun p => p.1 == k) = none) :
    ∃ es' cc', mPut (.one 1) (.int .u32 (k : Int)) (Value.agg v.toArray) cc es = some (es', cc') ∧ ChC h N ro es' cc' (l ++ [(k, c)]) := by
  obtain ⟨es', cc', h1, h2⟩ := ChL.put (cc := cc) hc s.l hz
  exact ⟨es', cc', h1, h2, (mPut_lt h1 s.lt).2⟩
theorem ChC.del (k : Nat) {es : List (Value × Value × Nat)} {cc : Nat} {l : List (Nat × Ck)} (s : ChC h N ro es cc l) : ∃ es', mDel (.one 1) (.int .u32 (k : Int)) es = some es' ∧ ChC h N ro es' cc (delK k l) := by
  obtain ⟨es', h1, h2⟩ := ChL.del k s.l
  exact ⟨es', h1, h2, fun e he => s.lt e (mDel_sub h1 e he)⟩
end
section
variable {h : Heap} {n : Nat}
theorem w_new {k : Nat} (hk : 1 ≤ k) (hk' : k ≤ 64) (hn : 1 ≤ n) :
    ResQ (callN Try.prog G0 n (.call 10 [.int .i64 (k : Int)]) h) (fun v h' => v = .pointer (some ⟨h.next + 3, 0, none⟩) ∧ Keeps h h' ∧ Jn h' h.next (List.replicate k 0) [] [] [] 0 none) := by
  obtain ⟨n, rfl⟩ : ∃ m, n = m + 1 := ⟨n - 1, by omega⟩
  refine res_enter rfl d10 rfl ?_; simp only [c10]
  refine gg ?_
  rw [decide_eq_false (p := ((k : Nat) : Int) < 1) (by omega), decide_eq_false (p := (64 : Int) < ((k : Nat) : Int)) (by omega)]
  refine gg ?_
  refine items_cons (it_a (mk_slice (l := k) (c := k) (by exact sel_of rfl) (by exact sel_of rfl) (Nat.le_refl _) (by omega) (by omega)) ?_)
  show ItQ (runItems _ _ (puts ((10, .slice (some ⟨h.next, 0, none⟩) k k) :: _) _) _) _
  refine i_makeMap ?_
  refine i_makeMap ?_
  refine gg ?_
  refine ⟨rfl, ((((Keeps.new h _).trans (Keeps.new _ _)).trans (Keeps.new _ _)).trans (Keeps.new _ _)), ?_⟩
  have hrep : rep k [Value.int .u16 0] = (List.replicate k 0).map fun (x : Nat) => Value.int .u16 (x : Int) := by
    clear hk hk'
    induction k with
    | zero => rfl
    | succ k ih => rw [List.replicate_succ, List.map_cons, ← ih]; rfl
  refine ⟨Nat.le_refl _, ?_, ?_, ⟨[], 0, ?_, ⟨trivial, fun e h => by cases h⟩⟩, ⟨[], 0, ?_, ⟨trivial, fun e h => by cases h⟩⟩, ⟨[], Ap.nil _ _ _ _, rfl⟩, fun r e => by cases e⟩
  · rw [Heap.get_new, if_pos (by rfl)]
    simp only [jcells, List.length_replicate]
    rfl
  · rw [Heap.get_new, if_neg (by show h.next ≠ h.next + 3; omega), Heap.get_new, if_neg (by show h.next ≠ h.next + 2; omega), Heap.get_new, if_neg (by show h.next ≠ h.next + 1; omega), Heap.get_new, if_pos rfl, hrep]
  · rw [Heap.get_new, if_neg (by show h.next + 1 ≠ h.next + 3; omega), Heap.get_new, if_neg (by show h.next + 1 ≠ h.next + 2; omega), Heap.get_new, if_pos (by rfl)]
  · rw [Heap.get_new, if_neg (by show h.next + 2 ≠ h.next + 3; omega), Heap.get_new, if_pos (by rfl)]
theorem w_knows {N : Nat} {nx : List Nat} {ch : List (Nat × Ck)} {st : List ((Nat × Nat) × Mg)} {rd : List Mg} {held : Nat} {ro : Option Addr} (j : Jn h N nx ch st rd held ro) {s : Nat} (hs : s < nx.length) (hs' : s < 65536) (hn : 1 ≤ n) :
    ResQ (callN Try.prog G0 n (.call 19 [.pointer (some ⟨N + 3, 0, none⟩), .int .u16 (s : Int)]) h) (fun v h' => v = .bool true ∧ h = h') := by
  have top := j.top
  obtain ⟨n, rfl⟩ : ∃ m, n = m + 1 := ⟨n - 1, by omega⟩
  refine res_enter rfl d19 rfl ?_; simp only [c19]
  refine gg ?_; repeat (refine i_ldown (by exact sel_of rfl) (by assumption) (by rfl) ?_; refine gg ?_)
  refine ⟨?_, rfl⟩
  rw [decide_eq_true (p := (s : Int) < ((nx.length : Nat) : Int)) (by omega)]
end
end Go.Proofs.Ytnffglfpjcbfaaa

/-! split.Follows, walked where it does not. -/
set_option linter.unusedVariables false
namespace Go.Proofs.Ytnffglfpjcbfaaa
open Go Vm
section
variable {h : Heap} {n : Nat}
set_option maxHeartbeats 2000000 in
theorem w_followsN {a b : Ck} {o o' : Option Addr} {c c' : Nat} (ha : a.wf) (hb : b.wf) (hf : ¬ Fol a b) (hn : 1 ≤ n) :
    ResQ (callN Try.prog G0 n (.call 30 [.agg (ckv a o c).toArray, .agg (ckv b o' c').toArray]) h) (fun v h' => v = .bool false ∧ Keeps h h') := by
  obtain ⟨n, rfl⟩ : ∃ m, n = m + 1 := ⟨n - 1, by omega⟩
  refine res_enter rfl d30 rfl ?_; simp only [c30]
  refine o_cut (fun f h1 => (Keeps h h1 ∧ h1.get h.next = some (.cells 42 (ckv a o c) (.own false)) ∧ h1.get (h.next + 1) = some (.cells 42 (ckv b o' c') (.own false))) ∧ Sl [(2, .pointer (some ⟨h.next, 0, none⟩)), (3, .pointer (some ⟨h.next + 1, 0, none⟩))] f) ?_ ?_
  · refine gg ?_
    obtain ⟨g1, g2, k1, n1⟩ := box_two h (.cells 42 (ckv a o c) (.own false)) (.cells 42 (ckv b o' c') (.own false))
    exact ⟨rfl, ⟨k1, g1, g2⟩, sel_of rfl, sel_of rfl, trivial⟩
  rintro f1 h1 ⟨⟨k1, g1, g2⟩, hs⟩
  obtain ⟨f0, rfl⟩ := hs.puts
  clear hs
  refine o_cut (fun f h2 => h2 = h1 ∧ Sl [(2, .pointer (some ⟨h.next, 0, none⟩)), (3, .pointer (some ⟨h.next + 1, 0, none⟩)), (5, .bool true)] f) ?_ ?_
  · refine gg ?_; repeat (refine i_ldown (by exact sel_of rfl) (by assumption) (by rfl) ?_; refine gg ?_)
    exact ⟨rfl, rfl, sel_of rfl, sel_of rfl, sel_of rfl, trivial⟩
  rintro f2 h2 ⟨e, hs⟩
  subst e
  obtain ⟨f0, rfl⟩ := hs.puts
  clear hs
  refine o_cut (fun f h3 => h3 = h2 ∧ ∃ b6 : Bool, (b6 = true → a.out = b.out ∧ a.inn = b.inn ∧ a.pp = b.pp ∧ (a.fl ^^^ b.fl) &&& 4 = 0) ∧ Sl [(2, .pointer (some ⟨h.next, 0, none⟩)), (3, .pointer (some ⟨h.next + 1, 0, none⟩)), (5, .bool true), (6, .bool b6)] f) ?_ ?_
  · refine gg ?_; repeat (refine i_ldown (by exact sel_of rfl) (by assumption) (by rfl) ?_; refine gg ?_)
    by_cases e1 : a.out = b.out
    · rw [decide_eq_true (congrArg (Nat.cast : Nat → Int) e1)]
      refine gg ?_; repeat (refine i_ldown (by exact sel_of rfl) (by assumption) (by rfl) ?_; refine gg ?_)
      by_cases e2 : a.inn = b.inn
      · rw [decide_eq_true (congrArg (Nat.cast : Nat → Int) e2)]
        refine gg ?_; repeat (refine i_ldown (by exact sel_of rfl) (by assumption) (by rfl) ?_; refine gg ?_)
        by_cases e3 : a.pp = b.pp
        · rw [decide_eq_true (congrArg (Nat.cast : Nat → Int) e3)]
          refine gg ?_; repeat (refine i_ldown (by exact sel_of rfl) (by assumption) (by rfl) ?_; refine gg ?_)
          refine i_xorn 8 (by exact sel_of rfl) (by exact sel_of rfl) rfl ha.fl hb.fl ?_
          refine gg ?_
          refine i_andn 8 (by exact sel_of rfl) (by rfl) rfl (Nat.xor_lt_two_pow ha.fl hb.fl) ?_
          refine gg ?_
          exact ⟨rfl, rfl, _, fun e => ⟨e1, e2, e3, by simpa using Int.ofNat.inj (of_decide_eq_true e)⟩, sel_of rfl, sel_of rfl, sel_of rfl, sel_of rfl, trivial⟩
        · rw [decide_eq_false (p := ((a.pp : Nat) : Int) = ((b.pp : Nat) : Int)) (fun e => e3 (Int.ofNat.inj e))]
          refine gg ?_; repeat (refine i_ldown (by exact sel_of rfl) (by assumption) (by rfl) ?_; refine gg ?_)
          exact ⟨rfl, rfl, false, (fun e => by cases e), sel_of rfl, sel_of rfl, sel_of rfl, sel_of rfl, trivial⟩
      · rw [decide_eq_false (p := ((a.inn : Nat) : Int) = ((b.inn : Nat) : Int)) (fun e => e2 (Int.ofNat.inj e))]
        refine gg ?_; repeat (refine i_ldown (by exact sel_of rfl) (by assumption) (by rfl) ?_; refine gg ?_)
        exact ⟨rfl, rfl, false, (fun e => by cases e), sel_of rfl, sel_of rfl, sel_of rfl, sel_of rfl, trivial⟩
    · rw [decide_eq_false (p := ((a.out : Nat) : Int) = ((b.out : Nat) : Int)) (fun e => e1 (Int.ofNat.inj e))]
      refine gg ?_; repeat (refine i_ldown (by exact sel_of rfl) (by assumption) (by rfl) ?_; refine gg ?_)
      exact ⟨rfl, rfl, false, (fun e => by cases e), sel_of rfl, sel_of rfl, sel_of rfl, sel_of rfl, trivial⟩
  rintro f3 h3 ⟨e, b6, h6, hs⟩
  subst e
  obtain ⟨f0, rfl⟩ := hs.puts
  clear hs
  cases b6 with
  | false =>
    refine gg ?_; repeat (refine i_ldown (by exact sel_of rfl) (by assumption) (by rfl) ?_; refine gg ?_)
    exact ⟨rfl, k1⟩
  | true =>
    obtain ⟨e1, e2, e3, e4⟩ := h6 rfl
    refine gg ?_; repeat (refine i_ldown (by exact sel_of rfl) (by assumption) (by rfl) ?_; refine gg ?_)
    refine i_addW (by exact sel_of rfl) (by rfl) (add32 a.A 1) ?_
    refine gg ?_; repeat (refine i_ldown (by exact sel_of rfl) (by assumption) (by rfl) ?_; refine gg ?_)
    by_cases e5 : b.A = (a.A + 1) % 4294967296
    · rw [decide_eq_true (congrArg (Nat.cast : Nat → Int) e5)]
      refine gg ?_; repeat (refine i_ldown (by exact sel_of rfl) (by assumption) (by rfl) ?_; refine gg ?_)
      refine i_andn 8 (by exact sel_of rfl) (by rfl) rfl ha.fl ?_
      refine gg ?_; repeat (refine i_ldown (by exact sel_of rfl) (by assumption) (by rfl) ?_; refine gg ?_)
      by_cases e6 : a.fl &&& 1 = 0
      · rw [decide_eq_true (p := ((a.fl &&& 1 : Nat) : Int) = 0) (by rw [e6]; rfl)]
        refine gg ?_; repeat (refine i_ldown (by exact sel_of rfl) (by assumption) (by rfl) ?_; refine gg ?_)
        refine i_andn 8 (by exact sel_of rfl) (by rfl) rfl hb.fl ?_
        refine gg ?_; repeat (refine i_ldown (by exact sel_of rfl) (by assumption) (by rfl) ?_; refine gg ?_)
        by_cases e7 : b.fl &&& 2 = 0
        · exact absurd ⟨e1, e2, e3, e4, e5, e6, e7⟩ hf
        · rw [decide_eq_false (p := ((b.fl &&& 2 : Nat) : Int) = 0) (fun e => e7 (Int.ofNat.inj e))]
          exact ⟨rfl, k1⟩
      · rw [decide_eq_false (p := ((a.fl &&& 1 : Nat) : Int) = 0) (fun e => e6 (Int.ofNat.inj e))]
        refine gg ?_; repeat (refine i_ldown (by exact sel_of rfl) (by assumption) (by rfl) ?_; refine gg ?_)
        exact ⟨rfl, k1⟩
    · rw [decide_eq_false (p := ((b.A : Nat) : Int) = (((a.A + 1) % 4294967296 : Nat) : Int)) (fun e => e5 (Int.ofNat.inj e))]
      refine gg ?_; repeat (refine i_ldown (by exact sel_of rfl) (by assumption) (by rfl) ?_; refine gg ?_)
      exact ⟨rfl, k1⟩
end
end Go.Proofs.Ytnffglfpjcbfaaa

/-! Join.run, walked. -/
set_option linter.unusedVariables false
namespace Go.Proofs.Ytnffglfpjcbfaaa
open Go Vm
def prev (A : Nat) : Nat := (A + 4294967296 - 1) % 4294967296
def succ32 (A : Nat) : Nat := (A + 1) % 4294967296
abbrev look (ch : List (Nat × Ck)) (k : Nat) : Option (Nat × Ck) := ch.find? fun p => p.1 == k
/-- which chunk begins -/
inductive Back (ch : List (Nat × Ck)) : Nat → Ck → Option Ck → Prop
  | here {m : Nat} {c : Ck} (h : c.fl &&& 2 = 2) : Back ch m c (some c)
  | gone {m : Nat} {c : Ck} (h : c.fl &&& 2 = 0) (g : look ch (prev c.A) = none) : Back ch m c none
  | noFol {m : Nat} {c x : Ck} {k : Nat} (h : c.fl &&& 2 = 0) (g : look ch (prev c.A) = some (k, x)) (f : ¬ Fol x c) (w : x.wf) : Back ch m c none
  | step {m : Nat} {c x : Ck} {k : Nat} {r : Option Ck} (h : c.fl &&& 2 = 0) (g : look ch (prev c.A) = some (k, x)) (f : Fol x c) (w : x.wf) (b : Back ch m x r) : Back ch (m + 1) c r
/-- which follow -/
inductive Forth (ch : List (Nat × Ck)) : Nat → Ck → Option (List Ck) → Prop
  | here {m : Nat} {c : Ck} (h : c.fl &&& 1 = 1) : Forth ch m c (some [])
  | gone {m : Nat} {c : Ck} (h : c.fl &&& 1 = 0) (g : look ch (succ32 c.A) = none) : Forth ch m c none
  | noFol {m : Nat} {c x : Ck} {k : Nat} (h : c.fl &&& 1 = 0) (g : look ch (succ32 c.A) = some (k, x)) (f : ¬ Fol c x) (w : x.wf) : Forth ch m c none
  | step {m : Nat} {c x : Ck} {k : Nat} {r : Option (List Ck)} (h : c.fl &&& 1 = 0) (g : look ch (succ32 c.A) = some (k, x)) (f : Fol c x) (w : x.wf) (b : Forth ch m x r) : Forth ch (m + 1) c (r.map (x :: ·))
def zck : Value := .agg #[.int .u8 0, .int .u8 0, .int .u32 0, .int .u32 0, .int .u16 0, .int .u16 0, .int .u32 0, .slice none 0 0, .slice none 0 0, .slice none 0 0, .slice none 0 0, .slice none 0 0]
theorem ckv_length (c : Ck) (o : Option Addr) (cap : Nat) : (ckv c o cap).length = 12 := rfl
theorem CkAt.length {h : Heap} {N : Nat} {ro : Option Addr} {c : Ck} {v : List Value} (x : CkAt h N ro c v) : v.length = 12 := by
  obtain ⟨o, cap, rfl, _⟩ := x; rfl
theorem putB (h : Heap) (b : Nat) (x : Blk) : KeepsB b h (h.put b x) := ⟨Nat.le_refl _, fun c _ hc => by rw [Heap.get_put, if_neg hc]⟩
theorem apB {B b : Nat} {h h' : Heap} {e sz : Nat} {o : Option Addr} {n c : Nat} {cs : List Value} (p : Ap B h e sz o n c cs) (k : KeepsB b h h') (ho : Off b o) : Ap B h' e sz o n c cs := by
  refine ⟨p.1, p.2.1.keepsB k ho, fun q hq => ?_⟩
  rcases p.2.2 q hq with hs | ⟨d, rfl, h1, h2⟩
  · exact .inl hs
  · subst hq
    exact .inr ⟨d, rfl, h1, by rw [k.get d p.2.1.2.1 (ho _ rfl)]; exact h2⟩
section
variable {h : Heap} {n : Nat} {N : Nat} {nx : List Nat} {ch : List (Nat × Ck)} {st : List ((Nat × Nat) × Mg)} {rd : List Mg} {held : Nat} {ro : Option Addr}
theorem CkAt.keeps {h' : Heap} {c : Ck} {v : List Value} (x : CkAt h N ro c v) (k : Keeps h h') : CkAt h' N ro c v := x.mono (KD.keeps k)
theorem CkL.snoc {c : Ck} {v : List Value} (hv : CkAt h N ro c v) : ∀ {l : List Ck} {cs : List Value}, CkL h N ro cs l → CkL h N ro (cs ++ v) (l ++ [c])
  | [], _, e => ⟨v, [], by rw [show _ = _ from e]; simp, hv, rfl⟩
  | _ :: _, _, ⟨w, cs', e, x, r⟩ => ⟨w, cs' ++ v, by rw [e, List.append_assoc], x, CkL.snoc hv r⟩
/-- what comes of a run -/
def RunQ (h : Heap) (N : Nat) (ro : Option Addr) (r : Option (List Ck)) (v : Value) (h' : Heap) : Prop :=
  Keeps h h' ∧ match r with
    | none => v = .slice none 0 0
    | some l => ∃ o cs, v = .slice o l.length l.length ∧ Ap h.next h' 42 12 o l.length l.length cs ∧ (∀ q, o = some q → h.next ≤ q.block) ∧ CkL h' N ro cs l
set_option maxHeartbeats 2000000 in
theorem w_runB (j : Jn h N nx ch st rd held ro) {c : Ck} {v : List Value} (hc : CkAt h N ro c v) (wc : c.wf) {m : Nat} (hb : Back ch m c none) (hn : m + 2 ≤ n) :
    ResQ (callN Try.prog G0 n (.call 21 [.pointer (some ⟨N + 3, 0, none⟩), .agg v.toArray]) h) (RunQ h N ro none) := by
  have hvl := hc.length
  obtain ⟨n, rfl⟩ : ∃ m, n = m + 1 := ⟨n - 1, by omega⟩
  refine res_enter rfl d21 rfl ?_; simp only [c21]
  refine o_cut (fun f h1 => (Keeps h h1 ∧ h1.next = h.next + 1 ∧ h1.get h.next = some (.cells 42 v (.own false))) ∧ Sl [(0, .pointer (some ⟨N + 3, 0, none⟩)), (3, .pointer (some ⟨h.next, 0, none⟩))] f) ?_ ?_
  · refine gg ?_
    exact ⟨rfl, ⟨Keeps.new h _, rfl, by rw [Heap.get_new, if_pos rfl]⟩, sel_of rfl, sel_of rfl, trivial⟩
  rintro f1 h1 ⟨⟨k1, n1, g1⟩, hs⟩
  obtain ⟨f0, rfl⟩ := hs.puts
  clear hs
  refine o_cut (fun f h2 => (Keeps h h2 ∧ h.next + 1 < h2.next ∧ h2.get (h.next + 1) = some (.cells 42 v (.own false))) ∧ Sl [(0, .pointer (some ⟨N + 3, 0, none⟩)), (5, .pointer (some ⟨h.next + 1, 0, none⟩))] f) ?_ ?_
  · refine gg ?_
    refine i_loadN (v := v) (by exact sel_of rfl) (loadN_all g1 hvl) ?_
    refine gg ?_
    rw [n1]
    refine i_storeF (vs := v) (k1.trans (Keeps.new h1 _)) (Nat.le_succ _) (by exact sel_of rfl) (by rw [sel_of rfl]; rfl) (by rw [Heap.get_new, if_pos n1.symm]) hvl rfl (by show _ < h1.next + 1; omega) fun h2 k2 g2 lt2 => ?_
    refine gg ?_
    exact ⟨rfl, ⟨k2, lt2, g2⟩, sel_of rfl, sel_of rfl, trivial⟩
  rintro f2 h2 ⟨⟨k2, n2, g2⟩, hs⟩
  refine o_seq (o_while (fun m f h' => ∃ (c : Ck) (v : List Value), (Keeps h h' ∧ h.next + 1 < h'.next ∧ h'.get (h.next + 1) = some (.cells 42 v (.own false))) ∧ CkAt h N ro c v ∧ c.wf ∧ Back ch m c none ∧ Sl [(0, .pointer (some ⟨N + 3, 0, none⟩)), (5, .pointer (some ⟨h.next + 1, 0, none⟩))] f) m (by omega) ⟨c, v, ⟨k2, n2, g2⟩, hc, wc, hb, hs⟩ ?_)
  clear hb hc wc hvl k1 n1 g1 k2 n2 g2 hs v c
  rintro m f h' ⟨c, v, ⟨k, n', g⟩, hc, wc, hb, hs⟩
  obtain ⟨f0, rfl⟩ := hs.puts
  have hvl := hc.length
  obtain ⟨o, cap, rfl, hd⟩ := hc
  have jk := j.keeps k
  have top := jk.top
  obtain ⟨es, cc, gm0, hes⟩ := j.chs
  have gm : h'.get (N + 1) = some (.map es cc) := (k.get _ (by have := j.up; omega)).trans gm0
  simp only [c21_0]
  refine gg ?_; repeat (refine i_ldown (by exact sel_of rfl) (by assumption) (by rfl) ?_; refine gg ?_)
  have h0 : c.fl &&& 2 = 0 := by cases hb <;> assumption
  refine i_and0 8 (by exact sel_of rfl) (by rfl) rfl wc.fl h0 ?_
  refine gg ?_; repeat (refine i_ldown (by exact sel_of rfl) (by assumption) (by rfl) ?_; refine gg ?_)
  refine i_subW (by exact sel_of rfl) (by rfl) (sub32 c.A (by decide : 1 < 4294967296)) ?_
  have fz : look ch (prev c.A) = none ∨ ∃ p, look ch (prev c.A) = some p := by cases look ch (prev c.A) <;> simp
  rcases fz with fz | ⟨p, fz⟩
  · refine i_lookup (ok := true) (res := none) (by exact sel_of rfl) gm (kv := .int .u32 ((prev c.A : Nat) : Int)) (by rw [sel_of rfl]; rfl) rfl ((hes.find _).1 fz) ?_
    show ItQ (runItems _ _ (puts ((25, .tuple #[zck, .bool false]) :: _) _) _) _
    refine gg ?_
    refine i_storeF (vs := [.int .u8 0, .int .u8 0, .int .u32 0, .int .u32 0, .int .u16 0, .int .u16 0, .int .u32 0, .slice none 0 0, .slice none 0 0, .slice none 0 0, .slice none 0 0, .slice none 0 0]) (k.trans (Keeps.new h' _)) k.next (by exact sel_of rfl) (by rw [sel_of rfl]; rfl) (by rw [Heap.get_new, if_pos rfl]) rfl rfl (Nat.lt_succ_self _) fun h3 k3 g3 lt3 => ?_
    refine gg ?_
    exact ⟨k3, rfl⟩
  · cases hb with
    | gone _ g' => rw [g'] at fz; cases fz
    | @noFol m _ x kx _ g' f wx =>
      obtain ⟨vx, sx, fe, cx⟩ := (hes.find _).2 _ g'
      refine i_lookup (ok := true) (res := some (.agg vx.toArray, sx)) (by exact sel_of rfl) gm (kv := .int .u32 ((prev c.A : Nat) : Int)) (by rw [sel_of rfl]; rfl) rfl fe ?_
      show ItQ (runItems _ _ (puts ((25, .tuple #[.agg vx.toArray, .bool true]) :: _) _) _) _
      refine gg ?_
      have lx := cx.length
      refine i_storeF (vs := vx) (Keeps.new h' _) (Nat.le_refl _) (by exact sel_of rfl) (by rw [sel_of rfl]; rfl) (by rw [Heap.get_new, if_pos rfl]) lx rfl (Nat.lt_succ_self _) fun h3 k3 g3 lt3 => ?_
      refine gg ?_
      refine i_loadN (v := vx) (by exact sel_of rfl) (loadN_all g3 lx) ?_
      refine gg ?_
      have g4 : h3.get (h.next + 1) = some (.cells 42 (ckv c o cap) (.own false)) := (k3.get _ n').trans g
      refine i_loadN (v := ckv c o cap) (by exact sel_of rfl) (loadN_all g4 rfl) ?_
      refine gg ?_
      obtain ⟨ox, capx, rfl, hdx⟩ := cx
      refine i_call2 (by exact sel_of rfl) (by exact sel_of rfl) (w_followsN wx wc f (by omega)) ?_
      rintro _ h4 ⟨rfl, k4⟩
      refine gg ?_
      exact ⟨(k.trans k3).trans k4, rfl⟩
    | @step m _ x kx _ _ g' f wx b =>
      obtain ⟨vx, sx, fe, cx⟩ := (hes.find _).2 _ g'
      refine i_lookup (ok := true) (res := some (.agg vx.toArray, sx)) (by exact sel_of rfl) gm (kv := .int .u32 ((prev c.A : Nat) : Int)) (by rw [sel_of rfl]; rfl) rfl fe ?_
      show ItQ (runItems _ _ (puts ((25, .tuple #[.agg vx.toArray, .bool true]) :: _) _) _) _
      refine gg ?_
      have lx := cx.length
      refine i_storeF (vs := vx) (Keeps.new h' _) (Nat.le_refl _) (by exact sel_of rfl) (by rw [sel_of rfl]; rfl) (by rw [Heap.get_new, if_pos rfl]) lx rfl (Nat.lt_succ_self _) fun h3 k3 g3 lt3 => ?_
      refine gg ?_
      refine i_loadN (v := vx) (by exact sel_of rfl) (loadN_all g3 lx) ?_
      refine gg ?_
      have g4 : h3.get (h.next + 1) = some (.cells 42 (ckv c o cap) (.own false)) := (k3.get _ n').trans g
      refine i_loadN (v := ckv c o cap) (by exact sel_of rfl) (loadN_all g4 rfl) ?_
      refine gg ?_
      obtain ⟨ox, capx, rfl, hdx⟩ := cx
      refine i_call2 (by exact sel_of rfl) (by exact sel_of rfl) (w_follows wx wc f (by omega)) ?_
      rintro _ h4 ⟨rfl, k4⟩
      refine gg ?_
      refine i_loadN (v := ckv x ox capx) (by exact sel_of rfl) (loadN_all ((k4.get _ lt3).trans g3) rfl) ?_
      refine gg ?_
      have lt4 : h.next + 1 < h4.next := Nat.lt_of_lt_of_le (Nat.lt_trans n' lt3) k4.next
      refine i_storeF (vs := ckv x ox capx) ((k.trans k3).trans k4) (Nat.le_succ _) (by exact sel_of rfl) (by rw [sel_of rfl]; rfl) ((k4.get _ (Nat.lt_trans n' lt3)).trans g4) rfl rfl lt4 fun h5 k5 g5 lt5 => ?_
      refine gg ?_
      exact rnd_n m (Nat.lt_succ_self _) ⟨x, ckv x ox capx, ⟨k5, lt5, g5⟩, ⟨ox, capx, rfl, hdx⟩, wx, b, sel_of rfl, sel_of rfl, trivial⟩
set_option maxHeartbeats 2000000 in
theorem w_runF (j : Jn h N nx ch st rd held ro) {c : Ck} {v : List Value} (hc : CkAt h N ro c v) (wc : c.wf) {m : Nat} {b : Ck} (hb : Back ch m c (some b)) (wb : b.wf) {m' : Nat} {r : Option (List Ck)} (hf : Forth ch m' b r) (hm : m' ≤ 100000) (hn : m + m' + 2 ≤ n) :
    ResQ (callN Try.prog G0 n (.call 21 [.pointer (some ⟨N + 3, 0, none⟩), .agg v.toArray]) h) (RunQ h N ro (r.map (b :: ·))) := by
  have hvl := hc.length
  obtain ⟨n, rfl⟩ : ∃ m, n = m + 1 := ⟨n - 1, by omega⟩
  refine res_enter rfl d21 rfl ?_; simp only [c21]
  refine o_cut (fun f h1 => (Keeps h h1 ∧ h1.next = h.next + 1 ∧ h1.get h.next = some (.cells 42 v (.own false))) ∧ Sl [(0, .pointer (some ⟨N + 3, 0, none⟩)), (3, .pointer (some ⟨h.next, 0, none⟩))] f) ?_ ?_
  · refine gg ?_
    exact ⟨rfl, ⟨Keeps.new h _, rfl, by rw [Heap.get_new, if_pos rfl]⟩, sel_of rfl, sel_of rfl, trivial⟩
  rintro f1 h1 ⟨⟨k1, n1, g1⟩, hs⟩
  obtain ⟨f0, rfl⟩ := hs.puts
  clear hs
  refine o_cut (fun f h2 => (Keeps h h2 ∧ h.next + 1 < h2.next ∧ h2.get (h.next + 1) = some (.cells 42 v (.own false))) ∧ Sl [(0, .pointer (some ⟨N + 3, 0, none⟩)), (5, .pointer (some ⟨h.next + 1, 0, none⟩))] f) ?_ ?_
  · refine gg ?_
    refine i_loadN (v := v) (by exact sel_of rfl) (loadN_all g1 hvl) ?_
    refine gg ?_
    rw [n1]
    refine i_storeF (vs := v) (k1.trans (Keeps.new h1 _)) (Nat.le_succ _) (by exact sel_of rfl) (by rw [sel_of rfl]; rfl) (by rw [Heap.get_new, if_pos n1.symm]) hvl rfl (by show _ < h1.next + 1; omega) fun h2 k2 g2 lt2 => ?_
    refine gg ?_
    exact ⟨rfl, ⟨k2, lt2, g2⟩, sel_of rfl, sel_of rfl, trivial⟩
  rintro f2 h2 ⟨⟨k2, n2, g2⟩, hs⟩
  refine o_seq (o_while (fun m f h' => ∃ (c : Ck) (v : List Value), (Keeps h h' ∧ h.next + 1 < h'.next ∧ h'.get (h.next + 1) = some (.cells 42 v (.own false))) ∧ CkAt h N ro c v ∧ c.wf ∧ Back ch m c (some b) ∧ Sl [(0, .pointer (some ⟨N + 3, 0, none⟩)), (5, .pointer (some ⟨h.next + 1, 0, none⟩))] f) m (by omega) ⟨c, v, ⟨k2, n2, g2⟩, hc, wc, hb, hs⟩ ?_)
  clear hb hc wc hvl k1 n1 g1 k2 n2 g2 hs v c
  rintro m f h' ⟨c, v, ⟨k, n', g⟩, hc, wc, hb, hs⟩
  obtain ⟨f0, rfl⟩ := hs.puts
  have hvl := hc.length
  obtain ⟨o, cap, rfl, hd⟩ := hc
  have jk := j.keeps k
  have top := jk.top
  obtain ⟨es, cc, gm0, hes⟩ := j.chs
  have gm : h'.get (N + 1) = some (.map es cc) := (k.get _ (by have := j.up; omega)).trans gm0
  simp only [c21_0]
  refine gg ?_; repeat (refine i_ldown (by exact sel_of rfl) (by assumption) (by rfl) ?_; refine gg ?_)
  cases hb with
  | here h2 =>
    refine i_and0 8 (by exact sel_of rfl) (by rfl) rfl wc.fl h2 ?_
    refine gg ?_
    refine i_loadN (v := ckv b o cap) (by exact sel_of rfl) (loadN_all g rfl) ?_
    refine i_bslice (cs := ckv b o cap) (by rfl) ?_
    refine gg ?_
    have kA : Keeps h' (h'.new (.cells 42 (ckv b o cap) (.own false))) := Keeps.new h' _
    have rA : Ap h.next (h'.new (.cells 42 (ckv b o cap) (.own false))) 42 12 (some ⟨h'.next, 0, none⟩) 1 1 (ckv b o cap) := ⟨rfl, Row.new (by simp) rfl (.inl rfl), fun q e => .inl (by cases e; rfl)⟩
    have nA : (h'.new (.cells 42 (ckv b o cap) (.own false))).next = h'.next + 1 := rfl
    generalize h'.new (.cells 42 (ckv b o cap) (.own false)) = hA at *
    have gA := (kA.get _ n').trans g
    refine i_loadN (v := ckv b o cap) (by exact sel_of rfl) (loadN_all gA rfl) ?_
    refine gg ?_
    have k0A := k.trans kA
    refine i_storeF (vs := ckv b o cap) (Keeps.new hA _) (Nat.le_refl _) (by exact sel_of rfl) (by rw [sel_of rfl]; rfl) (by rw [Heap.get_new, if_pos rfl]) rfl rfl (Nat.lt_succ_self _) fun hB kB gB ltB => ?_
    refine gg ?_
    refine o_while (fun m f h' => ∃ (c : Ck) (v : List Value) (acc : List Ck) (cs : List Value) (o8 : Option Addr) (B : Nat) (r' : Option (List Ck)),
      (Keeps h h' ∧ h.next ≤ B ∧ B < h'.next ∧ h'.get B = some (.cells 42 v (.own false))) ∧ Off B o8 ∧ (∀ q, o8 = some q → h.next ≤ q.block) ∧ CkAt h N ro c v ∧ c.wf ∧ Forth ch m c r' ∧ r'.map (acc ++ ·) = r.map (b :: ·) ∧ acc.length + m ≤ 100001 ∧ Ap h.next h' 42 12 o8 acc.length acc.length cs ∧ CkL h N ro cs acc ∧
      Sl [(0, .pointer (some ⟨N + 3, 0, none⟩)), (8, .slice o8 acc.length acc.length), (9, .pointer (some ⟨B, 0, none⟩))] f) m' (by omega)
      ⟨b, ckv b o cap, [b], ckv b o cap, some ⟨h'.next, 0, none⟩, hA.next, r, ⟨k0A.trans kB, k0A.next, ltB, gB⟩, (fun q e => by cases e; show h'.next ≠ hA.next; omega), (fun q e => by cases e; exact k.next), ⟨o, cap, rfl, hd⟩, wb, hf, rfl, by simp; omega, rA.keeps kB, ⟨_, [], by simp, ⟨o, cap, rfl, hd⟩, rfl⟩, sel_of rfl, sel_of rfl, sel_of rfl, trivial⟩ ?_
    clear rA kA nA gA k0A kB gB ltB jk top gm gm0 hes g hd wc hvl n' k hf hs
    rintro m f h' ⟨c, v, acc, cs, o8, B, r', ⟨k, hB0, hB1, g⟩, hoff, hflo, hc, wc, hf, hr, ha, ap, hcs, hs⟩
    obtain ⟨f0, rfl⟩ := hs.puts
    obtain ⟨o, cap, rfl, hd⟩ := hc
    have top := (j.keeps k).top
    obtain ⟨es, cc, gm0, hes⟩ := j.chs
    have gm : h'.get (N + 1) = some (.map es cc) := (k.get _ (by have := j.up; omega)).trans gm0
    simp only [c21_1]
    refine gg ?_; repeat (refine i_ldown (by exact sel_of rfl) (by assumption) (by rfl) ?_; refine gg ?_)
    cases hf with
    | here h1 =>
      refine i_and0 8 (by exact sel_of rfl) (by rfl) rfl wc.fl h1 ?_
      refine gg ?_
      rw [← hr]
      refine ⟨k, o8, cs, ?_, ?_, hflo, ?_⟩
      · simp
      · simpa using ap
      · simpa using hcs.mono (KD.keeps k)
    | gone h0 g' =>
      refine i_and0 8 (by exact sel_of rfl) (by rfl) rfl wc.fl h0 ?_
      refine gg ?_; repeat (refine i_ldown (by exact sel_of rfl) (by assumption) (by rfl) ?_; refine gg ?_)
      refine i_addW (by exact sel_of rfl) (by rfl) (add32 c.A 1) ?_
      refine i_lookup (ok := true) (res := none) (by exact sel_of rfl) gm (kv := .int .u32 ((succ32 c.A : Nat) : Int)) (by rw [sel_of rfl]; rfl) rfl ((hes.find _).1 g') ?_
      show ItQ (runItems _ _ (puts ((56, .tuple #[zck, .bool false]) :: _) _) _) _
      refine gg ?_
      refine i_storeF (vs := [.int .u8 0, .int .u8 0, .int .u32 0, .int .u32 0, .int .u16 0, .int .u16 0, .int .u32 0, .slice none 0 0, .slice none 0 0, .slice none 0 0, .slice none 0 0, .slice none 0 0]) (k.trans (Keeps.new h' _)) k.next (by exact sel_of rfl) (by rw [sel_of rfl]; rfl) (by rw [Heap.get_new, if_pos rfl]) rfl rfl (Nat.lt_succ_self _) fun h3 k3 g3 lt3 => ?_
      refine gg ?_
      rw [← hr]
      exact ⟨k3, rfl⟩
    | @noFol m _ x kx h0 g' f wx =>
      refine i_and0 8 (by exact sel_of rfl) (by rfl) rfl wc.fl h0 ?_
      refine gg ?_; repeat (refine i_ldown (by exact sel_of rfl) (by assumption) (by rfl) ?_; refine gg ?_)
      refine i_addW (by exact sel_of rfl) (by rfl) (add32 c.A 1) ?_
      obtain ⟨vx, sx, fe, cx⟩ := (hes.find _).2 _ g'
      refine i_lookup (ok := true) (res := some (.agg vx.toArray, sx)) (by exact sel_of rfl) gm (kv := .int .u32 ((succ32 c.A : Nat) : Int)) (by rw [sel_of rfl]; rfl) rfl fe ?_
      show ItQ (runItems _ _ (puts ((56, .tuple #[.agg vx.toArray, .bool true]) :: _) _) _) _
      refine gg ?_
      have lx := cx.length
      refine i_storeF (vs := vx) (Keeps.new h' _) (Nat.le_refl _) (by exact sel_of rfl) (by rw [sel_of rfl]; rfl) (by rw [Heap.get_new, if_pos rfl]) lx rfl (Nat.lt_succ_self _) fun h3 k3 g3 lt3 => ?_
      refine gg ?_
      have g4 : h3.get B = some (.cells 42 (ckv c o cap) (.own false)) := (k3.get _ hB1).trans g
      refine i_loadN (v := ckv c o cap) (by exact sel_of rfl) (loadN_all g4 rfl) ?_
      refine gg ?_
      refine i_loadN (v := vx) (by exact sel_of rfl) (loadN_all g3 lx) ?_
      refine gg ?_
      obtain ⟨ox, capx, rfl, hdx⟩ := cx
      refine i_call2 (by exact sel_of rfl) (by exact sel_of rfl) (w_followsN wc wx f (by omega)) ?_
      rintro _ h4 ⟨rfl, k4⟩
      refine gg ?_
      rw [← hr]
      exact ⟨(k.trans k3).trans k4, rfl⟩
    | @step m _ x kx r'' h0 g' f wx bk =>
      refine i_and0 8 (by exact sel_of rfl) (by rfl) rfl wc.fl h0 ?_
      refine gg ?_; repeat (refine i_ldown (by exact sel_of rfl) (by assumption) (by rfl) ?_; refine gg ?_)
      refine i_addW (by exact sel_of rfl) (by rfl) (add32 c.A 1) ?_
      obtain ⟨vx, sx, fe, cx⟩ := (hes.find _).2 _ g'
      refine i_lookup (ok := true) (res := some (.agg vx.toArray, sx)) (by exact sel_of rfl) gm (kv := .int .u32 ((succ32 c.A : Nat) : Int)) (by rw [sel_of rfl]; rfl) rfl fe ?_
      show ItQ (runItems _ _ (puts ((56, .tuple #[.agg vx.toArray, .bool true]) :: _) _) _) _
      refine gg ?_
      have lx := cx.length
      refine i_storeF (vs := vx) (Keeps.new h' _) (Nat.le_refl _) (by exact sel_of rfl) (by rw [sel_of rfl]; rfl) (by rw [Heap.get_new, if_pos rfl]) lx rfl (Nat.lt_succ_self _) fun h3 k3 g3 lt3 => ?_
      refine gg ?_
      have g4 : h3.get B = some (.cells 42 (ckv c o cap) (.own false)) := (k3.get _ hB1).trans g
      refine i_loadN (v := ckv c o cap) (by exact sel_of rfl) (loadN_all g4 rfl) ?_
      refine gg ?_
      refine i_loadN (v := vx) (by exact sel_of rfl) (loadN_all g3 lx) ?_
      refine gg ?_
      obtain ⟨ox, capx, rfl, hdx⟩ := cx
      refine i_call2 (by exact sel_of rfl) (by exact sel_of rfl) (w_follows wc wx f (by omega)) ?_
      rintro _ h4 ⟨rfl, k4⟩
      refine gg ?_
      refine i_loadN (v := ckv x ox capx) (by exact sel_of rfl) (loadN_all ((k4.get _ lt3).trans g3) rfl) ?_
      refine gg ?_
      have lt4 : B < h4.next := Nat.lt_of_lt_of_le (Nat.lt_trans hB1 lt3) k4.next
      have ap4 : Ap h.next h4 42 12 o8 acc.length acc.length cs := (ap.keeps k3).keeps k4
      refine i_storeP (vs := ckv x ox capx) (by exact sel_of rfl) (by rw [sel_of rfl]; rfl) ((k4.get _ (Nat.lt_trans hB1 lt3)).trans g4) rfl rfl ?_
      have k5 : Keeps h (h4.put B (.cells 42 (ckv x ox capx) (.own false))) := ((k.trans k3).trans k4).put hB0 _
      have ap5 := apB ap4 (putB h4 B (.cells 42 (ckv x ox capx) (.own false))) hoff
      have g5 : (h4.put B (.cells 42 (ckv x ox capx) (.own false))).get B = some (.cells 42 (ckv x ox capx) (.own false)) := by rw [Heap.get_put, if_pos rfl]
      have n5 : (h4.put B (.cells 42 (ckv x ox capx) (.own false))).next = h4.next := rfl
      generalize h4.put B (.cells 42 (ckv x ox capx) (.own false)) = h5 at *
      refine gg ?_
      refine i_loadN (v := ckv x ox capx) (by exact sel_of rfl) (loadN_all g5 rfl) ?_
      refine gg ?_
      refine i_storeF (vs := ckv x ox capx) (Keeps.new h5 _) (Nat.le_refl _) (by exact sel_of rfl) (by rw [sel_of rfl]; rfl) (by rw [Heap.get_new, if_pos rfl]) rfl rfl (Nat.lt_succ_self _) fun h6 k6 g6 lt6 => ?_
      refine gg ?_
      refine i_loadN (v := ckv x ox capx) (by exact sel_of rfl) (loadN_all g6 rfl) ?_
      refine i_bslice (cs := ckv x ox capx) (by rfl) ?_
      have k7 : Keeps h6 (h6.new (.cells 42 (ckv x ox capx) (.own false))) := Keeps.new h6 _
      have r7 : Row (h6.new (.cells 42 (ckv x ox capx) (.own false))) 12 (some ⟨h6.next, 0, none⟩) 1 (ckv x ox capx) := Row.new (by simp) rfl (.inl rfl)
      have n7 : (h6.new (.cells 42 (ckv x ox capx) (.own false))).next = h6.next + 1 := rfl
      generalize h6.new (.cells 42 (ckv x ox capx) (.own false)) = h7 at *
      have ap7 := (ap5.keeps k6).keeps k7
      have k07 := (k5.trans k6).trans k7
      have g7 := (k7.get _ lt6).trans g6
      have lt7 : h5.next < h7.next := Nat.lt_of_lt_of_le lt6 k7.next
      refine i_appF (B := h.next) (m := 1) (t := (acc ++ [x]).length) (es := cs ++ ckv x ox capx) (by decide) k07.next (by exact sel_of rfl) ap7 (by rw [sel_of rfl]; exact r7.src) rfl (by omega) (by simp) rfl fun h8 n8 e8 ap8 => ?_
      refine gg ?_
      have k08 : Keeps h h8 := ⟨by rw [n8]; exact Nat.le_succ_of_le k07.next, fun d hd => (e8 d (Nat.lt_of_lt_of_le hd k07.next) (fun q hq => (ap7.2.2 q hq).symm.imp (fun ⟨kk, e1, e2, _⟩ => by rw [e1]; show d ≠ kk; omega) id)).trans (k07.get d hd)⟩
      have g8 : h8.get h5.next = some (.cells 42 (ckv x ox capx) (.own false)) := (e8 _ lt7 (fun q hq => .inl (by subst hq; have := ap5.2.1.2.1; omega))).trans g7
      refine rnd_n m (Nat.lt_succ_self _) ⟨x, ckv x ox capx, acc ++ [x], cs ++ ckv x ox capx, _, h5.next, r'', ⟨k08, k5.next, by omega, g8⟩, (fun q e => by cases e; show h7.next ≠ h5.next; omega), (fun q e => by cases e; exact k07.next), ⟨ox, capx, rfl, hdx⟩, wx, bk, ?_, by simp; omega, ap8, CkL.snoc ⟨ox, capx, rfl, hdx⟩ hcs, sel_of rfl, sel_of rfl, sel_of rfl, trivial⟩
      rw [← hr, Option.map_map]
      congr 1
      funext z
      simp
  | @step m _ x kx _ h0 g' f wx bk =>
    refine i_and0 8 (by exact sel_of rfl) (by rfl) rfl wc.fl h0 ?_
    refine gg ?_; repeat (refine i_ldown (by exact sel_of rfl) (by assumption) (by rfl) ?_; refine gg ?_)
    refine i_subW (by exact sel_of rfl) (by rfl) (sub32 c.A (by decide : 1 < 4294967296)) ?_
    obtain ⟨vx, sx, fe, cx⟩ := (hes.find _).2 _ g'
    refine i_lookup (ok := true) (res := some (.agg vx.toArray, sx)) (by exact sel_of rfl) gm (kv := .int .u32 ((prev c.A : Nat) : Int)) (by rw [sel_of rfl]; rfl) rfl fe ?_
    show ItQ (runItems _ _ (puts ((25, .tuple #[.agg vx.toArray, .bool true]) :: _) _) _) _
    refine gg ?_
    have lx := cx.length
    refine i_storeF (vs := vx) (Keeps.new h' _) (Nat.le_refl _) (by exact sel_of rfl) (by rw [sel_of rfl]; rfl) (by rw [Heap.get_new, if_pos rfl]) lx rfl (Nat.lt_succ_self _) fun h3 k3 g3 lt3 => ?_
    refine gg ?_
    refine i_loadN (v := vx) (by exact sel_of rfl) (loadN_all g3 lx) ?_
    refine gg ?_
    have g4 : h3.get (h.next + 1) = some (.cells 42 (ckv c o cap) (.own false)) := (k3.get _ n').trans g
    refine i_loadN (v := ckv c o cap) (by exact sel_of rfl) (loadN_all g4 rfl) ?_
    refine gg ?_
    obtain ⟨ox, capx, rfl, hdx⟩ := cx
    refine i_call2 (by exact sel_of rfl) (by exact sel_of rfl) (w_follows wx wc f (by omega)) ?_
    rintro _ h4 ⟨rfl, k4⟩
    refine gg ?_
    refine i_loadN (v := ckv x ox capx) (by exact sel_of rfl) (loadN_all ((k4.get _ lt3).trans g3) rfl) ?_
    refine gg ?_
    have lt4 : h.next + 1 < h4.next := Nat.lt_of_lt_of_le (Nat.lt_trans n' lt3) k4.next
    refine i_storeF (vs := ckv x ox capx) ((k.trans k3).trans k4) (Nat.le_succ _) (by exact sel_of rfl) (by rw [sel_of rfl]; rfl) ((k4.get _ (Nat.lt_trans n' lt3)).trans g4) rfl rfl lt4 fun h5 k5 g5 lt5 => ?_
    refine gg ?_
    exact rnd_n m (Nat.lt_succ_self _) ⟨x, ckv x ox capx, ⟨k5, lt5, g5⟩, ⟨ox, capx, rfl, hdx⟩, wx, bk, sel_of rfl, sel_of rfl, trivial⟩
end
end Go.Proofs.Ytnffglfpjcbfaaa

/-! split.Whole, walked. -/
set_option linter.unusedVariables false
namespace Go.Proofs.Ytnffglfpjcbfaaa
open Go Vm
def dts (l : List Ck) : List UInt8 := l.flatMap (·.dt)
def whole (c : Ck) (l : List Ck) : Mg := ⟨c.out, (c.fl &&& 4) != 0, c.pp, dts (c :: l)⟩
/-- chunks, one behind the other -/
def Fols : Ck → List Ck → Prop
  | _, [] => True
  | a, b :: l => Fol a b ∧ Fols b l
section
variable {h : Heap} {n : Nat} {N : Nat} {ro : Option Addr}
theorem CkL.len : ∀ {l : List Ck} {cs : List Value}, CkL h N ro cs l → cs.length = l.length * 12
  | [], _, e => by rw [show _ = _ from e]; rfl
  | c :: l, _, ⟨v, cs', e, x, r⟩ => by rw [e, List.length_append, x.length, CkL.len r, List.length_cons]; omega
theorem CkL.at : ∀ {l : List Ck} {cs : List Value} {i : Nat} {c : Ck}, CkL h N ro cs l → l[i]? = some c → ∃ v, CkAt h N ro c v ∧ (cs.drop (i * 12)).take 12 = v
  | [], _, i, c, _, e => by simp at e
  | d :: l, _, 0, c, ⟨v, cs', e, x, r⟩, e' => by
    cases e'
    refine ⟨v, x, ?_⟩
    subst e
    rw [Nat.zero_mul, List.drop_zero, List.take_append_of_le_length (by rw [x.length]; exact Nat.le_refl _), List.take_of_length_le (by rw [x.length]; exact Nat.le_refl _)]
  | d :: l, _, i + 1, c, ⟨v, cs', e, x, r⟩, e' => by
    obtain ⟨w, y, hw⟩ := CkL.at r (by simpa using e' : l[i]? = some c)
    refine ⟨w, y, ?_⟩
    subst e
    rw [← hw, Nat.succ_mul, Nat.add_comm (i * 12) 12, List.drop_append, x.length, List.drop_of_length_le (by rw [x.length]; omega), List.nil_append, Nat.add_sub_cancel_left]
theorem Fols.at : ∀ {l : List Ck} {a : Ck} {i : Nat} {x y : Ck}, Fols a l → (a :: l)[i]? = some x → (a :: l)[i + 1]? = some y → Fol x y
  | [], a, i, x, y, _, _, e => by cases i <;> simp at e
  | b :: l, a, 0, x, y, f, e, e' => by cases e; simp at e'; subst e'; exact f.1
  | b :: l, a, i + 1, x, y, f, e, e' => Fols.at f.2 (by simpa using e) (by simpa using e')
set_option maxHeartbeats 2000000 in
theorem w_whole {c0 : Ck} {l : List Ck} {o : Option Addr} {cap : Nat} {cs : List Value} (hr : Row h 12 o (c0 :: l).length cs) (hcs : CkL h N ro cs (c0 :: l)) (wf : ∀ c ∈ c0 :: l, c.wf ∧ c.dt ≠ []) (hf : Fols c0 l) (hb : c0.fl &&& 2 = 2) (he : ∀ c, (c0 :: l).getLast? = some c → c.fl &&& 1 = 1)
    (hbig : (dts (c0 :: l)).length ≤ 1000000) (hll : l.length ≤ 100000) (hn : l.length + 5 ≤ n) :
    ResQ (callN Try.prog G0 n (.call 22 [.slice o (c0 :: l).length cap]) h) (fun v h' => ∃ om, v = .tuple #[.agg (mgv (whole c0 l) om (dts (c0 :: l)).length).toArray, .bool true] ∧ Keeps h h' ∧ Ap h.next h' 5 1 om (dts (c0 :: l)).length (dts (c0 :: l)).length (u8s (dts (c0 :: l))) ∧ ∀ q, om = some q → h.next ≤ q.block) := by
  obtain ⟨u, rfl⟩ : ∃ u, o = some u := by
    cases o with
    | none => exact absurd hr.2 (by simp)
    | some u => exact ⟨u, rfl⟩
  obtain ⟨n, rfl⟩ : ∃ m, n = m + 1 := ⟨n - 1, by omega⟩
  refine res_enter rfl d22 rfl ?_; simp only [c22]
  refine o_cut (fun f h1 => h1 = h.new (.cells 30 [.int .u16 0, .bool false, .int .u32 0, .slice none 0 0] (.own false)) ∧ Sl [(2, .pointer (some ⟨h.next, 0, none⟩)), (0, .slice (some u) (c0 :: l).length cap)] f) ?_ ?_
  · refine gg ?_
    exact ⟨rfl, rfl, sel_of rfl, sel_of rfl, trivial⟩
  rintro f1 h1 ⟨e1, hs⟩
  have k1 : Keeps h h1 := by rw [e1]; exact Keeps.new h _
  have n1 : h1.next = h.next + 1 := by rw [e1]; rfl
  have g1 : h1.get h.next = some (.cells 30 [.int .u16 0, .bool false, .int .u32 0, .slice none 0 0] (.own false)) := by rw [e1, Heap.get_new, if_pos rfl]
  clear e1
  obtain ⟨f0, rfl⟩ := hs.puts
  clear hs
  have r1 := hr.keeps k1
  obtain ⟨v0, ⟨o0, cap0, rfl, d0⟩, hv0⟩ := hcs.at (i := 0) (c := c0) rfl
  obtain ⟨cl, hcl⟩ : ∃ cl, (c0 :: l)[l.length]? = some cl := ⟨_, List.getElem?_eq_getElem (by simp)⟩
  obtain ⟨vl, ⟨ol, capl, rfl, dl⟩, hvl⟩ := hcs.at hcl
  have w0 := wf c0 (by simp)
  have wl := wf cl (List.mem_of_getElem? hcl)
  have hel := he cl (by rw [List.getLast?_eq_getElem?]; simpa using hcl)
  have cell : ∀ (i j : Nat) (c : Ck) (o : Option Addr) (cap : Nat) (hh : Heap) (s : Option Nat), Row hh 12 (some u) (c0 :: l).length cs → (cs.drop (i * 12)).take 12 = ckv c o cap → i < (c0 :: l).length → j < 12 → load1 hh.get ⟨u.block, u.off + i * 12 + j, s⟩ = (ckv c o cap)[j]? := by
    intro i j c o cap hh s r e hi hj
    rw [Nat.add_assoc, r.cell (i := i * 12 + j) (by omega) s, ← e, List.getElem?_take_of_lt hj, List.getElem?_drop]
  refine o_cut (fun f h2 => h2 = h1 ∧ Sl [(2, .pointer (some ⟨h.next, 0, none⟩)), (0, .slice (some u) (c0 :: l).length cap)] f) ?_ ?_
  · refine gg ?_
    refine i_idx (by exact sel_of rfl) r1 (i := 0) (by rfl) (by simp) fun q hq => ?_
    cases hq
    refine gg ?_
    refine i_load1 (v := .int .u8 ((0 : Nat) : Int)) (by exact sel_of rfl) (cell 0 0 c0 o0 cap0 h1 _ r1 hv0 (by simp) (by decide)) ?_
    refine gg ?_
    refine i_idx (by exact sel_of rfl) r1 (i := 0) (by rfl) (by simp) fun q hq => ?_
    cases hq
    refine gg ?_
    refine i_load1 (v := .int .u8 (c0.fl : Int)) (by exact sel_of rfl) (cell 0 1 c0 o0 cap0 h1 _ r1 hv0 (by simp) (by decide)) ?_
    refine gg ?_
    refine i_and0 8 (by exact sel_of rfl) (by rfl) rfl w0.1.fl hb ?_
    refine gg ?_
    refine i_subn l.length (by exact sel_of rfl) (by rfl) (by simp) (by omega) ?_
    refine gg ?_
    refine i_idx (by exact sel_of rfl) r1 (i := l.length) (by exact sel_of rfl) (by simp) fun q hq => ?_
    cases hq
    refine gg ?_
    refine i_load1 (v := .int .u8 (cl.fl : Int)) (by exact sel_of rfl) (cell l.length 1 cl ol capl h1 _ r1 hvl (by simp) (by decide)) ?_
    refine gg ?_
    refine i_and0 8 (by exact sel_of rfl) (by rfl) rfl wl.1.fl hel ?_
    refine gg ?_
    exact ⟨rfl, rfl, sel_of rfl, sel_of rfl, trivial⟩
  rintro f2 h2 ⟨e2, hs⟩
  subst e2
  obtain ⟨f0, rfl⟩ := hs.puts
  clear hs
  refine o_cut (fun f h3 => (Keeps h2 h3 ∧ h2.next < h3.next ∧ h3.get h2.next = some (.cells 30 [.int .u16 (c0.out : Int), .bool ((c0.fl &&& 4) != 0), .int .u32 (c0.pp : Int), .slice none 0 0] (.own false))) ∧ Sl [(2, .pointer (some ⟨h.next, 0, none⟩)), (0, .slice (some u) (c0 :: l).length cap), (4, .pointer (some ⟨h2.next, 0, none⟩))] f) ?_ ?_
  · refine gg ?_
    refine i_idx (by exact sel_of rfl) r1 (i := 0) (by rfl) (by simp) fun q hq => ?_
    cases hq
    refine gg ?_
    refine i_load1 (v := .int .u16 (c0.out : Int)) (by exact sel_of rfl) (cell 0 4 c0 o0 cap0 h2 _ r1 hv0 (by simp) (by decide)) ?_
    refine gg ?_
    refine i_idx (by exact sel_of rfl) r1 (i := 0) (by rfl) (by simp) fun q hq => ?_
    cases hq
    refine gg ?_
    refine i_load1 (v := .int .u8 (c0.fl : Int)) (by exact sel_of rfl) (cell 0 1 c0 o0 cap0 h2 _ r1 hv0 (by simp) (by decide)) ?_
    refine i_andn 8 (by exact sel_of rfl) (by rfl) rfl w0.1.fl ?_
    refine gg ?_
    refine i_idx (by exact sel_of rfl) r1 (i := 0) (by rfl) (by simp) fun q hq => ?_
    cases hq
    refine gg ?_
    refine i_load1 (v := .int .u32 (c0.pp : Int)) (by exact sel_of rfl) (cell 0 6 c0 o0 cap0 h2 _ r1 hv0 (by simp) (by decide)) ?_
    refine gg ?_
    have eb : decide (((c0.fl &&& 4 : Nat) : Int) ≠ 0) = ((c0.fl &&& 4) != 0) := by
      cases h : (c0.fl &&& 4) <;> simp <;> omega
    refine i_storeF (vs := [.int .u16 (c0.out : Int), .bool ((c0.fl &&& 4) != 0), .int .u32 (c0.pp : Int), .slice none 0 0]) (Keeps.new h2 _) (Nat.le_refl _) (by exact sel_of rfl) (by rw [sel_of rfl, eb]; rfl) (by rw [Heap.get_new, if_pos rfl]) rfl rfl (Nat.lt_succ_self _) fun h3 k3 g3 lt3 => ?_
    refine gg ?_
    exact ⟨rfl, ⟨k3, lt3, g3⟩, sel_of rfl, sel_of rfl, sel_of rfl, trivial⟩
  rintro f3 h3 ⟨⟨k3, lt3, g3⟩, hs⟩
  obtain ⟨f0, rfl⟩ := hs.puts
  clear hs
  have lt2 : h.next < h2.next := by omega
  have gR : h3.get h.next = some (.cells 30 [.int .u16 0, .bool false, .int .u32 0, .slice none 0 0] (.own false)) := (k3.get _ lt2).trans g1
  have k03 := k1.trans k3
  generalize h2.next = B at *
  refine o_seq (o_cut (fun f h4 => h4 = h3 ∧ Sl [(52, .slice (some u) (c0 :: l).length cap), (53, .int .i64 ((c0 :: l).length : Int)), (54, .int .i64 ((0 : Nat) : Int)), (0, .slice (some u) (c0 :: l).length cap), (2, .pointer (some ⟨h.next, 0, none⟩)), (4, .pointer (some ⟨B, 0, none⟩))] f) ?_ ?_)
  · refine gg ?_
    exact ⟨rfl, rfl, sel_of rfl, sel_of rfl, sel_of rfl, sel_of rfl, sel_of rfl, sel_of rfl, trivial⟩
  rintro f4 h4 ⟨e4, hs⟩
  subst e4
  refine o_up (c0 :: l).length (fun i f h' => ∃ om, (Keeps h h' ∧ B < h'.next ∧ h'.get B = some (.cells 30 [.int .u16 (c0.out : Int), .bool ((c0.fl &&& 4) != 0), .int .u32 (c0.pp : Int), .slice om (dts ((c0 :: l).take i)).length (dts ((c0 :: l).take i)).length] (.own false))) ∧ h'.get h.next = some (.cells 30 [.int .u16 0, .bool false, .int .u32 0, .slice none 0 0] (.own false)) ∧ Off B om ∧ Off h.next om ∧ (∀ q, om = some q → h.next ≤ q.block) ∧ Ap h.next h' 5 1 om (dts ((c0 :: l).take i)).length (dts ((c0 :: l).take i)).length (u8s (dts ((c0 :: l).take i))) ∧
      Sl [(52, .slice (some u) (c0 :: l).length cap), (53, .int .i64 ((c0 :: l).length : Int)), (54, .int .i64 ((i : Nat) : Int)), (0, .slice (some u) (c0 :: l).length cap), (2, .pointer (some ⟨h.next, 0, none⟩)), (4, .pointer (some ⟨B, 0, none⟩))] f) (by simp; omega) ?_ ?_
  · exact ⟨none, ⟨k03, lt3, g3⟩, gR, Off.none _, Off.none _, (fun q e => by cases e), Ap.nil _ _ _ _, hs⟩
  clear hs g3 gR k3 lt3 g1 k1 n1 r1
  rintro i f h' hi ⟨om, ⟨k, lB, g⟩, gR, ofB, ofR, flo, ap, hs⟩
  obtain ⟨f0, rfl⟩ := hs.puts
  clear hs
  simp only [c22_0]
  refine gg ?_
  refine out_if (by exact sel_of rfl) (fun hif => ?_) (fun hif => ?_)
  · have hi' : i < (c0 :: l).length := by omega
    have hlen : (c0 :: l).length ≤ 100001 := by simp; omega
    obtain ⟨c, hci⟩ : ∃ c, (c0 :: l)[i]? = some c := ⟨_, List.getElem?_eq_getElem hi'⟩
    obtain ⟨v, hcv, hv⟩ := hcs.at hci
    have wc := wf c (List.mem_of_getElem? hci)
    refine gg ?_
    refine i_idx (by exact sel_of rfl) (hr.keeps k) (i := i) (by exact sel_of rfl) hi' fun q hq => ?_
    cases hq
    refine i_loadN (v := v) (by exact sel_of rfl) (by rw [← hv]; exact (hr.keeps k).cells (by omega) _) ?_
    refine gg ?_
    refine i_storeF (vs := v) (Keeps.new h' _) (Nat.le_refl _) (by exact sel_of rfl) (by rw [sel_of rfl]; rfl) (by rw [Heap.get_new, if_pos rfl]) hcv.length rfl (Nat.lt_succ_self _) fun h5 k5 g5 lt5 => ?_
    obtain ⟨oc, capc, rfl, dc⟩ := hcv
    refine i_nil (then_n ?_)
    refine o_cut (fun f h6 => Keeps h5 h6 ∧ Sl [(52, .slice (some u) (c0 :: l).length cap), (53, .int .i64 ((c0 :: l).length : Int)), (54, .int .i64 ((i : Nat) : Int)), (0, .slice (some u) (c0 :: l).length cap), (2, .pointer (some ⟨h.next, 0, none⟩)), (4, .pointer (some ⟨B, 0, none⟩)), (6, .pointer (some ⟨h'.next, 0, none⟩))] f) ?_ ?_
    · refine gg ?_
      cases i with
      | zero =>
        rw [decide_eq_false (p := (0 : Int) < ((0 : Nat) : Int)) (by omega)]
        refine gg ?_
        exact ⟨rfl, Keeps.refl _, sel_of rfl, sel_of rfl, sel_of rfl, sel_of rfl, sel_of rfl, sel_of rfl, sel_of rfl, trivial⟩
      | succ i =>
        rw [decide_eq_true (p := (0 : Int) < ((i + 1 : Nat) : Int)) (by omega)]
        refine gg ?_
        obtain ⟨p, hpi⟩ : ∃ c, (c0 :: l)[i]? = some c := ⟨_, List.getElem?_eq_getElem (by omega)⟩
        obtain ⟨vp, ⟨op, capp, rfl, dp⟩, hvp⟩ := hcs.at hpi
        have wp := wf p (List.mem_of_getElem? hpi)
        have fol := Fols.at hf hpi hci
        refine i_idx (by exact sel_of rfl) ((hr.keeps k).keeps k5) (i := i) ((sel_of (v := .int .i64 (((i + 1 : Nat) : Int) - 1)) rfl).trans (congrArg (Value.int .i64) (by omega))) (by omega) fun q hq => ?_
        cases hq
        refine gg ?_
        refine i_loadN (v := ckv p op capp) (by exact sel_of rfl) (by rw [← hvp]; exact ((hr.keeps k).keeps k5).cells (by omega) _) ?_
        refine gg ?_
        refine i_loadN (v := ckv c oc capc) (by exact sel_of rfl) (loadN_all g5 rfl) ?_
        refine gg ?_
        refine i_call2 (by exact sel_of rfl) (by exact sel_of rfl) (w_follows wp.1 wc.1 fol (by omega)) ?_
        rintro _ h6 ⟨rfl, k6⟩
        refine gg ?_
        exact ⟨rfl, k6, sel_of rfl, sel_of rfl, sel_of rfl, sel_of rfl, sel_of rfl, sel_of rfl, sel_of rfl, trivial⟩
    rintro f6 h6 ⟨k6, hs⟩
    obtain ⟨f0, rfl⟩ := hs.puts
    clear hs
    have k56 := k5.trans k6
    have g6 := (k56.get _ lB).trans g
    have gR6 := (k56.get _ (by omega : h.next < h'.next)).trans gR
    have ap6 := ap.keeps k56
    have gc6 := (k6.get _ lt5).trans g5
    refine gg ?_
    refine i_load1 (v := .slice om (dts ((c0 :: l).take i)).length (dts ((c0 :: l).take i)).length) (by exact sel_of rfl) ((load1_own g6).trans (by rfl)) ?_
    refine gg ?_
    refine i_load1 (v := .slice oc c.dt.length capc) (by exact sel_of rfl) ((load1_own gc6).trans (by rfl)) ?_
    have hD : dts ((c0 :: l).take (i + 1)) = dts ((c0 :: l).take i) ++ c.dt := by
      rw [List.take_add_one, hci]
      simp [dts]
    have hDl : (dts ((c0 :: l).take (i + 1))).length ≤ 1000000 := by
      refine Nat.le_trans ?_ hbig
      have := congrArg List.length (congrArg dts (List.take_append_drop (i + 1) (c0 :: l)))
      simp only [dts, List.flatMap_append, List.length_append] at this ⊢
      omega
    have hDl' : (dts ((c0 :: l).take i)).length + c.dt.length = (dts ((c0 :: l).take (i + 1))).length := by rw [hD, List.length_append]
    refine i_appF (B := h.next) (m := c.dt.length) (t := (dts ((c0 :: l).take (i + 1))).length) (es := u8s (dts ((c0 :: l).take (i + 1)))) (List.length_pos_iff.2 wc.2) (k.trans k56).next (by exact sel_of rfl) ap6 (by rw [sel_of rfl]; exact (dc.1.keeps (k.trans k56)).src) (by show (u8s c.dt).length = _; rw [u8s_length]; omega) (by omega) hDl' (by rw [hD, u8s_append]) fun h7 n7 e7 ap7 => ?_
    have lB6 : B < h6.next := Nat.lt_of_lt_of_le lB k56.next
    have g7 := (e7 _ lB6 (fun q hq => .inl (ofB q hq).symm)).trans g6
    have gR7 := (e7 _ (by omega) (fun q hq => .inl (ofR q hq).symm)).trans gR6
    have k06 := k.trans k56
    have k07 : Keeps h h7 := ⟨by rw [n7]; exact Nat.le_succ_of_le k06.next, fun d hd => (e7 d (Nat.lt_of_lt_of_le hd k06.next) (fun q hq => (ap6.2.2 q hq).symm.imp (fun ⟨kk, e1, e2, _⟩ => by rw [e1]; show d ≠ kk; omega) id)).trans (k06.get d hd)⟩
    refine gg ?_
    refine i_store1 (u := ⟨B, 0 + 3, none⟩) (v := .slice (some ⟨h6.next, 0, some 1⟩) (dts ((c0 :: l).take (i + 1))).length (dts ((c0 :: l).take (i + 1))).length) (by exact sel_of rfl) (by rw [sel_of rfl]; rfl) g7 (by show 0 + 3 < 4; decide) ?_
    refine gg ?_
    refine rnd_up hi' ⟨some ⟨h6.next, 0, some 1⟩, ⟨k07.put (b := B) (Nat.le_of_lt lt2) _, by show B < h7.next; omega, by rw [Heap.get_put, if_pos rfl]; rfl⟩, by rw [Heap.get_put, if_neg (Nat.ne_of_lt lt2)]; exact gR7, (fun q e => by cases e; show h6.next ≠ B; omega), (fun q e => by cases e; show h6.next ≠ h.next; omega), (fun q e => by cases e; exact k06.next), apB ap7 (putB h7 B _) (fun q e => by cases e; show h6.next ≠ B; omega), ?_⟩
    exact ⟨sel_of rfl, sel_of rfl, sel_of rfl, sel_of rfl, sel_of rfl, sel_of rfl, trivial⟩
  · refine gg ?_
    have hil : i = (c0 :: l).length := by omega
    subst hil
    rw [List.take_length] at g ap
    refine i_loadN (v := [.int .u16 (c0.out : Int), .bool ((c0.fl &&& 4) != 0), .int .u32 (c0.pp : Int), .slice om (dts (c0 :: l)).length (dts (c0 :: l)).length]) (by exact sel_of rfl) (loadN_all g rfl) ?_
    refine i_storeP (vs := [.int .u16 (c0.out : Int), .bool ((c0.fl &&& 4) != 0), .int .u32 (c0.pp : Int), .slice om (dts (c0 :: l)).length (dts (c0 :: l)).length]) (by exact sel_of rfl) (by rw [sel_of rfl]; rfl) gR rfl rfl ?_
    refine gg ?_
    refine finA2 (by exact sel_of rfl) (loadN_all (by rw [Heap.get_put, if_pos rfl]) rfl) (by exact sel_of rfl) ?_
    exact ⟨om, rfl, k.put (Nat.le_refl _) _, apB ap (putB h' h.next _) ofR, flo⟩
end
end Go.Proofs.Ytnffglfpjcbfaaa

