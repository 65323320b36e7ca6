/- Part of a proof by an abstract run of the program's code: RH. No condition. -/
import Derived.Test.YtmlagbknnngjjaaGreatVmD
import Derived.Test.YtmlagbknnngjjaaGreatRA
import Derived.Test.YtmlagbknnngjjaaGreatRG
/-! Join: the state in memory, and what keeps it. -/
set_option linter.unusedVariables false
namespace Go.Proofs.YtmlagbknnngjjaaGreat
open Go Vm
/-- a message -/
structure Mg where
  str : Nat
  un : Bool
  pp : Nat
  dt : List UInt8
def mgv (m : Mg) (o : Option Addr) (cap : Nat) : List Value := [.int .u16 (m.str : Int), .bool m.un, .int .u32 (m.pp : Int), .slice o m.dt.length cap]
/-- data of the state's: apart from its own blocks -/
def Dt (h : Heap) (N : Nat) (ro : Option Addr) (o : Option Addr) (bs : List UInt8) : Prop :=
  Row h 1 o bs.length (u8s bs) ∧ ∀ q, o = some q → N + 4 ≤ q.block ∧ ∀ r, ro = some r → q.block ≠ r.block
def CkAt (h : Heap) (N : Nat) (ro : Option Addr) (c : Ck) (v : List Value) : Prop := ∃ o cap, v = ckv c o cap ∧ Dt h N ro o c.dt
def MgAt (h : Heap) (N : Nat) (ro : Option Addr) (m : Mg) (v : List Value) : Prop := ∃ o cap, v = mgv m o cap ∧ Dt h N ro o m.dt
def ChL (h : Heap) (N : Nat) (ro : Option Addr) : List (Value × Value × Nat) → List (Nat × Ck) → Prop
  | [], [] => True
  | e :: es, p :: l => (e.1 = .int .u32 (p.1 : Int) ∧ ∃ v, e.2.1 = .agg v.toArray ∧ CkAt h N ro p.2 v) ∧ ChL h N ro es l
  | _, _ => False
def StL (h : Heap) (N : Nat) (ro : Option Addr) : List (Value × Value × Nat) → List ((Nat × Nat) × Mg) → Prop
  | [], [] => True
  | e :: es, p :: l => (e.1 = .agg #[.int .u16 (p.1.1 : Int), .int .u16 (p.1.2 : Int)] ∧ ∃ v, e.2.1 = .agg v.toArray ∧ MgAt h N ro p.2 v) ∧ StL h N ro es l
  | _, _ => False
def RdL (h : Heap) (N : Nat) (ro : Option Addr) : List Value → List Mg → Prop
  | cs, [] => cs = []
  | cs, m :: l => ∃ v cs', cs = v ++ cs' ∧ MgAt h N ro m v ∧ RdL h N ro cs' l
def CkL (h : Heap) (N : Nat) (ro : Option Addr) : List Value → List Ck → Prop
  | cs, [] => cs = []
  | cs, c :: l => ∃ v cs', cs = v ++ cs' ∧ CkAt h N ro c v ∧ CkL h N ro cs' l
def jcells (N : Nat) (nx : List Nat) (ro : Option Addr) (k : Nat) (held : Nat) : List Value :=
  [.slice (some ⟨N, 0, none⟩) nx.length nx.length, .map (some (N + 1)), .map (some (N + 2)), .slice ro k k, .int .i64 (held : Int)]
/-- the stash, older than its clock -/
structure StC (h : Heap) (N : Nat) (ro : Option Addr) (es : List (Value × Value × Nat)) (cc : Nat) (st : List ((Nat × Nat) × Mg)) : Prop where
  l : StL h N ro es st
  lt : ∀ e ∈ es, e.2.2 < cc
/-- a Join in memory: four blocks from N on, and the row of what is ready -/
structure Jn (h : Heap) (N : Nat) (nx : List Nat) (ch : List (Nat × Ck)) (st : List ((Nat × Nat) × Mg)) (rd : List Mg) (held : Nat) (ro : Option Addr) : Prop where
  up : N + 4 ≤ h.next
  top : h.get (N + 3) = some (.cells 101 (jcells N nx ro rd.length held) (.own false))
  nxt : h.get N = some (.cells 32 (nx.map fun (x : Nat) => Value.int .u16 (x : Int)) (.own false))
  chs : ∃ es cc, h.get (N + 1) = some (.map es cc) ∧ ChL h N ro es ch
  sts : ∃ es cc, h.get (N + 2) = some (.map es cc) ∧ StC h N ro es cc st
  rdy : ∃ cs, Ap (N + 4) h 34 4 ro rd.length rd.length cs ∧ RdL h N ro cs rd
  ofr : ∀ r, ro = some r → N + 4 ≤ r.block
/-- the data are kept -/
def KD (h : Heap) (N : Nat) (ro : Option Addr) (h' : Heap) (ro' : Option Addr) : Prop := ∀ o bs, Dt h N ro o bs → Dt h' N ro' o bs
section
variable {h h' : Heap} {N : Nat} {ro ro' : Option Addr}
theorem KD.refl (h : Heap) (N : Nat) (ro : Option Addr) : KD h N ro h ro := fun _ _ d => d
theorem KD.trans {h'' : Heap} {ro'' : Option Addr} (k : KD h N ro h' ro') (k' : KD h' N ro' h'' ro'') : KD h N ro h'' ro'' := fun o bs d => k' o bs (k o bs d)
theorem KD.keeps (k : Keeps h h') : KD h N ro h' ro := fun o bs d => ⟨d.1.keeps k, d.2⟩
theorem KD.put {b : Nat} (hb : b < N + 4) (x : Blk) : KD h N ro (h.put b x) ro := fun o bs d =>
  ⟨d.1.keepsB (b := b) ⟨Nat.le_refl _, fun c hc hcb => by rw [Heap.get_put, if_neg hcb]⟩ (fun q e => by have := (d.2 q e).1; omega), d.2⟩
theorem CkAt.mono {c : Ck} {v : List Value} (k : KD h N ro h' ro') (x : CkAt h N ro c v) : CkAt h' N ro' c v := by
  obtain ⟨o, cap, e, d⟩ := x; exact ⟨o, cap, e, k _ _ d⟩
theorem MgAt.mono {c : Mg} {v : List Value} (k : KD h N ro h' ro') (x : MgAt h N ro c v) : MgAt h' N ro' c v := by
  obtain ⟨o, cap, e, d⟩ := x; exact ⟨o, cap, e, k _ _ d⟩
theorem ChL.mono (k : KD h N ro h' ro') : ∀ {es : List (Value × Value × Nat)} {l : List (Nat × Ck)}, ChL h N ro es l → ChL h' N ro' es l
  | [], [], _ => trivial
  | _ :: _, _ :: _, ⟨⟨e, v, e', x⟩, r⟩ => ⟨⟨e, v, e', x.mono k⟩, ChL.mono k r⟩
  | [], _ :: _, x => x.elim
  | _ :: _, [], x => x.elim
theorem StL.mono (k : KD h N ro h' ro') : ∀ {es : List (Value × Value × Nat)} {l : List ((Nat × Nat) × Mg)}, StL h N ro es l → StL h' N ro' es l
  | [], [], _ => trivial
  | _ :: _, _ :: _, ⟨⟨e, v, e', x⟩, r⟩ => ⟨⟨e, v, e', x.mono k⟩, StL.mono k r⟩
  | [], _ :: _, x => x.elim
  | _ :: _, [], x => x.elim
theorem StC.mono (k : KD h N ro h' ro') {es : List (Value × Value × Nat)} {cc : Nat} {l : List ((Nat × Nat) × Mg)} (s : StC h N ro es cc l) : StC h' N ro' es cc l := ⟨s.l.mono k, s.lt⟩
theorem RdL.mono (k : KD h N ro h' ro') : ∀ {l : List Mg} {cs : List Value}, RdL h N ro cs l → RdL h' N ro' cs l
  | [], _, x => x
  | _ :: _, _, ⟨v, cs', e, x, r⟩ => ⟨v, cs', e, x.mono k, RdL.mono k r⟩
theorem CkL.mono (k : KD h N ro h' ro') : ∀ {l : List Ck} {cs : List Value}, CkL h N ro cs l → CkL h' N ro' cs l
  | [], _, x => x
  | _ :: _, _, ⟨v, cs', e, x, r⟩ => ⟨v, cs', e, x.mono k, CkL.mono k r⟩
theorem Jn.keeps {nx : List Nat} {ch : List (Nat × Ck)} {st : List ((Nat × Nat) × Mg)} {rd : List Mg} {held : Nat} (j : Jn h N nx ch st rd held ro) (k : Keeps h h') : Jn h' N nx ch st rd held ro := by
  obtain ⟨up, top, nxt, ⟨es, cc, e1, e2⟩, ⟨fs, fc, f1, f2⟩, ⟨cs, a, r⟩, ofr⟩ := j
  have kd : KD h N ro h' ro := KD.keeps k
  exact ⟨Nat.le_trans up k.next, by rw [k.get _ (by omega)]; exact top, by rw [k.get _ (by omega)]; exact nxt, ⟨es, cc, by rw [k.get _ (by omega)]; exact e1, e2.mono kd⟩, ⟨fs, fc, by rw [k.get _ (by omega)]; exact f1, f2.mono kd⟩, ⟨cs, a.keeps k, r.mono kd⟩, ofr⟩
/-! looked up, put, deleted -/
theorem ChL.find (k : Nat) : ∀ {es : List (Value × Value × Nat)} {l : List (Nat × Ck)}, ChL h N ro es l →
    (l.find? (fun p => p.1 == k) = none → mFind (.one 1) (.int .u32 (k : Int)) es = some none) ∧
    ∀ p, l.find? (fun p => p.1 == k) = some p → ∃ v s, mFind (.one 1) (.int .u32 (k : Int)) es = some (some (.agg v.toArray, s)) ∧ CkAt h N ro p.2 v
  | [], [], _ => ⟨fun _ => rfl, fun p e => by cases e⟩
  | [], _ :: _, x => x.elim
  | _ :: _, [], x => x.elim
  | (ek, ev, es0) :: es, (a, c) :: l, ⟨⟨e, v, e', x⟩, r⟩ => by
    cases e
    cases e'
    have ih := ChL.find k r
    have hm : mFind (.one 1) (.int .u32 (k : Int)) ((.int .u32 (a : Int), Value.agg v.toArray, es0) :: es) = (match eqV (.one 1) (Value.int .u32 (k : Int)) (Value.int .u32 (a : Int)) with | some true => some (some (.agg v.toArray, es0)) | some false => mFind (.one 1) (.int .u32 (k : Int)) es | none => none) := rfl
    rw [hm, eqV_int, List.find?_cons]
    cases hb : Nat.beq k a with
    | true =>
      have := Nat.eq_of_beq_eq_true hb
      subst this
      simp only [beq_self_eq_true]
      exact ⟨fun e => (by cases e), fun p e => (by cases e; exact ⟨v, es0, rfl, x⟩)⟩
    | false =>
      have : (a == k) = false := by rw [← Bool.not_eq_true, beq_iff_eq]; intro e; rw [e] at hb; simp at hb
      simp only [this]
      exact ih
theorem ChL.put {k : Nat} {v : List Value} {cc : Nat} {c : Ck} (hc : CkAt h N ro c v) : ∀ {es : List (Value × Value × Nat)} {l : List (Nat × Ck)}, ChL h N ro es l → l.find? (fun p => p.1 == k) = none →
    ∃ es' cc', mPut (.one 1) (.int .u32 (k : Int)) (Value.agg v.toArray) cc es = some (es', cc') ∧ ChL h N ro es' (l ++ [(k, c)])
  | [], [], _, _ => ⟨_, _, rfl, ⟨rfl, v, rfl, hc⟩, trivial⟩
  | [], _ :: _, x, _ => x.elim
  | _ :: _, [], x, _ => x.elim
  | (ek, ev, es0) :: es, (a, c') :: l, ⟨⟨e, v', e', x⟩, r⟩, hn => by
    cases e
    cases e'
    rw [List.find?_cons] at hn
    cases hb : (a == k) with
    | true => rw [hb] at hn; cases hn
    | false =>
      rw [hb] at hn
      obtain ⟨es', cc', h1, h2⟩ := ChL.put hc r hn
      have hk : Nat.beq k a = false := by
        rw [← Bool.not_eq_true]; intro e; have := Nat.eq_of_beq_eq_true e; subst this; simp at hb
      refine ⟨(.int .u32 (a : Int), Value.agg v'.toArray, es0) :: es', cc', ?_, ⟨⟨rfl, v', rfl, x⟩, h2⟩⟩
      show (match eqV (.one 1) (Value.int .u32 (k : Int)) (Value.int .u32 (a : Int)) with
        | some true => some ((Value.int .u32 (k : Int), Value.agg v.toArray, es0) :: es, cc)
        | some false => (match mPut (.one 1) (.int .u32 (k : Int)) (.agg v.toArray) cc es with | some (r, c) => some ((Value.int .u32 (a : Int), Value.agg v'.toArray, es0) :: r, c) | none => none)
        | none => none) = _
      rw [eqV_int, hk, h1]
def delK (k : Nat) : List (Nat × Ck) → List (Nat × Ck)
  | [] => []
  | (a, c) :: l => if k = a then l else (a, c) :: delK k l
theorem ChL.del (k : Nat) : ∀ {es : List (Value × Value × Nat)} {l : List (Nat × Ck)}, ChL h N ro es l → ∃ es', mDel (.one 1) (.int .u32 (k : Int)) es = some es' ∧ ChL h N ro es' (delK k l)
  | [], [], _ => ⟨_, rfl, trivial⟩
  | [], _ :: _, x => x.elim
  | _ :: _, [], x => x.elim
  | (ek, ev, es0) :: es, (a, c') :: l, ⟨⟨e, v', e', x⟩, r⟩ => by
    cases e
    cases e'
    obtain ⟨es', h1, h2⟩ := ChL.del k r
    have hm : mDel (.one 1) (.int .u32 (k : Int)) ((.int .u32 (a : Int), Value.agg v'.toArray, es0) :: es) = (match eqV (.one 1) (Value.int .u32 (k : Int)) (Value.int .u32 (a : Int)) with
        | some true => some es
        | some false => (match mDel (.one 1) (.int .u32 (k : Int)) es with | some r => some ((Value.int .u32 (a : Int), Value.agg v'.toArray, es0) :: r) | none => none)
        | none => none) := rfl
    rw [hm, eqV_int, delK]
    cases hb : Nat.beq k a with
    | true => rw [if_pos (Nat.eq_of_beq_eq_true hb)]; exact ⟨es, rfl, r⟩
    | false =>
      have : k ≠ a := by intro e; rw [e] at hb; simp at hb
      rw [if_neg this, h1]
      exact ⟨_, rfl, ⟨rfl, v', rfl, x⟩, h2⟩
end
section
variable {h : Heap} {n : Nat}
theorem w_new {k : Nat} (hk : 1 ≤ k) (hk' : k ≤ 64) (hn : 1 ≤ n) :
    ResQ (callN Tryz.prog G0 n (.call 26 [.int .i64 (k : Int)]) h) (fun v h' => v = .pointer (some ⟨h.next + 3, 0, none⟩) ∧ Keeps h h' ∧ Jn h' h.next (List.replicate k 0) [] [] [] 0 none) := by
  obtain ⟨n, rfl⟩ : ∃ m, n = m + 1 := ⟨n - 1, by omega⟩
  refine res_enter rfl d26 rfl ?_; simp only [c26]
  refine gg ?_
  rw [decide_eq_false (p := ((k : Nat) : Int) < 1) (by omega), decide_eq_false (p := (64 : Int) < ((k : Nat) : Int)) (by omega)]
  refine gg ?_
  refine items_cons (it_a (mk_slice (l := k) (c := k) (by exact sel_of rfl) (by exact sel_of rfl) (Nat.le_refl _) (by omega) (by omega)) ?_)
  show ItQ (runItems _ _ (puts ((10, .slice (some ⟨h.next, 0, none⟩) k k) :: _) _) _) _
  refine i_makeMap ?_
  refine i_makeMap ?_
  refine gg ?_
  refine ⟨rfl, ((((Keeps.new h _).trans (Keeps.new _ _)).trans (Keeps.new _ _)).trans (Keeps.new _ _)), ?_⟩
  have hrep : rep k [Value.int .u16 0] = (List.replicate k 0).map fun (x : Nat) => Value.int .u16 (x : Int) := by
    clear hk hk'
    induction k with
    | zero => rfl
    | succ k ih => rw [List.replicate_succ, List.map_cons, ← ih]; rfl
  refine ⟨Nat.le_refl _, ?_, ?_, ⟨[], 0, ?_, trivial⟩, ⟨[], 0, ?_, ⟨trivial, fun e h => by cases h⟩⟩, ⟨[], Ap.nil _ _ _ _, rfl⟩, fun r e => by cases e⟩
  · rw [Heap.get_new, if_pos (by rfl)]
    simp only [jcells, List.length_replicate]
    rfl
  · rw [Heap.get_new, if_neg (by show h.next ≠ h.next + 3; omega), Heap.get_new, if_neg (by show h.next ≠ h.next + 2; omega), Heap.get_new, if_neg (by show h.next ≠ h.next + 1; omega), Heap.get_new, if_pos rfl, hrep]
  · rw [Heap.get_new, if_neg (by show h.next + 1 ≠ h.next + 3; omega), Heap.get_new, if_neg (by show h.next + 1 ≠ h.next + 2; omega), Heap.get_new, if_pos (by rfl)]
  · rw [Heap.get_new, if_neg (by show h.next + 2 ≠ h.next + 3; omega), Heap.get_new, if_pos (by rfl)]
theorem w_knows {N : Nat} {nx : List Nat} {ch : List (Nat × Ck)} {st : List ((Nat × Nat) × Mg)} {rd : List Mg} {held : Nat} {ro : Option Addr} (j : Jn h N nx ch st rd held ro) {s : Nat} (hs : s < nx.length) (hs' : s < 65536) (hn : 1 ≤ n) :
    ResQ (callN Tryz.prog G0 n (.call 70 [.pointer (some ⟨N + 3, 0, none⟩), .int .u16 (s : Int)]) h) (fun v h' => v = .bool true ∧ h = h') := by
  have top := j.top
  obtain ⟨n, rfl⟩ : ∃ m, n = m + 1 := ⟨n - 1, by omega⟩
  refine res_enter rfl d70 rfl ?_; simp only [c70]
  refine gg ?_; repeat (refine i_ldown (by exact sel_of rfl) (by assumption) (by rfl) ?_; refine gg ?_)
  refine ⟨?_, rfl⟩
  rw [decide_eq_true (p := (s : Int) < ((nx.length : Nat) : Int)) (by omega)]
end
end Go.Proofs.YtmlagbknnngjjaaGreat

/-! A new End. -/
set_option linter.unusedVariables false
namespace Go.Proofs.YtmlagbknnngjjaaGreat
open Go Vm
/-- a new End's cells -/
def endv (Q mt pe : Nat) (so : Addr) (ns S J : Nat) : List Value := [pt Q, nv (3 * mt), nv 1073741824, nv 0, nv mt, .bool false, .int .u32 ((0 : Nat) : Int), nv 0, nv 0, nv 3000, .bool false, nv pe, .slice (some so) ns ns, .bool false, nv 0, .bool false, .int .u32 ((0 : Nat) : Int), nv 0, pt S, pt J, .bool false]
structure NwQ (h h' : Heap) (X Q sb S M N first pf pe mt ns ni : Nat) : Prop where
  keep : Keeps h h'
  xl : X < h'.next ∧ h.next ≤ X
  gX : h'.get X = some (.cells 79 (endv Q mt pe ⟨sb, 0, none⟩ ns S (N + 3)) (.own false))
  que : Que h' Q none first []
  gsb : h'.get sb = some (.cells 32 (ssv (List.replicate ns 0)) (.own false))
  sbl : sb < h'.next ∧ h.next ≤ sb
  ql : h.next ≤ Q
  gS : h'.get S = some (.cells 97 [.int .u32 (((pf + 4294967295) % 4294967296 : Nat) : Int), .map (some M), .slice none 0 0] (.own false))
  gM : h'.get M = some (.map [] 0)
  sl : S < h'.next ∧ h.next ≤ S ∧ M < h'.next ∧ h.next ≤ M ∧ h.next ≤ N
  jn : Jn h' N (List.replicate ni 0) [] [] [] 0 none
section
variable {h : Heap} {n first pf pe mt ns ni : Nat}
theorem w_qnew (hf : first < 4294967296) (hn : 1 ≤ n) : ResQ (callN Tryz.prog G0 n (.call 22 [.int .u32 (first : Int)]) h) (fun v h' => v = pt h.next ∧ h' = h.new (.cells 93 [.slice none 0 0, .int .u32 (first : Int)] (.own false))) := by
  obtain ⟨n, rfl⟩ : ∃ m, n = m + 1 := ⟨n - 1, by omega⟩
  refine res_enter rfl d22 rfl ?_; simp only [c22]
  refine gg ?_
  exact ⟨rfl, rfl⟩
theorem w_wstart (h1 : 1 ≤ mt) (h2 : mt ≤ 65536) (hn : 2 ≤ n) : ResQ (callN Tryz.prog G0 n (.call 23 [nv mt]) h) (fun v h' => v = .agg (wayv (3 * mt) mt).toArray ∧ Keeps h h' ∧ h'.next = h.next + 1) := by
  obtain ⟨n, rfl⟩ : ∃ m, n = m + 1 := ⟨n - 1, by omega⟩
  refine res_enter rfl d23 rfl ?_; simp only [c23]
  refine gg ?_
  obtain ⟨b1, k1, n1⟩ := box_one h (.cells 62 [.int .i64 0, .int .i64 0, .int .i64 0, .int .i64 0, .bool false, .int .u32 0] (.own false))
  generalize (h.new (.cells 62 [.int .i64 0, .int .i64 0, .int .i64 0, .int .i64 0, .bool false, .int .u32 0] (.own false))) = hA at *
  refine i_call3 (by exact const_of) (by exact sel_of rfl) (by exact const_of) (w_between (by omega) (by omega) (by omega)) ?_
  rintro _ _ ⟨rfl, rfl⟩
  refine gg ?_
  refine i_mul64 (p := 3) (q := (mt : Int)) (by exact const_of) (by exact sel_of rfl) (by omega) (by omega) ?_
  refine gg ?_
  refine i_storeP (b := h.next) (vs := wayv (3 * mt) mt) (by exact sel_of rfl) (by rw [sel_of rfl]; rfl) b1 rfl rfl ?_
  refine gg ?_
  exact finA1 (by exact sel_of rfl) (loadN_all (b := h.next) (by rw [Heap.get_put, if_pos rfl]) rfl) ⟨rfl, k1.put (Nat.le_refl _) _, n1⟩
def rtov : List Value := [nv 0, nv 0, nv 3000, .bool false]
theorem w_rstart (hn : 1 ≤ n) : ResQ (callN Tryz.prog G0 n (.call 24 []) h) (fun v h' => v = .agg rtov.toArray ∧ Keeps h h' ∧ h'.next = h.next + 1) := by
  obtain ⟨n, rfl⟩ : ∃ m, n = m + 1 := ⟨n - 1, by omega⟩
  refine res_enter rfl d24 rfl ?_; simp only [c24]
  refine gg ?_
  obtain ⟨b1, k1, n1⟩ := box_one h (.cells 65 [.int .i64 0, .int .i64 0, .int .i64 0, .bool false] (.own false))
  generalize (h.new (.cells 65 [.int .i64 0, .int .i64 0, .int .i64 0, .bool false] (.own false))) = hA at *
  refine i_storeP (b := h.next) (vs := rtov) (by exact sel_of rfl) (by rw [sel_of rfl]; rfl) b1 rfl rfl ?_
  refine gg ?_
  exact finA1 (by exact sel_of rfl) (loadN_all (b := h.next) (by rw [Heap.get_put, if_pos rfl]) rfl) ⟨rfl, k1.put (Nat.le_refl _) _, n1⟩
theorem w_gnew (hpf : pf < 4294967296) (hn : 1 ≤ n) : ResQ (callN Tryz.prog G0 n (.call 25 [.int .u32 (pf : Int)]) h) (fun v h' => v = pt (h.next + 1) ∧ h' = (h.new (.map [] 0)).new (.cells 97 [.int .u32 (((pf + 4294967295) % 4294967296 : Nat) : Int), .map (some h.next), .slice none 0 0] (.own false))) := by
  obtain ⟨n, rfl⟩ : ∃ m, n = m + 1 := ⟨n - 1, by omega⟩
  refine res_enter rfl d25 rfl ?_; simp only [c25]
  refine gg ?_
  refine i_subW (q := ((1 : Nat) : Int)) (r := (((pf + 4294967295) % 4294967296 : Nat) : Int)) (by exact sel_of rfl) (by exact const_of) ((sub32 pf (by omega)).trans (congrArg _ (by omega))) ?_
  refine i_makeMap ?_
  refine gg ?_
  exact ⟨rfl, rfl⟩
theorem sl_cons {x : Value} {l : List Value} (h1 : sameV x x = true) (h2 : same1 x x = sameV x x) (h3 : sameL l l = true) : sameL (x :: l) (x :: l) = true := by
  show (bif same1 x x then sameL l l else false) = true
  rw [h2, h1, h3]; rfl
theorem sl_nil : sameL [] [] = true := rfl
theorem sv_agg {l : List Value} (h : sameL l l = true) : sameV (.agg l.toArray) (.agg l.toArray) = true := h
def sndv (Q mt pe : Nat) (so : Addr) (ns : Nat) : List Value := [pt Q, nv (3 * mt), nv 1073741824, nv 0, nv mt, .bool false, .int .u32 ((0 : Nat) : Int), nv 0, nv 0, nv 3000, .bool false, nv pe, .slice (some so) ns ns, .bool false, nv 0, .bool false, .int .u32 ((0 : Nat) : Int), nv 0]
theorem sv_snd (Q mt pe : Nat) (sb ns : Nat) : sameV (.agg (sndv Q mt pe ⟨sb, 0, none⟩ ns).toArray) (.agg (sndv Q mt pe ⟨sb, 0, none⟩ ns).toArray) = true := by
  refine sv_agg ?_
  unfold sndv
  repeat (first | exact sl_nil | refine sl_cons (by first | exact sv_int _ _ | exact sv_bool _ | exact sv_pt _ | exact sv_slice _ _ _) rfl ?_)
set_option maxHeartbeats 4000000 in
theorem w_xnew (h1 : 1 ≤ mt) (h2 : mt ≤ 65536) (h3 : 1 ≤ ns) (h4 : ns ≤ 64) (h5 : 1 ≤ ni) (h6 : ni ≤ 64) (hf : first < 4294967296) (hpf : pf < 4294967296) (hpe : pe < 4294967296) (hn : 10 ≤ n) :
    ResQ (callN Tryz.prog G0 n (.call 8 [.agg #[.int .u32 (first : Int), .int .u32 (pf : Int), .int .u32 (pe : Int), nv ns, nv ni, nv mt]]) h) (fun v h' => ∃ X Q sb S M N, v = pt X ∧ NwQ h h' X Q sb S M N first pf pe mt ns ni) := by
  obtain ⟨n, rfl⟩ : ∃ m, n = m + 1 := ⟨n - 1, by omega⟩
  refine res_enter rfl d8 rfl ?_; simp only [c8]
  refine gg ?_
  obtain ⟨b1, k1, n1⟩ := box_one h (.cells 28 [.int .u32 (first : Int), .int .u32 (pf : Int), .int .u32 (pe : Int), nv ns, nv ni, nv mt] (.own false))
  change ItQ (runItems _ _ _ (h.new (.cells 28 [.int .u32 (first : Int), .int .u32 (pf : Int), .int .u32 (pe : Int), nv ns, nv ni, nv mt] (.own false)))) _
  generalize (h.new (.cells 28 [.int .u32 (first : Int), .int .u32 (pf : Int), .int .u32 (pe : Int), nv ns, nv ni, nv mt] (.own false))) = hA at *
  have ld : ∀ (g : Heap) (i : Nat) (v : Value), g.get h.next = some (.cells 28 [.int .u32 (first : Int), .int .u32 (pf : Int), .int .u32 (pe : Int), nv ns, nv ni, nv mt] (.own false)) → [.int .u32 (first : Int), .int .u32 (pf : Int), .int .u32 (pe : Int), nv ns, nv ni, nv mt][i]? = some v → load1 g.get ⟨h.next, i, none⟩ = some v := fun g i v hg hv => (load1_own hg).trans hv
  refine i_load1 (v := nv ns) (by exact sel_of rfl) (ld hA (0 + 3) _ b1 rfl) ?_
  refine gg ?_
  refine i_load1 (v := nv ns) (by exact sel_of rfl) (ld hA (0 + 3) _ b1 rfl) ?_
  refine gg ?_
  refine i_load1 (v := .int .u32 (first : Int)) (by exact sel_of rfl) (ld hA (0 + 0) _ b1 rfl) ?_
  refine gg ?_
  refine i_call1 (by exact sel_of rfl) (w_qnew hf (by omega)) ?_
  rintro _ _ ⟨rfl, rfl⟩
  obtain ⟨c1, k2, n2⟩ := box_one hA (.cells 93 [.slice none 0 0, .int .u32 (first : Int)] (.own false))
  generalize (hA.new (.cells 93 [.slice none 0 0, .int .u32 (first : Int)] (.own false))) = hB at *
  have b2 := (k2.get h.next (by omega)).trans b1
  refine gg ?_
  refine i_load1 (v := nv mt) (by exact sel_of rfl) (ld hB (0 + 5) _ b2 rfl) ?_
  refine gg ?_
  refine i_call1 (by exact sel_of rfl) (w_wstart h1 h2 (by omega)) ?_
  rintro _ hC ⟨rfl, k3, n3⟩
  have b3 := (k3.get h.next (by omega)).trans b2
  refine gg ?_
  refine i_call0 (w_rstart (by omega)) ?_
  rintro _ hD ⟨rfl, k4, n4⟩
  have b4 := (k4.get h.next (by omega)).trans b3
  refine gg ?_
  refine i_load1 (v := .int .u32 (pe : Int)) (by exact sel_of rfl) (ld hD (0 + 2) _ b4 rfl) ?_
  refine gg ?_
  refine i_load1 (v := nv ns) (by exact sel_of rfl) (ld hD (0 + 3) _ b4 rfl) ?_
  refine gg ?_
  refine items_cons (it_a (mk_slice (l := ns) (c := ns) (by exact sel_of rfl) (by exact sel_of rfl) (Nat.le_refl _) (by omega) (by omega)) ?_)
  show ItQ (runItems _ _ (puts ((25, .slice (some ⟨hD.next, 0, none⟩) ns ns) :: _) _) (hD.new (.cells 32 (rep ns [.int .u16 0]) (.own false)))) _
  obtain ⟨d1, k5, n5⟩ := box_one hD (.cells 32 (rep ns [.int .u16 0]) (.own false))
  generalize (hD.new (.cells 32 (rep ns [.int .u16 0]) (.own false))) = hE at *
  have hrep : ∀ k, rep k [Value.int .u16 0] = ssv (List.replicate k 0) := fun k => by
    induction k with
    | zero => rfl
    | succ k ih =>
      show [Value.int .u16 0] ++ rep k [Value.int .u16 0] = _
      rw [ih]; rfl
  rw [hrep] at d1
  have b5 := (k5.get h.next (by omega)).trans b4
  refine gg ?_
  refine i_v (v := .agg (sndv hA.next mt pe ⟨hD.next, 0, none⟩ ns).toArray) (by rfl) ?_
  refine gg ?_
  obtain ⟨e1, k6, n6⟩ := box_one hE (.cells 71 [.pointer none, .int .i64 0, .int .i64 0, .int .i64 0, .int .i64 0, .bool false, .int .u32 0, .int .i64 0, .int .i64 0, .int .i64 0, .bool false, .int .i64 0, .slice none 0 0, .bool false, .int .i64 0, .bool false, .int .u32 0, .int .i64 0] (.own false))
  generalize (hE.new (.cells 71 [.pointer none, .int .i64 0, .int .i64 0, .int .i64 0, .int .i64 0, .bool false, .int .u32 0, .int .i64 0, .int .i64 0, .int .i64 0, .bool false, .int .i64 0, .slice none 0 0, .bool false, .int .i64 0, .bool false, .int .u32 0, .int .i64 0] (.own false))) = hF at *
  refine i_storeP (b := hE.next) (vs := sndv hA.next mt pe ⟨hD.next, 0, none⟩ ns) (by exact sel_of rfl) (by rw [sel_of rfl]; rfl) e1 rfl rfl ?_
  have e2 : (hF.put hE.next (.cells 71 (sndv hA.next mt pe ⟨hD.next, 0, none⟩ ns) (.own false))).get hE.next = some (.cells 71 (sndv hA.next mt pe ⟨hD.next, 0, none⟩ ns) (.own false)) := by rw [Heap.get_put, if_pos rfl]
  have k7 : Keeps hE (hF.put hE.next (.cells 71 (sndv hA.next mt pe ⟨hD.next, 0, none⟩ ns) (.own false))) := k6.put (Nat.le_refl _) _
  have n7 : (hF.put hE.next (.cells 71 (sndv hA.next mt pe ⟨hD.next, 0, none⟩ ns) (.own false))).next = hE.next + 1 := n6
  clear e1 k6 n6
  generalize (hF.put hE.next (.cells 71 (sndv hA.next mt pe ⟨hD.next, 0, none⟩ ns) (.own false))) = hG at *
  refine gg ?_
  refine ⟨chk_cons (a := _) rfl (ld1 (by exact sel_of rfl) (ld hB (0 + 5) _ b2 rfl)) (sv_int _ _) (fun m hm => by
    simp only [List.mem_cons, List.not_mem_nil, or_false] at hm
    rcases hm with rfl | rfl
    · exact ⟨_, _, rfl, ld1 (by exact sel_of rfl) (ld hA (0 + 5) _ b1 rfl)⟩
    · exact ⟨_, _, rfl, ld1 (by exact sel_of rfl) (ld hB (0 + 5) _ b2 rfl)⟩) (chk_cons (a := _) rfl (ld1 (by exact sel_of rfl) (ld hD (0 + 2) _ b4 rfl)) (sv_int _ _) (fun m hm => by
    simp only [List.mem_cons, List.not_mem_nil, or_false] at hm
    rcases hm with rfl | rfl | rfl | rfl
    · exact ⟨_, _, rfl, ld1 (by exact sel_of rfl) (ld hA (0 + 2) _ b1 rfl)⟩
    · exact ⟨_, _, rfl, ld1 (by exact sel_of rfl) (ld hB (0 + 2) _ b2 rfl)⟩
    · exact ⟨_, _, rfl, ld1 (by exact sel_of rfl) (ld hC (0 + 2) _ b3 rfl)⟩
    · exact ⟨_, _, rfl, ld1 (by exact sel_of rfl) (ld hD (0 + 2) _ b4 rfl)⟩) (chk_cons (a := _) rfl (ld1 (by exact sel_of rfl) (ld hD (0 + 3) _ b4 rfl)) (sv_int _ _) (fun m hm => by
    simp only [List.mem_cons, List.not_mem_nil, or_false] at hm
    rcases hm with rfl | rfl | rfl | rfl
    · exact ⟨_, _, rfl, ld1 (by exact sel_of rfl) (ld hA (0 + 3) _ b1 rfl)⟩
    · exact ⟨_, _, rfl, ld1 (by exact sel_of rfl) (ld hB (0 + 3) _ b2 rfl)⟩
    · exact ⟨_, _, rfl, ld1 (by exact sel_of rfl) (ld hC (0 + 3) _ b3 rfl)⟩
    · exact ⟨_, _, rfl, ld1 (by exact sel_of rfl) (ld hD (0 + 3) _ b4 rfl)⟩) chk_nil)), ?_⟩
  have b7 := (k7.get h.next (by omega)).trans b5
  refine gg ?_
  refine i_loadN (v := sndv hA.next mt pe ⟨hD.next, 0, none⟩ ns) (by exact sel_of rfl) (loadN_all e2 rfl) ?_
  refine gg ?_
  refine i_load1 (v := .int .u32 (pf : Int)) (by exact sel_of rfl) (ld hG (0 + 1) _ b7 rfl) ?_
  refine gg ?_
  refine i_call1 (by exact sel_of rfl) (w_gnew hpf (by omega)) ?_
  rintro _ _ ⟨rfl, rfl⟩
  obtain ⟨f1, f2, k8, n8⟩ := box_two hG (.map [] 0) (.cells 97 [.int .u32 (((pf + 4294967295) % 4294967296 : Nat) : Int), .map (some hG.next), .slice none 0 0] (.own false))
  generalize ((hG.new (.map [] 0)).new (.cells 97 [.int .u32 (((pf + 4294967295) % 4294967296 : Nat) : Int), .map (some hG.next), .slice none 0 0] (.own false))) = hH at *
  have b8 := (k8.get h.next (by omega)).trans b7
  refine gg ?_
  refine i_load1 (v := nv ni) (by exact sel_of rfl) (ld hH (0 + 4) _ b8 rfl) ?_
  refine gg ?_
  refine i_call1 (by exact sel_of rfl) (w_new h5 h6 (by omega)) ?_
  rintro _ hI ⟨rfl, k9, jn⟩
  have n9 := k9.next
  have jup := jn.up
  refine gg ?_
  refine i_v (v := .agg (endv hA.next mt pe ⟨hD.next, 0, none⟩ ns (hG.next + 1) (hH.next + 3)).toArray) (by rfl) ?_
  refine gg ?_
  obtain ⟨g1, k10, n10⟩ := box_one hI (.cells 79 (endv hA.next mt pe ⟨hD.next, 0, none⟩ ns (hG.next + 1) (hH.next + 3)) (.own false))
  refine ⟨chk_cons (a := _) rfl (ldN (by exact sel_of rfl) (loadN_all e2 rfl)) (sv_snd _ _ _ _ _) (fun m hm => by
    simp only [List.mem_cons, List.not_mem_nil, or_false] at hm
    rcases hm with rfl | rfl | rfl
    · exact ⟨_, _, rfl, ldN (by exact sel_of rfl) (loadN_all e2 rfl)⟩
    · exact ⟨_, _, rfl, ldN (by exact sel_of rfl) (loadN_all ((k8.get hE.next (by omega)).trans e2) rfl)⟩
    · exact ⟨_, _, rfl, ldN (by exact sel_of rfl) (loadN_all ((k9.get hE.next (by omega)).trans ((k8.get hE.next (by omega)).trans e2)) rfl)⟩) (chk_cons (a := _) rfl (ld1 (by exact sel_of rfl) (ld hH (0 + 4) _ b8 rfl)) (sv_int _ _) (fun m hm => by
    simp only [List.mem_cons, List.not_mem_nil, or_false] at hm
    rcases hm with rfl | rfl
    · exact ⟨_, _, rfl, ld1 (by exact sel_of rfl) (ld hG (0 + 4) _ b7 rfl)⟩
    · exact ⟨_, _, rfl, ld1 (by exact sel_of rfl) (ld hH (0 + 4) _ b8 rfl)⟩) chk_nil), ?_⟩
  refine gg ?_
  show ∃ X Q sb S M N, _ ∧ NwQ h (hI.new (.cells 79 (endv hA.next mt pe ⟨hD.next, 0, none⟩ ns (hG.next + 1) (hH.next + 3)) (.own false))) X Q sb S M N first pf pe mt ns ni
  generalize (hI.new (.cells 79 (endv hA.next mt pe ⟨hD.next, 0, none⟩ ns (hG.next + 1) (hH.next + 3)) (.own false))) = hJ at *
  have low : ∀ d, d < hG.next → hJ.get d = hG.get d := fun d hd => by rw [k10.get d (by omega), k9.get d (by omega), k8.get d hd]
  have lowQ : hJ.get hA.next = some (.cells 93 [.slice none 0 0, .int .u32 (first : Int)] (.own false)) := by
    rw [low _ (by omega), k7.get _ (by omega), k5.get _ (by omega), k4.get _ (by omega), k3.get _ (by omega)]; exact c1
  refine ⟨hI.next, hA.next, hD.next, hG.next + 1, hG.next, hH.next, rfl, ?_, ⟨by omega, by omega⟩, g1, ⟨lowQ, by omega, .inl ⟨rfl, rfl⟩, (fun e he => nomatch he), List.nodup_nil, Nat.zero_le _, hf⟩, ?_, ⟨by omega, by omega⟩, by omega, ?_, ?_, ⟨by omega, by omega, by omega, by omega, by omega⟩, jn.keeps k10⟩
  · exact (((((((k1.trans k2).trans k3).trans k4).trans k5).trans k7).trans k8).trans k9).trans k10
  · rw [low _ (by omega), k7.get _ (by omega)]; exact d1
  · rw [k10.get _ (by omega), k9.get _ (by omega)]; exact f2
  · rw [k10.get _ (by omega), k9.get _ (by omega)]; exact f1
end
end Go.Proofs.YtmlagbknnngjjaaGreat

/-! What the laws of transfers share: an End to which messages were given. -/
set_option linter.unusedVariables false
namespace Vm
open Go
theorem ints_of : ∀ (els : List (List Value)) {h : Heap}, (∀ c ∈ els, Rep h (.int .i64) c) → ∃ l : List Int, els.flatten = l.map (fun z => Value.int .i64 z) ∧ l.length = els.length
  | [], _, _ => ⟨[], rfl, rfl⟩
  | x :: els, h, hx => by
    obtain ⟨l, hl, hn⟩ := ints_of els (fun c hc => hx c (by simp [hc]))
    cases hx x (by simp) with
    | @int k n hw => exact ⟨n :: l, by rw [List.flatten_cons, hl]; rfl, by rw [List.length_cons, List.length_cons, hn]⟩
/-- numbers -/
theorem RepV.ints {h : Heap} {v : Value} (r : RepV h (.slice (.int .i64)) v) : ∃ (o : Option Addr) (c : Nat) (l : List Int), v = .slice o l.length c ∧ Row h 1 o l.length (l.map fun z => Value.int .i64 z) ∧ l.length ≤ c := by
  obtain ⟨o, m, c, els, h1, h2, h3, h4, h5, h6, h7⟩ := Rep.row r
  obtain ⟨l, hl, hn⟩ := ints_of els h5
  have : m = l.length := by rw [hn, h3]
  subst this
  exact ⟨o, c, l, h1, by rw [← hl]; exact h2, h6⟩
end Vm
namespace Go.Proofs.YtmlagbknnngjjaaGreat
open Go Vm
theorem w_awakeX (h : Heap) (n : Nat) (hn : 1 ≤ n) : ResQ (callN Tryz.prog G0 n (.call 7 []) h) (fun v h' => v = .bool true ∧ h = h') := by
  obtain ⟨m, rfl⟩ : ∃ m, n = m + 1 := ⟨n - 1, by omega⟩
  exact ⟨.bool true, h, by rw [callN_call]; rfl, rfl, rfl⟩
section
variable {rec : Rec} {L : List (Nat × Value)} {f : Fr} {h : Heap} {K : Fr → Heap → Prop} {x y : Sel} {l : List ISem} {dt : Nat} {rd : Bool}
theorem i_andM {p : Int} {M : Nat} (hx : x.f (puts L f) = .int .i64 p) (hy : y.f (puts L f) = .int .i64 (M : Int)) (hM : M < 1000000) (hq : ∀ z : Nat, z ≤ M → ItQ (runItems rec l (puts ((dt, nv z) :: L) f) h) K) : ItQ (runItems rec (iOp (put dt) (.v rd (oInt2 fAnd x y)) :: l) (puts L f) h) K := by
  refine i_and hx hy ?_
  have h1 : Nat.land (bitsOf .i64 p) (bitsOf .i64 (M : Int)) ≤ M := Nat.and_le_right
  have h2 : wrap .i64 (.ofNat (Nat.land (bitsOf .i64 p) (bitsOf .i64 (M : Int)))) = ((Nat.land (bitsOf .i64 p) (bitsOf .i64 (M : Int)) : Nat) : Int) := wrap_lt (Nat.lt_of_le_of_lt h1 (by show M < 9223372036854775808; omega))
  rw [h2]
  exact hq _ h1
end
/-- an End to which messages were given: es waits -/
structure LS (h0 h : Heap) (X Q sb S J mt pe a : Nat) (es : List Ent) (sl : List Nat) : Prop where
  keep : Keeps h0 h
  gX : h.get X = some (.cells 79 (endv Q mt pe ⟨sb, 0, none⟩ sl.length S J) (.own false))
  xl : X < h.next ∧ h0.next ≤ X ∧ sb < h.next ∧ h0.next ≤ sb ∧ h0.next ≤ Q
  que : ∃ oq, Que h Q oq ((a + es.length) % 4294967296) es ∧ ∀ q, oq = some q → h0.next ≤ q.block
  gsb : h.get sb = some (.cells 32 (ssv sl) (.own false))
  sll : ∀ z ∈ sl, z < 65536
  new : ∀ e ∈ es, e.st = 0 ∧ e.sent = 0 ∧ h0.next ≤ e.b
  num : es.map (fun e => e.c.A) = (List.range es.length).map fun j => (a + j) % 4294967296
theorem endv_sd (Q mt pe : Nat) (so : Addr) (ns S J : Nat) : SdV (endv Q mt pe so ns S J) Q (3 * mt) mt 3000 (pe : Int) false true := ⟨rfl, rfl, rfl, rfl, rfl, rfl⟩
theorem octs_all {ss : List Nat} : ∀ (es : List Ent), (∀ e ∈ es, e.st ∈ ss) → octs ss es = (es.map Ent.sz).sum
  | [], _ => rfl
  | e :: es, h => by
    have ih := octs_all (ss := ss) es fun x hx => h x (List.mem_cons_of_mem _ hx)
    unfold octs at ih ⊢
    rw [List.map_cons, List.map_cons, List.sum_cons, List.sum_cons, ih, if_pos (h e (List.mem_cons_self ..))]
theorem octs_none {ss : List Nat} : ∀ (es : List Ent), (∀ e ∈ es, e.st ∉ ss) → octs ss es = 0
  | [], _ => rfl
  | e :: es, h => by
    have ih := octs_none (ss := ss) es fun x hx => h x (List.mem_cons_of_mem _ hx)
    unfold octs at ih ⊢
    rw [List.map_cons, List.sum_cons, ih, if_neg (h e (List.mem_cons_self ..))]
section
variable {h0 h : Heap} {n X Q sb S J mt pe a : Nat} {es : List Ent} {sl : List Nat}
theorem LS.send {o : Addr} {d : List UInt8} {dc str pp : Nat} {now : Int} (T : LS h0 h X Q sb S J mt pe a es sl) (hs : str < sl.length) (hst : str < 65536) (hpp : pp < 4294967296) (hmt : mt ≤ 65536)
    (hr : Row h 1 (some o) d.length (u8s d)) (hdc : d.length ≤ dc) (hd0 : d ≠ []) (hd : d.length ≤ 16384) (hoct : (es.map Ent.sz).sum + d.length ≤ 65536) (hcnt : es.length + (pcs (mostN mt) d).length ≤ 1024) (hn : es.length + d.length + 100 ≤ n) :
    ResQ (callN Tryz.prog G0 n (.call 9 [pt X, .agg #[.int .u16 (str : Int), .bool false, .int .u32 (pp : Int), .slice (some o) d.length dc], .int .i64 (-1), .int .i64 (-1), .int .i64 now]) h) (fun v h' => v = .int .i64 0 ∧ ∃ en, LS h0 h' X Q sb S J mt pe a (es ++ en) (sl.set str ((sl[str] + 1) % 65536)) ∧ en.map (fun e => e.c.dt) = pcs (mostN mt) d ∧ en.map Ent.c = numd ((a + es.length) % 4294967296) (spl str sl[str] pp (pcs (mostN mt) d))) := by
  obtain ⟨keep, gX, ⟨x1, x2, x3, x4, x5⟩, ⟨oq, que, hoq⟩, gsb, sll, new, num⟩ := T
  have ho : octs [0, 2] es = (es.map Ent.sz).sum := octs_all es fun e he => by rw [(new e he).1]; decide
  refine (w_sendM que gX x1 (endv_sd ..) rfl rfl gsb x3 hs hst hpp sll hmt hr hdc hd0 hd (by rw [ho]; exact hoct) hcnt hn).mono ?_
  rintro v h' ⟨rfl, ⟨oq', en, q1, q2, q3, q4⟩, n1, low, gsb'⟩
  have hlen : en.length = (spl str sl[str] pp (pcs (mostN mt) d)).length := by
    have := congrArg List.length q2
    rw [List.length_map] at this
    rw [this]; unfold numd; rw [List.length_mapIdx]
  have hXQ : X ≠ Q := fun e => by rw [e, que.hq] at gX; cases gX
  have hXs : X ≠ sb := fun e => by rw [e, gsb] at gX; cases gX
  have hXo : ∀ q, oq = some q → X ≠ q.block := fun q hq e => by
    rcases que.ar with ⟨_, h2⟩ | ⟨k, h1, h2, h3⟩
    · rw [h2] at hq; cases hq
    · rw [h1] at hq; cases hq; rw [e, h3] at gX; cases gX
  refine ⟨rfl, en, ⟨⟨by have := keep.next; omega, fun z hz => ?_⟩, ?_, ⟨by omega, x2, by omega, x4, x5⟩, ⟨oq', ?_, fun q hq => ?_⟩, gsb', fun z hz => ?_, fun e he => ?_, ?_⟩, ?_, q2⟩
  · have := keep.next
    exact (low z (by omega) (by omega) (by omega) (fun q hq => by have := hoq q hq; omega)).trans (keep.get z hz)
  · rw [List.length_set]; exact (low X x1 hXQ hXs hXo).trans gX
  · rw [List.length_append, hlen]
    have e1 : ((a + es.length) % 4294967296 + (spl str sl[str] pp (pcs (mostN mt) d)).length) % 4294967296 = (a + (es.length + (spl str sl[str] pp (pcs (mostN mt) d)).length)) % 4294967296 := by omega
    rw [← e1]; exact q1
  · rcases q4 q hq with h1 | h1
    · exact hoq q h1
    · have := keep.next; omega
  · rcases List.mem_or_eq_of_mem_set hz with hz | rfl
    · exact sll z hz
    · exact Nat.mod_lt _ (by decide)
  · rcases List.mem_append.1 he with he | he
    · exact new e he
    · obtain ⟨h1, h2, h3⟩ := q3 e he
      exact ⟨h1, h2, by have := keep.next; omega⟩
  · rw [List.map_append, num, List.length_append, List.range_add, List.map_append]
    congr 1
    have e2 : en.map (fun e => e.c.A) = (en.map Ent.c).map Ck.A := by rw [List.map_map]; rfl
    rw [e2, q2]
    apply List.ext_getElem
    · unfold numd; rw [List.length_map, List.length_mapIdx, List.length_map, List.length_map, List.length_range, hlen]
    · intro i h1 h2
      rw [List.getElem_map, List.getElem_map, List.getElem_map, List.getElem_range]
      have e3 : (numd ((a + es.length) % 4294967296) (spl str sl[str] pp (pcs (mostN mt) d)))[i]'(by rw [List.length_map] at h1; exact h1) = { (spl str sl[str] pp (pcs (mostN mt) d))[i]'(by rw [List.length_map] at h1; unfold numd at h1; rw [List.length_mapIdx] at h1; exact h1) with A := ((a + es.length) % 4294967296 + i) % 4294967296 } := by simp only [numd, List.getElem_mapIdx]
      rw [e3]
      show ((a + es.length) % 4294967296 + i) % 4294967296 = (a + (es.length + i)) % 4294967296
      omega
  · have e2 : en.map (fun e => e.c.dt) = (en.map Ent.c).map Ck.dt := by rw [List.map_map]; rfl
    rw [e2, q2]
    apply List.ext_getElem
    · unfold numd spl; rw [List.length_map, List.length_mapIdx, List.length_mapIdx]
    · intro i h1 h2
      simp only [numd, spl, List.getElem_map, List.getElem_mapIdx]
      rfl
end
end Go.Proofs.YtmlagbknnngjjaaGreat

