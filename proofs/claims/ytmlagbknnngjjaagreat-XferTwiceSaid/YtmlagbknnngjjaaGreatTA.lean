/- Part of a proof by an abstract run of the program's code: TA. No condition. -/
import Derived.Test.YtmlagbknnngjjaaGreatTC
import Derived.Test.YtmlagbknnngjjaaGreatGx
import Derived.Test.YtmlagbknnngjjaaGreatTJ
/-! The queue: ranges over its entries of some states. -/
set_option linter.unusedVariables false
namespace Go.Proofs.YtmlagbknnngjjaaGreat
open Go Vm
abbrev nv (n : Nat) : Value := .int .i64 (n : Int)
abbrev pt (b : Nat) : Value := .pointer (some ⟨b, 0, none⟩)
theorem o_brangeX {P : Program} {rec : Rec} {n id nt : Nat} {f : Sel} {ps : List Tmp} {s b : Code} {a : Fr} {h : Heap} {g : FuncId} {cap : Array Value} {Q : Ex → Fr → Heap → Prop} (hf : f.f a = .func (.func g) #[] cap)
    (hc : ResQ (rec (.call g (Value.func (.yield h.next) #[] #[] :: cap.toList)) (h.new (.loop nt ps s b a .ready none))) (fun _ h' => RgQ h.next nt ps s b a (Blo id Q) h')) : OutQ ((sBlock id (sRangeFunc nt f ps s b)).f rec n a h) Q := out_block (out_range hf hc)
theorem i_yieldX {rec : Rec} {L : List (Nat × Value)} {f : Fr} {h : Heap} {K : Fr → Heap → Prop} {l : List ISem} {dt q : Nat} {c x1 : Sel} {v1 : Value} {R : Value → Heap → Prop} (hc : c.f (puts L f) = .func (.yield q) #[] #[]) (h1 : x1.f (puts L f) = v1) (hv : ResQ (rec (.yield q [v1]) h) R)
    (hq : ∀ v h', R v h' → ItQ (runItems rec l (puts ((dt, v) :: L) f) h') K) : ItQ (runItems rec (iOp (put dt) (.e (eCall c [x1])) :: l) (puts L f) h) K := by
  subst h1
  refine items_cons (it_e (ResQ.mono ?_ hq))
  simp only [eCall, hc]
  exact hv
section
variable {h : Heap} {n : Nat}
theorem w_index {o : Option Addr} {c x : Nat} {ss : List Nat} (hr : Row h 1 o ss.length (ss.map nv)) (hl : ss.length ≤ 100) (hn : ss.length + 5 ≤ n) :
    ResQ (callN Tryz.prog G0 n (.call 126 [.slice o ss.length c, nv x]) h) (fun v h' => (∃ k : Int, v = .int .i64 k ∧ (0 ≤ k ↔ x ∈ ss)) ∧ h = h') := by
  obtain ⟨n, rfl⟩ : ∃ m, n = m + 1 := ⟨n - 1, by omega⟩
  refine res_enter rfl d126 rfl ?_; simp only [c126]
  refine gg ?_
  refine o_up ss.length (fun i f h' => (h = h' ∧ ∀ k ∈ ss.take i, k ≠ x) ∧ Sl [(8, nv i), (7, nv ss.length), (6, .slice o ss.length c), (1, nv x), (0, .slice o ss.length c)] f) (by omega) ⟨⟨rfl, fun k hk => nomatch hk⟩, sel_of rfl, sel_of rfl, sel_of rfl, sel_of rfl, sel_of rfl, trivial⟩ ?_
  rintro i f _ hi ⟨⟨rfl, hne⟩, hs⟩
  obtain ⟨f0, rfl⟩ := hs.puts
  clear hs
  simp only [c126_0]
  refine gg ?_
  by_cases hi2 : i < ss.length
  · refine gg ?_
    refine i_idx (by exact sel_of rfl) hr (i := i) (by exact sel_of rfl) hi2 fun q hq => ?_
    subst hq
    refine i_load1 (v := nv (ss[i])) (by exact sel_of rfl) (by rw [Nat.mul_one, hr.cell (i := i) (by omega)]; simp [hi2]) ?_
    refine gg ?_
    by_cases he : (x : Int) = ((ss[i] : Nat) : Int)
    · refine gg ?_
      refine ⟨⟨_, rfl, ?_⟩, rfl⟩
      have : x = ss[i] := by omega
      exact ⟨fun _ => by rw [this]; exact List.getElem_mem _, fun _ => by omega⟩
    · refine gg ?_
      refine rnd_up hi2 ⟨⟨rfl, fun k hk => ?_⟩, sel_of rfl, sel_of rfl, sel_of rfl, sel_of rfl, sel_of rfl, trivial⟩
      rw [List.take_succ_eq_append_getElem hi2, List.mem_append] at hk
      rcases hk with hk | hk
      · exact hne k hk
      · simp only [List.mem_cons, List.not_mem_nil, or_false] at hk; omega
  · refine gg ?_
    refine ⟨⟨_, rfl, ⟨fun h0 => by omega, fun hx => ?_⟩⟩, rfl⟩
    rw [List.take_of_length_le (by omega)] at hne
    exact absurd rfl (hne x hx)
theorem w_contains {o : Option Addr} {c x : Nat} {ss : List Nat} (hr : Row h 1 o ss.length (ss.map nv)) (hl : ss.length ≤ 100) (hn : ss.length + 10 ≤ n) :
    ResQ (callN Tryz.prog G0 n (.call 105 [.slice o ss.length c, nv x]) h) (fun v h' => v = .bool (decide (x ∈ ss)) ∧ h = h') := by
  obtain ⟨n, rfl⟩ : ∃ m, n = m + 1 := ⟨n - 1, by omega⟩
  refine res_enter rfl d105 rfl ?_; simp only [c105]
  refine gg ?_
  refine i_call2 (by exact sel_of rfl) (by exact sel_of rfl) (w_index hr hl (by omega)) ?_
  rintro _ _ ⟨⟨k, rfl, hk⟩, rfl⟩
  refine gg ?_
  exact ⟨congrArg Value.bool (decide_eq_decide.2 hk), rfl⟩
/-- what a range over entries reads -/
structure InF (h : Heap) (Qb Sb Q : Nat) (oq : Option Addr) (c : Nat) (bs ss : List Nat) : Prop where
  hQ : ∃ e op, h.get Qb = some (.cells e [pt Q] (.own op))
  hS : ∃ e op os c, h.get Sb = some (.cells e [.slice os ss.length c] (.own op)) ∧ Row h 1 os ss.length (ss.map nv)
  hq : ∃ e op nx, h.get Q = some (.cells e [.slice oq bs.length c, nx] (.own op))
  hr : Row h 1 oq bs.length (bs.map pt)
theorem w_in1 {Qb Sb Q L c d : Nat} {oq : Option Addr} {bs ss : List Nat} (J : Nat → Heap → Prop) (R : Heap → Prop) (st : Nat → Nat) (hss : ss.length ≤ 100) (hbs : bs.length ≤ 2000)
    (hF : ∀ i h, J i h → InF h Qb Sb Q oq c bs ss)
    (hst : ∀ i b h, J i h → bs[i]? = some b → ∃ e cs op, h.get b = some (.cells e cs (.own op)) ∧ cs[13]? = some (nv (st i)))
    (hskip : ∀ i h, J i h → i < bs.length → st i ∉ ss → J (i + 1) h)
    (hy : ∀ i b h m, J i h → bs[i]? = some b → st i ∈ ss → d ≤ m → ResQ (callN Tryz.prog G0 m (.yield L [pt b]) h) (fun v h' => (v = .bool true ∧ J (i + 1) h') ∨ (v = .bool false ∧ R h')))
    (h0 : J 0 h) (hn : bs.length + ss.length + d + 20 ≤ n) :
    ResQ (callN Tryz.prog G0 n (.call 104 [.func (.yield L) #[] #[], pt Qb, pt Sb]) h) (fun _ h' => J bs.length h' ∨ R h') := by
  obtain ⟨n, rfl⟩ : ∃ m, n = m + 1 := ⟨n - 1, by omega⟩
  refine res_enter rfl d104 rfl ?_; simp only [c104]
  refine gg ?_
  obtain ⟨⟨e1, p1, g1⟩, _, ⟨e3, p3, nx, g3⟩, hr⟩ := hF 0 h h0
  refine i_load1 (v := pt Q) (by exact sel_of rfl) ((load1_own g1).trans (by rfl)) ?_
  refine gg ?_
  refine i_load1 (v := pt Q) (by exact sel_of rfl) ((load1_own g1).trans (by rfl)) ?_
  refine gg ?_
  refine i_load1 (v := .slice oq bs.length c) (by exact sel_of rfl) ((load1_own g3).trans (by rfl)) ?_
  refine gg ?_
  refine o_up bs.length (fun i f h' => J i h' ∧ Sl [(13, nv i), (12, nv bs.length), (11, .slice oq bs.length c), (0, .func (.yield L) #[] #[]), (2, pt Sb)] f) (by omega) ⟨h0, sel_of rfl, sel_of rfl, sel_of rfl, sel_of rfl, sel_of rfl, trivial⟩ ?_
  clear hr g1 g3 h0
  rintro i f h hi ⟨hJ, hs⟩
  obtain ⟨f0, rfl⟩ := hs.puts
  clear hs
  simp only [c104_0]
  refine gg ?_
  by_cases hi2 : i < bs.length
  · refine gg ?_
    obtain ⟨_, ⟨e2, p2, os, c2, g2, hr2⟩, _, hr⟩ := hF i h hJ
    obtain ⟨ee, cs, op, gb, g13⟩ := hst i bs[i] h hJ (by simp [hi2])
    refine i_idx (by exact sel_of rfl) hr (i := i) (by exact sel_of rfl) hi2 fun q hq => ?_
    subst hq
    refine i_load1 (v := pt (bs[i])) (by exact sel_of rfl) (by rw [Nat.mul_one, hr.cell (i := i) (by omega)]; simp [hi2]) ?_
    refine gg ?_
    refine i_load1 (v := .slice os ss.length c2) (by exact sel_of rfl) ((load1_own g2).trans (by rfl)) ?_
    refine gg ?_
    refine i_load1 (v := nv (st i)) (by exact sel_of rfl) ((load1_own gb).trans (by rw [Nat.zero_add]; exact g13)) ?_
    refine gg ?_
    refine i_call2 (by exact sel_of rfl) (by exact sel_of rfl) (w_contains hr2 hss (by omega)) ?_
    rintro _ _ ⟨rfl, rfl⟩
    refine gg ?_
    by_cases hm : st i ∈ ss
    · rw [decide_eq_true hm]
      refine gg ?_
      have hv := hy i bs[i] h n hJ (by simp [hi2]) hm (by omega)
      refine i_yieldX (by exact sel_of rfl) (by exact sel_of rfl) hv ?_
      rintro _ h' (⟨rfl, hJ'⟩ | ⟨rfl, hR⟩)
      · refine gg ?_
        exact rnd_up hi2 ⟨hJ', sel_of rfl, sel_of rfl, sel_of rfl, sel_of rfl, sel_of rfl, trivial⟩
      · refine gg ?_
        exact .inr hR
    · rw [decide_eq_false hm]
      refine gg ?_
      exact rnd_up hi2 ⟨hskip i h hJ hi2 hm, sel_of rfl, sel_of rfl, sel_of rfl, sel_of rfl, sel_of rfl, trivial⟩
  · refine gg ?_
    have : i = bs.length := by omega
    subst this
    exact .inl hJ
end
end Go.Proofs.YtmlagbknnngjjaaGreat

/-! The queue in memory; how many octets its entries of some states have. -/
set_option linter.unusedVariables false
namespace Go.Proofs.YtmlagbknnngjjaaGreat
open Go Vm
/-- an entry, and where it lies -/
structure Ent where
  b : Nat
  p : Nat
  k : Nat
  c : Ck
  st : Nat
  sent : Nat
  mi : Nat
  tm : Int
def Ent.sz (e : Ent) : Nat := e.c.dt.length
def entv (e : Ent) : List Value := ckv e.c (some ⟨e.k, 0, some 1⟩) e.c.dt.length ++ [pt e.p, nv e.st, nv e.sent, .int .i64 e.tm, nv e.mi]
structure EntOK (h : Heap) (e : Ent) : Prop where
  hb : h.get e.b = some (.cells 115 (entv e) (.own false))
  bl : e.b < h.next
  hp : h.get e.p = some (.cells 112 [.int .i64 (-1), .int .i64 (-1), .bool false] (.own false))
  pl : e.p < h.next
  hk : h.get e.k = some (.cells 5 (u8s e.c.dt) (.own true))
  kl : e.k < h.next
  wf : e.c.wf
  ne : e.c.dt ≠ []
  le : e.c.dt.length ≤ 1172
theorem EntOK.keeps {h h' : Heap} {e : Ent} (x : EntOK h e) (k : Keeps h h') : EntOK h' e :=
  ⟨(k.get _ x.bl).trans x.hb, Nat.lt_of_lt_of_le x.bl k.next, (k.get _ x.pl).trans x.hp, Nat.lt_of_lt_of_le x.pl k.next, (k.get _ x.kl).trans x.hk, Nat.lt_of_lt_of_le x.kl k.next, x.wf, x.ne, x.le⟩
theorem EntOK.row {h : Heap} {e : Ent} (x : EntOK h e) : Row h 1 (some ⟨e.k, 0, some 1⟩) e.c.dt.length (u8s e.c.dt) :=
  ⟨by rw [u8s_length]; omega, x.kl, .inr rfl, loadN_all x.hk (by rw [u8s_length]; omega)⟩
/-- the queue in memory -/
structure Que (h : Heap) (Q : Nat) (oq : Option Addr) (nx : Nat) (es : List Ent) : Prop where
  hq : h.get Q = some (.cells 93 [.slice oq es.length es.length, .int .u32 (nx : Int)] (.own false))
  ql : Q < h.next
  ar : (es = [] ∧ oq = none) ∨ ∃ k, oq = some ⟨k, 0, some 1⟩ ∧ k < h.next ∧ h.get k = some (.cells 113 (es.map fun e => pt e.b) (.own true))
  en : ∀ e ∈ es, EntOK h e
  nd : (es.map Ent.b).Nodup
  lim : es.length ≤ 1024
  nxl : nx < 4294967296
theorem Que.keeps {h h' : Heap} {Q nx : Nat} {oq : Option Addr} {es : List Ent} (x : Que h Q oq nx es) (k : Keeps h h') : Que h' Q oq nx es :=
  ⟨(k.get _ x.ql).trans x.hq, Nat.lt_of_lt_of_le x.ql k.next, x.ar.imp id fun ⟨a, h1, h2, h3⟩ => ⟨a, h1, Nat.lt_of_lt_of_le h2 k.next, (k.get _ h2).trans h3⟩, fun e he => (x.en e he).keeps k, x.nd, x.lim, x.nxl⟩
theorem Que.ap {h : Heap} {Q nx : Nat} {oq : Option Addr} {es : List Ent} (x : Que h Q oq nx es) : Ap 0 h 113 1 oq es.length es.length (es.map fun e => pt e.b) := by
  rcases x.ar with ⟨rfl, rfl⟩ | ⟨k, rfl, hk, hg⟩
  · exact Ap.nil _ _ _ _
  · exact ⟨rfl, ⟨by simp, hk, .inr rfl, loadN_all hg (by simp)⟩, fun q e => by cases e; exact .inr ⟨k, rfl, Nat.zero_le _, hg⟩⟩
theorem Que.row {h : Heap} {Q nx : Nat} {oq : Option Addr} {es : List Ent} (x : Que h Q oq nx es) : Row h 1 oq (es.map Ent.b).length ((es.map Ent.b).map pt) := by
  have := x.ap.row
  rw [List.length_map, List.map_map]; exact this
section
variable {h : Heap} {n : Nat}
theorem w_size {e : Ent} (x : EntOK h e) (hn : 1 ≤ n) : ResQ (callN Tryz.prog G0 n (.call 81 [pt e.b]) h) (fun v h' => v = nv e.sz ∧ h = h') := by
  obtain ⟨n, rfl⟩ : ∃ m, n = m + 1 := ⟨n - 1, by omega⟩
  refine res_enter rfl d81 rfl ?_; simp only [c81]
  refine gg ?_
  refine i_load1 (v := .slice (some ⟨e.k, 0, some 1⟩) e.c.dt.length e.c.dt.length) (by exact sel_of rfl) ((load1_own x.hb).trans (by rfl)) ?_
  refine gg ?_
  exact ⟨rfl, rfl⟩
/-- octets of entries of some states -/
def octs (ss : List Nat) (es : List Ent) : Nat := (es.map fun e => if e.st ∈ ss then e.sz else 0).sum
theorem octs_snoc (ss : List Nat) (es : List Ent) (e : Ent) : octs ss (es ++ [e]) = octs ss es + if e.st ∈ ss then e.sz else 0 := by
  unfold octs; rw [List.map_append, List.sum_append]; simp
theorem octs_le {h : Heap} (ss : List Nat) : ∀ (es : List Ent), (∀ e ∈ es, EntOK h e) → octs ss es ≤ 1172 * es.length
  | [], _ => Nat.zero_le _
  | e :: es, x => by
    have h1 := octs_le ss es fun e he => x e (List.mem_cons_of_mem _ he)
    have h2 := (x e (List.mem_cons_self ..)).le
    show (if e.st ∈ ss then e.sz else 0) + octs ss es ≤ _
    rw [List.length_cons]
    have : (if e.st ∈ ss then e.sz else 0) ≤ e.sz := by split <;> omega
    have : e.sz = e.c.dt.length := rfl
    omega
/-- while a range over entries runs -/
structure RgI (h0 h : Heap) (Qb Sb L Q nt : Nat) (ps : List Tmp) (s b : Code) (a : Fr) (eq es : Nat) (vs : Value) : Prop where
  keep : Keeps h0 h
  gQ : h.get Qb = some (.cells eq [pt Q] (.own false))
  gS : h.get Sb = some (.cells es [vs] (.own false))
  gL : h.get L = some (.loop nt ps s b a .ready none)
theorem RgI.inF {h0 h : Heap} {Qb Sb L Q nt nx c : Nat} {ps : List Tmp} {s b : Code} {a : Fr} {eq es : Nat} {os oq : Option Addr} {ss : List Nat} {ee : List Ent} (r : RgI h0 h Qb Sb L Q nt ps s b a eq es (.slice os ss.length c)) (x : Que h0 Q oq nx ee) (hs : Row h0 1 os ss.length (ss.map nv)) : InF h Qb Sb Q oq ee.length (ee.map Ent.b) ss :=
  ⟨⟨_, _, r.gQ⟩, ⟨_, _, _, _, r.gS, hs.keeps r.keep⟩, ⟨_, _, _, by rw [List.length_map]; exact (x.keeps r.keep).hq⟩, (x.keeps r.keep).row⟩
theorem w_in {Q c : Nat} {os : Option Addr} {m : Nat} (hn : 1 ≤ n) :
    ResQ (callN Tryz.prog G0 n (.call 73 [pt Q, .slice os m c]) h) (fun v h' => v = .func (.func 104) #[] #[pt h.next, pt (h.next + 1)] ∧ h' = (h.new (.cells 59 [pt Q] (.own false))).new (.cells 23 [.slice os m c] (.own false))) := by
  obtain ⟨n, rfl⟩ : ∃ m, n = m + 1 := ⟨n - 1, by omega⟩
  refine res_enter rfl d73 rfl ?_; simp only [c73]
  refine gg ?_
  exact ⟨rfl, rfl⟩
structure TI (h0 h : Heap) (Qb Sb L Q X F : Nat) (a : Fr) (vs : Value) (t : Nat) : Prop where
  r : RgI h0 h Qb Sb L Q 15 [8] k80_0.1 k80_0.2 a 59 23 vs
  gX : h.get X = some (.cells 3 [nv t] (.own false))
  gF : ∃ e, h.get F = some (.cells e [.func (.func 81) #[] #[]] (.own false))
  ord : h0.next ≤ X ∧ X ≠ L ∧ h0.next ≤ L ∧ X ≠ F ∧ F ≠ L ∧ X ≠ Qb ∧ X ≠ Sb ∧ L ≠ Qb ∧ L ≠ Sb
theorem w_tround {h0 : Heap} {Qb Sb L Q X F t : Nat} {a : Fr} {vs : Value} {e : Ent} (T : TI h0 h Qb Sb L Q X F a vs t) (fr : Sl [(5, pt X), (3, pt F)] a) (en : EntOK h0 e) (ht : t ≤ 1300000) (hn : 3 ≤ n) :
    ResQ (callN Tryz.prog G0 n (.yield L [pt e.b]) h) (fun v h' => v = .bool true ∧ TI h0 h' Qb Sb L Q X F a vs (t + e.sz)) := by
  obtain ⟨⟨keep, gQ, gS, gL⟩, gX, ⟨eF, gF⟩, o1, o2, o3, o4, o5, o6, o7, o8, o9⟩ := T
  have frs := fr
  obtain ⟨n, rfl⟩ : ∃ m, n = m + 1 := ⟨n - 1, by omega⟩
  refine res_yield gL rfl ea80_0 eb80_0 ?_
  obtain ⟨f0, hfa⟩ := fr.puts
  rw [show setAll [8] [pt e.b] a = puts [(8, pt e.b), (5, pt X), (3, pt F)] f0 by rw [hfa]; rfl]
  simp only [a80_0]
  refine gg ?_
  refine YA.mk gL ?_
  simp only [b80_0]
  have k1 : Keeps h0 (h.put L (.loop 15 [8] k80_0.1 k80_0.2 a .busy none)) := keep.put o3 _
  have e1 : ∀ d, d ≠ L → (h.put L (.loop 15 [8] k80_0.1 k80_0.2 a .busy none)).get d = h.get d := fun d hd => by rw [Heap.get_put, if_neg hd]
  have e1L : (h.put L (.loop 15 [8] k80_0.1 k80_0.2 a .busy none)).get L = some (.loop 15 [8] k80_0.1 k80_0.2 a .busy none) := by rw [Heap.get_put, if_pos rfl]
  generalize (h.put L (.loop 15 [8] k80_0.1 k80_0.2 a .busy none)) = h1 at *
  have gX1 := (e1 X o2).trans gX
  have gF1 := (e1 F o5).trans gF
  have lx : load1 h1.get ⟨X, 0, none⟩ = some (nv t) := (load1_own gX1).trans (by rfl)
  refine out_block ?_
  refine gg ?_
  refine i_load1 (v := nv t) (by exact sel_of rfl) lx ?_
  refine gg ?_
  refine i_load1 (v := .func (.func 81) #[] #[]) (by exact sel_of rfl) ((load1_own gF1).trans (by rfl)) ?_
  refine gg ?_
  refine i_callv1 (by exact sel_of rfl) (by exact sel_of rfl) (w_size (en.keeps k1) (by omega)) ?_
  rintro _ _ ⟨rfl, rfl⟩
  have hsz : e.sz ≤ 1172 := en.le
  refine gg ?_
  refine i_storeP (vs := [nv (t + e.sz)]) (by exact sel_of rfl) (by rw [show nv (t + e.sz) = .int .i64 ((t : Int) + (e.sz : Int)) from congrArg (Value.int .i64) (by omega)]; rfl) gX1 rfl rfl ?_
  refine gg ?_
  refine ⟨chk_cons (a := _) rfl (ld1 (by exact sel_of rfl) lx) (sv_int _ _) (fun m hm => by
    simp only [List.mem_cons, List.not_mem_nil, or_false] at hm
    rcases hm with rfl | rfl <;> exact ⟨_, _, rfl, ld1 (by exact sel_of rfl) lx⟩) chk_nil, ?_⟩
  refine gg ?_
  refine YB.go (by rw [Heap.get_put, if_neg (Ne.symm o2)]; exact e1L) ⟨rfl, ⟨⟨(k1.put o1 _).put o3 _, ?_, ?_, ?_⟩, ?_, ⟨eF, ?_⟩, o1, o2, o3, o4, o5, o6, o7, o8, o9⟩⟩
  · rw [Heap.get_put, if_neg (Ne.symm o8), Heap.get_put, if_neg (Ne.symm o6), e1 _ (Ne.symm o8)]; exact gQ
  · rw [Heap.get_put, if_neg (Ne.symm o9), Heap.get_put, if_neg (Ne.symm o7), e1 _ (Ne.symm o9)]; exact gS
  · rw [Heap.get_put, if_pos rfl]
  · rw [Heap.get_put, if_neg o2, Heap.get_put, if_pos rfl]
  · rw [Heap.get_put, if_neg o5, Heap.get_put, if_neg (Ne.symm o4)]; exact gF1
theorem w_trun {h0 : Heap} {Q Qb Sb X F nx c : Nat} {oq os : Option Addr} {ss : List Nat} {es : List Ent} {a : Fr} (x : Que h0 Q oq nx es) (k0 : Keeps h0 h) (gQ : h.get Qb = some (.cells 59 [pt Q] (.own false))) (gS : h.get Sb = some (.cells 23 [.slice os ss.length c] (.own false))) (hs : Row h0 1 os ss.length (ss.map nv)) (hss : ss.length ≤ 100)
    (gX : h.get X = some (.cells 3 [nv 0] (.own false))) (gF : ∃ e, h.get F = some (.cells e [.func (.func 81) #[] #[]] (.own false))) (ord : h0.next ≤ X ∧ X < h.next ∧ X ≠ F ∧ F < h.next ∧ X ≠ Qb ∧ X ≠ Sb ∧ Qb < h.next ∧ Sb < h.next) (fr : Sl [(5, pt X), (3, pt F)] a) (hn : es.length + ss.length + 30 ≤ n) :
    ResQ (callN Tryz.prog G0 n (.call 104 (Value.func (.yield h.next) #[] #[] :: #[pt Qb, pt Sb].toList)) (h.new (.loop 15 [8] k80_0.1 k80_0.2 a .ready none))) (fun _ h' => TI h0 h' Qb Sb h.next Q X F a (.slice os ss.length c) (octs ss es)) := by
  obtain ⟨o1, o2, o3, o4, o5, o6, o7, o8⟩ := ord
  have hnn := k0.next
  have hlim := x.lim
  have hlen : (es.map Ent.b).length = es.length := List.length_map ..
  have e1 : ∀ d, d < h.next → (h.new (.loop 15 [8] k80_0.1 k80_0.2 a .ready none)).get d = h.get d := fun d hd => by rw [Heap.get_new, if_neg (by omega)]
  refine ResQ.mono (w_in1 (L := h.next) (d := 3) (bs := es.map Ent.b) (oq := oq) (c := es.length) (Q := Q) (ss := ss) (fun i h' => TI h0 h' Qb Sb h.next Q X F a (.slice os ss.length c) (octs ss (es.take i))) (fun _ => False) (fun i => ((es[i]?).map Ent.st).getD 0) hss (by omega) ?_ ?_ ?_ ?_ ?_ (by omega)) ?_
  · intro i h' T
    exact T.r.inF x hs
  · intro i b h' T hb
    rw [List.getElem?_map] at hb
    cases he : es[i]? with
    | none => rw [he] at hb; cases hb
    | some e =>
      rw [he] at hb; cases hb
      exact ⟨_, _, _, ((x.en e (List.mem_of_getElem? he)).keeps T.r.keep).hb, rfl⟩
  · intro i h' T _ hst
    cases he : es[i]? with
    | none => rw [List.take_of_length_le (by have := List.getElem?_eq_none_iff.1 he; omega)]; rw [List.take_of_length_le (by have := List.getElem?_eq_none_iff.1 he; omega)] at T; exact T
    | some e =>
      rw [he] at hst
      have hst : ¬ e.st ∈ ss := hst
      rw [List.take_add_one, he]
      have : octs ss (es.take i ++ (some e).toList) = octs ss (es.take i) := by
        rw [show (some e).toList = [e] from rfl, octs_snoc, if_neg hst]; rfl
      rw [this]; exact T
  · intro i b h' m T hb hst hm
    rw [List.getElem?_map] at hb
    cases he : es[i]? with
    | none => rw [he] at hb; cases hb
    | some e =>
      rw [he] at hb hst; cases hb
      have hst : e.st ∈ ss := hst
      refine ((w_tround T fr (x.en e (List.mem_of_getElem? he)) ?_ (by omega)).mono ?_)
      · have := octs_le ss (es.take i) fun e he => x.en e (List.mem_of_mem_take he)
        have : (es.take i).length ≤ 1024 := by rw [List.length_take]; omega
        omega
      · rintro v h'' ⟨rfl, T'⟩
        refine .inl ⟨rfl, ?_⟩
        have : octs ss (es.take (i + 1)) = octs ss (es.take i) + e.sz := by
          rw [List.take_add_one, he, show (some e).toList = [e] from rfl, octs_snoc, if_pos hst]
        rw [this]; exact T'
  · refine ⟨⟨k0.trans (Keeps.new _ _), ?_, ?_, ?_⟩, ?_, ?_, o1, by omega, hnn, o3, by omega, o5, o6, by omega, by omega⟩
    · rw [e1 _ o7]; exact gQ
    · rw [e1 _ o8]; exact gS
    · rw [Heap.get_new, if_pos rfl]
    · rw [e1 _ o2]; exact gX
    · rw [e1 _ o4]; exact gF
  · rintro v h' (T | hf)
    · rw [hlen, List.take_of_length_le (Nat.le_refl _)] at T; exact T
    · exact hf.elim
set_option maxHeartbeats 1000000 in
theorem w_total {h0 : Heap} {Q Qb Sb nx c : Nat} {oq os : Option Addr} {ss : List Nat} {es : List Ent} (x : Que h0 Q oq nx es) (k0 : Keeps h0 h) (gQ : h.get Qb = some (.cells 59 [pt Q] (.own false))) (gS : h.get Sb = some (.cells 23 [.slice os ss.length c] (.own false))) (hQb : Qb < h.next) (hSb : Sb < h.next) (hs : Row h0 1 os ss.length (ss.map nv)) (hss : ss.length ≤ 100) (hn : es.length + ss.length + 35 ≤ n) :
    ResQ (callN Tryz.prog G0 n (.call 80 [.func (.func 104) #[] #[pt Qb, pt Sb], .func (.func 81) #[] #[]]) h) (fun v h' => v = nv (octs ss es) ∧ Keeps h0 h') := by
  have hnn := k0.next
  have hlim := x.lim
  obtain ⟨n, rfl⟩ : ∃ m, n = m + 1 := ⟨n - 1, by omega⟩
  refine res_enter rfl d80 rfl ?_; simp only [c80]
  refine gg ?_
  obtain ⟨a1, a2, k1, n1⟩ := box_two h (.cells 146 [.func (.func 81) #[] #[]] (.own false)) (.cells 3 [.int .i64 0] (.own false))
  generalize hh : ((h.new (.cells 146 [.func (.func 81) #[] #[]] (.own false))).new (.cells 3 [.int .i64 0] (.own false))) = h1 at *
  refine i_storeP (b := h.next + 1) (vs := [nv 0]) (by exact sel_of rfl) (by rfl) a2 rfl rfl ?_
  have k2 : Keeps h (h1.put (h.next + 1) (.cells 3 [nv 0] (.own false))) := k1.put (Nat.le_succ _) _
  have b1 : (h1.put (h.next + 1) (.cells 3 [nv 0] (.own false))).get h.next = some (.cells 146 [.func (.func 81) #[] #[]] (.own false)) := by rw [Heap.get_put, if_neg (by omega)]; exact a1
  have b2 : (h1.put (h.next + 1) (.cells 3 [nv 0] (.own false))).get (h.next + 1) = some (.cells 3 [nv 0] (.own false)) := by rw [Heap.get_put, if_pos rfl]
  have n2 : (h1.put (h.next + 1) (.cells 3 [nv 0] (.own false))).next = h.next + 2 := n1
  clear hh a1 a2 k1 n1
  generalize (h1.put (h.next + 1) (.cells 3 [nv 0] (.own false))) = h2 at *
  refine gg ?_
  refine o_brangeX (P := Tryz.prog) (by exact sel_of rfl) ?_
  have hlt := k2.next
  refine (w_trun (X := h.next + 1) (F := h.next) x (k0.trans k2) ((k2.get _ hQb).trans gQ) ((k2.get _ hSb).trans gS) hs hss b2 ⟨_, b1⟩ ⟨by omega, by omega, by omega, by omega, by omega, by omega, by omega, by omega⟩ ⟨sel_of rfl, sel_of rfl, trivial⟩ (by omega)).mono ?_
  intro v h4 T
  obtain ⟨⟨keep, _, _, gL⟩, gX, _, o1, o2, o3, _⟩ := T
  have gX' : ∀ B, (h4.put h2.next B).get (h.next + 1) = some (.cells 3 [nv (octs ss es)] (.own false)) := fun B => by rw [Heap.get_put, if_neg (by omega)]; exact gX
  refine RgQ.none gL (blo_n ?_)
  refine gg ?_
  refine i_load1 (v := nv (octs ss es)) (by exact sel_of rfl) ((load1_own (gX' _)).trans (by rfl)) ?_
  refine gg ?_
  exact ⟨rfl, keep.put (by omega) _⟩
theorem w_octets {Q nx c : Nat} {oq os : Option Addr} {ss : List Nat} {es : List Ent} (x : Que h Q oq nx es) (hs : Row h 1 os ss.length (ss.map nv)) (hss : ss.length ≤ 100) (hn : es.length + ss.length + 40 ≤ n) :
    ResQ (callN Tryz.prog G0 n (.call 48 [pt Q, .slice os ss.length c]) h) (fun v h' => v = nv (octs ss es) ∧ Keeps h h') := by
  obtain ⟨n, rfl⟩ : ∃ m, n = m + 1 := ⟨n - 1, by omega⟩
  refine res_enter rfl d48 rfl ?_; simp only [c48]
  refine gg ?_
  refine i_call2 (by exact sel_of rfl) (by exact sel_of rfl) (w_in (by omega)) ?_
  rintro _ _ ⟨rfl, rfl⟩
  obtain ⟨g1, g2, k1, n1⟩ := box_two h (.cells 59 [pt Q] (.own false)) (.cells 23 [.slice os ss.length c] (.own false))
  generalize ((h.new (.cells 59 [pt Q] (.own false))).new (.cells 23 [.slice os ss.length c] (.own false))) = h1 at *
  refine gg ?_
  refine i_call2 (by exact sel_of rfl) (by exact const_of) (w_total x k1 g1 g2 (by omega) (by omega) hs hss (by omega)) ?_
  rintro _ h2 ⟨rfl, k2⟩
  refine gg ?_
  exact ⟨rfl, k2⟩
end
end Go.Proofs.YtmlagbknnngjjaaGreat

/-! Expire: nothing is given up, as no message has an end or a number of tries. -/
set_option linter.unusedVariables false
namespace Go.Proofs.YtmlagbknnngjjaaGreat
open Go Vm
/-- a range over the queue's entries -/
theorem w_inQ {h h0 : Heap} {n Qb Sb Q L d nx : Nat} {oq : Option Addr} {es : List Ent} {ss : List Nat} (x : Que h0 Q oq nx es) (J : Nat → Heap → Prop) (R : Heap → Prop) (hss : ss.length ≤ 100)
    (hF : ∀ i h, J i h → InF h Qb Sb Q oq es.length (es.map Ent.b) ss)
    (hst : ∀ i e h, J i h → es[i]? = some e → ∃ t cs op, h.get e.b = some (.cells t cs (.own op)) ∧ cs[13]? = some (nv e.st))
    (hskip : ∀ i e h, J i h → es[i]? = some e → e.st ∉ ss → J (i + 1) h)
    (hy : ∀ i e h m, J i h → es[i]? = some e → e.st ∈ ss → d ≤ m → ResQ (callN Tryz.prog G0 m (.yield L [pt e.b]) h) (fun v h' => (v = .bool true ∧ J (i + 1) h') ∨ (v = .bool false ∧ R h')))
    (h0 : J 0 h) (hn : es.length + ss.length + d + 20 ≤ n) :
    ResQ (callN Tryz.prog G0 n (.call 104 [.func (.yield L) #[] #[], pt Qb, pt Sb]) h) (fun _ h' => J es.length h' ∨ R h') := by
  have hlim := x.lim
  have hlen : (es.map Ent.b).length = es.length := List.length_map ..
  have hget : ∀ (i b : Nat), (es.map Ent.b)[i]? = some b → ∃ e : Ent, es[i]? = some e ∧ e.b = b := fun i b hb => by
    rw [List.getElem?_map] at hb
    cases he : es[i]? with
    | none => rw [he] at hb; cases hb
    | some e => rw [he] at hb; cases hb; exact ⟨e, rfl, rfl⟩
  have hs : ∀ (i : Nat) (e : Ent), es[i]? = some e → ((es[i]?).map Ent.st).getD 0 = e.st := fun i e he => by rw [he]; rfl
  refine ResQ.mono (w_in1 (L := L) (d := d) (bs := es.map Ent.b) (oq := oq) (c := es.length) (Q := Q) (ss := ss) J R (fun i => ((es[i]?).map Ent.st).getD 0) hss (by omega) hF ?_ ?_ ?_ h0 (by omega)) ?_
  · intro i b h' T hb
    obtain ⟨e, he, rfl⟩ := hget i b hb
    obtain ⟨t, cs, op, h1, h2⟩ := hst i e h' T he
    exact ⟨t, cs, op, h1, by rw [h2, hs i e he]⟩
  · intro i h' T hi hst
    rw [hlen] at hi
    have he : es[i]? = some es[i] := List.getElem?_eq_getElem hi
    rw [hs i _ he] at hst
    exact hskip i _ h' T he hst
  · intro i b h' m T hb hst hm
    obtain ⟨e, he, rfl⟩ := hget i b hb
    rw [hs i e he] at hst
    exact hy i e h' m T he hst hm
  · rintro v h' H
    rw [hlen] at H
    exact H
def AllP (es : List (Value × Value × Nat)) : Prop := ∀ e ∈ es, (∃ p, e.1 = pt p) ∧ e.2.1 = .bool true
theorem eqV_pt (a b : Nat) : ∃ t, eqV (.one 3) (pt a) (pt b) = some t := ⟨_, rfl⟩
theorem AllP.put {p c : Nat} : ∀ {es : List (Value × Value × Nat)}, AllP es → ∃ es' c', mPut (.one 3) (pt p) (.bool true) c es = some (es', c') ∧ AllP es'
  | [], _ => ⟨_, _, rfl, fun e he => by simp only [List.mem_cons, List.not_mem_nil, or_false] at he; subst he; exact ⟨⟨p, rfl⟩, rfl⟩⟩
  | (k, v, s) :: es, x => by
    obtain ⟨⟨b, hb⟩, hv⟩ := x _ (List.mem_cons_self ..)
    have hb : k = pt b := hb
    have hv : v = .bool true := hv
    subst hb hv
    obtain ⟨t, ht⟩ := eqV_pt p b
    obtain ⟨es', c', h1, h2⟩ := AllP.put (p := p) (c := c) (es := es) fun e he => x e (List.mem_cons_of_mem _ he)
    cases t with
    | true => exact ⟨(pt p, .bool true, s) :: es, c, by show (match eqV (.one 3) (pt p) (pt b) with | some true => _ | some false => _ | none => _) = _; rw [ht], fun e he => by
        rcases List.mem_cons.1 he with rfl | he
        · exact ⟨⟨p, rfl⟩, rfl⟩
        · exact x e (List.mem_cons_of_mem _ he)⟩
    | false => exact ⟨(pt b, .bool true, s) :: es', c', by show (match eqV (.one 3) (pt p) (pt b) with | some true => _ | some false => (match mPut (.one 3) (pt p) (.bool true) c es with | some (r, c) => some ((pt b, Value.bool true, s) :: r, c) | none => none) | none => _) = _; rw [ht]; simp only [h1], fun e he => by
        rcases List.mem_cons.1 he with rfl | he
        · exact ⟨⟨b, rfl⟩, rfl⟩
        · exact h2 e he⟩
theorem AllP.find {p : Nat} : ∀ {es : List (Value × Value × Nat)}, AllP es → mFind (.one 3) (pt p) es = some none ∨ ∃ s, mFind (.one 3) (pt p) es = some (some (.bool true, s))
  | [], _ => .inl rfl
  | (k, v, s) :: es, x => by
    obtain ⟨⟨b, hb⟩, hv⟩ := x _ (List.mem_cons_self ..)
    have hb : k = pt b := hb
    have hv : v = .bool true := hv
    subst hb hv
    obtain ⟨t, ht⟩ := eqV_pt p b
    have ih := AllP.find (p := p) (es := es) fun e he => x e (List.mem_cons_of_mem _ he)
    have e1 : mFind (.one 3) (pt p) ((pt b, .bool true, s) :: es) = (match eqV (.one 3) (pt p) (pt b) with | some true => some (some (.bool true, s)) | some false => mFind (.one 3) (pt p) es | none => none) := rfl
    rw [e1, ht]
    cases t with
    | true => exact .inr ⟨s, rfl⟩
    | false => exact ih
/-- while Expire ranges: N is the first new block -/
structure EX (h0 h : Heap) (Qb Sb L Q N : Nat) (now : Int) (ps : List Tmp) (s b : Code) (a : Fr) (A : Nat) (ss : List Nat) (st : LoopState) : Prop where
  keep : Keeps h0 h
  gQ : h.get Qb = some (.cells 59 [pt Q] (.own false))
  gS : h.get Sb = some (.cells 23 [.slice (some ⟨A, 0, none⟩) ss.length ss.length] (.own false))
  gA : h.get A = some (.cells 3 (ss.map nv) (.own false))
  gL : h.get L = some (.loop 68 ps s b a st none)
  g3 : h.get N = some (.cells 3 [.int .i64 now] (.own false))
  g5 : h.get (N + 1) = some (.cells 3 [nv 0] (.own false))
  gM : ∃ es c, h.get (N + 2) = some (.map es c) ∧ AllP es
  g6 : ∃ e, h.get (N + 3) = some (.cells e [.map (some (N + 2))] (.own false))
  ord : h0.next ≤ N ∧ N + 3 < Qb ∧ N + 3 < Sb ∧ Qb < L ∧ Sb < L ∧ L < h.next ∧ N + 3 < A ∧ A < L
section
variable {h0 h : Heap} {n Qb Sb L Q N : Nat} {now : Int} {ps : List Tmp} {s b : Code} {a : Fr} {A : Nat} {ss : List Nat} {st : LoopState}
theorem EX.set (x : EX h0 h Qb Sb L Q N now ps s b a A ss st) (st' : LoopState) : EX h0 (h.put L (.loop 68 ps s b a st' none)) Qb Sb L Q N now ps s b a A ss st' := by
  obtain ⟨keep, gQ, gS, gA, gL, g3, g5, ⟨es, c, gM, hM⟩, ⟨e6, g6⟩, o1, o2, o3, o4, o5, o6, o7, o8⟩ := x
  have e : ∀ d, d ≠ L → (h.put L (.loop 68 ps s b a st' none)).get d = h.get d := fun d hd => by rw [Heap.get_put, if_neg hd]
  exact ⟨keep.put (by omega) _, (e _ (by omega)).trans gQ, (e _ (by omega)).trans gS, (e _ (by omega)).trans gA, by rw [Heap.get_put, if_pos rfl], (e _ (by omega)).trans g3, (e _ (by omega)).trans g5, ⟨es, c, (e _ (by omega)).trans gM, hM⟩, ⟨e6, (e _ (by omega)).trans g6⟩, o1, o2, o3, o4, o5, o6, o7, o8⟩
theorem EX.map (x : EX h0 h Qb Sb L Q N now ps s b a A ss st) {es : List (Value × Value × Nat)} {c : Nat} (hM : AllP es) : EX h0 (h.put (N + 2) (.map es c)) Qb Sb L Q N now ps s b a A ss st := by
  obtain ⟨keep, gQ, gS, gA, gL, g3, g5, _, ⟨e6, g6⟩, o1, o2, o3, o4, o5, o6, o7, o8⟩ := x
  have e : ∀ d, d ≠ N + 2 → (h.put (N + 2) (.map es c)).get d = h.get d := fun d hd => by rw [Heap.get_put, if_neg hd]
  exact ⟨keep.put (by omega) _, (e _ (by omega)).trans gQ, (e _ (by omega)).trans gS, (e _ (by omega)).trans gA, (e _ (by omega)).trans gL, (e _ (by omega)).trans g3, (e _ (by omega)).trans g5, ⟨es, c, by rw [Heap.get_put, if_pos rfl], hM⟩, ⟨e6, (e _ (by omega)).trans g6⟩, o1, o2, o3, o4, o5, o6, o7, o8⟩
set_option maxHeartbeats 2000000 in
theorem w_over {e : Ent} (x : EntOK h e) (hn : 1 ≤ n) : ResQ (callN Tryz.prog G0 n (.call 84 [pt e.b, .int .i64 now]) h) (fun v h' => v = .bool false ∧ h = h') := by
  have lp : load1 h.get ⟨e.b, 0 + 12, none⟩ = some (pt e.p) := (load1_own x.hb).trans (by rfl)
  obtain ⟨n, rfl⟩ : ∃ m, n = m + 1 := ⟨n - 1, by omega⟩
  refine res_enter rfl d84 rfl ?_; simp only [c84]
  refine gg ?_
  refine i_load1 (v := pt e.p) (by exact sel_of rfl) lp ?_
  refine gg ?_
  refine i_load1 (v := .int .i64 (-1)) (by exact sel_of rfl) ((load1_own x.hp).trans (by rfl)) ?_
  refine gg ?_
  refine i_load1 (v := pt e.p) (by exact sel_of rfl) lp ?_
  refine gg ?_
  refine i_load1 (v := .int .i64 (-1)) (by exact sel_of rfl) ((load1_own x.hp).trans (by rfl)) ?_
  refine gg ?_
  exact ⟨rfl, rfl⟩
theorem w_ex1 {e : Ent} (T : EX h0 h Qb Sb L Q N now [14] k54_0.1 k54_0.2 a A ss .ready) (fr : Sl [(6, pt (N + 3)), (3, pt N), (5, pt (N + 1))] a) (en : EntOK h0 e) (hn : 3 ≤ n) :
    ResQ (callN Tryz.prog G0 n (.yield L [pt e.b]) h) (fun v h' => v = .bool true ∧ EX h0 h' Qb Sb L Q N now [14] k54_0.1 k54_0.2 a A ss .ready) := by
  have frs := fr
  obtain ⟨n, rfl⟩ : ∃ m, n = m + 1 := ⟨n - 1, by omega⟩
  refine res_yield T.gL rfl ea54_0 eb54_0 ?_
  obtain ⟨f0, hfa⟩ := fr.puts
  rw [show setAll [14] [pt e.b] a = puts [(14, pt e.b), (6, pt (N + 3)), (3, pt N), (5, pt (N + 1))] f0 by rw [hfa]; rfl]
  simp only [a54_0]
  refine gg ?_
  refine YA.mk T.gL ?_
  simp only [b54_0]
  have T := T.set .busy
  generalize (h.put L (.loop 68 [14] k54_0.1 k54_0.2 a .busy none)) = h1 at *
  obtain ⟨es, c, gM, hM⟩ := T.gM
  obtain ⟨e6, g6⟩ := T.g6
  refine gg ?_
  refine i_load1 (v := .map (some (N + 2))) (by exact sel_of rfl) ((load1_own g6).trans (by rfl)) ?_
  refine gg ?_
  refine i_load1 (v := pt e.p) (by exact sel_of rfl) ((load1_own (en.keeps T.keep).hb).trans (by rfl)) ?_
  obtain ⟨es', c', hp, hM'⟩ := hM.put (p := e.p) (c := c)
  refine i_mapUpd (by exact sel_of rfl) gM (by exact sel_of rfl) (by exact const_of) rfl hp ?_
  refine gg ?_
  have T := T.map (c := c') hM'
  exact YB.go T.gL ⟨rfl, T.set .ready⟩
theorem w_ex2 {e : Ent} (T : EX h0 h Qb Sb L Q N now [23] k54_1.1 k54_1.2 a A ss .ready) (fr : Sl [(6, pt (N + 3)), (3, pt N), (5, pt (N + 1))] a) (en : EntOK h0 e) (hn : 3 ≤ n) :
    ResQ (callN Tryz.prog G0 n (.yield L [pt e.b]) h) (fun v h' => v = .bool true ∧ EX h0 h' Qb Sb L Q N now [23] k54_1.1 k54_1.2 a A ss .ready) := by
  have frs := fr
  obtain ⟨n, rfl⟩ : ∃ m, n = m + 1 := ⟨n - 1, by omega⟩
  refine res_yield T.gL rfl ea54_1 eb54_1 ?_
  obtain ⟨f0, hfa⟩ := fr.puts
  rw [show setAll [23] [pt e.b] a = puts [(23, pt e.b), (6, pt (N + 3)), (3, pt N), (5, pt (N + 1))] f0 by rw [hfa]; rfl]
  simp only [a54_1]
  refine gg ?_
  refine YA.mk T.gL ?_
  simp only [b54_1]
  have T := T.set .busy
  generalize (h.put L (.loop 68 [23] k54_1.1 k54_1.2 a .busy none)) = h1 at *
  obtain ⟨es, c, gM, hM⟩ := T.gM
  obtain ⟨e6, g6⟩ := T.g6
  have en1 := en.keeps T.keep
  have lp : load1 h1.get ⟨e.b, 0 + 12, none⟩ = some (pt e.p) := (load1_own en1.hb).trans (by rfl)
  refine gg ?_
  refine i_load1 (v := .map (some (N + 2))) (by exact sel_of rfl) ((load1_own g6).trans (by rfl)) ?_
  refine gg ?_
  refine i_load1 (v := pt e.p) (by exact sel_of rfl) lp ?_
  rcases hM.find (p := e.p) with hf | ⟨s, hf⟩
  · refine i_lookup (by exact sel_of rfl) gM (by exact sel_of rfl) rfl hf ?_
    refine gg ?_
    exact YB.go T.gL ⟨rfl, T.set .ready⟩
  · refine i_lookup (by exact sel_of rfl) gM (by exact sel_of rfl) rfl hf ?_
    refine gg ?_
    refine i_load1 (v := pt e.p) (by exact sel_of rfl) lp ?_
    refine gg ?_
    refine i_load1 (v := .bool false) (by exact sel_of rfl) ((load1_own en1.hp).trans (by rfl)) ?_
    refine gg ?_
    refine i_load1 (v := .int .i64 now) (by exact sel_of rfl) ((load1_own T.g3).trans (by rfl)) ?_
    refine gg ?_
    refine i_call2 (by exact sel_of rfl) (by exact sel_of rfl) (w_over en1 (by omega)) ?_
    rintro _ _ ⟨rfl, rfl⟩
    refine gg ?_
    exact YB.go T.gL ⟨rfl, T.set .ready⟩
theorem w_ex3 {e : Ent} (T : EX h0 h Qb Sb L Q N now [56] k54_2.1 k54_2.2 a A ss .ready) (fr : Sl [(6, pt (N + 3)), (3, pt N), (5, pt (N + 1))] a) (en : EntOK h0 e) (hn : 3 ≤ n) :
    ResQ (callN Tryz.prog G0 n (.yield L [pt e.b]) h) (fun v h' => v = .bool true ∧ EX h0 h' Qb Sb L Q N now [56] k54_2.1 k54_2.2 a A ss .ready) := by
  have frs := fr
  obtain ⟨n, rfl⟩ : ∃ m, n = m + 1 := ⟨n - 1, by omega⟩
  refine res_yield T.gL rfl ea54_2 eb54_2 ?_
  obtain ⟨f0, hfa⟩ := fr.puts
  rw [show setAll [56] [pt e.b] a = puts [(56, pt e.b), (6, pt (N + 3)), (3, pt N), (5, pt (N + 1))] f0 by rw [hfa]; rfl]
  simp only [a54_2]
  refine gg ?_
  refine YA.mk T.gL ?_
  simp only [b54_2]
  have T := T.set .busy
  generalize (h.put L (.loop 68 [56] k54_2.1 k54_2.2 a .busy none)) = h1 at *
  have en1 := en.keeps T.keep
  refine gg ?_
  refine i_load1 (v := pt e.p) (by exact sel_of rfl) ((load1_own en1.hb).trans (by rfl)) ?_
  refine gg ?_
  refine i_load1 (v := .bool false) (by exact sel_of rfl) ((load1_own en1.hp).trans (by rfl)) ?_
  refine gg ?_
  exact YB.go T.gL ⟨rfl, T.set .ready⟩
end
end Go.Proofs.YtmlagbknnngjjaaGreat

/-! Expire, whole. -/
set_option linter.unusedVariables false
namespace Go.Proofs.YtmlagbknnngjjaaGreat
open Go Vm
theorem rg_none {L nt : Nat} {ps : List Tmp} {s b : Code} {a a' : Fr} {Q : Ex → Fr → Heap → Prop} {h' : Heap} (hg : h'.get L = some (.loop nt ps s b a' .ready none)) (Z : Heap → Prop) (hz : ∀ B, Z (h'.put L B)) (hq : ∀ h2, Z h2 → Q .normal a h2) : RgQ L nt ps s b a Q h' := RgQ.none hg (hq _ (hz _))
/-- between the ranges of Expire -/
structure EZ (h0 h : Heap) (N : Nat) (now : Int) : Prop where
  keep : Keeps h0 h
  g3 : h.get N = some (.cells 3 [.int .i64 now] (.own false))
  g5 : h.get (N + 1) = some (.cells 3 [nv 0] (.own false))
  gM : ∃ es c, h.get (N + 2) = some (.map es c) ∧ AllP es
  g6 : ∃ e, h.get (N + 3) = some (.cells e [.map (some (N + 2))] (.own false))
  ord : h0.next ≤ N ∧ N + 3 < h.next
section
variable {h0 h : Heap} {n Q N nx : Nat} {now : Int} {oq : Option Addr} {es : List Ent}
theorem EZ.keeps {h' : Heap} (z : EZ h0 h N now) (k : Keeps h h') : EZ h0 h' N now := by
  obtain ⟨keep, g3, g5, ⟨es, c, gM, hM⟩, ⟨e6, g6⟩, o1, o2⟩ := z
  have := k.next
  exact ⟨keep.trans k, (k.get _ (by omega)).trans g3, (k.get _ (by omega)).trans g5, ⟨es, c, (k.get _ (by omega)).trans gM, hM⟩, ⟨e6, (k.get _ (by omega)).trans g6⟩, o1, by omega⟩
theorem EX.ez {Qb Sb L A : Nat} {ss : List Nat} {ps : List Tmp} {s b : Code} {a : Fr} {st : LoopState} (x : EX h0 h Qb Sb L Q N now ps s b a A ss st) (B : Blk) : EZ h0 (h.put L B) N now := by
  obtain ⟨keep, gQ, gS, gA, gL, g3, g5, ⟨es, c, gM, hM⟩, ⟨e6, g6⟩, o1, o2, o3, o4, o5, o6, o7, o8⟩ := x
  have e : ∀ d, d ≠ L → (h.put L B).get d = h.get d := fun d hd => by rw [Heap.get_put, if_neg hd]
  exact ⟨keep.put (by omega) _, (e _ (by omega)).trans g3, (e _ (by omega)).trans g5, ⟨es, c, (e _ (by omega)).trans gM, hM⟩, ⟨e6, (e _ (by omega)).trans g6⟩, o1, by rw [Heap.next_put]; omega⟩
theorem w_exl1 {a : Fr} {Qb Sb A : Nat} {ss : List Nat} (x : Que h0 Q oq nx es) (z : EZ h0 h N now) (gQ : h.get Qb = some (.cells 59 [pt Q] (.own false))) (gS : h.get Sb = some (.cells 23 [.slice (some ⟨A, 0, none⟩) ss.length ss.length] (.own false))) (gA : h.get A = some (.cells 3 (ss.map nv) (.own false))) (hss : ss.length ≤ 100)
    (ord : N + 3 < Qb ∧ N + 3 < Sb ∧ Qb < h.next ∧ Sb < h.next ∧ N + 3 < A ∧ A < h.next) (fr : Sl [(6, pt (N + 3)), (3, pt N), (5, pt (N + 1))] a) (hn : es.length + ss.length + 30 ≤ n) :
    ResQ (callN Tryz.prog G0 n (.call 104 (Value.func (.yield h.next) #[] #[] :: #[pt Qb, pt Sb].toList)) (h.new (.loop 68 [14] k54_0.1 k54_0.2 a .ready none))) (fun _ h' => EX h0 h' Qb Sb h.next Q N now [14] k54_0.1 k54_0.2 a A ss .ready) := by
  obtain ⟨o1, o2, o3, o4, o5, o6⟩ := ord
  obtain ⟨keep, g3, g5, ⟨me, mc, gM, hM⟩, ⟨e6, g6⟩, p1, p2⟩ := z
  have e1 : ∀ d, d < h.next → (h.new (.loop 68 [14] k54_0.1 k54_0.2 a .ready none)).get d = h.get d := fun d hd => by rw [Heap.get_new, if_neg (by omega)]
  refine ResQ.mono (w_inQ (Qb := Qb) (Sb := Sb) (L := h.next) (d := 3) (ss := ss) x (fun i h' => EX h0 h' Qb Sb h.next Q N now [14] k54_0.1 k54_0.2 a A ss .ready) (fun _ => False) hss ?_ ?_ ?_ ?_ ?_ (by omega)) ?_
  · rintro i h' T
    have oz := T.ord
    exact ⟨⟨_, _, T.gQ⟩, ⟨_, _, _, _, T.gS, ⟨by simp, by show A < h'.next; omega, .inl rfl, loadN_all T.gA (by simp)⟩⟩, ⟨_, _, _, by rw [List.length_map]; exact (x.keeps T.keep).hq⟩, (x.keeps T.keep).row⟩
  · rintro i e h' T he
    exact ⟨_, _, _, ((x.en e (List.mem_of_getElem? he)).keeps T.keep).hb, rfl⟩
  · rintro i e h' T he hst
    exact T
  · rintro i e h' m T he hst hm
    refine (w_ex1 T fr (x.en e (List.mem_of_getElem? he)) (by omega)).mono ?_
    rintro v h'' ⟨rfl, T'⟩
    exact .inl ⟨rfl, T'⟩
  · exact ⟨keep.trans (Keeps.new _ _), (e1 _ o3).trans gQ, (e1 _ o4).trans gS, (e1 _ o6).trans gA, by rw [Heap.get_new, if_pos rfl], (e1 _ (by omega)).trans g3, (e1 _ (by omega)).trans g5, ⟨me, mc, (e1 _ (by omega)).trans gM, hM⟩, ⟨e6, (e1 _ (by omega)).trans g6⟩, p1, o1, o2, o3, o4, Nat.lt_succ_self _, o5, o6⟩
  · rintro v h' (T | hf)
    · exact T
    · exact hf.elim
theorem w_exl2 {a : Fr} {Qb Sb A : Nat} {ss : List Nat} (x : Que h0 Q oq nx es) (z : EZ h0 h N now) (gQ : h.get Qb = some (.cells 59 [pt Q] (.own false))) (gS : h.get Sb = some (.cells 23 [.slice (some ⟨A, 0, none⟩) ss.length ss.length] (.own false))) (gA : h.get A = some (.cells 3 (ss.map nv) (.own false))) (hss : ss.length ≤ 100)
    (ord : N + 3 < Qb ∧ N + 3 < Sb ∧ Qb < h.next ∧ Sb < h.next ∧ N + 3 < A ∧ A < h.next) (fr : Sl [(6, pt (N + 3)), (3, pt N), (5, pt (N + 1))] a) (hn : es.length + ss.length + 30 ≤ n) :
    ResQ (callN Tryz.prog G0 n (.call 104 (Value.func (.yield h.next) #[] #[] :: #[pt Qb, pt Sb].toList)) (h.new (.loop 68 [23] k54_1.1 k54_1.2 a .ready none))) (fun _ h' => EX h0 h' Qb Sb h.next Q N now [23] k54_1.1 k54_1.2 a A ss .ready) := by
  obtain ⟨o1, o2, o3, o4, o5, o6⟩ := ord
  obtain ⟨keep, g3, g5, ⟨me, mc, gM, hM⟩, ⟨e6, g6⟩, p1, p2⟩ := z
  have e1 : ∀ d, d < h.next → (h.new (.loop 68 [23] k54_1.1 k54_1.2 a .ready none)).get d = h.get d := fun d hd => by rw [Heap.get_new, if_neg (by omega)]
  refine ResQ.mono (w_inQ (Qb := Qb) (Sb := Sb) (L := h.next) (d := 3) (ss := ss) x (fun i h' => EX h0 h' Qb Sb h.next Q N now [23] k54_1.1 k54_1.2 a A ss .ready) (fun _ => False) hss ?_ ?_ ?_ ?_ ?_ (by omega)) ?_
  · rintro i h' T
    have oz := T.ord
    exact ⟨⟨_, _, T.gQ⟩, ⟨_, _, _, _, T.gS, ⟨by simp, by show A < h'.next; omega, .inl rfl, loadN_all T.gA (by simp)⟩⟩, ⟨_, _, _, by rw [List.length_map]; exact (x.keeps T.keep).hq⟩, (x.keeps T.keep).row⟩
  · rintro i e h' T he
    exact ⟨_, _, _, ((x.en e (List.mem_of_getElem? he)).keeps T.keep).hb, rfl⟩
  · rintro i e h' T he hst
    exact T
  · rintro i e h' m T he hst hm
    refine (w_ex2 T fr (x.en e (List.mem_of_getElem? he)) (by omega)).mono ?_
    rintro v h'' ⟨rfl, T'⟩
    exact .inl ⟨rfl, T'⟩
  · exact ⟨keep.trans (Keeps.new _ _), (e1 _ o3).trans gQ, (e1 _ o4).trans gS, (e1 _ o6).trans gA, by rw [Heap.get_new, if_pos rfl], (e1 _ (by omega)).trans g3, (e1 _ (by omega)).trans g5, ⟨me, mc, (e1 _ (by omega)).trans gM, hM⟩, ⟨e6, (e1 _ (by omega)).trans g6⟩, p1, o1, o2, o3, o4, Nat.lt_succ_self _, o5, o6⟩
  · rintro v h' (T | hf)
    · exact T
    · exact hf.elim
theorem w_exl3 {a : Fr} {Qb Sb A : Nat} {ss : List Nat} (x : Que h0 Q oq nx es) (z : EZ h0 h N now) (gQ : h.get Qb = some (.cells 59 [pt Q] (.own false))) (gS : h.get Sb = some (.cells 23 [.slice (some ⟨A, 0, none⟩) ss.length ss.length] (.own false))) (gA : h.get A = some (.cells 3 (ss.map nv) (.own false))) (hss : ss.length ≤ 100)
    (ord : N + 3 < Qb ∧ N + 3 < Sb ∧ Qb < h.next ∧ Sb < h.next ∧ N + 3 < A ∧ A < h.next) (fr : Sl [(6, pt (N + 3)), (3, pt N), (5, pt (N + 1))] a) (hn : es.length + ss.length + 30 ≤ n) :
    ResQ (callN Tryz.prog G0 n (.call 104 (Value.func (.yield h.next) #[] #[] :: #[pt Qb, pt Sb].toList)) (h.new (.loop 68 [56] k54_2.1 k54_2.2 a .ready none))) (fun _ h' => EX h0 h' Qb Sb h.next Q N now [56] k54_2.1 k54_2.2 a A ss .ready) := by
  obtain ⟨o1, o2, o3, o4, o5, o6⟩ := ord
  obtain ⟨keep, g3, g5, ⟨me, mc, gM, hM⟩, ⟨e6, g6⟩, p1, p2⟩ := z
  have e1 : ∀ d, d < h.next → (h.new (.loop 68 [56] k54_2.1 k54_2.2 a .ready none)).get d = h.get d := fun d hd => by rw [Heap.get_new, if_neg (by omega)]
  refine ResQ.mono (w_inQ (Qb := Qb) (Sb := Sb) (L := h.next) (d := 3) (ss := ss) x (fun i h' => EX h0 h' Qb Sb h.next Q N now [56] k54_2.1 k54_2.2 a A ss .ready) (fun _ => False) hss ?_ ?_ ?_ ?_ ?_ (by omega)) ?_
  · rintro i h' T
    have oz := T.ord
    exact ⟨⟨_, _, T.gQ⟩, ⟨_, _, _, _, T.gS, ⟨by simp, by show A < h'.next; omega, .inl rfl, loadN_all T.gA (by simp)⟩⟩, ⟨_, _, _, by rw [List.length_map]; exact (x.keeps T.keep).hq⟩, (x.keeps T.keep).row⟩
  · rintro i e h' T he
    exact ⟨_, _, _, ((x.en e (List.mem_of_getElem? he)).keeps T.keep).hb, rfl⟩
  · rintro i e h' T he hst
    exact T
  · rintro i e h' m T he hst hm
    refine (w_ex3 T fr (x.en e (List.mem_of_getElem? he)) (by omega)).mono ?_
    rintro v h'' ⟨rfl, T'⟩
    exact .inl ⟨rfl, T'⟩
  · exact ⟨keep.trans (Keeps.new _ _), (e1 _ o3).trans gQ, (e1 _ o4).trans gS, (e1 _ o6).trans gA, by rw [Heap.get_new, if_pos rfl], (e1 _ (by omega)).trans g3, (e1 _ (by omega)).trans g5, ⟨me, mc, (e1 _ (by omega)).trans gM, hM⟩, ⟨e6, (e1 _ (by omega)).trans g6⟩, p1, o1, o2, o3, o4, Nat.lt_succ_self _, o5, o6⟩
  · rintro v h' (T | hf)
    · exact T
    · exact hf.elim
set_option maxHeartbeats 4000000 in
theorem w_expire (x : Que h Q oq nx es) (hn : es.length + 60 ≤ n) :
    ResQ (callN Tryz.prog G0 n (.call 54 [pt Q, .int .i64 now]) h) (fun v h' => Keeps h h') := by
  obtain ⟨n, rfl⟩ : ∃ m, n = m + 1 := ⟨n - 1, by omega⟩
  refine res_enter rfl d54 rfl ?_; simp only [c54]
  have hlim := x.lim
  refine gg ?_
  obtain ⟨a1, a2, k1, n1⟩ := box_two h (.cells 3 [.int .i64 now] (.own false)) (.cells 3 [.int .i64 0] (.own false))
  generalize hh : ((h.new (.cells 3 [.int .i64 now] (.own false))).new (.cells 3 [.int .i64 0] (.own false))) = ha at *
  refine i_storeP (b := h.next + 1) (vs := [nv 0]) (by exact sel_of rfl) (by rfl) a2 rfl rfl ?_
  have k2 : Keeps h (ha.put (h.next + 1) (.cells 3 [nv 0] (.own false))) := k1.put (Nat.le_succ _) _
  have b1 : (ha.put (h.next + 1) (.cells 3 [nv 0] (.own false))).get h.next = some (.cells 3 [.int .i64 now] (.own false)) := by rw [Heap.get_put, if_neg (by omega)]; exact a1
  have b2 : (ha.put (h.next + 1) (.cells 3 [nv 0] (.own false))).get (h.next + 1) = some (.cells 3 [nv 0] (.own false)) := by rw [Heap.get_put, if_pos rfl]
  have hbn : (ha.put (h.next + 1) (.cells 3 [nv 0] (.own false))).next = h.next + 2 := n1
  clear hh a1 a2 k1 n1
  generalize (ha.put (h.next + 1) (.cells 3 [nv 0] (.own false))) = hb at *
  refine gg ?_
  refine i_makeMap ?_
  refine gg ?_
  obtain ⟨a1, a2, k1, n1⟩ := box_two hb (.map [] 0) (.cells 151 [.map none] (.own false))
  generalize ((hb.new (.map [] 0)).new (.cells 151 [.map none] (.own false))) = hc at *
  refine i_storeP (b := hb.next + 1) (vs := [.map (some hb.next)]) (by exact sel_of rfl) (by rw [sel_of rfl]; rfl) a2 rfl rfl ?_
  have z : EZ h (hc.put (hb.next + 1) (.cells 151 [.map (some hb.next)] (.own false))) h.next now := by
    have e : ∀ d, d ≠ hb.next + 1 → (hc.put (hb.next + 1) (.cells 151 [.map (some hb.next)] (.own false))).get d = hc.get d := fun d hd => by rw [Heap.get_put, if_neg hd]
    refine ⟨(k2.trans k1).put (by omega) _, ?_, ?_, ⟨[], 0, ?_, fun e he => nomatch he⟩, ⟨151, ?_⟩, Nat.le_refl _, by rw [Heap.next_put]; omega⟩
    · rw [e _ (by omega), k1.get _ (by omega)]; exact b1
    · rw [e _ (by omega), k1.get _ (by omega)]; exact b2
    · rw [← hbn, e _ (by omega)]; exact a1
    · rw [← hbn, show h.next + 3 = hb.next + 1 by omega, Heap.get_put, if_pos rfl]
  clear a1 a2 k1 b1 b2 k2
  generalize (hc.put (hb.next + 1) (.cells 151 [.map (some hb.next)] (.own false))) = h1 at *
  refine gg ?_
  have k1 := Keeps.new h1 (.cells 3 [nv 0, nv 1, nv 2] (.own false))
  have a1 : (h1.new (.cells 3 [nv 0, nv 1, nv 2] (.own false))).get h1.next = some (.cells 3 [nv 0, nv 1, nv 2] (.own false)) := by rw [Heap.get_new, if_pos rfl]
  have n1 : (h1.new (.cells 3 [nv 0, nv 1, nv 2] (.own false))).next = h1.next + 1 := rfl
  refine i_call2 (by exact sel_of rfl) (by exact sel_of rfl) (w_in (by omega)) ?_
  rintro _ _ ⟨rfl, rfl⟩
  change ItQ (runItems _ _ _ (((h1.new (.cells 3 [nv 0, nv 1, nv 2] (.own false))).new (.cells 59 [pt Q] (.own false))).new (.cells 23 [.slice (some ⟨h1.next, 0, none⟩) 3 3] (.own false)))) _
  generalize (h1.new (.cells 3 [nv 0, nv 1, nv 2] (.own false))) = g1 at *
  obtain ⟨b1, c1, kk1, nn1⟩ := box_two g1 (.cells 59 [pt Q] (.own false)) (.cells 23 [.slice (some ⟨h1.next, 0, none⟩) 3 3] (.own false))
  generalize ((g1.new (.cells 59 [pt Q] (.own false))).new (.cells 23 [.slice (some ⟨h1.next, 0, none⟩) 3 3] (.own false))) = f1 at *
  rw [n1] at b1 c1
  refine gg ?_
  refine o_brangeX (P := Tryz.prog) (by exact sel_of rfl) ?_
  have oz1 := z.ord
  have z1 := z.keeps (k1.trans kk1)
  refine (w_exl1 (n := n) (Qb := h1.next + 1) (Sb := h1.next + 1 + 1) (ss := [0, 1, 2]) x z1 b1 c1 ((kk1.get _ (by omega)).trans a1) (by decide) ⟨by omega, by omega, by omega, by omega, by omega, by omega⟩ ⟨by exact (sel_of (v := pt (hb.next + 1)) rfl).trans (by rw [hbn]), by exact sel_of rfl, by exact sel_of rfl, trivial⟩ (by simp only [List.length_cons, List.length_nil]; omega)).mono ?_
  clear z z1
  intro v e1 T
  refine rg_none T.gL (fun h2 => EZ h h2 h.next now) (fun B => T.ez B) fun h2 z => blo_n ?_
  clear T
  refine gg ?_
  have k2 := Keeps.new h2 (.cells 3 [nv 0, nv 1, nv 2, nv 3] (.own false))
  have a2 : (h2.new (.cells 3 [nv 0, nv 1, nv 2, nv 3] (.own false))).get h2.next = some (.cells 3 [nv 0, nv 1, nv 2, nv 3] (.own false)) := by rw [Heap.get_new, if_pos rfl]
  have n2 : (h2.new (.cells 3 [nv 0, nv 1, nv 2, nv 3] (.own false))).next = h2.next + 1 := rfl
  refine i_call2 (by exact sel_of rfl) (by exact sel_of rfl) (w_in (by omega)) ?_
  rintro _ _ ⟨rfl, rfl⟩
  change ItQ (runItems _ _ _ (((h2.new (.cells 3 [nv 0, nv 1, nv 2, nv 3] (.own false))).new (.cells 59 [pt Q] (.own false))).new (.cells 23 [.slice (some ⟨h2.next, 0, none⟩) 4 4] (.own false)))) _
  generalize (h2.new (.cells 3 [nv 0, nv 1, nv 2, nv 3] (.own false))) = g2 at *
  obtain ⟨b2, c2, kk2, nn2⟩ := box_two g2 (.cells 59 [pt Q] (.own false)) (.cells 23 [.slice (some ⟨h2.next, 0, none⟩) 4 4] (.own false))
  generalize ((g2.new (.cells 59 [pt Q] (.own false))).new (.cells 23 [.slice (some ⟨h2.next, 0, none⟩) 4 4] (.own false))) = f2 at *
  rw [n2] at b2 c2
  refine gg ?_
  refine o_brangeX (P := Tryz.prog) (by exact sel_of rfl) ?_
  have oz2 := z.ord
  have z2 := z.keeps (k2.trans kk2)
  refine (w_exl2 (n := n) (Qb := h2.next + 1) (Sb := h2.next + 1 + 1) (ss := [0, 1, 2, 3]) x z2 b2 c2 ((kk2.get _ (by omega)).trans a2) (by decide) ⟨by omega, by omega, by omega, by omega, by omega, by omega⟩ ⟨by exact (sel_of (v := pt (hb.next + 1)) rfl).trans (by rw [hbn]), by exact sel_of rfl, by exact sel_of rfl, trivial⟩ (by simp only [List.length_cons, List.length_nil]; omega)).mono ?_
  clear z z2
  intro v e2 T
  refine rg_none T.gL (fun h2 => EZ h h2 h.next now) (fun B => T.ez B) fun h3 z => blo_n ?_
  clear T
  refine gg ?_
  have k3 := Keeps.new h3 (.cells 3 [nv 0, nv 1, nv 2, nv 3] (.own false))
  have a3 : (h3.new (.cells 3 [nv 0, nv 1, nv 2, nv 3] (.own false))).get h3.next = some (.cells 3 [nv 0, nv 1, nv 2, nv 3] (.own false)) := by rw [Heap.get_new, if_pos rfl]
  have n3 : (h3.new (.cells 3 [nv 0, nv 1, nv 2, nv 3] (.own false))).next = h3.next + 1 := rfl
  refine i_call2 (by exact sel_of rfl) (by exact sel_of rfl) (w_in (by omega)) ?_
  rintro _ _ ⟨rfl, rfl⟩
  change ItQ (runItems _ _ _ (((h3.new (.cells 3 [nv 0, nv 1, nv 2, nv 3] (.own false))).new (.cells 59 [pt Q] (.own false))).new (.cells 23 [.slice (some ⟨h3.next, 0, none⟩) 4 4] (.own false)))) _
  generalize (h3.new (.cells 3 [nv 0, nv 1, nv 2, nv 3] (.own false))) = g3 at *
  obtain ⟨b3, c3, kk3, nn3⟩ := box_two g3 (.cells 59 [pt Q] (.own false)) (.cells 23 [.slice (some ⟨h3.next, 0, none⟩) 4 4] (.own false))
  generalize ((g3.new (.cells 59 [pt Q] (.own false))).new (.cells 23 [.slice (some ⟨h3.next, 0, none⟩) 4 4] (.own false))) = f3 at *
  rw [n3] at b3 c3
  refine gg ?_
  refine o_brangeX (P := Tryz.prog) (by exact sel_of rfl) ?_
  have oz3 := z.ord
  have z3 := z.keeps (k3.trans kk3)
  refine (w_exl3 (n := n) (Qb := h3.next + 1) (Sb := h3.next + 1 + 1) (ss := [0, 1, 2, 3]) x z3 b3 c3 ((kk3.get _ (by omega)).trans a3) (by decide) ⟨by omega, by omega, by omega, by omega, by omega, by omega⟩ ⟨by exact (sel_of (v := pt (hb.next + 1)) rfl).trans (by rw [hbn]), by exact sel_of rfl, by exact sel_of rfl, trivial⟩ (by simp only [List.length_cons, List.length_nil]; omega)).mono ?_
  clear z z3
  intro v e3 T
  refine rg_none T.gL (fun h2 => EZ h h2 h.next now) (fun B => T.ez B) fun h4 z => blo_n ?_
  clear T
  refine gg ?_
  refine i_load1 (v := nv 0) (by exact sel_of rfl) ((load1_own z.g5).trans (by rfl)) ?_
  refine gg ?_
  exact z.keep
end
end Go.Proofs.YtmlagbknnngjjaaGreat

/-! The queue's small functions: done, Forward, Floor, Next, Len, Left, Flying; Room, time; what is skipped; the End in memory. -/
set_option linter.unusedVariables false
namespace Go.Proofs.YtmlagbknnngjjaaGreat
open Go Vm
section
variable {rec : Rec} {L : List (Nat × Value)} {f : Fr} {dt : Nat} {h : Heap} {K : Fr → Heap → Prop} {rd : Bool} {x y : Sel} {l : List ISem} {k k' : IntKind} {p q t : Int}
theorem i_minZ (hx : x.f (puts L f) = .int k p) (hy : y.f (puts L f) = .int k' q) (e : min p q = t) (hq : ItQ (runItems rec l (puts ((dt, (.int k t)) :: L) f) h) K) : ItQ (runItems rec (iOp (put dt) (.v rd (oBest true x [y])) :: l) (puts L f) h) K := i_v (by
  show best true [y.f (puts L f)] (x.f (puts L f)) = _
  rw [hx, hy]
  show some (Value.int k (Bool.rec p q (ltI q p))) = _
  rw [ltI_eq]
  subst e
  by_cases h : q < p
  · rw [decide_eq_true h]
    show some (Value.int k q) = _
    rw [show min p q = q by omega]
  · rw [decide_eq_false h]
    show some (Value.int k p) = _
    rw [show min p q = p by omega]) hq
theorem i_maxZ (hx : x.f (puts L f) = .int k p) (hy : y.f (puts L f) = .int k' q) (e : max p q = t) (hq : ItQ (runItems rec l (puts ((dt, (.int k t)) :: L) f) h) K) : ItQ (runItems rec (iOp (put dt) (.v rd (oBest false x [y])) :: l) (puts L f) h) K := i_v (by
  show best false [y.f (puts L f)] (x.f (puts L f)) = _
  rw [hx, hy]
  show some (Value.int k (Bool.rec p q (ltI p q))) = _
  rw [ltI_eq]
  subst e
  by_cases h : p < q
  · rw [decide_eq_true h]
    show some (Value.int k q) = _
    rw [show max p q = q by omega]
  · rw [decide_eq_false h]
    show some (Value.int k p) = _
    rw [show max p q = p by omega]) hq
end
def tmI (t : Int) : Int := min (max t 0) 1099511627776
theorem tmI_b (t : Int) : 0 ≤ tmI t ∧ tmI t ≤ 1099511627776 := by unfold tmI; omega
def roomN (cw mt fl pe : Nat) : Nat := if fl = 0 then max (min (cw - fl) pe) mt else min (cw - fl) pe
def wayv (cw mt : Nat) : List Value := [nv cw, nv 1073741824, nv 0, nv mt, .bool false, .int .u32 ((0 : Nat) : Int)]
section
variable {h : Heap} {n Q nx : Nat} {oq : Option Addr} {es : List Ent}
theorem w_time {t : Int} (hn : 1 ≤ n) : ResQ (callN Tryz.prog G0 n (.call 30 [.int .i64 t]) h) (fun v h' => v = .int .i64 (tmI t) ∧ h = h') := by
  obtain ⟨n, rfl⟩ : ∃ m, n = m + 1 := ⟨n - 1, by omega⟩
  refine res_enter rfl d30 rfl ?_; simp only [c30]
  refine gg ?_
  refine i_maxZ (k' := .i64) (q := 0) (by exact sel_of rfl) (by exact const_of) rfl ?_
  refine i_minZ (k' := .i64) (q := 1099511627776) (by exact sel_of rfl) (by exact const_of) rfl ?_
  refine gg ?_
  exact ⟨rfl, rfl⟩
theorem w_left (x : Que h Q oq nx es) (hn : es.length + 50 ≤ n) : ResQ (callN Tryz.prog G0 n (.call 29 [pt Q]) h) (fun v h' => v = nv (octs [0, 2] es) ∧ Keeps h h') := by
  obtain ⟨n, rfl⟩ : ∃ m, n = m + 1 := ⟨n - 1, by omega⟩
  refine res_enter rfl d29 rfl ?_; simp only [c29]
  refine gg ?_
  have k := Keeps.new h (.cells 3 [nv 0, nv 2] (.own false))
  refine i_call2 (by exact sel_of rfl) (by exact sel_of rfl) (w_octets (ss := [0, 2]) (x.keeps k) (Row.new (cs := [nv 0, nv 2]) (by simp) rfl (.inl rfl)) (by decide) (by simp only [List.length_cons, List.length_nil]; omega)) ?_
  rintro _ h2 ⟨rfl, k2⟩
  refine gg ?_
  exact ⟨rfl, k.trans k2⟩
theorem w_flying (x : Que h Q oq nx es) (hn : es.length + 50 ≤ n) : ResQ (callN Tryz.prog G0 n (.call 56 [pt Q]) h) (fun v h' => v = nv (octs [1] es) ∧ Keeps h h') := by
  obtain ⟨n, rfl⟩ : ∃ m, n = m + 1 := ⟨n - 1, by omega⟩
  refine res_enter rfl d56 rfl ?_; simp only [c56]
  refine gg ?_
  have k := Keeps.new h (.cells 3 [nv 1] (.own false))
  refine i_call2 (by exact sel_of rfl) (by exact sel_of rfl) (w_octets (ss := [1]) (x.keeps k) (Row.new (cs := [nv 1]) (by simp) rfl (.inl rfl)) (by decide) (by simp only [List.length_cons, List.length_nil]; omega)) ?_
  rintro _ h2 ⟨rfl, k2⟩
  refine gg ?_
  exact ⟨rfl, k.trans k2⟩
theorem w_qlen (x : Que h Q oq nx es) (hn : 1 ≤ n) : ResQ (callN Tryz.prog G0 n (.call 38 [pt Q]) h) (fun v h' => v = nv es.length ∧ h = h') := by
  obtain ⟨n, rfl⟩ : ∃ m, n = m + 1 := ⟨n - 1, by omega⟩
  refine res_enter rfl d38 rfl ?_; simp only [c38]
  refine gg ?_
  refine i_load1 (v := .slice oq es.length es.length) (by exact sel_of rfl) ((load1_own x.hq).trans (by rfl)) ?_
  refine gg ?_
  exact ⟨rfl, rfl⟩
theorem w_qnext (x : Que h Q oq nx es) (hn : 1 ≤ n) : ResQ (callN Tryz.prog G0 n (.call 39 [pt Q]) h) (fun v h' => v = .int .u32 (nx : Int) ∧ h = h') := by
  obtain ⟨n, rfl⟩ : ∃ m, n = m + 1 := ⟨n - 1, by omega⟩
  refine res_enter rfl d39 rfl ?_; simp only [c39]
  refine gg ?_
  refine i_load1 (v := .int .u32 (nx : Int)) (by exact sel_of rfl) ((load1_own x.hq).trans (by rfl)) ?_
  refine gg ?_
  exact ⟨rfl, rfl⟩
def floorN (nx m : Nat) : Nat := (nx + 4294967296 - m + 4294967296 - 1) % 4294967296
theorem w_floor (x : Que h Q oq nx es) (hn : 1 ≤ n) : ResQ (callN Tryz.prog G0 n (.call 111 [pt Q]) h) (fun v h' => v = .int .u32 (floorN nx es.length : Int) ∧ h = h') := by
  have hl := x.lim
  have hx := x.nxl
  obtain ⟨n, rfl⟩ : ∃ m, n = m + 1 := ⟨n - 1, by omega⟩
  refine res_enter rfl d111 rfl ?_; simp only [c111]
  refine gg ?_
  refine i_load1 (v := .int .u32 (nx : Int)) (by exact sel_of rfl) ((load1_own x.hq).trans (by rfl)) ?_
  refine gg ?_
  refine i_load1 (v := .slice oq es.length es.length) (by exact sel_of rfl) ((load1_own x.hq).trans (by rfl)) ?_
  refine gg ?_
  refine i_subW (r := (((nx + 4294967296 - es.length) % 4294967296 : Nat) : Int)) (by exact sel_of rfl) (by exact sel_of rfl) (sub32 nx (by omega)) ?_
  refine i_subW (q := ((1 : Nat) : Int)) (r := (floorN nx es.length : Int)) (by exact sel_of rfl) (by exact const_of) ((sub32 _ (by omega)).trans (congrArg _ (by unfold floorN; omega))) ?_
  refine gg ?_
  exact ⟨rfl, rfl⟩
theorem w_done1 {e : Ent} (x : EntOK h e) (hn : 1 ≤ n) : ResQ (callN Tryz.prog G0 n (.call 139 [pt e.b]) h) (fun v h' => v = .bool (decide ((e.st : Int) < 3)) ∧ h = h') := by
  obtain ⟨n, rfl⟩ : ∃ m, n = m + 1 := ⟨n - 1, by omega⟩
  refine res_enter rfl d139 rfl ?_; simp only [c139]
  refine gg ?_
  refine i_load1 (v := nv e.st) (by exact sel_of rfl) ((load1_own x.hb).trans (by rfl)) ?_
  refine gg ?_
  exact ⟨rfl, rfl⟩
theorem w_idx3 (x : Que h Q oq nx es) (hs : ∀ e, es.head? = some e → e.st < 3) (hn : es.length + 10 ≤ n) :
    ResQ (callN Tryz.prog G0 n (.call 138 [.slice oq es.length es.length, .func (.func 139) #[] #[]]) h) (fun v h' => v = .int .i64 (if es = [] then -1 else 0) ∧ h = h') := by
  have hlim := x.lim
  obtain ⟨n, rfl⟩ : ∃ m, n = m + 1 := ⟨n - 1, by omega⟩
  refine res_enter rfl d138 rfl ?_; simp only [c138]
  refine gg ?_
  refine o_up es.length (fun i f h' => (h = h' ∧ i = 0) ∧ Sl [(8, nv i), (7, nv es.length), (0, .slice oq es.length es.length), (1, .func (.func 139) #[] #[])] f) (by omega) ⟨⟨rfl, rfl⟩, sel_of rfl, sel_of rfl, sel_of rfl, sel_of rfl, trivial⟩ ?_
  rintro i f _ hi ⟨⟨rfl, rfl⟩, hs2⟩
  obtain ⟨f0, rfl⟩ := hs2.puts
  clear hs2
  simp only [c138_0]
  cases es with
  | nil =>
    refine gg ?_
    exact ⟨rfl, rfl⟩
  | cons e es =>
    have hi2 : 0 < (e :: es).length := by simp
    refine gg ?_
    have hr := x.row
    rw [List.length_map] at hr
    refine i_idx (by exact sel_of rfl) hr (i := 0) (by exact sel_of rfl) hi2 fun q hq => ?_
    subst hq
    refine i_load1 (v := pt e.b) (by exact sel_of rfl) (by rw [Nat.mul_one, hr.cell (i := 0) (by omega)]; rfl) ?_
    refine i_callv1 (by exact sel_of rfl) (by exact sel_of rfl) (w_done1 (x.en e (List.mem_cons_self ..)) (by omega)) ?_
    rintro _ _ ⟨rfl, rfl⟩
    have := hs e rfl
    rw [decide_eq_true (by omega)]
    refine gg ?_
    exact ⟨rfl, rfl⟩
theorem w_done (x : Que h Q oq nx es) (hs : ∀ e, es.head? = some e → e.st < 3) (hn : es.length + 20 ≤ n) :
    ResQ (callN Tryz.prog G0 n (.call 110 [pt Q]) h) (fun v h' => (∃ o c, v = .slice o 0 c) ∧ h = h') := by
  obtain ⟨n, rfl⟩ : ∃ m, n = m + 1 := ⟨n - 1, by omega⟩
  refine res_enter rfl d110 rfl ?_; simp only [c110]
  refine gg ?_
  have lp : load1 h.get ⟨Q, 0 + 0, none⟩ = some (.slice oq es.length es.length) := (load1_own x.hq).trans (by rfl)
  refine i_load1 (v := .slice oq es.length es.length) (by exact sel_of rfl) lp ?_
  refine i_call2 (by exact sel_of rfl) (by exact const_of) (w_idx3 x hs (by omega)) ?_
  rintro _ _ ⟨rfl, rfl⟩
  cases es with
  | nil =>
    rw [if_pos rfl]
    refine gg ?_
    refine i_load1 (v := .slice oq 0 0) (by exact sel_of rfl) lp ?_
    refine gg ?_
    exact ⟨⟨_, _, rfl⟩, rfl⟩
  | cons e es =>
    rw [if_neg (by simp)]
    refine gg ?_
    refine i_load1 (v := .slice oq (e :: es).length (e :: es).length) (by exact sel_of rfl) lp ?_
    refine gg ?_
    have hr := x.row
    rw [List.length_map] at hr
    refine i_sl_hi (i := 0) (by exact sel_of rfl) hr (Nat.le_refl _) (by exact sel_of rfl) (Nat.zero_le _) fun _ => ?_
    refine gg ?_
    exact ⟨⟨_, _, rfl⟩, rfl⟩
theorem w_qfwd (x : Que h Q oq nx es) (hs : ∀ e, es.head? = some e → e.st < 3) (hn : es.length + 30 ≤ n) :
    ResQ (callN Tryz.prog G0 n (.call 85 [pt Q]) h) (fun v h' => (∃ fl : Int, v = .tuple #[.int .u32 fl, .slice none 0 0, .bool false]) ∧ h = h') := by
  obtain ⟨n, rfl⟩ : ∃ m, n = m + 1 := ⟨n - 1, by omega⟩
  refine res_enter rfl d85 rfl ?_; simp only [c85]
  refine gg ?_
  refine i_call1 (by exact sel_of rfl) (w_done x hs (by omega)) ?_
  rintro _ _ ⟨⟨o, c, rfl⟩, rfl⟩
  refine gg ?_
  refine o_while (fun _ f h' => h = h' ∧ Sl [(16, .int .i64 0), (15, .int .i64 ((0 : Nat) : Int)), (5, .int .i64 0), (0, pt Q)] f) 0 (by omega) ⟨rfl, sel_of rfl, sel_of rfl, sel_of rfl, sel_of rfl, trivial⟩ ?_
  rintro _ f _ ⟨rfl, hs2⟩
  obtain ⟨f0, rfl⟩ := hs2.puts
  clear hs2
  simp only [c85_0]
  refine gg ?_
  refine i_call1 (by exact sel_of rfl) (w_floor x (by omega)) ?_
  rintro _ _ ⟨rfl, rfl⟩
  refine gg ?_
  exact ⟨⟨_, rfl⟩, rfl⟩
theorem w_between {lo x hi : Int} (h1 : lo ≤ x) (h2 : x ≤ hi) (hn : 1 ≤ n) : ResQ (callN Tryz.prog G0 n (.call 45 [.int .i64 lo, .int .i64 x, .int .i64 hi]) h) (fun v h' => v = .bool true ∧ h = h') := by
  obtain ⟨n, rfl⟩ : ∃ m, n = m + 1 := ⟨n - 1, by omega⟩
  refine res_enter rfl d45 rfl ?_; simp only [c45]
  refine gg ?_
  exact ⟨congrArg Value.bool (decide_eq_true h2), rfl⟩
set_option maxHeartbeats 1000000 in
theorem w_may {cw mt : Nat} (h1 : 1 ≤ mt) (h2 : mt ≤ 65536) (h3 : mt ≤ cw) (h4 : cw ≤ 1073741824) (hn : 2 ≤ n) : ResQ (callN Tryz.prog G0 n (.call 74 [.agg (wayv cw mt).toArray]) h) (fun v h' => v = .bool true ∧ Keeps h h') := by
  obtain ⟨n, rfl⟩ : ∃ m, n = m + 1 := ⟨n - 1, by omega⟩
  refine res_enter rfl d74 rfl ?_; simp only [c74]
  refine gg ?_
  have k := Keeps.new h (.cells 62 (wayv cw mt) (.own false))
  have g : (h.new (.cells 62 (wayv cw mt) (.own false))).get h.next = some (.cells 62 (wayv cw mt) (.own false)) := by rw [Heap.get_new, if_pos rfl]
  change ItQ (runItems _ _ _ (h.new (.cells 62 (wayv cw mt) (.own false)))) _
  generalize (h.new (.cells 62 (wayv cw mt) (.own false))) = h1 at *
  refine i_load1 (v := nv mt) (by exact sel_of rfl) ((load1_own g).trans (by rfl)) ?_
  refine i_call3 (by exact const_of) (by exact sel_of rfl) (by exact const_of) (w_between (by omega) (by omega) (by omega)) ?_
  rintro _ _ ⟨rfl, rfl⟩
  refine gg ?_
  refine i_load1 (v := nv mt) (by exact sel_of rfl) ((load1_own g).trans (by rfl)) ?_
  refine gg ?_
  refine i_load1 (v := nv cw) (by exact sel_of rfl) ((load1_own g).trans (by rfl)) ?_
  refine gg ?_
  refine i_call3 (by exact sel_of rfl) (by exact sel_of rfl) (by exact const_of) (w_between (by omega) (by omega) (by omega)) ?_
  rintro _ _ ⟨rfl, rfl⟩
  refine gg ?_
  refine i_load1 (v := nv 1073741824) (by exact sel_of rfl) ((load1_own g).trans (by rfl)) ?_
  refine gg ?_
  refine i_call3 (by exact const_of) (by exact sel_of rfl) (by exact const_of) (w_between (by omega) (by omega) (by omega)) ?_
  rintro _ _ ⟨rfl, rfl⟩
  refine gg ?_
  refine i_load1 (v := nv 0) (by exact sel_of rfl) ((load1_own g).trans (by rfl)) ?_
  refine gg ?_
  refine i_call3 (by exact const_of) (by exact sel_of rfl) (by exact const_of) (w_between (by omega) (by omega) (by omega)) ?_
  rintro _ _ ⟨rfl, rfl⟩
  refine gg ?_
  exact ⟨rfl, k⟩
set_option maxHeartbeats 1000000 in
theorem w_room {cw mt fl pe : Nat} (h1 : 1 ≤ mt) (h2 : mt ≤ 65536) (h3 : mt ≤ cw) (h4 : cw ≤ 1073741824) (h5 : fl ≤ 100000000) (hn : 3 ≤ n) : ResQ (callN Tryz.prog G0 n (.call 58 [.agg (wayv cw mt).toArray, nv fl, nv pe]) h) (fun v h' => v = nv (roomN cw mt fl pe) ∧ Keeps h h') := by
  obtain ⟨n, rfl⟩ : ∃ m, n = m + 1 := ⟨n - 1, by omega⟩
  refine res_enter rfl d58 rfl ?_; simp only [c58]
  refine gg ?_
  have k := Keeps.new h (.cells 62 (wayv cw mt) (.own false))
  have g : (h.new (.cells 62 (wayv cw mt) (.own false))).get h.next = some (.cells 62 (wayv cw mt) (.own false)) := by rw [Heap.get_new, if_pos rfl]
  have hlt : h.next < (h.new (.cells 62 (wayv cw mt) (.own false))).next := Nat.lt_succ_self _
  change ItQ (runItems _ _ _ (h.new (.cells 62 (wayv cw mt) (.own false)))) _
  generalize (h.new (.cells 62 (wayv cw mt) (.own false))) = h1 at *
  refine i_loadN (v := wayv cw mt) (by exact sel_of rfl) (loadN_all g rfl) ?_
  refine i_call1 (by exact sel_of rfl) (w_may (by omega) h2 h3 h4 (by omega)) ?_
  rintro _ g2 ⟨rfl, k2⟩
  have g := (k2.get _ hlt).trans g
  have k := k.trans k2
  refine gg ?_
  refine i_load1 (v := nv cw) (by exact sel_of rfl) ((load1_own g).trans (by rfl)) ?_
  refine gg ?_
  refine i_minZ (by exact sel_of rfl) (by exact sel_of rfl) rfl ?_
  refine i_maxZ (t := ((min (cw - fl) pe : Nat) : Int)) (by exact const_of) (by exact sel_of rfl) (by omega) ?_
  refine gg ?_
  by_cases hf : fl = 0
  · subst hf
    refine gg ?_
    refine i_load1 (v := nv mt) (by exact sel_of rfl) ((load1_own g).trans (by rfl)) ?_
    refine i_maxZ (t := ((roomN cw mt 0 pe : Nat) : Int)) (by exact sel_of rfl) (by exact sel_of rfl) (by unfold roomN; rw [if_pos rfl]; omega) ?_
    refine gg ?_
    exact ⟨rfl, k⟩
  · rw [decide_eq_false (by omega)]
    refine gg ?_
    exact ⟨by unfold roomN; rw [if_neg hf], k⟩
end
end Go.Proofs.YtmlagbknnngjjaaGreat

