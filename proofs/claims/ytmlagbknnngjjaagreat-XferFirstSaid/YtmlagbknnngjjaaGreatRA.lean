/- Part of a proof by an abstract run of the program's code: RA. No condition. -/
import Derived.Test.YtmlagbknnngjjaaGreatRC
import Derived.Test.YtmlagbknnngjjaaGreatGx
/-! Join: what a chunk is, and the small functions, walked. -/
set_option linter.unusedVariables false
namespace Go.Proofs.YtmlagbknnngjjaaGreat
open Go Vm
/-- a chunk of Data -/
structure Ck where
  fl : Nat
  A : Nat
  out : Nat
  inn : Nat
  pp : Nat
  dt : List UInt8
  x3 : Nat
  x7 : Value
  x8 : Value
  x9 : Value
  x10 : Value
structure Ck.wf (c : Ck) : Prop where
  fl : c.fl < 256
  A : c.A < 4294967296
  out : c.out < 65536
  inn : c.inn < 65536
  pp : c.pp < 4294967296
def ckv (c : Ck) (o : Option Addr) (cap : Nat) : List Value := [.int .u8 ((0 : Nat) : Int), .int .u8 (c.fl : Int), .int .u32 (c.A : Int), .int .u32 (c.x3 : Int), .int .u16 (c.out : Int), .int .u16 (c.inn : Int), .int .u32 (c.pp : Int), c.x7, c.x8, c.x9, c.x10, .slice o c.dt.length cap]
structure Fol (a b : Ck) : Prop where
  out : a.out = b.out
  inn : a.inn = b.inn
  pp : a.pp = b.pp
  fr : (a.fl ^^^ b.fl) &&& 4 = 0
  nx : b.A = (a.A + 1) % 4294967296
  en : a.fl &&& 1 = 0
  bg : b.fl &&& 2 = 0
theorem i_andn {rec : Rec} {L : List (Nat × Value)} {f : Fr} {dt : Nat} {h : Heap} {K : Fr → Heap → Prop} {rd : Bool} {x y : Sel} {l : List ISem} {k : IntKind} {m q : Nat} (b : Nat) (hx : x.f (puts L f) = .int k (m : Int)) (hy : y.f (puts L f) = .int k (q : Int)) (hb : lim k = 2 ^ b) (hm : m < 2 ^ b)
    (hq : ItQ (runItems rec l (puts ((dt, .int k ((m &&& q : Nat) : Int)) :: L) f) h) K) : ItQ (runItems rec (iOp (put dt) (.v rd (oInt2 fAnd x y)) :: l) (puts L f) h) K :=
  i_v (int2w _ hx hy (by
    show some (Value.int k (wrap k (.ofNat (Nat.land m q)))) = _
    rw [wrap_lt (by rw [hb]; exact Nat.lt_of_le_of_lt Nat.and_le_left hm)]; rfl)) hq
theorem i_and0 {rec : Rec} {L : List (Nat × Value)} {f : Fr} {dt : Nat} {h : Heap} {K : Fr → Heap → Prop} {rd : Bool} {x y : Sel} {l : List ISem} {k : IntKind} {m q r : Nat} (b : Nat) (hx : x.f (puts L f) = .int k (m : Int)) (hy : y.f (puts L f) = .int k (q : Int)) (hb : lim k = 2 ^ b) (hm : m < 2 ^ b) (hr : m &&& q = r)
    (hq : ItQ (runItems rec l (puts ((dt, .int k ((r : Nat) : Int)) :: L) f) h) K) : ItQ (runItems rec (iOp (put dt) (.v rd (oInt2 fAnd x y)) :: l) (puts L f) h) K := by
  subst hr; exact i_andn b hx hy hb hm hq
theorem i_addW {rec : Rec} {L : List (Nat × Value)} {f : Fr} {dt : Nat} {h : Heap} {K : Fr → Heap → Prop} {rd : Bool} {x y : Sel} {l : List ISem} {k : IntKind} {p q r : Int} (hx : x.f (puts L f) = .int k p) (hy : y.f (puts L f) = .int k q) (e : wrap k (p + q) = r)
    (hq : ItQ (runItems rec l (puts ((dt, .int k r) :: L) f) h) K) : ItQ (runItems rec (iOp (put dt) (.v rd (oInt2 fAdd x y)) :: l) (puts L f) h) K := by subst e; exact i_add hx hy hq
theorem i_subW {rec : Rec} {L : List (Nat × Value)} {f : Fr} {dt : Nat} {h : Heap} {K : Fr → Heap → Prop} {rd : Bool} {x y : Sel} {l : List ISem} {k : IntKind} {p q r : Int} (hx : x.f (puts L f) = .int k p) (hy : y.f (puts L f) = .int k q) (e : wrap k (p - q) = r)
    (hq : ItQ (runItems rec l (puts ((dt, .int k r) :: L) f) h) K) : ItQ (runItems rec (iOp (put dt) (.v rd (oInt2 fSub x y)) :: l) (puts L f) h) K := by subst e; exact i_sub hx hy hq
theorem add32 (a b : Nat) : wrap .u32 ((a : Int) + (b : Int)) = (((a + b) % 4294967296 : Nat) : Int) := wrap_u32 (a + b)
theorem sub16 {a : Nat} (b : Nat) (ha : a < 65536) : wrap .u16 ((b : Int) - (a : Int)) = (((b + 65536 - a) % 65536 : Nat) : Int) := by
  rw [wrap_eq]
  unfold IntKind.wrap
  simp only [IntKind.bits, IntKind.signed]
  simp
  omega
theorem sub32 {a : Nat} (b : Nat) (ha : a < 4294967296) : wrap .u32 ((b : Int) - (a : Int)) = (((b + 4294967296 - a) % 4294967296 : Nat) : Int) := by
  rw [wrap_eq]
  unfold IntKind.wrap
  simp only [IntKind.bits, IntKind.signed]
  simp
  omega
section
variable {h : Heap} {n : Nat}
set_option maxHeartbeats 2000000 in
theorem w_follows {a b : Ck} {o o' : Option Addr} {c c' : Nat} (ha : a.wf) (hb : b.wf) (hf : Fol a b) (hn : 1 ≤ n) :
    ResQ (callN Tryz.prog G0 n (.call 114 [.agg (ckv a o c).toArray, .agg (ckv b o' c').toArray]) h) (fun v h' => v = .bool true ∧ Keeps h h') := by
  obtain ⟨n, rfl⟩ : ∃ m, n = m + 1 := ⟨n - 1, by omega⟩
  refine res_enter rfl d114 rfl ?_; simp only [c114]
  refine o_cut (fun f h1 => (Keeps h h1 ∧ h1.get h.next = some (.cells 42 (ckv a o c) (.own false)) ∧ h1.get (h.next + 1) = some (.cells 42 (ckv b o' c') (.own false))) ∧ Sl [(2, .pointer (some ⟨h.next, 0, none⟩)), (3, .pointer (some ⟨h.next + 1, 0, none⟩))] f) ?_ ?_
  · refine gg ?_
    obtain ⟨g1, g2, k1, n1⟩ := box_two h (.cells 42 (ckv a o c) (.own false)) (.cells 42 (ckv b o' c') (.own false))
    exact ⟨rfl, ⟨k1, g1, g2⟩, sel_of rfl, sel_of rfl, trivial⟩
  rintro f1 h1 ⟨⟨k1, g1, g2⟩, hs⟩
  obtain ⟨f0, rfl⟩ := hs.puts
  clear hs
  refine o_cut (fun f h2 => h2 = h1 ∧ Sl [(2, .pointer (some ⟨h.next, 0, none⟩)), (3, .pointer (some ⟨h.next + 1, 0, none⟩)), (5, .bool true)] f) ?_ ?_
  · refine gg ?_; repeat (refine i_ldown (by exact sel_of rfl) (by assumption) (by rfl) ?_; refine gg ?_)
    exact ⟨rfl, rfl, sel_of rfl, sel_of rfl, sel_of rfl, trivial⟩
  rintro f2 h2 ⟨e, hs⟩
  subst e
  obtain ⟨f0, rfl⟩ := hs.puts
  clear hs
  refine o_cut (fun f h3 => h3 = h2 ∧ Sl [(2, .pointer (some ⟨h.next, 0, none⟩)), (3, .pointer (some ⟨h.next + 1, 0, none⟩)), (5, .bool true), (6, .bool true)] f) ?_ ?_
  · refine gg ?_; repeat (refine i_ldown (by exact sel_of rfl) (by assumption) (by rfl) ?_; refine gg ?_)
    rw [decide_eq_true (congrArg (Nat.cast : Nat → Int) hf.out)]
    refine gg ?_; repeat (refine i_ldown (by exact sel_of rfl) (by assumption) (by rfl) ?_; refine gg ?_)
    rw [decide_eq_true (congrArg (Nat.cast : Nat → Int) hf.inn)]
    refine gg ?_; repeat (refine i_ldown (by exact sel_of rfl) (by assumption) (by rfl) ?_; refine gg ?_)
    rw [decide_eq_true (congrArg (Nat.cast : Nat → Int) hf.pp)]
    refine gg ?_; repeat (refine i_ldown (by exact sel_of rfl) (by assumption) (by rfl) ?_; refine gg ?_)
    refine i_xorn 8 (by exact sel_of rfl) (by exact sel_of rfl) rfl ha.fl hb.fl ?_
    refine gg ?_
    refine i_and0 8 (by exact sel_of rfl) (by rfl) rfl (Nat.xor_lt_two_pow ha.fl hb.fl) hf.fr ?_
    refine gg ?_
    exact ⟨rfl, rfl, sel_of rfl, sel_of rfl, sel_of rfl, sel_of rfl, trivial⟩
  rintro f3 h3 ⟨e, hs⟩
  subst e
  obtain ⟨f0, rfl⟩ := hs.puts
  clear hs
  refine gg ?_; repeat (refine i_ldown (by exact sel_of rfl) (by assumption) (by rfl) ?_; refine gg ?_)
  refine i_addW (by exact sel_of rfl) (by rfl) ((add32 a.A 1).trans (congrArg (Nat.cast : Nat → Int) hf.nx.symm)) ?_
  refine gg ?_; repeat (refine i_ldown (by exact sel_of rfl) (by assumption) (by rfl) ?_; refine gg ?_)
  rw [decide_eq_true (rfl : (b.A : Int) = (b.A : Int))]
  refine gg ?_; repeat (refine i_ldown (by exact sel_of rfl) (by assumption) (by rfl) ?_; refine gg ?_)
  refine i_and0 8 (by exact sel_of rfl) (by rfl) rfl ha.fl hf.en ?_
  refine gg ?_; repeat (refine i_ldown (by exact sel_of rfl) (by assumption) (by rfl) ?_; refine gg ?_)
  refine i_and0 8 (by exact sel_of rfl) (by rfl) rfl hb.fl hf.bg ?_
  refine gg ?_; repeat (refine i_ldown (by exact sel_of rfl) (by assumption) (by rfl) ?_; refine gg ?_)
  exact ⟨rfl, k1⟩
theorem w_clone {o : Option Addr} {c : Nat} {l : List UInt8} (hr : Row h 1 o l.length (u8s l)) (ho : l ≠ []) (hbig : l.length ≤ 1000000) (hn : 1 ≤ n) :
    ResQ (callN Tryz.prog G0 n (.call 47 [.slice o l.length c]) h) (fun v h' => ∃ q, v = .slice (some q) l.length l.length ∧ Keeps h h' ∧ Ap h.next h' 5 1 (some q) l.length l.length (u8s l) ∧ h.next ≤ q.block) := by
  obtain ⟨u, rfl⟩ : ∃ u, o = some u := by
    cases o with
    | none => exact absurd (List.length_eq_zero_iff.1 hr.2) ho
    | some u => exact ⟨u, rfl⟩
  obtain ⟨n, rfl⟩ : ∃ m, n = m + 1 := ⟨n - 1, by omega⟩
  refine res_enter rfl d47 rfl ?_; simp only [c47]
  refine gg ?_
  have ap : Ap h.next (h.new (.cells 5 (rep 0 [.int .u8 0]) (.own false))) 5 1 (some ⟨h.next, 0, none⟩) 0 0 [] := ⟨rfl, Row.new (by simp) rfl (.inl rfl), fun q e => .inl (by cases e; rfl)⟩
  refine i_appF (B := h.next) (m := l.length) (t := l.length) (es := u8s l) (List.length_pos_iff.2 ho) (Nat.le_succ _) (by exact sel_of rfl) ap (by rw [sel_of rfl]; exact (hr.keeps (Keeps.new h _)).src) (by show (u8s l).length = _; rw [u8s_length]; omega) (by omega) (by omega) rfl fun h' n' k' a' => ?_
  refine gg ?_
  refine ⟨_, rfl, ⟨by rw [n']; exact Nat.le_succ_of_le (Nat.le_succ _), fun d hd => ?_⟩, a', Nat.le_succ _⟩
  rw [k' d (Nat.lt_succ_of_lt hd) (fun q e => .inr (by cases e; rfl)), Heap.get_new, if_neg (Nat.ne_of_lt hd)]
theorem w_less0 {a b : Nat} (ha : a < 65536) (hb : b < 65536) (hn : 1 ≤ n) :
    ResQ (callN Tryz.prog G0 n (.call 140 [.int .u16 (a : Int), .int .u16 (b : Int)]) h) (fun v h' => v = .bool (decide (a ≠ b ∧ (b + 65536 - a) % 65536 ≤ 32767)) ∧ h = h') := by
  obtain ⟨n, rfl⟩ : ∃ m, n = m + 1 := ⟨n - 1, by omega⟩
  refine res_enter rfl d140 rfl ?_; simp only [c140]
  refine gg ?_
  obtain ⟨z, hz⟩ : ∃ z, (b + 65536 - a) % 65536 = z := ⟨_, rfl⟩
  refine i_subW (r := (z : Int)) (by exact sel_of rfl) (by exact sel_of rfl) (by rw [sub16 b ha, hz]) ?_
  rw [hz]
  have hzl : z < 65536 := by omega
  refine gg ?_
  by_cases e : z = 0
  · rw [decide_eq_false (p := (z : Int) ≠ 0) (by omega)]
    refine gg ?_
    refine ⟨?_, rfl⟩
    rw [decide_eq_false (by omega)]
  · rw [decide_eq_true (p := (z : Int) ≠ 0) (by omega)]
    refine gg ?_
    refine i_v (v := .int .u16 ((65535 : Nat) : Int)) (by rfl) ?_
    refine gg ?_
    refine ⟨congrArg Value.bool ?_, rfl⟩
    rw [decide_eq_decide]
    show ((z : Nat) : Int) ≤ ((32767 : Nat) : Int) ↔ _
    omega
theorem w_less {a b : Nat} (ha : a < 65536) (hb : b < 65536) (hn : 2 ≤ n) :
    ResQ (callN Tryz.prog G0 n (.call 115 [.int .u16 (a : Int), .int .u16 (b : Int)]) h) (fun v h' => v = .bool (decide (a ≠ b ∧ (b + 65536 - a) % 65536 ≤ 32767)) ∧ h = h') := by
  obtain ⟨n, rfl⟩ : ∃ m, n = m + 1 := ⟨n - 1, by omega⟩
  refine res_enter rfl d115 rfl ?_; simp only [c115]
  refine gg ?_
  refine i_call2 (by exact sel_of rfl) (by exact sel_of rfl) (w_less0 ha hb (by omega)) ?_
  rintro _ _ ⟨rfl, rfl⟩
  refine gg ?_
  exact ⟨rfl, rfl⟩
end
end Go.Proofs.YtmlagbknnngjjaaGreat

/-! The queue: ranges over its entries of some states. -/
set_option linter.unusedVariables false
namespace Go.Proofs.YtmlagbknnngjjaaGreat
open Go Vm
abbrev nv (n : Nat) : Value := .int .i64 (n : Int)
abbrev pt (b : Nat) : Value := .pointer (some ⟨b, 0, none⟩)
theorem o_brangeX {P : Program} {rec : Rec} {n id nt : Nat} {f : Sel} {ps : List Tmp} {s b : Code} {a : Fr} {h : Heap} {g : FuncId} {cap : Array Value} {Q : Ex → Fr → Heap → Prop} (hf : f.f a = .func (.func g) #[] cap)
    (hc : ResQ (rec (.call g (Value.func (.yield h.next) #[] #[] :: cap.toList)) (h.new (.loop nt ps s b a .ready none))) (fun _ h' => RgQ h.next nt ps s b a (Blo id Q) h')) : OutQ ((sBlock id (sRangeFunc nt f ps s b)).f rec n a h) Q := out_block (out_range hf hc)
theorem i_yieldX {rec : Rec} {L : List (Nat × Value)} {f : Fr} {h : Heap} {K : Fr → Heap → Prop} {l : List ISem} {dt q : Nat} {c x1 : Sel} {v1 : Value} {R : Value → Heap → Prop} (hc : c.f (puts L f) = .func (.yield q) #[] #[]) (h1 : x1.f (puts L f) = v1) (hv : ResQ (rec (.yield q [v1]) h) R)
    (hq : ∀ v h', R v h' → ItQ (runItems rec l (puts ((dt, v) :: L) f) h') K) : ItQ (runItems rec (iOp (put dt) (.e (eCall c [x1])) :: l) (puts L f) h) K := by
  subst h1
  refine items_cons (it_e (ResQ.mono ?_ hq))
  simp only [eCall, hc]
  exact hv
section
variable {h : Heap} {n : Nat}
theorem w_index {o : Option Addr} {c x : Nat} {ss : List Nat} (hr : Row h 1 o ss.length (ss.map nv)) (hl : ss.length ≤ 100) (hn : ss.length + 5 ≤ n) :
    ResQ (callN Tryz.prog G0 n (.call 126 [.slice o ss.length c, nv x]) h) (fun v h' => (∃ k : Int, v = .int .i64 k ∧ (0 ≤ k ↔ x ∈ ss)) ∧ h = h') := by
  obtain ⟨n, rfl⟩ : ∃ m, n = m + 1 := ⟨n - 1, by omega⟩
  refine res_enter rfl d126 rfl ?_; simp only [c126]
  refine gg ?_
  refine o_up ss.length (fun i f h' => (h = h' ∧ ∀ k ∈ ss.take i, k ≠ x) ∧ Sl [(8, nv i), (7, nv ss.length), (6, .slice o ss.length c), (1, nv x), (0, .slice o ss.length c)] f) (by omega) ⟨⟨rfl, fun k hk => nomatch hk⟩, sel_of rfl, sel_of rfl, sel_of rfl, sel_of rfl, sel_of rfl, trivial⟩ ?_
  rintro i f _ hi ⟨⟨rfl, hne⟩, hs⟩
  obtain ⟨f0, rfl⟩ := hs.puts
  clear hs
  simp only [c126_0]
  refine gg ?_
  by_cases hi2 : i < ss.length
  · refine gg ?_
    refine i_idx (by exact sel_of rfl) hr (i := i) (by exact sel_of rfl) hi2 fun q hq => ?_
    subst hq
    refine i_load1 (v := nv (ss[i])) (by exact sel_of rfl) (by rw [Nat.mul_one, hr.cell (i := i) (by omega)]; simp [hi2]) ?_
    refine gg ?_
    by_cases he : (x : Int) = ((ss[i] : Nat) : Int)
    · refine gg ?_
      refine ⟨⟨_, rfl, ?_⟩, rfl⟩
      have : x = ss[i] := by omega
      exact ⟨fun _ => by rw [this]; exact List.getElem_mem _, fun _ => by omega⟩
    · refine gg ?_
      refine rnd_up hi2 ⟨⟨rfl, fun k hk => ?_⟩, sel_of rfl, sel_of rfl, sel_of rfl, sel_of rfl, sel_of rfl, trivial⟩
      rw [List.take_succ_eq_append_getElem hi2, List.mem_append] at hk
      rcases hk with hk | hk
      · exact hne k hk
      · simp only [List.mem_cons, List.not_mem_nil, or_false] at hk; omega
  · refine gg ?_
    refine ⟨⟨_, rfl, ⟨fun h0 => by omega, fun hx => ?_⟩⟩, rfl⟩
    rw [List.take_of_length_le (by omega)] at hne
    exact absurd rfl (hne x hx)
theorem w_contains {o : Option Addr} {c x : Nat} {ss : List Nat} (hr : Row h 1 o ss.length (ss.map nv)) (hl : ss.length ≤ 100) (hn : ss.length + 10 ≤ n) :
    ResQ (callN Tryz.prog G0 n (.call 105 [.slice o ss.length c, nv x]) h) (fun v h' => v = .bool (decide (x ∈ ss)) ∧ h = h') := by
  obtain ⟨n, rfl⟩ : ∃ m, n = m + 1 := ⟨n - 1, by omega⟩
  refine res_enter rfl d105 rfl ?_; simp only [c105]
  refine gg ?_
  refine i_call2 (by exact sel_of rfl) (by exact sel_of rfl) (w_index hr hl (by omega)) ?_
  rintro _ _ ⟨⟨k, rfl, hk⟩, rfl⟩
  refine gg ?_
  exact ⟨congrArg Value.bool (decide_eq_decide.2 hk), rfl⟩
/-- what a range over entries reads -/
structure InF (h : Heap) (Qb Sb Q : Nat) (oq : Option Addr) (c : Nat) (bs ss : List Nat) : Prop where
  hQ : ∃ e op, h.get Qb = some (.cells e [pt Q] (.own op))
  hS : ∃ e op os c, h.get Sb = some (.cells e [.slice os ss.length c] (.own op)) ∧ Row h 1 os ss.length (ss.map nv)
  hq : ∃ e op nx, h.get Q = some (.cells e [.slice oq bs.length c, nx] (.own op))
  hr : Row h 1 oq bs.length (bs.map pt)
theorem w_in1 {Qb Sb Q L c d : Nat} {oq : Option Addr} {bs ss : List Nat} (J : Nat → Heap → Prop) (R : Heap → Prop) (st : Nat → Nat) (hss : ss.length ≤ 100) (hbs : bs.length ≤ 2000)
    (hF : ∀ i h, J i h → InF h Qb Sb Q oq c bs ss)
    (hst : ∀ i b h, J i h → bs[i]? = some b → ∃ e cs op, h.get b = some (.cells e cs (.own op)) ∧ cs[13]? = some (nv (st i)))
    (hskip : ∀ i h, J i h → i < bs.length → st i ∉ ss → J (i + 1) h)
    (hy : ∀ i b h m, J i h → bs[i]? = some b → st i ∈ ss → d ≤ m → ResQ (callN Tryz.prog G0 m (.yield L [pt b]) h) (fun v h' => (v = .bool true ∧ J (i + 1) h') ∨ (v = .bool false ∧ R h')))
    (h0 : J 0 h) (hn : bs.length + ss.length + d + 20 ≤ n) :
    ResQ (callN Tryz.prog G0 n (.call 104 [.func (.yield L) #[] #[], pt Qb, pt Sb]) h) (fun _ h' => J bs.length h' ∨ R h') := by
  obtain ⟨n, rfl⟩ : ∃ m, n = m + 1 := ⟨n - 1, by omega⟩
  refine res_enter rfl d104 rfl ?_; simp only [c104]
  refine gg ?_
  obtain ⟨⟨e1, p1, g1⟩, _, ⟨e3, p3, nx, g3⟩, hr⟩ := hF 0 h h0
  refine i_load1 (v := pt Q) (by exact sel_of rfl) ((load1_own g1).trans (by rfl)) ?_
  refine gg ?_
  refine i_load1 (v := pt Q) (by exact sel_of rfl) ((load1_own g1).trans (by rfl)) ?_
  refine gg ?_
  refine i_load1 (v := .slice oq bs.length c) (by exact sel_of rfl) ((load1_own g3).trans (by rfl)) ?_
  refine gg ?_
  refine o_up bs.length (fun i f h' => J i h' ∧ Sl [(13, nv i), (12, nv bs.length), (11, .slice oq bs.length c), (0, .func (.yield L) #[] #[]), (2, pt Sb)] f) (by omega) ⟨h0, sel_of rfl, sel_of rfl, sel_of rfl, sel_of rfl, sel_of rfl, trivial⟩ ?_
  clear hr g1 g3 h0
  rintro i f h hi ⟨hJ, hs⟩
  obtain ⟨f0, rfl⟩ := hs.puts
  clear hs
  simp only [c104_0]
  refine gg ?_
  by_cases hi2 : i < bs.length
  · refine gg ?_
    obtain ⟨_, ⟨e2, p2, os, c2, g2, hr2⟩, _, hr⟩ := hF i h hJ
    obtain ⟨ee, cs, op, gb, g13⟩ := hst i bs[i] h hJ (by simp [hi2])
    refine i_idx (by exact sel_of rfl) hr (i := i) (by exact sel_of rfl) hi2 fun q hq => ?_
    subst hq
    refine i_load1 (v := pt (bs[i])) (by exact sel_of rfl) (by rw [Nat.mul_one, hr.cell (i := i) (by omega)]; simp [hi2]) ?_
    refine gg ?_
    refine i_load1 (v := .slice os ss.length c2) (by exact sel_of rfl) ((load1_own g2).trans (by rfl)) ?_
    refine gg ?_
    refine i_load1 (v := nv (st i)) (by exact sel_of rfl) ((load1_own gb).trans (by rw [Nat.zero_add]; exact g13)) ?_
    refine gg ?_
    refine i_call2 (by exact sel_of rfl) (by exact sel_of rfl) (w_contains hr2 hss (by omega)) ?_
    rintro _ _ ⟨rfl, rfl⟩
    refine gg ?_
    by_cases hm : st i ∈ ss
    · rw [decide_eq_true hm]
      refine gg ?_
      have hv := hy i bs[i] h n hJ (by simp [hi2]) hm (by omega)
      refine i_yieldX (by exact sel_of rfl) (by exact sel_of rfl) hv ?_
      rintro _ h' (⟨rfl, hJ'⟩ | ⟨rfl, hR⟩)
      · refine gg ?_
        exact rnd_up hi2 ⟨hJ', sel_of rfl, sel_of rfl, sel_of rfl, sel_of rfl, sel_of rfl, trivial⟩
      · refine gg ?_
        exact .inr hR
    · rw [decide_eq_false hm]
      refine gg ?_
      exact rnd_up hi2 ⟨hskip i h hJ hi2 hm, sel_of rfl, sel_of rfl, sel_of rfl, sel_of rfl, sel_of rfl, trivial⟩
  · refine gg ?_
    have : i = bs.length := by omega
    subst this
    exact .inl hJ
end
end Go.Proofs.YtmlagbknnngjjaaGreat

/-! The queue in memory; how many octets its entries of some states have. -/
set_option linter.unusedVariables false
namespace Go.Proofs.YtmlagbknnngjjaaGreat
open Go Vm
/-- an entry, and where it lies -/
structure Ent where
  b : Nat
  p : Nat
  k : Nat
  c : Ck
  st : Nat
  sent : Nat
  mi : Nat
  tm : Int
def Ent.sz (e : Ent) : Nat := e.c.dt.length
def entv (e : Ent) : List Value := ckv e.c (some ⟨e.k, 0, some 1⟩) e.c.dt.length ++ [pt e.p, nv e.st, nv e.sent, .int .i64 e.tm, nv e.mi]
structure EntOK (h : Heap) (e : Ent) : Prop where
  hb : h.get e.b = some (.cells 115 (entv e) (.own false))
  bl : e.b < h.next
  hp : h.get e.p = some (.cells 112 [.int .i64 (-1), .int .i64 (-1), .bool false] (.own false))
  pl : e.p < h.next
  hk : h.get e.k = some (.cells 5 (u8s e.c.dt) (.own true))
  kl : e.k < h.next
  wf : e.c.wf
  ne : e.c.dt ≠ []
  le : e.c.dt.length ≤ 1172
theorem EntOK.keeps {h h' : Heap} {e : Ent} (x : EntOK h e) (k : Keeps h h') : EntOK h' e :=
  ⟨(k.get _ x.bl).trans x.hb, Nat.lt_of_lt_of_le x.bl k.next, (k.get _ x.pl).trans x.hp, Nat.lt_of_lt_of_le x.pl k.next, (k.get _ x.kl).trans x.hk, Nat.lt_of_lt_of_le x.kl k.next, x.wf, x.ne, x.le⟩
theorem EntOK.row {h : Heap} {e : Ent} (x : EntOK h e) : Row h 1 (some ⟨e.k, 0, some 1⟩) e.c.dt.length (u8s e.c.dt) :=
  ⟨by rw [u8s_length]; omega, x.kl, .inr rfl, loadN_all x.hk (by rw [u8s_length]; omega)⟩
/-- the queue in memory -/
structure Que (h : Heap) (Q : Nat) (oq : Option Addr) (nx : Nat) (es : List Ent) : Prop where
  hq : h.get Q = some (.cells 93 [.slice oq es.length es.length, .int .u32 (nx : Int)] (.own false))
  ql : Q < h.next
  ar : (es = [] ∧ oq = none) ∨ ∃ k, oq = some ⟨k, 0, some 1⟩ ∧ k < h.next ∧ h.get k = some (.cells 113 (es.map fun e => pt e.b) (.own true))
  en : ∀ e ∈ es, EntOK h e
  nd : (es.map Ent.b).Nodup
  lim : es.length ≤ 1024
  nxl : nx < 4294967296
theorem Que.keeps {h h' : Heap} {Q nx : Nat} {oq : Option Addr} {es : List Ent} (x : Que h Q oq nx es) (k : Keeps h h') : Que h' Q oq nx es :=
  ⟨(k.get _ x.ql).trans x.hq, Nat.lt_of_lt_of_le x.ql k.next, x.ar.imp id fun ⟨a, h1, h2, h3⟩ => ⟨a, h1, Nat.lt_of_lt_of_le h2 k.next, (k.get _ h2).trans h3⟩, fun e he => (x.en e he).keeps k, x.nd, x.lim, x.nxl⟩
theorem Que.ap {h : Heap} {Q nx : Nat} {oq : Option Addr} {es : List Ent} (x : Que h Q oq nx es) : Ap 0 h 113 1 oq es.length es.length (es.map fun e => pt e.b) := by
  rcases x.ar with ⟨rfl, rfl⟩ | ⟨k, rfl, hk, hg⟩
  · exact Ap.nil _ _ _ _
  · exact ⟨rfl, ⟨by simp, hk, .inr rfl, loadN_all hg (by simp)⟩, fun q e => by cases e; exact .inr ⟨k, rfl, Nat.zero_le _, hg⟩⟩
theorem Que.row {h : Heap} {Q nx : Nat} {oq : Option Addr} {es : List Ent} (x : Que h Q oq nx es) : Row h 1 oq (es.map Ent.b).length ((es.map Ent.b).map pt) := by
  have := x.ap.row
  rw [List.length_map, List.map_map]; exact this
section
variable {h : Heap} {n : Nat}
theorem w_size {e : Ent} (x : EntOK h e) (hn : 1 ≤ n) : ResQ (callN Tryz.prog G0 n (.call 81 [pt e.b]) h) (fun v h' => v = nv e.sz ∧ h = h') := by
  obtain ⟨n, rfl⟩ : ∃ m, n = m + 1 := ⟨n - 1, by omega⟩
  refine res_enter rfl d81 rfl ?_; simp only [c81]
  refine gg ?_
  refine i_load1 (v := .slice (some ⟨e.k, 0, some 1⟩) e.c.dt.length e.c.dt.length) (by exact sel_of rfl) ((load1_own x.hb).trans (by rfl)) ?_
  refine gg ?_
  exact ⟨rfl, rfl⟩
/-- octets of entries of some states -/
def octs (ss : List Nat) (es : List Ent) : Nat := (es.map fun e => if e.st ∈ ss then e.sz else 0).sum
theorem octs_snoc (ss : List Nat) (es : List Ent) (e : Ent) : octs ss (es ++ [e]) = octs ss es + if e.st ∈ ss then e.sz else 0 := by
  unfold octs; rw [List.map_append, List.sum_append]; simp
theorem octs_le {h : Heap} (ss : List Nat) : ∀ (es : List Ent), (∀ e ∈ es, EntOK h e) → octs ss es ≤ 1172 * es.length
  | [], _ => Nat.zero_le _
  | e :: es, x => by
    have h1 := octs_le ss es fun e he => x e (List.mem_cons_of_mem _ he)
    have h2 := (x e (List.mem_cons_self ..)).le
    show (if e.st ∈ ss then e.sz else 0) + octs ss es ≤ _
    rw [List.length_cons]
    have : (if e.st ∈ ss then e.sz else 0) ≤ e.sz := by split <;> omega
    have : e.sz = e.c.dt.length := rfl
    omega
/-- while a range over entries runs -/
structure RgI (h0 h : Heap) (Qb Sb L Q nt : Nat) (ps : List Tmp) (s b : Code) (a : Fr) (eq es : Nat) (vs : Value) : Prop where
  keep : Keeps h0 h
  gQ : h.get Qb = some (.cells eq [pt Q] (.own false))
  gS : h.get Sb = some (.cells es [vs] (.own false))
  gL : h.get L = some (.loop nt ps s b a .ready none)
theorem RgI.inF {h0 h : Heap} {Qb Sb L Q nt nx c : Nat} {ps : List Tmp} {s b : Code} {a : Fr} {eq es : Nat} {os oq : Option Addr} {ss : List Nat} {ee : List Ent} (r : RgI h0 h Qb Sb L Q nt ps s b a eq es (.slice os ss.length c)) (x : Que h0 Q oq nx ee) (hs : Row h0 1 os ss.length (ss.map nv)) : InF h Qb Sb Q oq ee.length (ee.map Ent.b) ss :=
  ⟨⟨_, _, r.gQ⟩, ⟨_, _, _, _, r.gS, hs.keeps r.keep⟩, ⟨_, _, _, by rw [List.length_map]; exact (x.keeps r.keep).hq⟩, (x.keeps r.keep).row⟩
theorem w_in {Q c : Nat} {os : Option Addr} {m : Nat} (hn : 1 ≤ n) :
    ResQ (callN Tryz.prog G0 n (.call 73 [pt Q, .slice os m c]) h) (fun v h' => v = .func (.func 104) #[] #[pt h.next, pt (h.next + 1)] ∧ h' = (h.new (.cells 59 [pt Q] (.own false))).new (.cells 23 [.slice os m c] (.own false))) := by
  obtain ⟨n, rfl⟩ : ∃ m, n = m + 1 := ⟨n - 1, by omega⟩
  refine res_enter rfl d73 rfl ?_; simp only [c73]
  refine gg ?_
  exact ⟨rfl, rfl⟩
structure TI (h0 h : Heap) (Qb Sb L Q X F : Nat) (a : Fr) (vs : Value) (t : Nat) : Prop where
  r : RgI h0 h Qb Sb L Q 15 [8] k80_0.1 k80_0.2 a 59 23 vs
  gX : h.get X = some (.cells 3 [nv t] (.own false))
  gF : ∃ e, h.get F = some (.cells e [.func (.func 81) #[] #[]] (.own false))
  ord : h0.next ≤ X ∧ X ≠ L ∧ h0.next ≤ L ∧ X ≠ F ∧ F ≠ L ∧ X ≠ Qb ∧ X ≠ Sb ∧ L ≠ Qb ∧ L ≠ Sb
theorem w_tround {h0 : Heap} {Qb Sb L Q X F t : Nat} {a : Fr} {vs : Value} {e : Ent} (T : TI h0 h Qb Sb L Q X F a vs t) (fr : Sl [(5, pt X), (3, pt F)] a) (en : EntOK h0 e) (ht : t ≤ 1300000) (hn : 3 ≤ n) :
    ResQ (callN Tryz.prog G0 n (.yield L [pt e.b]) h) (fun v h' => v = .bool true ∧ TI h0 h' Qb Sb L Q X F a vs (t + e.sz)) := by
  obtain ⟨⟨keep, gQ, gS, gL⟩, gX, ⟨eF, gF⟩, o1, o2, o3, o4, o5, o6, o7, o8, o9⟩ := T
  have frs := fr
  obtain ⟨n, rfl⟩ : ∃ m, n = m + 1 := ⟨n - 1, by omega⟩
  refine res_yield gL rfl ea80_0 eb80_0 ?_
  obtain ⟨f0, hfa⟩ := fr.puts
  rw [show setAll [8] [pt e.b] a = puts [(8, pt e.b), (5, pt X), (3, pt F)] f0 by rw [hfa]; rfl]
  simp only [a80_0]
  refine gg ?_
  refine YA.mk gL ?_
  simp only [b80_0]
  have k1 : Keeps h0 (h.put L (.loop 15 [8] k80_0.1 k80_0.2 a .busy none)) := keep.put o3 _
  have e1 : ∀ d, d ≠ L → (h.put L (.loop 15 [8] k80_0.1 k80_0.2 a .busy none)).get d = h.get d := fun d hd => by rw [Heap.get_put, if_neg hd]
  have e1L : (h.put L (.loop 15 [8] k80_0.1 k80_0.2 a .busy none)).get L = some (.loop 15 [8] k80_0.1 k80_0.2 a .busy none) := by rw [Heap.get_put, if_pos rfl]
  generalize (h.put L (.loop 15 [8] k80_0.1 k80_0.2 a .busy none)) = h1 at *
  have gX1 := (e1 X o2).trans gX
  have gF1 := (e1 F o5).trans gF
  have lx : load1 h1.get ⟨X, 0, none⟩ = some (nv t) := (load1_own gX1).trans (by rfl)
  refine out_block ?_
  refine gg ?_
  refine i_load1 (v := nv t) (by exact sel_of rfl) lx ?_
  refine gg ?_
  refine i_load1 (v := .func (.func 81) #[] #[]) (by exact sel_of rfl) ((load1_own gF1).trans (by rfl)) ?_
  refine gg ?_
  refine i_callv1 (by exact sel_of rfl) (by exact sel_of rfl) (w_size (en.keeps k1) (by omega)) ?_
  rintro _ _ ⟨rfl, rfl⟩
  have hsz : e.sz ≤ 1172 := en.le
  refine gg ?_
  refine i_storeP (vs := [nv (t + e.sz)]) (by exact sel_of rfl) (by rw [show nv (t + e.sz) = .int .i64 ((t : Int) + (e.sz : Int)) from congrArg (Value.int .i64) (by omega)]; rfl) gX1 rfl rfl ?_
  refine gg ?_
  refine ⟨chk_cons (a := _) rfl (ld1 (by exact sel_of rfl) lx) (sv_int _ _) (fun m hm => by
    simp only [List.mem_cons, List.not_mem_nil, or_false] at hm
    rcases hm with rfl | rfl <;> exact ⟨_, _, rfl, ld1 (by exact sel_of rfl) lx⟩) chk_nil, ?_⟩
  refine gg ?_
  refine YB.go (by rw [Heap.get_put, if_neg (Ne.symm o2)]; exact e1L) ⟨rfl, ⟨⟨(k1.put o1 _).put o3 _, ?_, ?_, ?_⟩, ?_, ⟨eF, ?_⟩, o1, o2, o3, o4, o5, o6, o7, o8, o9⟩⟩
  · rw [Heap.get_put, if_neg (Ne.symm o8), Heap.get_put, if_neg (Ne.symm o6), e1 _ (Ne.symm o8)]; exact gQ
  · rw [Heap.get_put, if_neg (Ne.symm o9), Heap.get_put, if_neg (Ne.symm o7), e1 _ (Ne.symm o9)]; exact gS
  · rw [Heap.get_put, if_pos rfl]
  · rw [Heap.get_put, if_neg o2, Heap.get_put, if_pos rfl]
  · rw [Heap.get_put, if_neg o5, Heap.get_put, if_neg (Ne.symm o4)]; exact gF1
theorem w_trun {h0 : Heap} {Q Qb Sb X F nx c : Nat} {oq os : Option Addr} {ss : List Nat} {es : List Ent} {a : Fr} (x : Que h0 Q oq nx es) (k0 : Keeps h0 h) (gQ : h.get Qb = some (.cells 59 [pt Q] (.own false))) (gS : h.get Sb = some (.cells 23 [.slice os ss.length c] (.own false))) (hs : Row h0 1 os ss.length (ss.map nv)) (hss : ss.length ≤ 100)
    (gX : h.get X = some (.cells 3 [nv 0] (.own false))) (gF : ∃ e, h.get F = some (.cells e [.func (.func 81) #[] #[]] (.own false))) (ord : h0.next ≤ X ∧ X < h.next ∧ X ≠ F ∧ F < h.next ∧ X ≠ Qb ∧ X ≠ Sb ∧ Qb < h.next ∧ Sb < h.next) (fr : Sl [(5, pt X), (3, pt F)] a) (hn : es.length + ss.length + 30 ≤ n) :
    ResQ (callN Tryz.prog G0 n (.call 104 (Value.func (.yield h.next) #[] #[] :: #[pt Qb, pt Sb].toList)) (h.new (.loop 15 [8] k80_0.1 k80_0.2 a .ready none))) (fun _ h' => TI h0 h' Qb Sb h.next Q X F a (.slice os ss.length c) (octs ss es)) := by
  obtain ⟨o1, o2, o3, o4, o5, o6, o7, o8⟩ := ord
  have hnn := k0.next
  have hlim := x.lim
  have hlen : (es.map Ent.b).length = es.length := List.length_map ..
  have e1 : ∀ d, d < h.next → (h.new (.loop 15 [8] k80_0.1 k80_0.2 a .ready none)).get d = h.get d := fun d hd => by rw [Heap.get_new, if_neg (by omega)]
  refine ResQ.mono (w_in1 (L := h.next) (d := 3) (bs := es.map Ent.b) (oq := oq) (c := es.length) (Q := Q) (ss := ss) (fun i h' => TI h0 h' Qb Sb h.next Q X F a (.slice os ss.length c) (octs ss (es.take i))) (fun _ => False) (fun i => ((es[i]?).map Ent.st).getD 0) hss (by omega) ?_ ?_ ?_ ?_ ?_ (by omega)) ?_
  · intro i h' T
    exact T.r.inF x hs
  · intro i b h' T hb
    rw [List.getElem?_map] at hb
    cases he : es[i]? with
    | none => rw [he] at hb; cases hb
    | some e =>
      rw [he] at hb; cases hb
      exact ⟨_, _, _, ((x.en e (List.mem_of_getElem? he)).keeps T.r.keep).hb, rfl⟩
  · intro i h' T _ hst
    cases he : es[i]? with
    | none => rw [List.take_of_length_le (by have := List.getElem?_eq_none_iff.1 he; omega)]; rw [List.take_of_length_le (by have := List.getElem?_eq_none_iff.1 he; omega)] at T; exact T
    | some e =>
      rw [he] at hst
      have hst : ¬ e.st ∈ ss := hst
      rw [List.take_add_one, he]
      have : octs ss (es.take i ++ (some e).toList) = octs ss (es.take i) := by
        rw [show (some e).toList = [e] from rfl, octs_snoc, if_neg hst]; rfl
      rw [this]; exact T
  · intro i b h' m T hb hst hm
    rw [List.getElem?_map] at hb
    cases he : es[i]? with
    | none => rw [he] at hb; cases hb
    | some e =>
      rw [he] at hb hst; cases hb
      have hst : e.st ∈ ss := hst
      refine ((w_tround T fr (x.en e (List.mem_of_getElem? he)) ?_ (by omega)).mono ?_)
      · have := octs_le ss (es.take i) fun e he => x.en e (List.mem_of_mem_take he)
        have : (es.take i).length ≤ 1024 := by rw [List.length_take]; omega
        omega
      · rintro v h'' ⟨rfl, T'⟩
        refine .inl ⟨rfl, ?_⟩
        have : octs ss (es.take (i + 1)) = octs ss (es.take i) + e.sz := by
          rw [List.take_add_one, he, show (some e).toList = [e] from rfl, octs_snoc, if_pos hst]
        rw [this]; exact T'
  · refine ⟨⟨k0.trans (Keeps.new _ _), ?_, ?_, ?_⟩, ?_, ?_, o1, by omega, hnn, o3, by omega, o5, o6, by omega, by omega⟩
    · rw [e1 _ o7]; exact gQ
    · rw [e1 _ o8]; exact gS
    · rw [Heap.get_new, if_pos rfl]
    · rw [e1 _ o2]; exact gX
    · rw [e1 _ o4]; exact gF
  · rintro v h' (T | hf)
    · rw [hlen, List.take_of_length_le (Nat.le_refl _)] at T; exact T
    · exact hf.elim
set_option maxHeartbeats 1000000 in
theorem w_total {h0 : Heap} {Q Qb Sb nx c : Nat} {oq os : Option Addr} {ss : List Nat} {es : List Ent} (x : Que h0 Q oq nx es) (k0 : Keeps h0 h) (gQ : h.get Qb = some (.cells 59 [pt Q] (.own false))) (gS : h.get Sb = some (.cells 23 [.slice os ss.length c] (.own false))) (hQb : Qb < h.next) (hSb : Sb < h.next) (hs : Row h0 1 os ss.length (ss.map nv)) (hss : ss.length ≤ 100) (hn : es.length + ss.length + 35 ≤ n) :
    ResQ (callN Tryz.prog G0 n (.call 80 [.func (.func 104) #[] #[pt Qb, pt Sb], .func (.func 81) #[] #[]]) h) (fun v h' => v = nv (octs ss es) ∧ Keeps h0 h') := by
  have hnn := k0.next
  have hlim := x.lim
  obtain ⟨n, rfl⟩ : ∃ m, n = m + 1 := ⟨n - 1, by omega⟩
  refine res_enter rfl d80 rfl ?_; simp only [c80]
  refine gg ?_
  obtain ⟨a1, a2, k1, n1⟩ := box_two h (.cells 146 [.func (.func 81) #[] #[]] (.own false)) (.cells 3 [.int .i64 0] (.own false))
  generalize hh : ((h.new (.cells 146 [.func (.func 81) #[] #[]] (.own false))).new (.cells 3 [.int .i64 0] (.own false))) = h1 at *
  refine i_storeP (b := h.next + 1) (vs := [nv 0]) (by exact sel_of rfl) (by rfl) a2 rfl rfl ?_
  have k2 : Keeps h (h1.put (h.next + 1) (.cells 3 [nv 0] (.own false))) := k1.put (Nat.le_succ _) _
  have b1 : (h1.put (h.next + 1) (.cells 3 [nv 0] (.own false))).get h.next = some (.cells 146 [.func (.func 81) #[] #[]] (.own false)) := by rw [Heap.get_put, if_neg (by omega)]; exact a1
  have b2 : (h1.put (h.next + 1) (.cells 3 [nv 0] (.own false))).get (h.next + 1) = some (.cells 3 [nv 0] (.own false)) := by rw [Heap.get_put, if_pos rfl]
  have n2 : (h1.put (h.next + 1) (.cells 3 [nv 0] (.own false))).next = h.next + 2 := n1
  clear hh a1 a2 k1 n1
  generalize (h1.put (h.next + 1) (.cells 3 [nv 0] (.own false))) = h2 at *
  refine gg ?_
  refine o_brangeX (P := Tryz.prog) (by exact sel_of rfl) ?_
  have hlt := k2.next
  refine (w_trun (X := h.next + 1) (F := h.next) x (k0.trans k2) ((k2.get _ hQb).trans gQ) ((k2.get _ hSb).trans gS) hs hss b2 ⟨_, b1⟩ ⟨by omega, by omega, by omega, by omega, by omega, by omega, by omega, by omega⟩ ⟨sel_of rfl, sel_of rfl, trivial⟩ (by omega)).mono ?_
  intro v h4 T
  obtain ⟨⟨keep, _, _, gL⟩, gX, _, o1, o2, o3, _⟩ := T
  have gX' : ∀ B, (h4.put h2.next B).get (h.next + 1) = some (.cells 3 [nv (octs ss es)] (.own false)) := fun B => by rw [Heap.get_put, if_neg (by omega)]; exact gX
  refine RgQ.none gL (blo_n ?_)
  refine gg ?_
  refine i_load1 (v := nv (octs ss es)) (by exact sel_of rfl) ((load1_own (gX' _)).trans (by rfl)) ?_
  refine gg ?_
  exact ⟨rfl, keep.put (by omega) _⟩
theorem w_octets {Q nx c : Nat} {oq os : Option Addr} {ss : List Nat} {es : List Ent} (x : Que h Q oq nx es) (hs : Row h 1 os ss.length (ss.map nv)) (hss : ss.length ≤ 100) (hn : es.length + ss.length + 40 ≤ n) :
    ResQ (callN Tryz.prog G0 n (.call 48 [pt Q, .slice os ss.length c]) h) (fun v h' => v = nv (octs ss es) ∧ Keeps h h') := by
  obtain ⟨n, rfl⟩ : ∃ m, n = m + 1 := ⟨n - 1, by omega⟩
  refine res_enter rfl d48 rfl ?_; simp only [c48]
  refine gg ?_
  refine i_call2 (by exact sel_of rfl) (by exact sel_of rfl) (w_in (by omega)) ?_
  rintro _ _ ⟨rfl, rfl⟩
  obtain ⟨g1, g2, k1, n1⟩ := box_two h (.cells 59 [pt Q] (.own false)) (.cells 23 [.slice os ss.length c] (.own false))
  generalize ((h.new (.cells 59 [pt Q] (.own false))).new (.cells 23 [.slice os ss.length c] (.own false))) = h1 at *
  refine gg ?_
  refine i_call2 (by exact sel_of rfl) (by exact const_of) (w_total x k1 g1 g2 (by omega) (by omega) hs hss (by omega)) ?_
  rintro _ h2 ⟨rfl, k2⟩
  refine gg ?_
  exact ⟨rfl, k2⟩
end
end Go.Proofs.YtmlagbknnngjjaaGreat

