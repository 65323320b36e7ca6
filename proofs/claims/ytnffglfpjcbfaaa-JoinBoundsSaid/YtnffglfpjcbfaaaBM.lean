/- Part of a proof by an abstract run of the program's code: BM. No condition. -/
import Derived.Test.YtnffglfpjcbfaaaGx
import Derived.Test.YtnffglfpjcbfaaaBL
/-! maps.DeleteFunc over the chunks, walked. -/
set_option linter.unusedVariables false
namespace Vm
open Go
theorem i_callF2 {rec : Rec} {L : List (Nat × Value)} {f : Fr} {dt : Nat} {h : Heap} {K : Fr → Heap → Prop} {l : List ISem} {g : FuncId} {cp : Array Value} {c x1 x2 : Sel} {v1 v2 : Value} {R : Value → Heap → Prop} (hc : c.f (puts L f) = .func (.func g) #[] cp) (h1 : x1.f (puts L f) = v1) (h2 : x2.f (puts L f) = v2) (hv : ResQ (rec (.call g (v1 :: v2 :: cp.toList)) h) R) (hq : ∀ v h', R v h' → ItQ (runItems rec l (puts ((dt, v) :: L) f) h') K) : ItQ (runItems rec (iOp (put dt) (.e (eCall c [x1, x2])) :: l) (puts L f) h) K := by
  subst h1
  subst h2
  refine items_cons (it_e (ResQ.mono ?_ hq))
  simp only [eCall, hc]
  exact hv
theorem leftE_filter (seen : List Nat) : ∀ es : List (Value × Value × Nat), leftE seen es = es.filter fun e => !hasN e.2.2 seen
  | [] => rfl
  | x :: es => by
    show (bif hasN x.2.2 seen then leftE seen es else x :: leftE seen es) = _
    rw [List.filter_cons, leftE_filter seen es]
    cases hasN x.2.2 seen <;> rfl
theorem mDel_sublist {N : KT} {k : Value} : ∀ {es es' : List (Value × Value × Nat)}, mDel N k es = some es' → es'.Sublist es
  | [], es', h => by cases h; exact List.Sublist.refl _
  | (ek, ev, s) :: es, es', h => by
    have h : (match eqV N k ek with
      | some true => some es
      | some false => (match mDel N k es with | some r => some ((ek, ev, s) :: r) | none => none)
      | none => none) = some es' := h
    split at h
    · cases h; exact List.sublist_cons_self _ _
    · split at h
      · rename_i r hp
        cases h
        exact (mDel_sublist hp).cons_cons _
      · cases h
    · cases h
theorem leftE_len {seen : List Nat} {es es' : List (Value × Value × Nat)} (h : es'.Sublist es) : (leftE seen es').length ≤ (leftE seen es).length := by
  rw [leftE_filter, leftE_filter]
  exact (h.filter _).length_le
theorem leftE_nil : ∀ (es : List (Value × Value × Nat)), (leftE [] es).length = es.length
  | [] => rfl
  | x :: es => by
    show (x :: leftE [] es).length = _
    rw [List.length_cons, List.length_cons, leftE_nil es]
theorem row_iter {h : Heap} {sz n I a c d : Nat} {r : Option Nat} {s : List Nat} {q : Addr} {cs : List Value} (hr : Row h sz (some q) n cs) (hI : h.get I = some (.iter r c s d)) : q.block ≠ I := by
  intro e
  have h4 := hr.2.2.2
  simp only [loadN, e, hI] at h4
  cases h4
end Vm
namespace Go.Proofs.Ytnffglfpjcbfaaa
open Go Vm
section
variable {h : Heap} {n : Nat} {N L : Nat} {nx : List Nat} {ch : List (Nat × Ck)} {st : List ((Nat × Nat) × Mg)} {rd : List Mg} {held pend K : Nat} {ro : Option Addr}
theorem ChL.mem : ∀ {es : List (Value × Value × Nat)} {l : List (Nat × Ck)}, ChL h N ro es l → ∀ e ∈ es, ∃ p ∈ l, e.1 = .int .u32 (p.1 : Int) ∧ ∃ v, e.2.1 = .agg v.toArray ∧ CkAt h N ro p.2 v
  | [], [], _, e, he => by cases he
  | [], _ :: _, x, _, _ => x.elim
  | _ :: _, [], x, _, _ => x.elim
  | x :: es, p :: st, ⟨h1, r⟩, e, he => by
    rcases List.mem_cons.1 he with rfl | he
    · exact ⟨p, List.mem_cons_self .., h1⟩
    · obtain ⟨q, h1, h2⟩ := ChL.mem r e he
      exact ⟨q, List.mem_cons_of_mem _ h1, h2⟩
theorem ChL.len : ∀ {es : List (Value × Value × Nat)} {l : List (Nat × Ck)}, ChL h N ro es l → es.length = l.length
  | [], [], _ => rfl
  | [], _ :: _, x => x.elim
  | _ :: _, [], x => x.elim
  | x :: es, p :: st, ⟨_, r⟩ => by rw [List.length_cons, List.length_cons, ChL.len r]
theorem KD.iter {I c d : Nat} {r : Option Nat} {s : List Nat} (hI : h.get I = some (.iter r c s d)) (x : Blk) : KD h N ro (h.put I x) ro := fun o bs dd =>
  ⟨dd.1.keepsB (putB h I x) (fun q e => by subst e; exact row_iter (a := 0) dd.1 hI), dd.2⟩
theorem Jn.iter {I c d : Nat} {r : Option Nat} {s : List Nat} (j : Jn h N nx ch st rd held ro) (hI : h.get I = some (.iter r c s d)) (hN : N + 4 ≤ I) (x : Blk) : Jn (h.put I x) N nx ch st rd held ro := by
  have jup := j.up
  have kd := KD.iter (N := N) (ro := ro) hI x
  obtain ⟨es1, c1, a1, b1⟩ := j.chs
  obtain ⟨es2, c2, a2, b2⟩ := j.sts
  obtain ⟨cs, ap, hrd⟩ := j.rdy
  exact ⟨j.up, by rw [Heap.get_put, if_neg (by omega)]; exact j.top, by rw [Heap.get_put, if_neg (by omega)]; exact j.nxt, ⟨es1, c1, by rw [Heap.get_put, if_neg (by omega)]; exact a1, b1.mono kd⟩, ⟨es2, c2, by rw [Heap.get_put, if_neg (by omega)]; exact a2, b2.mono kd⟩, ⟨cs, apB ap (putB h I x) (fun q e => by subst e; exact row_iter (a := 0) ap.row hI), hrd.mono kd⟩, j.ofr⟩
theorem Pres.fresh {h0 : Heap} {I : Nat} {ro' : Option Addr} (p : Pres N h0 ro h ro') (hI : h0.next ≤ I) (x : Blk) : Pres N h0 ro (h.put I x) ro' :=
  ⟨p.next, fun d hd hn ha => by rw [Heap.get_put, if_neg (by omega)]; exact p.get d hd hn ha, p.new⟩
theorem w_less32 {a b : Nat} (ha : a < 4294967296) (hb : b < 4294967296) (hn : 2 ≤ n) :
    ResQ (callN Try.prog G0 n (.call 26 [.int .u32 (a : Int), .int .u32 (b : Int)]) h) (fun v h' => (∃ t, v = .bool t) ∧ h = h') := by
  have w0 : ResQ (callN Try.prog G0 (n - 1) (.call 33 [.int .u32 (a : Int), .int .u32 (b : Int)]) h) (fun v h' => (∃ t, v = .bool t) ∧ h = h') := by
    obtain ⟨m, hm⟩ : ∃ m, n - 1 = m + 1 := ⟨n - 2, by omega⟩
    rw [hm]
    refine res_enter rfl d33 rfl ?_; simp only [c33]
    refine gg ?_
    refine i_subW (by exact sel_of rfl) (by exact sel_of rfl) (sub32 b ha) ?_
    refine gg ?_
    obtain ⟨z, hz⟩ : ∃ z, (b + 4294967296 - a) % 4294967296 = z := ⟨_, rfl⟩
    rw [hz]
    by_cases e : z = 0
    · rw [decide_eq_false (p := (z : Int) ≠ 0) (by omega)]
      refine gg ?_
      exact ⟨⟨_, rfl⟩, rfl⟩
    · rw [decide_eq_true (p := (z : Int) ≠ 0) (by omega)]
      refine gg ?_
      refine i_v (v := .int .u32 ((4294967295 : Nat) : Int)) (by rfl) ?_
      refine gg ?_
      exact ⟨⟨_, rfl⟩, rfl⟩
  obtain ⟨n, rfl⟩ : ∃ m, n = m + 1 := ⟨n - 1, by omega⟩
  refine res_enter rfl d26 rfl ?_; simp only [c26]
  refine gg ?_
  refine i_call2 (by exact sel_of rfl) (by exact sel_of rfl) w0 ?_
  rintro _ _ ⟨⟨t, rfl⟩, rfl⟩
  refine gg ?_
  exact ⟨⟨t, rfl⟩, rfl⟩
set_option maxHeartbeats 1000000 in
theorem w_gone (j : Jn h N nx ch st rd held ro) {k m A1 A2 e1 e2 : Nat} (hk : k < 4294967296) (hm : m < 4294967296) {c : Ck} {o : Option Addr} {cap : Nat} (g1 : h.get A1 = some (.cells e1 [.int .u32 (m : Int)] (.own false))) (g2 : h.get A2 = some (.cells e2 [.pointer (some ⟨N + 3, 0, none⟩)] (.own false))) (hA1 : A1 < h.next) (hA2 : A2 < h.next) (hle : c.dt.length ≤ held) (hbig : held ≤ 65536) (hn : 4 ≤ n) :
    ResQ (callN Try.prog G0 n (.call 25 [.int .u32 (k : Int), .agg (ckv c o cap).toArray, .pointer (some ⟨A1, 0, none⟩), .pointer (some ⟨A2, 0, none⟩)]) h) (fun v h' => ∃ t : Bool, v = .bool t ∧ Jn h' N nx ch st rd (bif t then held - c.dt.length else held) ro ∧ Pres N h ro h' ro ∧ h'.get (N + 1) = h.get (N + 1) ∧ h'.get (N + 2) = h.get (N + 2)) := by
  have jup := j.up
  obtain ⟨n, rfl⟩ : ∃ m, n = m + 1 := ⟨n - 1, by omega⟩
  refine res_enter rfl d25 rfl ?_; simp only [c25]
  refine o_cut (fun f h1 => (Keeps h h1 ∧ h1.get h.next = some (.cells 42 (ckv c o cap) (.own false))) ∧ Sl [(0, .int .u32 (k : Int)), (2, .pointer (some ⟨A1, 0, none⟩)), (3, .pointer (some ⟨A2, 0, none⟩)), (5, .pointer (some ⟨h.next, 0, none⟩)), (6, .bool false)] f) ?_ ?_
  · refine gg ?_
    exact ⟨rfl, ⟨Keeps.new h _, by rw [Heap.get_new, if_pos rfl]⟩, sel_of rfl, sel_of rfl, sel_of rfl, sel_of rfl, sel_of rfl, trivial⟩
  rintro f1 h1 ⟨⟨k1, gc⟩, hs⟩
  obtain ⟨f0, rfl⟩ := hs.puts
  clear hs
  have g11 := (k1.get _ hA1).trans g1
  have g21 := (k1.get _ hA2).trans g2
  have j1 := j.keeps k1
  refine o_cut (fun f h2 => h2 = h1 ∧ ∃ t : Bool, Sl [(2, .pointer (some ⟨A1, 0, none⟩)), (3, .pointer (some ⟨A2, 0, none⟩)), (5, .pointer (some ⟨h.next, 0, none⟩)), (6, .bool false), (7, .bool t)] f) ?_ ?_
  · refine gg ?_; repeat (refine i_ldown (by exact sel_of rfl) (by assumption) (by rfl) ?_; refine gg ?_)
    by_cases e : k = m
    · rw [decide_eq_true (p := ((k : Nat) : Int) = ((m : Nat) : Int)) (by omega)]
      refine gg ?_; repeat (refine i_ldown (by exact sel_of rfl) (by assumption) (by rfl) ?_; refine gg ?_)
      exact ⟨rfl, rfl, true, sel_of rfl, sel_of rfl, sel_of rfl, sel_of rfl, sel_of rfl, trivial⟩
    · rw [decide_eq_false (p := ((k : Nat) : Int) = ((m : Nat) : Int)) (by omega)]
      refine gg ?_; repeat (refine i_ldown (by exact sel_of rfl) (by assumption) (by rfl) ?_; refine gg ?_)
      refine i_call2 (by exact sel_of rfl) (by exact sel_of rfl) (w_less32 hk hm (by omega)) ?_
      rintro _ _ ⟨⟨t, rfl⟩, rfl⟩
      refine gg ?_; repeat (refine i_ldown (by exact sel_of rfl) (by assumption) (by rfl) ?_; refine gg ?_)
      exact ⟨rfl, rfl, t, sel_of rfl, sel_of rfl, sel_of rfl, sel_of rfl, sel_of rfl, trivial⟩
  rintro f2 h2 ⟨rfl, t, hs⟩
  obtain ⟨f0, rfl⟩ := hs.puts
  clear hs
  have top := j1.top
  have e9 : ((held : Nat) : Int) - ((c.dt.length : Nat) : Int) = ((held - c.dt.length : Nat) : Int) := by omega
  cases t with
  | false =>
    refine gg ?_; repeat (refine i_ldown (by exact sel_of rfl) (by assumption) (by rfl) ?_; refine gg ?_)
    exact ⟨false, rfl, j1, Pres.keeps k1, k1.get _ (by omega), k1.get _ (by omega)⟩
  | true =>
    refine gg ?_; repeat (refine i_ldown (by exact sel_of rfl) (by assumption) (by rfl) ?_; refine gg ?_)
    refine i_store1 (u := ⟨N + 3, 0 + 4, none⟩) (v := .int .i64 ((held - c.dt.length : Nat) : Int)) (by exact sel_of rfl) (by rw [sel_of rfl, e9]; rfl) top (by show 0 + 4 < 5; decide) ?_
    obtain ⟨j4, p4⟩ := j1.setHeld (held - c.dt.length)
    refine gg ?_
    exact ⟨true, rfl, j4, (Pres.keeps k1).trans p4, by rw [Heap.get_put, if_neg (by show N + 1 ≠ N + 3; omega)]; exact k1.get _ (by omega), by rw [Heap.get_put, if_neg (by show N + 2 ≠ N + 3; omega)]; exact k1.get _ (by omega)⟩
end
end Go.Proofs.Ytnffglfpjcbfaaa

/-! maps.DeleteFunc over the chunks, walked. -/
set_option linter.unusedVariables false
namespace Go.Proofs.Ytnffglfpjcbfaaa
open Go Vm
section
variable {h : Heap} {n : Nat} {N L : Nat} {nx : List Nat} {ch : List (Nat × Ck)} {st : List ((Nat × Nat) × Mg)} {rd : List Mg} {held pend K : Nat} {ro : Option Addr}
theorem JI.dropC (i : JI L nx ch st rd held 0 K) {p : Nat × Ck} (hp : p ∈ ch) : JI L nx (delK p.1 ch) st rd (held - p.2.dt.length) 0 K ∧ p.2.dt.length ≤ held := by
  have h1 := look_del (look_of i.chn hp)
  have h2 := i.sum
  have h3 := i.le
  have h4 := i.few
  exact ⟨⟨i.L64, i.len, i.nx, fun q hq => i.chs q ((delK_sub _ _).subset hq), List.Pairwise.sublist ((delK_sub _ _).map _) i.chn, i.sts, i.stn, i.rds, by omega, by omega, by omega⟩, by omega⟩
set_option maxHeartbeats 2000000 in
theorem w_delC (j : Jn h N nx ch st rd held ro) (i : JI L nx ch st rd held 0 K) {m A1 A2 e1 e2 : Nat} (hm : m < 4294967296) (g1 : h.get A1 = some (.cells e1 [.int .u32 (m : Int)] (.own false))) (g2 : h.get A2 = some (.cells e2 [.pointer (some ⟨N + 3, 0, none⟩)] (.own false))) (hA1 : N + 4 ≤ A1 ∧ A1 < h.next ∧ Apart ro A1) (hA2 : N + 4 ≤ A2 ∧ A2 < h.next ∧ Apart ro A2) (hn : 70010 ≤ n) :
    ResQ (callN Try.prog G0 n (.call 24 [.map (some (N + 1)), .func (.func 25) #[] #[.pointer (some ⟨A1, 0, none⟩), .pointer (some ⟨A2, 0, none⟩)]]) h) (fun v h' => ∃ ch' held', Jn h' N nx ch' st rd held' ro ∧ JI L nx ch' st rd held' 0 K ∧ held' ≤ held ∧ Pres N h ro h' ro) := by
  have jup := j.up
  have hchl := i.chl
  have hsum := i.sum
  have hle := i.le
  obtain ⟨es, cc, gm, hch⟩ := j.chs
  obtain ⟨n, rfl⟩ : ∃ m, n = m + 1 := ⟨n - 1, by omega⟩
  refine res_enter rfl d24 rfl ?_; simp only [c24]
  refine gg ?_
  refine i_range (by exact sel_of rfl) gm ?_
  refine gg ?_
  have kI : Keeps h (h.new (.iter (some (N + 1)) cc [] cc)) := Keeps.new h _
  have gI : (h.new (.iter (some (N + 1)) cc [] cc)).get h.next = some (.iter (some (N + 1)) cc [] cc) := by rw [Heap.get_new, if_pos rfl]
  have nI : h.next < (h.new (.iter (some (N + 1)) cc [] cc)).next := Nat.lt_succ_self _
  generalize h.new (.iter (some (N + 1)) cc [] cc) = hI at *
  have hlen := hch.l.len
  have hIap : Apart ro h.next := fun r e => by
    obtain ⟨cs0, ap0, _⟩ := j.rdy
    subst e
    have : r.block < h.next := ap0.2.1.2.1
    omega
  refine o_while (fun k f h' => ∃ ch' held' es seen, (Jn h' N nx ch' st rd held' ro ∧ JI L nx ch' st rd held' 0 K ∧ held' ≤ held ∧ Pres N h ro h' ro ∧ h'.get (N + 1) = some (.map es cc) ∧ ChC h' N ro es cc ch' ∧ h.next < h'.next ∧ h'.get h.next = some (.iter (some (N + 1)) cc seen cc) ∧ (leftE seen es).length = k) ∧ Sl [(7, iterTo h.next), (0, .map (some (N + 1))), (1, .func (.func 25) #[] #[.pointer (some ⟨A1, 0, none⟩), .pointer (some ⟨A2, 0, none⟩)])] f) (leftE [] es).length ?_ ⟨ch, held, es, [], ⟨j.keeps kI, i, Nat.le_refl _, Pres.keeps kI, (kI.get _ (by omega)).trans gm, hch.mono (KD.keeps kI), nI, gI, rfl⟩, sel_of rfl, sel_of rfl, sel_of rfl, trivial⟩ ?_
  · rw [leftE_nil]; omega
  clear gm hch gI nI kI hI hlen hchl hsum
  rintro k f h' ⟨ch1, held1, es1, seen, ⟨j1, i1, hle1, p1, gm1, hc1, lt1, gi1, hk⟩, hs⟩
  obtain ⟨f0, rfl⟩ := hs.puts
  clear hs
  simp only [c24_0]
  refine gg ?_
  refine i_next (by exact sel_of rfl) gi1 gm1 (stale_no hc1.lt) (fun _ => ?_) (fun e he => ⟨hc1.lt e (leftE_sub _ _ e he).1, ?_⟩)
  · refine gg ?_
    exact ⟨ch1, held1, j1, i1, hle1, p1⟩
  · have hlt := leftE_lt seen es1 e he
    have j2 := j1.iter gi1 (by omega) (.iter (some (N + 1)) cc (seen ++ [e.2.2]) cc)
    have p2 := p1.fresh (I := h.next) (Nat.le_refl _) (.iter (some (N + 1)) cc (seen ++ [e.2.2]) cc)
    have hc2 := hc1.mono (KD.iter gi1 (.iter (some (N + 1)) cc (seen ++ [e.2.2]) cc))
    have gi2 : (h'.put h.next (.iter (some (N + 1)) cc (seen ++ [e.2.2]) cc)).get h.next = some (.iter (some (N + 1)) cc (seen ++ [e.2.2]) cc) := by rw [Heap.get_put, if_pos rfl]
    have gm2 : (h'.put h.next (.iter (some (N + 1)) cc (seen ++ [e.2.2]) cc)).get (N + 1) = some (.map es1 cc) := by rw [Heap.get_put, if_neg (by omega)]; exact gm1
    have lt2 : h.next < (h'.put h.next (.iter (some (N + 1)) cc (seen ++ [e.2.2]) cc)).next := lt1
    generalize h'.put h.next (.iter (some (N + 1)) cc (seen ++ [e.2.2]) cc) = h2 at *
    clear j1 p1 hc1 gi1 gm1 lt1
    obtain ⟨e', he', hst'⟩ := stampE_mem ⟨e, (leftE_sub _ _ e he).1, rfl⟩
    obtain ⟨p, hp, hkey, v, hv, hcv⟩ := hc2.l.mem e' he'
    obtain ⟨hpA, hpw, hpd, hpo⟩ := i1.chs p hp
    obtain ⟨i3, hple⟩ := i1.dropC hp
    refine gg ?_
    refine i_entry (k := .int .u32 (p.1 : Int)) (v := .agg v.toArray) (by exact sel_of rfl) gi2 (lastN_snoc _ _) gm2 (by rw [hst', hkey, hv]) ?_
    refine gg ?_
    refine i_storeF (vs := v) (Keeps.new h2 _) (Nat.le_refl _) (by exact sel_of rfl) (by rw [sel_of rfl]; rfl) (by rw [Heap.get_new, if_pos rfl]) hcv.length rfl (Nat.lt_succ_self _) fun h5 k5 g5 lt5 => ?_
    refine i_nil (then_n ?_)
    obtain ⟨o, cap, rfl, hd⟩ := hcv
    have j5 := j2.keeps k5
    have p5 := p2.trans (Pres.keeps k5)
    have hc5 := hc2.mono (KD.keeps k5)
    have gi5 := (k5.get _ lt2).trans gi2
    have gm5 := (k5.get (N + 1) (by have := j2.up; omega)).trans gm2
    have g15 := (p5.get A1 hA1.2.1 (.inr hA1.1) hA1.2.2).trans g1
    have g25 := (p5.get A2 hA2.2.1 (.inr hA2.1) hA2.2.2).trans g2
    have n5 := p5.next
    have jup5 := j5.up
    refine gg ?_
    refine i_loadN (v := ckv p.2 o cap) (by exact sel_of rfl) (loadN_all g5 rfl) ?_
    refine i_callF2 (by exact sel_of rfl) (by exact sel_of rfl) (by exact sel_of rfl) (w_gone j5 (k := p.1) (m := m) (by rw [hpA]; exact hpw.A) hm g15 g25 (by omega) (by omega) hple i1.le (by omega)) ?_
    rintro _ h6 ⟨t, rfl, j6, p6, q1, q2⟩
    have gi6 := (p6.get h.next (Nat.lt_of_lt_of_le lt2 k5.next) (.inr (by omega)) hIap).trans gi5
    have gm6 := q1.trans gm5
    have hc6 := hc5.mono p6.kd
    have n6 := p6.next
    cases t with
    | false =>
      refine gg ?_
      exact rnd_n (leftE (seen ++ [e.2.2]) es1).length (by omega) ⟨ch1, held1, es1, seen ++ [e.2.2], ⟨j6, i1, hle1, p5.trans p6, gm6, hc6, by omega, gi6, rfl⟩, sel_of rfl, sel_of rfl, sel_of rfl, trivial⟩
    | true =>
      refine gg ?_
      obtain ⟨es', hdel, hes'⟩ := hc6.del p.1
      refine i_mapDel (by exact sel_of rfl) gm6 (by exact sel_of rfl) rfl hdel ?_
      have p7 : Pres N h6 ro (h6.put (N + 1) (.map es' cc)) ro := Pres.put (by omega) (by omega) _
      have kd := p7.kd
      have jup6 := j6.up
      obtain ⟨es2, c2, a2, b2⟩ := j6.sts
      obtain ⟨cs9, ap9, hrd9⟩ := j6.rdy
      have hsub := leftE_len (seen := seen ++ [e.2.2]) (mDel_sublist hdel)
      refine gg ?_
      refine rnd_n (leftE (seen ++ [e.2.2]) es').length (by omega) ⟨delK p.1 ch1, held1 - p.2.dt.length, es', seen ++ [e.2.2], ⟨⟨j6.up, by rw [Heap.get_put, if_neg (by omega)]; exact j6.top, by rw [Heap.get_put, if_neg (by omega)]; exact j6.nxt, ⟨es', cc, by rw [Heap.get_put, if_pos rfl], hes'.mono kd⟩, ⟨es2, c2, by rw [Heap.get_put, if_neg (by omega)]; exact a2, b2.mono kd⟩, ⟨cs9, apB ap9 (putB h6 (N + 1) _) (fun q' e => by have := j6.ofr q' e; omega), hrd9.mono kd⟩, j6.ofr⟩, i3, by omega, (p5.trans p6).trans p7, by rw [Heap.get_put, if_pos rfl], hes'.mono kd, by show h.next < h6.next; omega, by rw [Heap.get_put, if_neg (by omega)]; exact gi6, rfl⟩, sel_of rfl, sel_of rfl, sel_of rfl, trivial⟩
end
end Go.Proofs.Ytnffglfpjcbfaaa

/-! Reset, walked. -/
set_option linter.unusedVariables false
namespace Go.Proofs.Ytnffglfpjcbfaaa
open Go Vm
section
variable {h : Heap} {n : Nat} {N L : Nat} {nx : List Nat} {ch : List (Nat × Ck)} {st : List ((Nat × Nat) × Mg)} {rd : List Mg} {held pend K : Nat} {ro : Option Addr}
theorem StL.memM : ∀ {es : List (Value × Value × Nat)} {l : List ((Nat × Nat) × Mg)}, StL h N ro es l → ∀ e ∈ es, ∃ p ∈ l, e.1 = nkey p.1 ∧ ∃ v, e.2.1 = .agg v.toArray ∧ MgAt h N ro p.2 v
  | [], [], _, e, he => by cases he
  | [], _ :: _, x, _, _ => x.elim
  | _ :: _, [], x, _, _ => x.elim
  | x :: es, p :: st, ⟨h1, r⟩, e, he => by
    rcases List.mem_cons.1 he with rfl | he
    · exact ⟨p, List.mem_cons_self .., h1⟩
    · obtain ⟨q, h1, h2⟩ := StL.memM r e he
      exact ⟨q, List.mem_cons_of_mem _ h1, h2⟩
theorem StL.lenM : ∀ {es : List (Value × Value × Nat)} {l : List ((Nat × Nat) × Mg)}, StL h N ro es l → es.length = l.length
  | [], [], _ => rfl
  | [], _ :: _, x => x.elim
  | _ :: _, [], x => x.elim
  | x :: es, p :: st, ⟨_, r⟩ => by rw [List.length_cons, List.length_cons, StL.lenM r]
theorem JI.dropS (i : JI L nx ch st rd held 0 K) {p : (Nat × Nat) × Mg} (hp : p ∈ st) : JI L nx ch (delS p.1 st) rd (held - p.2.dt.length) 0 K ∧ p.2.dt.length ≤ held := by
  have h1 := lookS_del (lookS_of i.stn hp)
  have h2 := i.sum
  have h3 := i.le
  have h4 := i.few
  exact ⟨⟨i.L64, i.len, i.nx, i.chs, i.chn, fun q hq => i.sts q ((delS_sub _ _).subset hq), List.Pairwise.sublist ((delS_sub _ _).map _) i.stn, i.rds, by omega, by omega, by omega⟩, by omega⟩
theorem Jn.setNx (j : Jn h N nx ch st rd held ro) (s x : Nat) : Jn (h.put N (.cells 27 ((nx.map fun (x : Nat) => Value.int .u16 (x : Int)).set (0 + s * 1) (.int .u16 (x : Int))) (.own false))) N (nx.set s x) ch st rd held ro ∧ Pres N h ro (h.put N (.cells 27 ((nx.map fun (x : Nat) => Value.int .u16 (x : Int)).set (0 + s * 1) (.int .u16 (x : Int))) (.own false))) ro := by
  have p3 : Pres N h ro (h.put N (.cells 27 ((nx.map fun (x : Nat) => Value.int .u16 (x : Int)).set (0 + s * 1) (.int .u16 (x : Int))) (.own false))) ro := Pres.put (Nat.le_refl _) (by omega) _
  have kd := p3.kd
  have jup := j.up
  obtain ⟨es1, c1, a1, b1⟩ := j.chs
  obtain ⟨es2, c2, a2, b2⟩ := j.sts
  obtain ⟨cs, ap, hrd⟩ := j.rdy
  refine ⟨⟨j.up, ?_, ?_, ⟨es1, c1, ?_, b1.mono kd⟩, ⟨es2, c2, ?_, b2.mono kd⟩, ⟨cs, apB ap (putB h N _) (fun q e => by have := j.ofr q e; omega), hrd.mono kd⟩, j.ofr⟩, p3⟩
  · rw [Heap.get_put, if_neg (by show N + 3 ≠ N; omega)]
    simpa [jcells] using j.top
  · rw [Heap.get_put, if_pos rfl, Nat.zero_add, Nat.mul_one, ← List.map_set]
  · rw [Heap.get_put, if_neg (by show N + 1 ≠ N; omega)]; exact a1
  · rw [Heap.get_put, if_neg (by show N + 2 ≠ N; omega)]; exact a2
theorem Jn.nrow (j : Jn h N nx ch st rd held ro) : Row h 1 (some ⟨N, 0, none⟩) nx.length (nx.map fun (x : Nat) => Value.int .u16 (x : Int)) := ⟨by simp, by have := j.up; show N < _; omega, .inl rfl, loadN_all j.nxt (by simp)⟩
set_option maxHeartbeats 1000000 in
theorem w_goneS (j : Jn h N nx ch st rd held ro) {k : Nat × Nat} {m A1 A2 e1 e2 : Nat} {c : Mg} {o : Option Addr} {cap : Nat} (g1 : h.get A1 = some (.cells e1 [.int .u16 (m : Int)] (.own false))) (g2 : h.get A2 = some (.cells e2 [.pointer (some ⟨N + 3, 0, none⟩)] (.own false))) (hA1 : A1 < h.next) (hA2 : A2 < h.next) (hle : c.dt.length ≤ held) (hbig : held ≤ 65536) (hn : 4 ≤ n) :
    ResQ (callN Try.prog G0 n (.call 29 [nkey k, .agg (mgv c o cap).toArray, .pointer (some ⟨A1, 0, none⟩), .pointer (some ⟨A2, 0, none⟩)]) h) (fun v h' => ∃ t : Bool, v = .bool t ∧ Jn h' N nx ch st rd (bif t then held - c.dt.length else held) ro ∧ Pres N h ro h' ro ∧ h'.get (N + 1) = h.get (N + 1) ∧ h'.get (N + 2) = h.get (N + 2)) := by
  have jup := j.up
  unfold nkey
  obtain ⟨n, rfl⟩ : ∃ m, n = m + 1 := ⟨n - 1, by omega⟩
  refine res_enter rfl d29 rfl ?_; simp only [c29]
  refine o_cut (fun f h1 => (Keeps h h1 ∧ h1.get h.next = some (.cells 78 [.int .u16 (k.1 : Int), .int .u16 (k.2 : Int)] (.own false)) ∧ h1.get (h.next + 1) = some (.cells 30 (mgv c o cap) (.own false))) ∧ Sl [(2, .pointer (some ⟨A1, 0, none⟩)), (3, .pointer (some ⟨A2, 0, none⟩)), (4, .pointer (some ⟨h.next, 0, none⟩)), (5, .pointer (some ⟨h.next + 1, 0, none⟩)), (6, .bool false)] f) ?_ ?_
  · refine gg ?_
    obtain ⟨g1, g2, k1, n1⟩ := box_two h (.cells 78 [.int .u16 (k.1 : Int), .int .u16 (k.2 : Int)] (.own false)) (.cells 30 (mgv c o cap) (.own false))
    exact ⟨rfl, ⟨k1, g1, g2⟩, sel_of rfl, sel_of rfl, sel_of rfl, sel_of rfl, sel_of rfl, trivial⟩
  rintro f1 h1 ⟨⟨k1, gk, gc⟩, hs⟩
  obtain ⟨f0, rfl⟩ := hs.puts
  clear hs
  have g11 := (k1.get _ hA1).trans g1
  have g21 := (k1.get _ hA2).trans g2
  have j1 := j.keeps k1
  refine o_cut (fun f h2 => h2 = h1 ∧ ∃ t : Bool, Sl [(2, .pointer (some ⟨A1, 0, none⟩)), (3, .pointer (some ⟨A2, 0, none⟩)), (5, .pointer (some ⟨h.next + 1, 0, none⟩)), (6, .bool false), (7, .bool t)] f) ?_ ?_
  · refine gg ?_; repeat (refine i_ldown (by exact sel_of rfl) (by assumption) (by rfl) ?_; refine gg ?_)
    exact ⟨rfl, rfl, _, sel_of rfl, sel_of rfl, sel_of rfl, sel_of rfl, sel_of rfl, trivial⟩
  rintro f2 h2 ⟨rfl, t, hs⟩
  obtain ⟨f0, rfl⟩ := hs.puts
  clear hs
  have top := j1.top
  have e9 : ((held : Nat) : Int) - ((c.dt.length : Nat) : Int) = ((held - c.dt.length : Nat) : Int) := by omega
  cases t with
  | false =>
    refine gg ?_; repeat (refine i_ldown (by exact sel_of rfl) (by assumption) (by rfl) ?_; refine gg ?_)
    exact ⟨false, rfl, j1, Pres.keeps k1, k1.get _ (by omega), k1.get _ (by omega)⟩
  | true =>
    refine gg ?_; repeat (refine i_ldown (by exact sel_of rfl) (by assumption) (by rfl) ?_; refine gg ?_)
    refine i_store1 (u := ⟨N + 3, 0 + 4, none⟩) (v := .int .i64 ((held - c.dt.length : Nat) : Int)) (by exact sel_of rfl) (by rw [sel_of rfl, e9]; rfl) top (by show 0 + 4 < 5; decide) ?_
    obtain ⟨j4, p4⟩ := j1.setHeld (held - c.dt.length)
    refine gg ?_
    exact ⟨true, rfl, j4, (Pres.keeps k1).trans p4, by rw [Heap.get_put, if_neg (by show N + 1 ≠ N + 3; omega)]; exact k1.get _ (by omega), by rw [Heap.get_put, if_neg (by show N + 2 ≠ N + 3; omega)]; exact k1.get _ (by omega)⟩
set_option maxHeartbeats 2000000 in
theorem w_delS (j : Jn h N nx ch st rd held ro) (i : JI L nx ch st rd held 0 K) {m A1 A2 e1 e2 : Nat} (g1 : h.get A1 = some (.cells e1 [.int .u16 (m : Int)] (.own false))) (g2 : h.get A2 = some (.cells e2 [.pointer (some ⟨N + 3, 0, none⟩)] (.own false))) (hA1 : N + 4 ≤ A1 ∧ A1 < h.next ∧ Apart ro A1) (hA2 : N + 4 ≤ A2 ∧ A2 < h.next ∧ Apart ro A2) (hn : 70010 ≤ n) :
    ResQ (callN Try.prog G0 n (.call 28 [.map (some (N + 2)), .func (.func 29) #[] #[.pointer (some ⟨A1, 0, none⟩), .pointer (some ⟨A2, 0, none⟩)]]) h) (fun v h' => ∃ st' held', Jn h' N nx ch st' rd held' ro ∧ JI L nx ch st' rd held' 0 K ∧ held' ≤ held ∧ Pres N h ro h' ro) := by
  have jup := j.up
  have hstl := i.stl
  have hsum := i.sum
  have hle := i.le
  obtain ⟨es, cc, gm, hch⟩ := j.sts
  obtain ⟨n, rfl⟩ : ∃ m, n = m + 1 := ⟨n - 1, by omega⟩
  refine res_enter rfl d28 rfl ?_; simp only [c28]
  refine gg ?_
  refine i_range (by exact sel_of rfl) gm ?_
  refine gg ?_
  have kI : Keeps h (h.new (.iter (some (N + 2)) cc [] cc)) := Keeps.new h _
  have gI : (h.new (.iter (some (N + 2)) cc [] cc)).get h.next = some (.iter (some (N + 2)) cc [] cc) := by rw [Heap.get_new, if_pos rfl]
  have nI : h.next < (h.new (.iter (some (N + 2)) cc [] cc)).next := Nat.lt_succ_self _
  generalize h.new (.iter (some (N + 2)) cc [] cc) = hI at *
  have hlen := hch.l.lenM
  have hIap : Apart ro h.next := fun r e => by
    obtain ⟨cs0, ap0, _⟩ := j.rdy
    subst e
    have : r.block < h.next := ap0.2.1.2.1
    omega
  refine o_while (fun k f h' => ∃ st' held' es seen, (Jn h' N nx ch st' rd held' ro ∧ JI L nx ch st' rd held' 0 K ∧ held' ≤ held ∧ Pres N h ro h' ro ∧ h'.get (N + 2) = some (.map es cc) ∧ StC h' N ro es cc st' ∧ h.next < h'.next ∧ h'.get h.next = some (.iter (some (N + 2)) cc seen cc) ∧ (leftE seen es).length = k) ∧ Sl [(7, iterTo h.next), (0, .map (some (N + 2))), (1, .func (.func 29) #[] #[.pointer (some ⟨A1, 0, none⟩), .pointer (some ⟨A2, 0, none⟩)])] f) (leftE [] es).length ?_ ⟨st, held, es, [], ⟨j.keeps kI, i, Nat.le_refl _, Pres.keeps kI, (kI.get _ (by omega)).trans gm, hch.mono (KD.keeps kI), nI, gI, rfl⟩, sel_of rfl, sel_of rfl, sel_of rfl, trivial⟩ ?_
  · rw [leftE_nil]; omega
  clear gm hch gI nI kI hI hlen hstl hsum
  rintro k f h' ⟨st1, held1, es1, seen, ⟨j1, i1, hle1, p1, gm1, hc1, lt1, gi1, hk⟩, hs⟩
  obtain ⟨f0, rfl⟩ := hs.puts
  clear hs
  simp only [c28_0]
  refine gg ?_
  refine i_next (by exact sel_of rfl) gi1 gm1 (stale_no hc1.lt) (fun _ => ?_) (fun e he => ⟨hc1.lt e (leftE_sub _ _ e he).1, ?_⟩)
  · refine gg ?_
    exact ⟨st1, held1, j1, i1, hle1, p1⟩
  · have hlt := leftE_lt seen es1 e he
    have j2 := j1.iter gi1 (by omega) (.iter (some (N + 2)) cc (seen ++ [e.2.2]) cc)
    have p2 := p1.fresh (I := h.next) (Nat.le_refl _) (.iter (some (N + 2)) cc (seen ++ [e.2.2]) cc)
    have hc2 := hc1.mono (KD.iter gi1 (.iter (some (N + 2)) cc (seen ++ [e.2.2]) cc))
    have gi2 : (h'.put h.next (.iter (some (N + 2)) cc (seen ++ [e.2.2]) cc)).get h.next = some (.iter (some (N + 2)) cc (seen ++ [e.2.2]) cc) := by rw [Heap.get_put, if_pos rfl]
    have gm2 : (h'.put h.next (.iter (some (N + 2)) cc (seen ++ [e.2.2]) cc)).get (N + 2) = some (.map es1 cc) := by rw [Heap.get_put, if_neg (by omega)]; exact gm1
    have lt2 : h.next < (h'.put h.next (.iter (some (N + 2)) cc (seen ++ [e.2.2]) cc)).next := lt1
    generalize h'.put h.next (.iter (some (N + 2)) cc (seen ++ [e.2.2]) cc) = h2 at *
    clear j1 p1 hc1 gi1 gm1 lt1
    obtain ⟨e', he', hst'⟩ := stampE_mem ⟨e, (leftE_sub _ _ e he).1, rfl⟩
    obtain ⟨p, hp, hkey, v, hv, hcv⟩ := hc2.l.memM e' he'
    obtain ⟨i3, hple⟩ := i1.dropS hp
    refine gg ?_
    refine i_entry (k := nkey p.1) (v := .agg v.toArray) (by exact sel_of rfl) gi2 (lastN_snoc _ _) gm2 (by rw [hst', hkey, hv]) ?_
    obtain ⟨o, cap, rfl, hd⟩ := hcv
    refine gg ?_
    refine i_storeP (b := h2.next) (vs := [.int .u16 (p.1.1 : Int), .int .u16 (p.1.2 : Int)]) (by exact sel_of rfl) (by rw [sel_of rfl]; rfl) (by rw [Heap.get_new, if_neg (by show h2.next ≠ h2.next + 1; omega), Heap.get_new, if_pos rfl]) rfl rfl ?_
    refine gg ?_
    refine i_storeP (b := h2.next + 1) (vs := mgv p.2 o cap) (by exact sel_of rfl) (by rw [sel_of rfl]; rfl) (by rw [Heap.get_put, if_neg (by omega), Heap.get_new, if_pos (by rfl)]) rfl rfl ?_
    have k5 : Keeps h2 ((((h2.new (.cells 78 [.int .u16 0, .int .u16 0] (.own false))).new (.cells 30 [.int .u16 0, .bool false, .int .u32 0, .slice none 0 0] (.own false))).put h2.next (.cells 78 [.int .u16 (p.1.1 : Int), .int .u16 (p.1.2 : Int)] (.own false))).put (h2.next + 1) (.cells 30 (mgv p.2 o cap) (.own false))) := (((Keeps.new h2 _).trans (Keeps.new _ _)).put (Nat.le_refl _) _).put (Nat.le_succ _) _
    have g35 : ((((h2.new (.cells 78 [.int .u16 0, .int .u16 0] (.own false))).new (.cells 30 [.int .u16 0, .bool false, .int .u32 0, .slice none 0 0] (.own false))).put h2.next (.cells 78 [.int .u16 (p.1.1 : Int), .int .u16 (p.1.2 : Int)] (.own false))).put (h2.next + 1) (.cells 30 (mgv p.2 o cap) (.own false))).get h2.next = some (.cells 78 [.int .u16 (p.1.1 : Int), .int .u16 (p.1.2 : Int)] (.own false)) := by rw [Heap.get_put, if_neg (by omega), Heap.get_put, if_pos rfl]
    have g5 : ((((h2.new (.cells 78 [.int .u16 0, .int .u16 0] (.own false))).new (.cells 30 [.int .u16 0, .bool false, .int .u32 0, .slice none 0 0] (.own false))).put h2.next (.cells 78 [.int .u16 (p.1.1 : Int), .int .u16 (p.1.2 : Int)] (.own false))).put (h2.next + 1) (.cells 30 (mgv p.2 o cap) (.own false))).get (h2.next + 1) = some (.cells 30 (mgv p.2 o cap) (.own false)) := by rw [Heap.get_put, if_pos rfl]
    have n25 : h2.next + 2 = ((((h2.new (.cells 78 [.int .u16 0, .int .u16 0] (.own false))).new (.cells 30 [.int .u16 0, .bool false, .int .u32 0, .slice none 0 0] (.own false))).put h2.next (.cells 78 [.int .u16 (p.1.1 : Int), .int .u16 (p.1.2 : Int)] (.own false))).put (h2.next + 1) (.cells 30 (mgv p.2 o cap) (.own false))).next := rfl
    generalize ((((h2.new (.cells 78 [.int .u16 0, .int .u16 0] (.own false))).new (.cells 30 [.int .u16 0, .bool false, .int .u32 0, .slice none 0 0] (.own false))).put h2.next (.cells 78 [.int .u16 (p.1.1 : Int), .int .u16 (p.1.2 : Int)] (.own false))).put (h2.next + 1) (.cells 30 (mgv p.2 o cap) (.own false))) = h5 at *
    refine i_nil (then_n ?_)
    have j5 := j2.keeps k5
    have p5 := p2.trans (Pres.keeps k5)
    have hc5 := hc2.mono (KD.keeps k5)
    have gi5 := (k5.get _ lt2).trans gi2
    have gm5 := (k5.get (N + 2) (by have := j2.up; omega)).trans gm2
    have g15 := (p5.get A1 hA1.2.1 (.inr hA1.1) hA1.2.2).trans g1
    have g25 := (p5.get A2 hA2.2.1 (.inr hA2.1) hA2.2.2).trans g2
    have n5 := p5.next
    have jup5 := j5.up
    refine gg ?_
    refine i_loadN (v := [.int .u16 (p.1.1 : Int), .int .u16 (p.1.2 : Int)]) (by exact sel_of rfl) (loadN_all g35 rfl) ?_
    refine i_loadN (v := mgv p.2 o cap) (by exact sel_of rfl) (loadN_all g5 rfl) ?_
    refine i_callF2 (v1 := nkey p.1) (by exact sel_of rfl) (by rw [sel_of rfl]; rfl) (by exact sel_of rfl) (w_goneS j5 (k := p.1) (m := m) g15 g25 (by omega) (by omega) hple i1.le (by omega)) ?_
    rintro _ h6 ⟨t, rfl, j6, p6, q1, q2⟩
    have gi6 := (p6.get h.next (Nat.lt_of_lt_of_le lt2 k5.next) (.inr (by omega)) hIap).trans gi5
    have gm6 := q2.trans gm5
    have hc6 := hc5.mono p6.kd
    have n6 := p6.next
    have gk6 := (p6.get h2.next (by omega) (.inr (by have := j2.up; omega)) (fun r e => by
      obtain ⟨cs0, ap0, _⟩ := j2.rdy
      subst e
      have : r.block < h2.next := ap0.2.1.2.1
      omega)).trans g35
    cases t with
    | false =>
      refine gg ?_
      exact rnd_n (leftE (seen ++ [e.2.2]) es1).length (by omega) ⟨st1, held1, es1, seen ++ [e.2.2], ⟨j6, i1, hle1, p5.trans p6, gm6, hc6, by omega, gi6, rfl⟩, sel_of rfl, sel_of rfl, sel_of rfl, trivial⟩
    | true =>
      refine gg ?_
      refine i_loadN (v := [.int .u16 (p.1.1 : Int), .int .u16 (p.1.2 : Int)]) (by exact sel_of rfl) (loadN_all gk6 rfl) ?_
      obtain ⟨es', hdel, hes'⟩ := hc6.del p.1
      refine i_mapDel (kv := nkey p.1) (by exact sel_of rfl) gm6 (by rw [sel_of rfl]; rfl) rfl hdel ?_
      have p7 : Pres N h6 ro (h6.put (N + 2) (.map es' cc)) ro := Pres.put (by omega) (by omega) _
      have kd := p7.kd
      have jup6 := j6.up
      obtain ⟨es2, c2, a2, b2⟩ := j6.chs
      obtain ⟨cs9, ap9, hrd9⟩ := j6.rdy
      have hsub := leftE_len (seen := seen ++ [e.2.2]) (mDel_sublist hdel)
      refine gg ?_
      refine rnd_n (leftE (seen ++ [e.2.2]) es').length (by omega) ⟨delS p.1 st1, held1 - p.2.dt.length, es', seen ++ [e.2.2], ⟨⟨j6.up, by rw [Heap.get_put, if_neg (by omega)]; exact j6.top, by rw [Heap.get_put, if_neg (by omega)]; exact j6.nxt, ⟨es2, c2, by rw [Heap.get_put, if_neg (by omega)]; exact a2, b2.mono kd⟩, ⟨es', cc, by rw [Heap.get_put, if_pos rfl], hes'.mono kd⟩, ⟨cs9, apB ap9 (putB h6 (N + 2) _) (fun q' e => by have := j6.ofr q' e; omega), hrd9.mono kd⟩, j6.ofr⟩, i3, by omega, (p5.trans p6).trans p7, by rw [Heap.get_put, if_pos rfl], hes'.mono kd, by show h.next < h6.next; omega, by rw [Heap.get_put, if_neg (by omega)]; exact gi6, rfl⟩, sel_of rfl, sel_of rfl, sel_of rfl, trivial⟩
set_option maxHeartbeats 1000000 in
theorem w_reset (j : Jn h N nx ch st rd held ro) (i : JI L nx ch st rd held 0 K) {s : Nat} (hs : s < 65536) (hn : 70020 ≤ n) :
    ResQ (callN Try.prog G0 n (.call 18 [.pointer (some ⟨N + 3, 0, none⟩), .int .u16 (s : Int)]) h) (fun _ h' => ∃ ro', JS L N held K h' ro' ∧ Pres N h ro h' ro') := by
  have jup := j.up
  have hro : ∀ b, h.next ≤ b → Apart ro b := fun b hb r e => by
    obtain ⟨cs0, ap0, _⟩ := j.rdy
    subst e
    have : r.block < h.next := ap0.2.1.2.1
    omega
  obtain ⟨n, rfl⟩ : ∃ m, n = m + 1 := ⟨n - 1, by omega⟩
  refine res_enter rfl d18 rfl ?_; simp only [c18]
  refine o_cut (fun f h1 => (Keeps h h1 ∧ h1.next = h.next + 2 ∧ h1.get h.next = some (.cells 34 [.pointer (some ⟨N + 3, 0, none⟩)] (.own false)) ∧ h1.get (h.next + 1) = some (.cells 27 [.int .u16 (s : Int)] (.own false))) ∧ Sl [(2, .pointer (some ⟨h.next, 0, none⟩)), (3, .pointer (some ⟨h.next + 1, 0, none⟩))] f) ?_ ?_
  · refine gg ?_
    obtain ⟨g1, g2, k1, n1⟩ := box_two h (.cells 34 [.pointer (some ⟨N + 3, 0, none⟩)] (.own false)) (.cells 27 [.int .u16 (s : Int)] (.own false))
    exact ⟨rfl, ⟨k1, n1, g1, g2⟩, sel_of rfl, sel_of rfl, trivial⟩
  rintro f1 h1 ⟨⟨k1, n1, g1, g2⟩, hs'⟩
  obtain ⟨f0, rfl⟩ := hs'.puts
  clear hs'
  have j1 := j.keeps k1
  have top := j1.top
  refine gg ?_; repeat (refine i_ldown (by exact sel_of rfl) (by assumption) (by rfl) ?_; refine gg ?_)
  refine i_call2 (by exact sel_of rfl) (by exact sel_of rfl) (w_knowsB j1 hs (by omega)) ?_
  rintro _ _ ⟨rfl, rfl⟩
  by_cases hsl : s < nx.length
  · rw [decide_eq_true hsl]
    refine gg ?_; repeat (refine i_ldown (by exact sel_of rfl) (by assumption) (by rfl) ?_; refine gg ?_)
    refine i_call2 (by exact sel_of rfl) (by exact sel_of rfl) (w_delS j1 i (m := s) (A1 := h.next + 1) (A2 := h.next) g2 g1 ⟨by omega, by omega, hro _ (by omega)⟩ ⟨by omega, by omega, hro _ (by omega)⟩ (by omega)) ?_
    rintro _ h2 ⟨st2, held2, j2, i2, hle2, p2⟩
    have g12 := (p2.get h.next (by omega) (.inr (by omega)) (hro _ (by omega))).trans g1
    have g22 := (p2.get (h.next + 1) (by omega) (.inr (by omega)) (hro _ (by omega))).trans g2
    clear top g1 g2
    have top := j2.top
    refine gg ?_; repeat (refine i_ldown (by exact sel_of rfl) (by assumption) (by rfl) ?_; refine gg ?_)
    refine i_idx (by exact sel_of rfl) j2.nrow (i := s) (by exact sel_of rfl) hsl fun q hq => ?_
    cases hq
    refine i_store1 (u := ⟨N, 0 + s * 1, some 0⟩) (v := .int .u16 ((0 : Nat) : Int)) (by exact sel_of rfl) (by rfl) j2.nxt (by simp; omega) ?_
    obtain ⟨j3, p3⟩ := j2.setNx s 0
    refine gg ?_
    exact ⟨ro, ⟨_, _, _, _, _, j3, i2.set (by decide), hle2⟩, ((Pres.keeps k1).trans p2).trans p3⟩
  · rw [decide_eq_false hsl]
    refine gg ?_; repeat (refine i_ldown (by exact sel_of rfl) (by assumption) (by rfl) ?_; refine gg ?_)
    exact ⟨ro, ⟨_, _, _, _, _, j1, i, Nat.le_refl _⟩, Pres.keeps k1⟩
end
end Go.Proofs.Ytnffglfpjcbfaaa

