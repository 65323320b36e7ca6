/- Part of a proof by an abstract run of the program's code: BS. No condition. -/
import Derived.Test.YtnffglfpjcbfaaaBR
/-! Forward and New, walked. -/
set_option linter.unusedVariables false
namespace Go.Proofs.Ytnffglfpjcbfaaa
open Go Vm
section
variable {h : Heap} {n : Nat} {N L : Nat} {nx : List Nat} {ch : List (Nat × Ck)} {st : List ((Nat × Nat) × Mg)} {rd : List Mg} {held pend K : Nat} {ro : Option Addr}
set_option maxHeartbeats 2000000 in
theorem w_forwardI (j : Jn h N nx ch st rd held ro) (i : JI L nx ch st rd held 0 K) (hK : K ≤ 200) {w : Nat} (hw : w < 4294967296) {sks : List (Nat × Nat)} {oq : Option Addr} {cap : Nat} (hq : Row h 2 oq sks.length (sks.flatMap kc)) (hqN : ∀ q, oq = some q → q.block < N) (h20 : sks.length ≤ 20) (h16 : ∀ y ∈ sks, y.1 < 65536 ∧ y.2 < 65536) (hn : 70200 ≤ n) :
    ResQ (callN Try.prog G0 n (.call 16 [.pointer (some ⟨N + 3, 0, none⟩), .int .u32 (w : Int), .slice oq sks.length cap]) h) (fun _ h' => ∃ ro', JS L N held K h' ro' ∧ Pres N h ro h' ro') := by
  have jup := j.up
  have hro : ∀ b, h.next ≤ b → Apart ro b := fun b hb r e => by
    obtain ⟨cs0, ap0, _⟩ := j.rdy
    subst e
    have : r.block < h.next := ap0.2.1.2.1
    omega
  have hroN : ∀ b, b < N → Apart ro b := fun b hb r e => by
    have := j.ofr r e
    omega
  obtain ⟨n, rfl⟩ : ∃ m, n = m + 1 := ⟨n - 1, by omega⟩
  refine res_enter rfl d16 rfl ?_; simp only [c16]
  refine o_cut (fun f h1 => (Keeps h h1 ∧ h1.next = h.next + 2 ∧ h1.get h.next = some (.cells 34 [.pointer (some ⟨N + 3, 0, none⟩)] (.own false)) ∧ h1.get (h.next + 1) = some (.cells 22 [.int .u32 (w : Int)] (.own false))) ∧ Sl [(2, .slice oq sks.length cap), (3, .pointer (some ⟨h.next, 0, none⟩)), (4, .pointer (some ⟨h.next + 1, 0, none⟩))] f) ?_ ?_
  · refine gg ?_
    obtain ⟨g1, g2, k1, n1⟩ := box_two h (.cells 34 [.pointer (some ⟨N + 3, 0, none⟩)] (.own false)) (.cells 22 [.int .u32 (w : Int)] (.own false))
    exact ⟨rfl, ⟨k1, n1, g1, g2⟩, sel_of rfl, sel_of rfl, sel_of rfl, trivial⟩
  rintro f1 h1 ⟨⟨k1, n1, g1, g2⟩, hs⟩
  obtain ⟨f0, rfl⟩ := hs.puts
  clear hs
  have j1 := j.keeps k1
  have top := j1.top
  refine gg ?_; repeat (refine i_ldown (by exact sel_of rfl) (by assumption) (by rfl) ?_; refine gg ?_)
  refine i_call2 (by exact sel_of rfl) (by exact sel_of rfl) (w_delC j1 i (m := w) (A1 := h.next + 1) (A2 := h.next) hw g2 g1 ⟨by omega, by omega, hro _ (by omega)⟩ ⟨by omega, by omega, hro _ (by omega)⟩ (by omega)) ?_
  rintro _ h2 ⟨ch2, held2, j2, i2, hle2, p2⟩
  have g12 := (p2.get h.next (by omega) (.inr (by omega)) (hro _ (by omega))).trans g1
  have p12 := (Pres.keeps k1).trans p2
  have n2 := p12.next
  clear top g1 g2
  refine gg ?_
  refine o_up sks.length (fun a f h6 => (∃ ro', JS L N held K h6 ro' ∧ Pres N h2 ro h6 ro') ∧ Sl [(18, .int .i64 ((a : Nat) : Int)), (17, .int .i64 (sks.length : Int)), (16, .slice oq sks.length cap), (3, .pointer (some ⟨h.next, 0, none⟩))] f) (by omega) ⟨⟨ro, ⟨_, _, _, _, _, j2, i2, hle2⟩, Pres.refl⟩, sel_of rfl, sel_of rfl, sel_of rfl, sel_of rfl, trivial⟩ ?_
  rintro a f h6 ha ⟨⟨ro6, ⟨nx6, ch6, st6, rd6, held6, j6, i6, hle6⟩, p6⟩, hs'⟩
  obtain ⟨f0, rfl⟩ := hs'.puts
  clear hs'
  have hlt := (p12.trans p6).next
  have row6 := (p12.trans p6).row hq (fun q hq => ⟨.inl (hqN q hq), hroN _ (hqN q hq)⟩)
  have g16 := (p6.get h.next (by have := p2.next; omega) (.inr (by omega)) (hro _ (Nat.le_refl _))).trans g12
  simp only [c16_0]
  refine gg ?_
  refine out_if (by exact sel_of rfl) (fun hif => ?_) (fun hif => ?_)
  · have ha' : a < sks.length := by omega
    obtain ⟨y, hy⟩ : ∃ y, sks[a]? = some y := ⟨_, List.getElem?_eq_getElem (by omega)⟩
    obtain ⟨hy1, hy2⟩ := h16 y (List.mem_of_getElem? hy)
    refine gg ?_
    refine i_idx (by exact sel_of rfl) row6 (i := a) (by exact sel_of rfl) ha' fun q hq => ?_
    refine i_loadN (v := kc y) (by exact sel_of rfl) (by rw [← kcs_at sks a y hy]; subst hq; exact row6.cells (by omega) _) ?_
    refine gg ?_
    refine i_storeF (vs := kc y) (Keeps.new h6 _) (Nat.le_refl _) (by exact sel_of rfl) (by rw [sel_of rfl]; rfl) (by rw [Heap.get_new, if_pos rfl]) rfl rfl (Nat.lt_succ_self _) fun h7 k7 g7 lt7 => ?_
    have j7 := j6.keeps k7
    have n26 := p2.next
    have n67 := p6.next
    have g17 := (k7.get _ (by omega)).trans g16
    refine gg ?_
    refine i_load1 (v := .pointer (some ⟨N + 3, 0, none⟩)) (by exact sel_of rfl) ((load1_own g17).trans (by rfl)) ?_
    refine i_loadN (v := kc y) (by exact sel_of rfl) (loadN_all g7 rfl) ?_
    refine i_call2 (by exact sel_of rfl) (by rw [sel_of rfl]; rfl) (w_skipI j7 i6 hK (s := y.1) (ssn := y.2) hy1 hy2 (by omega)) ?_
    rintro _ h8 ⟨ro8, ⟨nx8, ch8, st8, rd8, held8, j8, i8, hle8⟩, p8⟩
    refine gg ?_
    exact rnd_up ha' ⟨⟨ro8, ⟨_, _, _, _, _, j8, i8, by omega⟩, (p6.trans (Pres.keeps k7)).trans p8⟩, sel_of rfl, sel_of rfl, sel_of rfl, sel_of rfl, trivial⟩
  · refine gg ?_
    exact ⟨ro6, ⟨_, _, _, _, _, j6, i6, hle6⟩, p12.trans p6⟩
end
section
variable {h : Heap} {n : Nat}
theorem repR : ∀ k : Nat, rep k [Value.int .u16 0] = (List.replicate k 0).map fun (x : Nat) => Value.int .u16 (x : Int)
  | 0 => rfl
  | k + 1 => by rw [List.replicate_succ, List.map_cons, ← repR k]; rfl
theorem w_new64 {z : Int} (hk : ¬ (1 ≤ z ∧ z ≤ 64)) (hn : 1 ≤ n) :
    ResQ (callN Try.prog G0 n (.call 10 [.int .i64 z]) h) (fun v h' => v = .pointer (some ⟨h.next + 3, 0, none⟩) ∧ Keeps h h' ∧ Jn h' h.next (List.replicate 64 0) [] [] [] 0 none) := by
  obtain ⟨n, rfl⟩ : ∃ m, n = m + 1 := ⟨n - 1, by omega⟩
  refine res_enter rfl d10 rfl ?_; simp only [c10]
  refine o_cut (fun f h1 => h = h1 ∧ Sl [(0, .int .i64 z)] f) ?_ ?_
  · refine gg ?_
    exact ⟨rfl, rfl, sel_of rfl, trivial⟩
  rintro f1 h1 ⟨rfl, hs⟩
  obtain ⟨f0, rfl⟩ := hs.puts
  clear hs
  refine o_cut (fun f h1 => h = h1 ∧ Sl [(0, .int .i64 ((64 : Nat) : Int))] f) ?_ ?_
  · by_cases h1 : z < 1
    · refine gg ?_
      rw [decide_eq_true h1]
      refine gg ?_
      exact ⟨rfl, rfl, sel_of rfl, trivial⟩
    · refine gg ?_
      rw [decide_eq_false h1]
      refine gg ?_
      rw [decide_eq_true (p := (64 : Int) < z) (by omega)]
      refine gg ?_
      exact ⟨rfl, rfl, sel_of rfl, trivial⟩
  rintro f1 h1 ⟨rfl, hs⟩
  obtain ⟨f0, rfl⟩ := hs.puts
  clear hs
  refine gg ?_
  refine items_cons (it_a (mk_slice (l := 64) (c := 64) (by exact sel_of rfl) (by exact sel_of rfl) (Nat.le_refl _) (by omega) (by omega)) ?_)
  show ItQ (runItems _ _ (puts ((10, .slice (some ⟨h.next, 0, none⟩) 64 64) :: _) _) _) _
  refine i_makeMap ?_
  refine i_makeMap ?_
  refine gg ?_
  refine ⟨rfl, ((((Keeps.new h _).trans (Keeps.new _ _)).trans (Keeps.new _ _)).trans (Keeps.new _ _)), ?_⟩
  refine ⟨Nat.le_refl _, ?_, ?_, ⟨[], 0, ?_, ⟨trivial, fun e h => by cases h⟩⟩, ⟨[], 0, ?_, ⟨trivial, fun e h => by cases h⟩⟩, ⟨[], Ap.nil _ _ _ _, rfl⟩, fun r e => by cases e⟩
  · rw [Heap.get_new, if_pos (by rfl)]
    simp only [jcells, List.length_replicate]
    rfl
  · rw [Heap.get_new, if_neg (by show h.next ≠ h.next + 3; omega), Heap.get_new, if_neg (by show h.next ≠ h.next + 2; omega), Heap.get_new, if_neg (by show h.next ≠ h.next + 1; omega), Heap.get_new, if_pos rfl]
    exact congrArg (fun l => some (Blk.cells 27 l (.own false))) (repR 64)
  · rw [Heap.get_new, if_neg (by show h.next + 1 ≠ h.next + 3; omega), Heap.get_new, if_neg (by show h.next + 1 ≠ h.next + 2; omega), Heap.get_new, if_pos (by rfl)]
  · rw [Heap.get_new, if_neg (by show h.next + 2 ≠ h.next + 3; omega), Heap.get_new, if_pos (by rfl)]
theorem w_newI {z : Int} (hn : 1 ≤ n) :
    ResQ (callN Try.prog G0 n (.call 10 [.int .i64 z]) h) (fun v h' => v = .pointer (some ⟨h.next + 3, 0, none⟩) ∧ Keeps h h' ∧ ∃ L, Jn h' h.next (List.replicate L 0) [] [] [] 0 none ∧ JI L (List.replicate L 0) [] [] [] 0 0 0) := by
  have fin : ∀ k, k ≤ 64 → JI k (List.replicate k 0) [] [] [] 0 0 0 := fun k hk => ⟨hk, by simp, (fun x hx => by rw [List.eq_of_mem_replicate hx]; decide), (fun p hp => by cases hp), .nil, (fun p hp => by cases hp), .nil, (fun p hp => by cases hp), rfl, by decide, by simp⟩
  by_cases hk : 1 ≤ z ∧ z ≤ 64
  · obtain ⟨k, rfl⟩ : ∃ k : Nat, z = (k : Int) := ⟨z.toNat, by omega⟩
    refine ResQ.mono (w_new (k := k) (by omega) (by omega) hn) ?_
    rintro _ h' ⟨e, k', j⟩
    exact ⟨e, k', k, j, fin k (by omega)⟩
  · refine ResQ.mono (w_new64 hk hn) ?_
    rintro _ h' ⟨e, k', j⟩
    exact ⟨e, k', 64, j, fin 64 (Nat.le_refl _)⟩
end
end Go.Proofs.Ytnffglfpjcbfaaa

/-! The law JoinBounds, walked. -/
set_option linter.unusedVariables false
namespace Go.Proofs.Ytnffglfpjcbfaaa
open Go Vm
abbrev PTop : PT := .pair (.int .i64) (.pair PTc (.pair (.int .u32) (.pair (.slice PTp) .unit)))
/-- a step that is an argument -/
structure Stp where
  wh : Int
  k : Nat
  c : Ck
  o : Option Addr
  cap : Nat
  n : Nat
  sk : List (Nat × Nat)
  os : Option Addr
  cap2 : Nat
def stv (s : Stp) : List Value := [.int .i64 s.wh, .int .u8 (s.k : Int), .int .u8 (s.c.fl : Int), .int .u32 (s.c.A : Int), .int .u32 (s.c.x3 : Int), .int .u16 (s.c.out : Int), .int .u16 (s.c.inn : Int), .int .u32 (s.c.pp : Int), s.c.x7, s.c.x8, s.c.x9, s.c.x10, .slice s.o s.c.dt.length s.cap, .int .u32 (s.n : Int), .slice s.os s.sk.length s.cap2]
structure Stp.ok (h : Heap) (s : Stp) : Prop where
  c : s.c.wf
  row : Row h 1 s.o s.c.dt.length (u8s s.c.dt)
  big : s.c.dt.length ≤ reachBytes
  n : s.n < 4294967296
  srow : Row h 2 s.os s.sk.length (s.sk.flatMap kc)
  s16 : ∀ y ∈ s.sk, y.1 < 65536 ∧ y.2 < 65536
theorem stp_of {h : Heap} {cs : List Value} (r : Rep h PTop cs) : ∃ s : Stp, cs = stv s ∧ s.ok h := by
  obtain ⟨wh, t0, rfl, w0, r1⟩ := rep_int r
  cases r1 with
  | @pair _ _ cc t1 hl hf hr =>
    obtain ⟨x0, x1, x2, x3, x4, x5, x6, x7, x8, x9, x10, x11, e, ⟨b0, b1, b2, b3, b4, b5, b6⟩, _, _, _, _, r11⟩ := repV_chk (v := .agg cc.toArray) ⟨cc, rfl, hf⟩
    have e : cc = [.int .u8 (x0 : Int), .int .u8 (x1 : Int), .int .u32 (x2 : Int), .int .u32 (x3 : Int), .int .u16 (x4 : Int), .int .u16 (x5 : Int), .int .u32 (x6 : Int), x7, x8, x9, x10, x11] := by
      have := congrArg (fun v => match v with | Value.agg a => a.toList | _ => []) e
      simpa using this
    subst e
    obtain ⟨n2, t2, rfl, w2, r2⟩ := rep_int hr
    obtain ⟨d3, t3, rfl, e3, r3⟩ := rep_sl r2
    obtain rfl := rep_unit r3
    obtain ⟨m2, rfl, q2⟩ := wf_nat (.inr (.inr rfl)) w2
    obtain ⟨os, c2, sk, rfl, hsr, hsc, hs16⟩ := e3.p16
    obtain ⟨o, m, cap, l, rfl, hrow, _⟩ := r11.bytes
    have hm : m = l.length := by have := hrow.1; rw [u8s_length] at this; omega
    subst hm
    exact ⟨⟨wh, x0, ⟨x1, x2, x4, x5, x6, l, x3, x7, x8, x9, x10⟩, o, cap, m2, sk, os, c2⟩, rfl, ⟨b1, b2, b4, b5, b6⟩, hrow, Rep.bound r11, q2, hsr, hs16⟩
theorem stps_of : ∀ (els : List (List Value)) {h : Heap}, (∀ c ∈ els, Rep h PTop c) → ∃ l : List Stp, els.flatten = l.flatMap stv ∧ l.length = els.length ∧ ∀ s ∈ l, s.ok h
  | [], h, _ => ⟨[], rfl, rfl, fun s hs => by cases hs⟩
  | x :: els, h, hx => by
    obtain ⟨l, e, hl, ho⟩ := stps_of els (fun c hc => hx c (List.mem_cons_of_mem _ hc))
    obtain ⟨s, rfl, hs⟩ := stp_of (hx x (List.mem_cons_self ..))
    refine ⟨s :: l, by rw [List.flatten_cons, e]; rfl, by rw [List.length_cons, List.length_cons, hl], fun y hy => ?_⟩
    rcases List.mem_cons.1 hy with rfl | hy
    · exact hs
    · exact ho y hy
theorem stv_at : ∀ (l : List Stp) (i : Nat) (s : Stp), l[i]? = some s → ((l.flatMap stv).drop (i * 15)).take 15 = stv s
  | [], i, s, h => by cases h
  | x :: l, 0, s, h => by cases h; rfl
  | x :: l, i + 1, s, h => by
    have ih := stv_at l i s h
    rw [← ih, show (i + 1) * 15 = 15 + i * 15 by omega, ← List.drop_drop]
    rfl
theorem stv_cell {l : List Stp} {i : Nat} {s : Stp} (h : l[i]? = some s) (j : Nat) (hj : j < 15) : (l.flatMap stv)[i * 15 + j]? = (stv s)[j]? := by
  rw [← stv_at l i s h, List.getElem?_take_of_lt hj, List.getElem?_drop]
theorem stv_chk {l : List Stp} {i : Nat} {s : Stp} (h : l[i]? = some s) : ((l.flatMap stv).drop (i * 15 + 1)).take 12 = ((stv s).drop 1).take 12 := by
  rw [← stv_at l i s h, List.drop_take, List.take_take, List.drop_drop]
  rfl
section
variable {hA h h' : Heap} {N : Nat} {ro ro' : Option Addr}
theorem Pres.far (p : Pres N h ro h' ro') (hN : hA.next ≤ N) (k : Keeps hA h) (of : ∀ r, ro = some r → N + 4 ≤ r.block) : Keeps hA h' :=
  ⟨Nat.le_trans k.next p.next, fun d hd => (p.get d (Nat.lt_of_lt_of_le hd k.next) (.inl (by omega)) (fun r e => by have := of r e; omega)).trans (k.get d hd)⟩
end
section
variable {h : Heap} {n : Nat} {N L : Nat} {nx : List Nat} {ch : List (Nat × Ck)} {st : List ((Nat × Nat) × Mg)} {rd : List Mg} {held pend K : Nat} {ro : Option Addr}
theorem w_held (j : Jn h N nx ch st rd held ro) (hn : 1 ≤ n) :
    ResQ (callN Try.prog G0 n (.call 17 [.pointer (some ⟨N + 3, 0, none⟩)]) h) (fun v h' => v = .int .i64 (held : Int) ∧ h = h') := by
  have top := j.top
  obtain ⟨n, rfl⟩ : ∃ m, n = m + 1 := ⟨n - 1, by omega⟩
  refine res_enter rfl d17 rfl ?_; simp only [c17]
  refine gg ?_; repeat (refine i_ldown (by exact sel_of rfl) (by assumption) (by rfl) ?_; refine gg ?_)
  exact ⟨rfl, rfl⟩
theorem w_awake (h : Heap) (n : Nat) (hn : 1 ≤ n) : ResQ (callN Try.prog G0 n (.call 8 []) h) (fun v h' => v = .bool true ∧ h = h') := by
  obtain ⟨m, rfl⟩ : ∃ m, n = m + 1 := ⟨n - 1, by omega⟩
  exact .mk (.bool true) h (by rw [callN_call]; rfl) ⟨rfl, rfl⟩
theorem JI.few1 (i : JI L nx ch st rd held 0 K) : JI L nx ch st rd held 0 (K + 1) := ⟨i.L64, i.len, i.nx, i.chs, i.chn, i.sts, i.stn, i.rds, i.sum, i.le, by have := i.few; omega⟩
theorem JI.take (i : JI L nx ch st rd held 0 K) : JI L nx ch st [] (held - mts rd) 0 K ∧ mts rd ≤ held := by
  have h1 := i.sum
  have h2 := i.le
  exact ⟨⟨i.L64, i.len, i.nx, i.chs, i.chn, i.sts, i.stn, (fun m hm => by cases hm), by show held - mts rd = sumC ch + sumS st + 0 + 0; omega, by omega, i.few⟩, by omega⟩
set_option maxHeartbeats 4000000 in
theorem w_lbounds {l : List Stp} {z : Int} {o : Option Addr} {cap : Nat} (hrow : Row h 15 o l.length (l.flatMap stv)) (hok : ∀ s ∈ l, s.ok h) (hn : 400000 ≤ n) :
    ResQ (callN Try.prog G0 n (.call 6 [.int .i64 z, .slice o l.length cap]) h) (fun u h' => u = .bool true) := by
  obtain ⟨n, rfl⟩ : ∃ m, n = m + 1 := ⟨n - 1, by omega⟩
  refine res_enter rfl d6 rfl ?_; simp only [c6]
  refine gg ?_
  refine i_call0 (w_awake _ n (by omega)) ?_
  rintro _ _ ⟨rfl, rfl⟩
  refine gg ?_
  refine out_if (by exact sel_of rfl) (fun hif => ?_) (fun hif => ?_)
  · refine gg ?_
    rfl
  have hl : l.length ≤ 200 := by omega
  refine gg ?_
  refine i_call1 (by rfl) (w_newI (by omega)) ?_
  rintro _ h1 ⟨rfl, k1, L, j1, i1⟩
  refine gg ?_
  have j1 : Jn h1 h.next (List.replicate L 0) [] [] [] 0 none := j1
  refine o_up l.length (fun a f h' => ∃ nx ch st rd held ro came told, (Jn h' h.next nx ch st rd held ro ∧ JI L nx ch st rd held 0 a ∧ Keeps h h' ∧ told + held ≤ came ∧ came ≤ 65536 * a) ∧ Sl [(9, .int .i64 ((a : Nat) : Int)), (1, .slice o l.length cap), (5, .bool true), (6, .pointer (some ⟨h.next + 3, 0, none⟩)), (7, .int .i64 ((came : Nat) : Int)), (8, .int .i64 ((told : Nat) : Int))] f) (by omega) ⟨_, _, _, _, _, _, 0, 0, ⟨j1, i1, k1, Nat.le_refl _, Nat.zero_le _⟩, sel_of rfl, sel_of rfl, sel_of rfl, sel_of rfl, sel_of rfl, sel_of rfl, trivial⟩ ?_
  clear j1 i1 k1
  rintro a f h' ha ⟨nx, ch, st, rd, held, ro, came, told, ⟨j, i, kA, hle, hcm⟩, hs⟩
  obtain ⟨f0, rfl⟩ := hs.puts
  clear hs
  have hrowA := hrow.keeps kA
  have hi1 := i.le
  simp only [c6_1]
  refine gg ?_
  refine out_if (by exact sel_of rfl) (fun hif => ?_) (fun hif => ?_)
  · have ha' : a < l.length := by omega
    obtain ⟨s, hsa⟩ : ∃ s, l[a]? = some s := ⟨_, List.getElem?_eq_getElem ha'⟩
    have ok := hok s (List.mem_of_getElem? hsa)
    obtain ⟨u, rfl⟩ : ∃ u, o = some u := by
      cases o with
      | none => exact absurd (show l.length = 0 from hrow.2) (by omega)
      | some u => exact ⟨u, rfl⟩
    have cell : ∀ (h2 : Heap), Keeps h h2 → ∀ (j : Nat) (sp : Option Nat), j < 15 → load1 h2.get ⟨u.block, u.off + a * 15 + j, sp⟩ = (stv s)[j]? := fun h2 k2 j sp hj => by
      rw [Nat.add_assoc, (hrow.keeps k2).cell (i := a * 15 + j) (by omega) sp, stv_cell hsa j hj]
    by_cases hbad : s.wh = 1 ∧ 20 < s.sk.length
    · refine gg ?_
      refine i_idx (i := a) (by exact sel_of rfl) hrowA (by exact sel_of rfl) ha' fun q hq => ?_
      cases hq
      refine gg ?_
      refine i_load1 (v := .int .i64 s.wh) (by exact sel_of rfl) (cell _ kA 0 _ (by decide)) ?_
      refine gg ?_
      rw [decide_eq_false (p := s.wh = 0) (by omega)]
      refine gg ?_
      rw [decide_eq_true (p := s.wh = 1) (by omega)]
      refine gg ?_
      refine i_idx (i := a) (by exact sel_of rfl) hrowA (by exact sel_of rfl) ha' fun q hq => ?_
      cases hq
      refine gg ?_
      refine i_load1 (v := .slice s.os s.sk.length s.cap2) (by exact sel_of rfl) (cell _ kA 14 _ (by decide)) ?_
      refine gg ?_
      rfl
    refine o_ex (then_n (o_seq (o_bseq ?_)))
    refine o_cut (fun f h' => ∃ nx ch st rd held ro came told, (Jn h' h.next nx ch st rd held ro ∧ JI L nx ch st rd held 0 (a + 1) ∧ Keeps h h' ∧ told + held ≤ came ∧ came ≤ 65536 * (a + 1)) ∧ Sl [(9, .int .i64 ((a : Nat) : Int)), (1, .slice (some u) l.length cap), (5, .bool true), (6, .pointer (some ⟨h.next + 3, 0, none⟩)), (7, .int .i64 ((came : Nat) : Int)), (8, .int .i64 ((told : Nat) : Int))] f) ?_ ?_
    · refine gg ?_
      refine i_idx (i := a) (by exact sel_of rfl) hrowA (by exact sel_of rfl) ha' fun q hq => ?_
      cases hq
      refine gg ?_
      refine i_load1 (v := .int .i64 s.wh) (by exact sel_of rfl) (cell _ kA 0 _ (by decide)) ?_
      refine gg ?_
      by_cases h0 : s.wh = 0
      · rw [decide_eq_true h0]
        refine gg ?_
        refine i_idx (i := a) (by exact sel_of rfl) hrowA (by exact sel_of rfl) ha' fun q hq => ?_
        cases hq
        refine gg ?_
        refine i_loadN (v := ((stv s).drop 1).take 12) (by exact sel_of rfl) (by rw [← stv_chk hsa, Nat.add_assoc]; exact hrowA.cells (by omega) _) ?_
        by_cases hk : s.k = 0 ∧ s.c.dt ≠ []
        · have eck : ((stv s).drop 1).take 12 = ckv s.c s.o s.cap := by simp [stv, ckv, hk.1]
          rw [eck]
          by_cases hg : s.c.out < nx.length ∧ look ch s.c.A = none ∧ held + s.c.dt.length ≤ 65536
          · refine i_call2 (by exact sel_of rfl) (by exact sel_of rfl) (w_addI j i ok.c hk.2 (ok.row.keeps kA) (by rw [← i.len]; exact hg.1) hg.2.1 hg.2.2 (by omega)) ?_
            rintro _ h2 ⟨rfl, ro2, ⟨nx2, ch2, st2, rd2, held2, j2, i2, hle2⟩, p2⟩
            have k2 : Keeps h h2 := p2.far (Nat.le_refl _) kA j.ofr
            refine gg ?_
            refine i_idx (i := a) (by exact sel_of rfl) (hrow.keeps k2) (by exact sel_of rfl) ha' fun q hq => ?_
            cases hq
            refine gg ?_
            refine i_load1 (v := .slice s.o s.c.dt.length s.cap) (by exact sel_of rfl) (by rw [Nat.add_assoc (u.off + a * 15)]; exact cell _ k2 12 _ (by decide)) ?_
            refine gg ?_
            have hbg := hg.2.2
            exact ⟨rfl, nx2, ch2, st2, rd2, held2, ro2, came + s.c.dt.length, told, ⟨j2, i2, k2, by omega, by omega⟩, sel_of rfl, sel_of rfl, sel_of rfl, sel_of rfl, sel_of rfl, sel_of rfl, trivial⟩
          · have hb2 : ¬ s.c.out < nx.length ∨ (∃ p, look ch s.c.A = some p) ∨ 65536 < held + s.c.dt.length := by
              by_cases h1 : s.c.out < nx.length
              · cases h2 : look ch s.c.A with
                | none => exact .inr (.inr (Nat.lt_of_not_le fun h3 => hg ⟨h1, h2, h3⟩))
                | some p => exact .inr (.inl ⟨p, rfl⟩)
              · exact .inl h1
            refine i_call2 (by exact sel_of rfl) (by exact sel_of rfl) (w_addErr j ok.c hk.2 hb2 i.le (Nat.le_trans ok.big (by decide)) (by omega)) ?_
            rintro _ h2 ⟨⟨e, rfl, he⟩, k2⟩
            have k2' := kA.trans k2
            refine gg ?_
            rw [decide_eq_false he]
            refine gg ?_
            exact ⟨rfl, nx, ch, st, rd, held, ro, came, told, ⟨j.keeps k2, i.few1, k2', hle, by omega⟩, sel_of rfl, sel_of rfl, sel_of rfl, sel_of rfl, sel_of rfl, sel_of rfl, trivial⟩
        · have hb2 : s.k ≠ 0 ∨ s.c.dt.length = 0 := by
            by_cases h1 : s.k = 0
            · exact .inr (by
                by_cases h2 : s.c.dt = []
                · rw [h2]; rfl
                · exact absurd ⟨h1, h2⟩ hk)
            · exact .inl h1
          refine i_call2 (by exact sel_of rfl) (by rw [sel_of rfl]; rfl) (w_addArg hb2 (by omega)) ?_
          rintro _ h2 ⟨rfl, k2⟩
          have k2' := kA.trans k2
          refine gg ?_
          exact ⟨rfl, nx, ch, st, rd, held, ro, came, told, ⟨j.keeps k2, i.few1, k2', hle, by omega⟩, sel_of rfl, sel_of rfl, sel_of rfl, sel_of rfl, sel_of rfl, sel_of rfl, trivial⟩
      rw [decide_eq_false h0]
      refine gg ?_
      by_cases h1 : s.wh = 1
      · have hsk : s.sk.length ≤ 20 := by
          have := fun h3 => hbad ⟨h1, h3⟩
          omega
        rw [decide_eq_true h1]
        refine gg ?_
        refine i_idx (i := a) (by exact sel_of rfl) hrowA (by exact sel_of rfl) ha' fun q hq => ?_
        cases hq
        refine gg ?_
        refine i_load1 (v := .slice s.os s.sk.length s.cap2) (by exact sel_of rfl) (cell _ kA 14 _ (by decide)) ?_
        refine gg ?_
        refine i_idx (i := a) (by exact sel_of rfl) hrowA (by exact sel_of rfl) ha' fun q hq => ?_
        cases hq
        refine gg ?_
        refine i_load1 (v := .int .u32 (s.n : Int)) (by exact sel_of rfl) (cell _ kA 13 _ (by decide)) ?_
        refine gg ?_
        refine i_idx (i := a) (by exact sel_of rfl) hrowA (by exact sel_of rfl) ha' fun q hq => ?_
        cases hq
        refine gg ?_
        refine i_load1 (v := .slice s.os s.sk.length s.cap2) (by exact sel_of rfl) (cell _ kA 14 _ (by decide)) ?_
        refine gg ?_
        refine i_call3 (by exact sel_of rfl) (by exact sel_of rfl) (by exact sel_of rfl) (w_forwardI j i (by omega) ok.n (ok.srow.keeps kA) (fun q hq => by have := ok.srow; rw [hq] at this; exact this.2.1) hsk ok.s16 (by omega)) ?_
        rintro _ h2 ⟨ro2, ⟨nx2, ch2, st2, rd2, held2, j2, i2, hle2⟩, p2⟩
        have k2 : Keeps h h2 := p2.far (Nat.le_refl _) kA j.ofr
        refine gg ?_
        exact ⟨rfl, nx2, ch2, st2, rd2, held2, ro2, came, told, ⟨j2, i2.few1, k2, by omega, by omega⟩, sel_of rfl, sel_of rfl, sel_of rfl, sel_of rfl, sel_of rfl, sel_of rfl, trivial⟩
      rw [decide_eq_false h1]
      refine gg ?_
      by_cases h2 : s.wh = 2
      · rw [decide_eq_true h2]
        refine gg ?_
        refine i_idx (i := a) (by exact sel_of rfl) hrowA (by exact sel_of rfl) ha' fun q hq => ?_
        cases hq
        refine gg ?_
        refine i_load1 (v := .int .u32 (s.n : Int)) (by exact sel_of rfl) (cell _ kA 13 _ (by decide)) ?_
        refine gg ?_
        refine i_call2 (by exact sel_of rfl) (by exact sel_of rfl) (w_reset j i (s := s.n % 65536) (Nat.mod_lt _ (by decide)) (by omega)) ?_
        rintro _ h2 ⟨ro2, ⟨nx2, ch2, st2, rd2, held2, j2, i2, hle2⟩, p2⟩
        have k2 : Keeps h h2 := p2.far (Nat.le_refl _) kA j.ofr
        refine gg ?_
        exact ⟨rfl, nx2, ch2, st2, rd2, held2, ro2, came, told, ⟨j2, i2.few1, k2, by omega, by omega⟩, sel_of rfl, sel_of rfl, sel_of rfl, sel_of rfl, sel_of rfl, sel_of rfl, trivial⟩
      · rw [decide_eq_false h2]
        refine gg ?_
        obtain ⟨it, hmle⟩ := i.take
        have hrl := i.rdl
        refine i_call1 (by exact sel_of rfl) (w_take j hmle (by omega) (by omega) (by omega)) ?_
        rintro _ h5 ⟨rfl, j5, p5, cs5, r5, hrd5⟩
        have k5 : Keeps h h5 := p5.far (Nat.le_refl _) kA (fun r e => by cases e)
        refine gg ?_
        refine o_up rd.length (fun b f h' => h5 = h' ∧ Sl [(11, .int .i64 ((b : Nat) : Int)), (10, .slice ro rd.length rd.length), (8, .int .i64 ((told + mts (rd.take b) : Nat) : Int)), (9, .int .i64 ((a : Nat) : Int)), (1, .slice (some u) l.length cap), (5, .bool true), (6, .pointer (some ⟨h.next + 3, 0, none⟩)), (7, .int .i64 ((came : Nat) : Int))] f) (by omega) ⟨rfl, sel_of rfl, sel_of rfl, sel_of rfl, sel_of rfl, sel_of rfl, sel_of rfl, sel_of rfl, sel_of rfl, trivial⟩ ?_
        rintro b f _ hb ⟨rfl, hs⟩
        obtain ⟨f0, rfl⟩ := hs.puts
        clear hs
        simp only [c6_0]
        refine gg ?_
        refine out_if (by exact sel_of rfl) (fun hif => ?_) (fun hif => ?_)
        · have hb' : b < rd.length := by omega
          obtain ⟨v, rfl⟩ : ∃ v, ro = some v := by
            cases ro with
            | none => exact absurd (show rd.length = 0 from r5.2) (by omega)
            | some v => exact ⟨v, rfl⟩
          obtain ⟨x, hxb⟩ : ∃ x, rd[b]? = some x := ⟨_, List.getElem?_eq_getElem hb'⟩
          obtain ⟨w, ⟨od, cd, rfl, dd⟩, hv⟩ := hrd5.at hxb
          have hcell : cs5[b * 4 + 3]? = some (.slice od x.dt.length cd) := by
            have := congrArg (fun l : List Value => l[3]?) hv
            simpa [List.getElem?_take, List.getElem?_drop, mgv] using this
          have hsum : mts (rd.take (b + 1)) = mts (rd.take b) + x.dt.length := by
            rw [List.take_add_one, hxb]
            simp [mts]
          have hle2 : mts (rd.take (b + 1)) ≤ mts rd := by
            have := congrArg mts (List.take_append_drop (b + 1) rd)
            simp only [mts, List.map_append, List.sum_append] at this ⊢
            omega
          refine gg ?_
          refine i_idx (i := b) (by exact sel_of rfl) r5 (by exact sel_of rfl) hb' fun q hq => ?_
          cases hq
          refine gg ?_
          refine i_load1 (v := .slice od x.dt.length cd) (by exact sel_of rfl) (by rw [Nat.add_assoc]; exact (r5.cell (i := b * 4 + 3) (by omega) _).trans hcell) ?_
          refine gg ?_
          exact rnd_up hb' ⟨rfl, sel_of rfl, sel_of rfl, (by rw [sel_of rfl]; exact congrArg (Value.int .i64) (by omega)), sel_of rfl, sel_of rfl, sel_of rfl, sel_of rfl, sel_of rfl, trivial⟩
        · have hbm : b = rd.length := by omega
          subst hbm
          rw [List.take_length]
          refine gg ?_
          exact ⟨rfl, nx, ch, st, [], held - mts rd, none, came, told + mts rd, ⟨j5, it.few1, k5, by omega, by omega⟩, sel_of rfl, sel_of rfl, sel_of rfl, sel_of rfl, sel_of rfl, sel_of rfl, trivial⟩
    rintro f2 h2 ⟨nx2, ch2, st2, rd2, held2, ro2, came2, told2, ⟨j2, i2, k2, hle2, hcm2⟩, hs⟩
    obtain ⟨f0, rfl⟩ := hs.puts
    clear hs
    have hi2 := i2.le
    refine gg ?_
    refine i_call1 (by exact sel_of rfl) (w_held j2 (by omega)) ?_
    rintro _ _ ⟨rfl, rfl⟩
    refine gg ?_
    refine i_call1 (by exact sel_of rfl) (w_held j2 (by omega)) ?_
    rintro _ _ ⟨rfl, rfl⟩
    refine gg ?_
    refine i_call1 (by exact sel_of rfl) (w_held j2 (by omega)) ?_
    rintro _ _ ⟨rfl, rfl⟩
    refine gg ?_
    exact rnd_up ha' ⟨nx2, ch2, st2, rd2, held2, ro2, came2, told2, ⟨j2, i2, k2, hle2, hcm2⟩, sel_of rfl, sel_of rfl, sel_of rfl, sel_of rfl, sel_of rfl, sel_of rfl, trivial⟩
  · refine gg ?_
    rfl
end
end Go.Proofs.Ytnffglfpjcbfaaa

