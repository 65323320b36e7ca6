/- Part of a proof by an abstract run of the program's code: RG. No condition. -/
import Derived.Test.YtmlagbknnngjjaaGreatRF
/-! Push: a message's chunks are laid behind. -/
set_option linter.unusedVariables false
namespace Go.Proofs.YtmlagbknnngjjaaGreat
open Go Vm
theorem cksv_part : ∀ (ks : List (Nat × Ck)) (j : Nat) (x : Nat × Ck), ks[j]? = some x → ((cksv ks).drop (j * 12)).take 12 = ckv x.2 (some ⟨x.1, 0, some 1⟩) x.2.dt.length
  | [], j, x, h => by cases h
  | y :: ks, 0, x, h => by cases h; rfl
  | y :: ks, j + 1, x, h => by
    have ih := cksv_part ks j x h
    show ((ckv y.2 _ _ ++ cksv ks).drop ((j + 1) * 12)).take 12 = _
    rw [← ih, show (j + 1) * 12 = 12 + j * 12 by omega, ← List.drop_drop, List.drop_left' (ckv_length ..)]
/-- chunks that may be sent -/
structure CkOK (c : Ck) : Prop where
  wf : c.wf
  ne : c.dt ≠ []
  le : c.dt.length ≤ 1172
section
variable {h : Heap} {n : Nat}
theorem w_noData {c : Ck} {o : Option Addr} {cap : Nat} (hc : c.dt ≠ []) (hl : c.dt.length ≤ 1172) (hn : 1 ≤ n) : ResQ (callN Tryz.prog G0 n (.call 50 [.agg (ckv c o cap).toArray]) h) (fun v h' => v = .bool false ∧ Keeps h h') := by
  have hpos : 0 < c.dt.length := List.length_pos_iff.2 hc
  obtain ⟨n, rfl⟩ : ∃ m, n = m + 1 := ⟨n - 1, by omega⟩
  refine res_enter rfl d50 rfl ?_; simp only [c50]
  refine gg ?_
  obtain ⟨g, k, nn⟩ := box_one h (.cells 42 (ckv c o cap) (.own false))
  change ItQ (runItems _ _ _ (h.new (.cells 42 (ckv c o cap) (.own false)))) _
  generalize (h.new (.cells 42 (ckv c o cap) (.own false))) = h1 at *
  refine i_load1 (v := .int .u8 ((0 : Nat) : Int)) (by exact sel_of rfl) ((load1_own g).trans (by rfl)) ?_
  refine gg ?_
  refine i_load1 (v := .slice o c.dt.length cap) (by exact sel_of rfl) ((load1_own g).trans (by rfl)) ?_
  refine gg ?_
  exact ⟨congrArg Value.bool (decide_eq_false (by omega)), k⟩
theorem w_idxN {ks : List (Nat × Ck)} {ov : Option Addr} {c : Nat} (hr : Row h 12 ov ks.length (cksv ks)) (hk : ∀ x ∈ ks, CkOK x.2) (hl : ks.length ≤ 20000) (hn : ks.length + 5 ≤ n) :
    ResQ (callN Tryz.prog G0 n (.call 82 [.slice ov ks.length c, .func (.func 50) #[] #[]]) h) (fun v h' => v = .int .i64 (-1) ∧ Keeps h h') := by
  obtain ⟨n, rfl⟩ : ∃ m, n = m + 1 := ⟨n - 1, by omega⟩
  refine res_enter rfl d82 rfl ?_; simp only [c82]
  refine gg ?_
  refine o_up ks.length (fun i f h' => Keeps h h' ∧ Sl [(8, nv i), (7, nv ks.length), (0, .slice ov ks.length c), (1, .func (.func 50) #[] #[])] f) (by omega) ⟨Keeps.refl h, sel_of rfl, sel_of rfl, sel_of rfl, sel_of rfl, trivial⟩ ?_
  rintro i f h1 hi ⟨k, hs⟩
  obtain ⟨f0, rfl⟩ := hs.puts
  clear hs
  simp only [c82_0]
  refine gg ?_
  by_cases hi2 : i < ks.length
  · refine gg ?_
    have hx : ks[i]? = some ks[i] := List.getElem?_eq_getElem hi2
    refine i_idx (by exact sel_of rfl) (hr.keeps k) (i := i) (by exact sel_of rfl) hi2 fun q hq => ?_
    subst hq
    refine i_loadN (v := ckv (ks[i]).2 (some ⟨(ks[i]).1, 0, some 1⟩) (ks[i]).2.dt.length) (by exact sel_of rfl) (((hr.keeps k).cells (i := i * 12) (m := 12) (by omega) _).trans (congrArg some (cksv_part ks i _ hx))) ?_
    have z := hk _ (List.mem_of_getElem? hx)
    refine i_callv1 (by exact sel_of rfl) (by exact sel_of rfl) (w_noData z.ne z.le (by omega)) ?_
    rintro _ h2 ⟨rfl, k2⟩
    refine gg ?_
    exact rnd_up hi2 ⟨k.trans k2, sel_of rfl, sel_of rfl, sel_of rfl, sel_of rfl, trivial⟩
  · refine gg ?_
    exact ⟨rfl, k⟩
theorem w_hasN {ks : List (Nat × Ck)} {ov : Option Addr} {c : Nat} (hr : Row h 12 ov ks.length (cksv ks)) (hk : ∀ x ∈ ks, CkOK x.2) (hl : ks.length ≤ 20000) (hn : ks.length + 10 ≤ n) :
    ResQ (callN Tryz.prog G0 n (.call 49 [.slice ov ks.length c, .func (.func 50) #[] #[]]) h) (fun v h' => v = .bool false ∧ Keeps h h') := by
  obtain ⟨n, rfl⟩ : ∃ m, n = m + 1 := ⟨n - 1, by omega⟩
  refine res_enter rfl d49 rfl ?_; simp only [c49]
  refine gg ?_
  refine i_call2 (by exact sel_of rfl) (by exact sel_of rfl) (w_idxN hr hk hl (by omega)) ?_
  rintro _ h2 ⟨rfl, k2⟩
  refine gg ?_
  exact ⟨rfl, k2⟩
end
theorem Que.push {h h' : Heap} {Q nx nx' k : Nat} {oq : Option Addr} {es : List Ent} {e : Ent} (x : Que h Q oq nx es) (hn : h.next ≤ h'.next) (hg : ∀ d, d < h.next → d ≠ Q → (∀ q, oq = some q → d ≠ q.block) → h'.get d = h.get d)
    (hq : h'.get Q = some (.cells 93 [.slice (some ⟨k, 0, some 1⟩) (es.length + 1) (es.length + 1), .int .u32 (nx' : Int)] (.own false))) (hk : k < h'.next) (ha : h'.get k = some (.cells 113 ((es ++ [e]).map fun e => pt e.b) (.own true))) (he : EntOK h' e) (hb : h.next ≤ e.b) (hl : es.length + 1 ≤ 1024) (hnx : nx' < 4294967296) : Que h' Q (some ⟨k, 0, some 1⟩) nx' (es ++ [e]) := by
  have hql := x.ql
  have hoq : ∀ q, oq = some q → h.get q.block = some (.cells 113 (es.map fun e => pt e.b) (.own true)) := fun q hq => by
    rcases x.ar with ⟨_, h2⟩ | ⟨k, h1, h2, h3⟩
    · rw [h2] at hq; cases hq
    · rw [h1] at hq; cases hq; exact h3
  refine ⟨by rw [List.length_append]; exact hq, by omega, .inr ⟨k, rfl, hk, ha⟩, fun y hy => ?_, ?_, by rw [List.length_append]; exact hl, hnx⟩
  · rcases List.mem_append.1 hy with hy | hy
    · have z := x.en y hy
      have zb := z.bl
      have zp := z.pl
      have zk := z.kl
      exact ⟨(hg _ zb (fun e1 => by have := z.hb; rw [e1, x.hq] at this; cases this) (fun q hq2 e1 => by have := z.hb; rw [e1, hoq q hq2] at this; cases this)).trans z.hb, by omega, (hg _ zp (fun e1 => by have := z.hp; rw [e1, x.hq] at this; cases this) (fun q hq2 e1 => by have := z.hp; rw [e1, hoq q hq2] at this; cases this)).trans z.hp, by omega, (hg _ zk (fun e1 => by have := z.hk; rw [e1, x.hq] at this; cases this) (fun q hq2 e1 => by have := z.hk; rw [e1, hoq q hq2] at this; cases this)).trans z.hk, by omega, z.wf, z.ne, z.le⟩
    · simp only [List.mem_cons, List.not_mem_nil, or_false] at hy
      subst hy; exact he
  · rw [List.map_append, List.nodup_append]
    refine ⟨x.nd, by simp, fun a ha b hb2 hab => ?_⟩
    obtain ⟨y, hy, rfl⟩ := List.mem_map.1 ha
    have := (x.en y hy).bl
    simp only [List.map_cons, List.map_nil, List.mem_cons, List.not_mem_nil, or_false] at hb2
    omega
/-- numbered -/
def numd (nx : Nat) (cs : List Ck) : List Ck := cs.mapIdx fun j c => { c with A := (nx + j) % 4294967296 }
/-- what Push leaves -/
structure PuQ (h h' : Heap) (Q nx : Nat) (oq : Option Addr) (es : List Ent) (cs : List Ck) : Prop where
  que : ∃ oq' en, Que h' Q oq' ((nx + cs.length) % 4294967296) (es ++ en) ∧ en.map Ent.c = numd nx cs ∧ (∀ e ∈ en, e.st = 0 ∧ e.sent = 0 ∧ h.next ≤ e.b) ∧ ∀ q, oq' = some q → oq = some q ∨ h.next ≤ q.block
  nxt : h.next ≤ h'.next
  low : ∀ d, d < h.next → d ≠ Q → (∀ q, oq = some q → d ≠ q.block) → h'.get d = h.get d
end Go.Proofs.YtmlagbknnngjjaaGreat

/-! Push, whole. -/
set_option linter.unusedVariables false
namespace Go.Proofs.YtmlagbknnngjjaaGreat
open Go Vm
section
variable {h : Heap} {n Q nx : Nat} {oq : Option Addr} {es : List Ent}
/-- between the rounds of Push: j chunks were laid behind -/
structure PJ (h h' : Heap) (Q nx P : Nat) (oq : Option Addr) (es : List Ent) (ks : List (Nat × Ck)) (j : Nat) : Prop where
  que : ∃ oq' en, Que h' Q oq' ((nx + j) % 4294967296) (es ++ en) ∧ en.map Ent.c = numd nx ((ks.take j).map (·.2)) ∧ (∀ e ∈ en, e.st = 0 ∧ e.sent = 0 ∧ h.next ≤ e.b) ∧ (∀ q, oq' = some q → oq = some q ∨ h.next ≤ q.block) ∧ en.length = j
  nxt : h.next ≤ h'.next
  low : ∀ d, d < h.next → d ≠ Q → (∀ q, oq = some q → d ≠ q.block) → h'.get d = h.get d
  pol : h'.get P = some (.cells 112 [.int .i64 (-1), .int .i64 (-1), .bool false] (.own false))
  pl : P < h'.next ∧ h.next ≤ P
set_option maxHeartbeats 4000000 in
theorem w_push {ks : List (Nat × Ck)} {kb : Nat} (x : Que h Q oq nx es) (hk : ∀ y ∈ ks, CkOK y.2 ∧ Dat h y.1 y.2.dt) (hkl : 0 < ks.length) (hsum : es.length + ks.length ≤ 1024) (hkb : kb < h.next) (hkg : h.get kb = some (.cells 42 (cksv ks) (.own true))) (hn : ks.length + 40 ≤ n) :
    ResQ (callN Tryz.prog G0 n (.call 31 [pt Q, .slice (some ⟨kb, 0, some 12⟩) ks.length ks.length, .int .i64 (-1), .int .i64 (-1)]) h) (fun v h' => v = .int .i64 0 ∧ PuQ h h' Q nx oq es (ks.map (·.2))) := by
  have hlim := x.lim
  have hrow : ∀ h1 : Heap, h1.get kb = some (.cells 42 (cksv ks) (.own true)) → kb < h1.next → Row h1 12 (some ⟨kb, 0, some 12⟩) ks.length (cksv ks) := fun h1 h2 h3 => ⟨cksv_length ks, h3, .inr rfl, loadN_all h2 (cksv_length ks)⟩
  obtain ⟨n, rfl⟩ : ∃ m, n = m + 1 := ⟨n - 1, by omega⟩
  refine res_enter rfl d31 rfl ?_; simp only [c31]
  refine gg ?_
  refine i_call2 (by exact sel_of rfl) (by exact const_of) (w_hasN (hrow h hkg hkb) (fun y hy => (hk y hy).1) (by omega) (by omega)) ?_
  rintro _ h1 ⟨rfl, k1⟩
  have x1 := x.keeps k1
  have hn1 := k1.next
  refine gg ?_
  refine i_load1 (v := .slice oq es.length es.length) (by exact sel_of rfl) ((load1_own x1.hq).trans (by rfl)) ?_
  refine gg ?_
  obtain ⟨p1, k2, n2⟩ := box_one h1 (.cells 112 [.int .i64 (-1), .int .i64 (-1), .bool false] (.own false))
  have k12 := k1.trans k2
  have z0 : PJ h (h1.new (.cells 112 [.int .i64 (-1), .int .i64 (-1), .bool false] (.own false))) Q nx h1.next oq es ks 0 := ⟨⟨oq, [], by rw [List.append_nil, Nat.add_zero, Nat.mod_eq_of_lt x.nxl]; exact x.keeps k12, by rw [List.take_zero]; rfl, (fun e he => nomatch he), (fun q hq => .inl hq), rfl⟩, k12.next, fun d hd _ _ => k12.get d hd, p1, by omega⟩
  refine o_up ks.length (fun i f h' => PJ h h' Q nx h1.next oq es ks i ∧ Sl [(40, nv i), (39, nv ks.length), (38, .slice (some ⟨kb, 0, some 12⟩) ks.length ks.length), (0, pt Q), (9, pt h1.next)] f) (by omega) ⟨z0, sel_of rfl, sel_of rfl, sel_of rfl, sel_of rfl, sel_of rfl, trivial⟩ ?_
  clear z0 p1 k2 n2 k12
  rintro i f g hi ⟨z, hs⟩
  obtain ⟨f0, rfl⟩ := hs.puts
  clear hs
  simp only [c31_0]
  refine gg ?_
  by_cases hi2 : i < ks.length
  rotate_left
  · refine gg ?_
    obtain ⟨⟨oq', en, q1, q2, q3, q4, q5⟩, z2, z3, z4, z5⟩ := z
    have : i = ks.length := by omega
    subst this
    rw [List.take_of_length_le (Nat.le_refl _)] at q2
    exact ⟨rfl, ⟨oq', en, by rw [List.length_map]; exact q1, q2, q3, q4⟩, z2, z3⟩
  · refine gg ?_
    have hx : ks[i]? = some ks[i] := List.getElem?_eq_getElem hi2
    generalize ks[i] = y at *
    obtain ⟨⟨oq', en, q1, q2, q3, q4, q5⟩, z2, z3, z4, z5, z6⟩ := z
    obtain ⟨cok, dl, dg⟩ := hk y (List.mem_of_getElem? hx)
    have oqg : ∀ q, oq = some q → h.get q.block = some (.cells 113 (es.map fun e => pt e.b) (.own true)) := fun q hq => by
      rcases x.ar with ⟨_, h2⟩ | ⟨k, h1, h2, h3⟩
      · rw [h2] at hq; cases hq
      · rw [h1] at hq; cases hq; exact h3
    have gkb : g.get kb = some (.cells 42 (cksv ks) (.own true)) := (z3 kb hkb (fun e => by rw [e, x.hq] at hkg; cases hkg) (fun q hq e => by rw [e, oqg q hq] at hkg; cases hkg)).trans hkg
    have gyd : g.get y.1 = some (.cells 5 (u8s y.2.dt) (.own true)) := (z3 y.1 dl (fun e => by rw [e, x.hq] at dg; cases dg) (fun q hq e => by rw [e, oqg q hq] at dg; cases dg)).trans dg
    have hr := hrow g gkb (by omega)
    refine i_idx (by exact sel_of rfl) hr (i := i) (by exact sel_of rfl) hi2 fun q hq => ?_
    cases hq
    refine i_loadN (v := ckv y.2 (some ⟨y.1, 0, some 1⟩) y.2.dt.length) (by exact sel_of rfl) ((hr.cells (i := i * 12) (m := 12) (by omega) _).trans (congrArg some (cksv_part ks i _ hx))) ?_
    refine gg ?_
    obtain ⟨b1, k2, n2⟩ := box_one g (.cells 42 [.int .u8 0, .int .u8 0, .int .u32 0, .int .u32 0, .int .u16 0, .int .u16 0, .int .u32 0, .slice none 0 0, .slice none 0 0, .slice none 0 0, .slice none 0 0, .slice none 0 0] (.own false))
    generalize (g.new (.cells 42 [.int .u8 0, .int .u8 0, .int .u32 0, .int .u32 0, .int .u16 0, .int .u16 0, .int .u32 0, .slice none 0 0, .slice none 0 0, .slice none 0 0, .slice none 0 0, .slice none 0 0] (.own false))) = g2 at *
    refine i_storeP (b := g.next) (vs := ckv y.2 (some ⟨y.1, 0, some 1⟩) y.2.dt.length) (by exact sel_of rfl) (by rw [sel_of rfl]; rfl) b1 rfl rfl ?_
    have c1 : (g2.put g.next (.cells 42 (ckv y.2 (some ⟨y.1, 0, some 1⟩) y.2.dt.length) (.own false))).get g.next = some (.cells 42 (ckv y.2 (some ⟨y.1, 0, some 1⟩) y.2.dt.length) (.own false)) := by rw [Heap.get_put, if_pos rfl]
    have k3 : Keeps g (g2.put g.next (.cells 42 (ckv y.2 (some ⟨y.1, 0, some 1⟩) y.2.dt.length) (.own false))) := k2.put (Nat.le_refl _) _
    have n3 : (g2.put g.next (.cells 42 (ckv y.2 (some ⟨y.1, 0, some 1⟩) y.2.dt.length) (.own false))).next = g.next + 1 := n2
    clear b1 k2 n2
    generalize (g2.put g.next (.cells 42 (ckv y.2 (some ⟨y.1, 0, some 1⟩) y.2.dt.length) (.own false))) = g3 at *
    have x3 := q1.keeps k3
    have hql := q1.ql
    have l3 : load1 g3.get ⟨Q, 0 + 1, none⟩ = some (.int .u32 (((nx + i) % 4294967296 : Nat) : Int)) := (load1_own x3.hq).trans (by rfl)
    refine gg ?_
    refine i_load1 (v := .int .u32 (((nx + i) % 4294967296 : Nat) : Int)) (by exact sel_of rfl) l3 ?_
    refine gg ?_
    refine i_load1 (v := .slice (some ⟨y.1, 0, some 1⟩) y.2.dt.length y.2.dt.length) (by exact sel_of rfl) ((load1_own c1).trans (by rfl)) ?_
    refine gg ?_
    have gyd3 := (k3.get y.1 (by omega)).trans gyd
    have cle := cok.le
    refine i_call1 (by exact sel_of rfl) (w_cloneX (l := y.2.dt) (o := some ⟨y.1, 0, some 1⟩) ⟨by rw [u8s_length]; omega, by show y.1 < g3.next; omega, .inr rfl, loadN_all gyd3 (by rw [u8s_length]; omega)⟩ cok.ne (by omega) (by omega)) ?_
    rintro _ g4 ⟨dk, rfl, k4, dt4, hdk⟩
    have hn4 := k4.next
    refine gg ?_
    refine i_stB (b := g.next) (v := .int .u32 (((nx + i) % 4294967296 : Nat) : Int)) (by exact sel_of rfl) (by rw [sel_of rfl]; rfl) ((k4.get _ (by omega)).trans c1) (by show 2 < 12; decide) fun g5 k5 n5 gc5 => ?_
    refine gg ?_
    refine i_stB (b := g.next) (v := .slice (some ⟨dk, 0, some 1⟩) y.2.dt.length y.2.dt.length) (by exact sel_of rfl) (by rw [sel_of rfl]; rfl) gc5 (by show 11 < 12; decide) fun g6 k6 n6 gc6 => ?_
    have gc6 : g6.get g.next = some (.cells 42 (ckv { y.2 with A := (nx + i) % 4294967296 } (some ⟨dk, 0, some 1⟩) y.2.dt.length) (.own false)) := gc6
    refine gg ?_
    refine ⟨chk_cons (a := _) rfl (ld1 (by exact sel_of rfl) l3) (sv_int _ _) (fun m hm => by
      simp only [List.mem_cons, List.not_mem_nil, or_false] at hm
      rcases hm with rfl | rfl
      · exact ⟨_, _, rfl, ld1 (by exact sel_of rfl) l3⟩
      · exact ⟨_, _, rfl, ld1 (by exact sel_of rfl) ((load1_own ((k4.get Q (by omega)).trans x3.hq)).trans (by rfl))⟩) chk_nil, ?_⟩
    have low6 : ∀ d, d < g.next → g6.get d = g.get d := fun d hd => by
      rw [k6.get d (by omega) (by omega), k5.get d (by omega) (by omega), k4.get d (by omega), k3.get d hd]
    have dt6 : Dat g6 dk y.2.dt := by
      have h5 := dt4.1
      exact ⟨by omega, by rw [k6.get _ (by omega) (by omega), k5.get _ (by omega) (by omega)]; exact dt4.2⟩
    have n6f : g6.next = g4.next := by omega
    clear k3 k4 k5 k6 gc5 dt4 n5 n6 gyd3 c1 l3 x3
    have x6 : Que g6 Q oq' ((nx + i) % 4294967296) (es ++ en) := q1.keeps ⟨by omega, low6⟩
    refine gg ?_
    refine i_load1 (v := .int .u32 (((nx + i) % 4294967296 : Nat) : Int)) (by exact sel_of rfl) ((load1_own x6.hq).trans (by rfl)) ?_
    refine i_addW (q := ((1 : Nat) : Int)) (r := (((nx + (i + 1)) % 4294967296 : Nat) : Int)) (by exact sel_of rfl) (by exact const_of) ((add32 _ 1).trans (congrArg _ (by omega))) ?_
    refine gg ?_
    refine i_stB (b := Q) (v := .int .u32 (((nx + (i + 1)) % 4294967296 : Nat) : Int)) (by exact sel_of rfl) (by rw [sel_of rfl]; rfl) x6.hq (by show 1 < 2; decide) fun g7 k7 n7 gq7 => ?_
    have gq7 : g7.get Q = some (.cells 93 [.slice oq' (es ++ en).length (es ++ en).length, .int .u32 (((nx + (i + 1)) % 4294967296 : Nat) : Int)] (.own false)) := gq7
    have gc7 := (k7.get g.next (by omega) (by omega)).trans gc6
    refine gg ?_
    refine i_load1 (v := .slice oq' (es ++ en).length (es ++ en).length) (by exact sel_of rfl) ((load1_own gq7).trans (by rfl)) ?_
    refine i_loadN (v := ckv { y.2 with A := (nx + i) % 4294967296 } (some ⟨dk, 0, some 1⟩) y.2.dt.length) (by exact sel_of rfl) (loadN_all gc7 rfl) ?_
    refine gg ?_
    refine i_v (v := .agg (ckv { y.2 with A := (nx + i) % 4294967296 } (some ⟨dk, 0, some 1⟩) y.2.dt.length ++ [pt h1.next, nv 0, nv 0, nv 0, nv 0]).toArray) (by rfl) ?_
    have pow := z4
    refine gg ?_
    obtain ⟨b8, k8, n8⟩ := box_one g7 (.cells 115 (ckv { y.2 with A := (nx + i) % 4294967296 } (some ⟨dk, 0, some 1⟩) y.2.dt.length ++ [pt h1.next, nv 0, nv 0, nv 0, nv 0]) (.own false))
    obtain ⟨b9, k9, n9⟩ := box_one (g7.new (.cells 115 (ckv { y.2 with A := (nx + i) % 4294967296 } (some ⟨dk, 0, some 1⟩) y.2.dt.length ++ [pt h1.next, nv 0, nv 0, nv 0, nv 0]) (.own false))) (.cells 113 [pt g7.next] (.own false))
    change ItQ (runItems _ _ _ ((g7.new (.cells 115 (ckv { y.2 with A := (nx + i) % 4294967296 } (some ⟨dk, 0, some 1⟩) y.2.dt.length ++ [pt h1.next, nv 0, nv 0, nv 0, nv 0]) (.own false))).new (.cells 113 [pt g7.next] (.own false)))) _
    have be := (k9.get g7.next (by omega)).trans b8
    have k89 := k8.trans k9
    have n89 : ((g7.new (.cells 115 (ckv { y.2 with A := (nx + i) % 4294967296 } (some ⟨dk, 0, some 1⟩) y.2.dt.length ++ [pt h1.next, nv 0, nv 0, nv 0, nv 0]) (.own false))).new (.cells 113 [pt g7.next] (.own false))).next = g7.next + 2 := rfl
    have r9 : Row ((g7.new (.cells 115 (ckv { y.2 with A := (nx + i) % 4294967296 } (some ⟨dk, 0, some 1⟩) y.2.dt.length ++ [pt h1.next, nv 0, nv 0, nv 0, nv 0]) (.own false))).new (.cells 113 [pt g7.next] (.own false))) 1 (some ⟨g7.next + 1, 0, none⟩) 1 [pt g7.next] := Row.new (by simp) rfl (.inl rfl)
    clear b8 b9 k8 k9 n8 n9
    generalize ((g7.new (.cells 115 (ckv { y.2 with A := (nx + i) % 4294967296 } (some ⟨dk, 0, some 1⟩) y.2.dt.length ++ [pt h1.next, nv 0, nv 0, nv 0, nv 0]) (.own false))).new (.cells 113 [pt g7.next] (.own false))) = g9 at *
    have low9 : ∀ d, d < g.next → d ≠ Q → g9.get d = g.get d := fun d hd h5 => by
      rw [k89.get d (by omega), k7.get d (by omega) h5, low6 d hd]
    have oq9 : ∀ q, oq' = some q → q.block < g.next ∧ g.get q.block = some (.cells 113 ((es ++ en).map fun e => pt e.b) (.own true)) := fun q hq => by
      rcases q1.ar with ⟨_, h2⟩ | ⟨k, h1, h2, h3⟩
      · rw [h2] at hq; cases hq
      · rw [h1] at hq; cases hq; exact ⟨h2, h3⟩
    have ap9 : Ap 0 g9 113 1 oq' (es ++ en).length (es ++ en).length ((es ++ en).map fun e => pt e.b) := by
      rcases q1.ar with ⟨h1, h2⟩ | ⟨k, h1, h2, h3⟩
      · rw [h1, h2]; exact Ap.nil _ _ _ _
      · have h4 := (low9 k h2 (fun e => by rw [e, q1.hq] at h3; cases h3)).trans h3
        rw [h1]
        exact ⟨rfl, ⟨by simp, by show k < g9.next; omega, .inr rfl, loadN_all h4 (by simp)⟩, fun q e => by cases e; exact .inr ⟨k, rfl, Nat.zero_le _, h4⟩⟩
    have hlen : (es ++ en).length = es.length + i := by rw [List.length_append, q5]
    refine i_appF (B := 0) (m := 1) (t := (es ++ en).length + 1) (es := ((es ++ en).map fun e => pt e.b) ++ [pt g7.next]) (by decide) (Nat.zero_le _) (by exact sel_of rfl) ap9 (by rw [sel_of rfl]; exact r9.src) rfl (by omega) rfl rfl fun g10 n10 e10 ap10 => ?_
    refine gg ?_
    have gq10 : g10.get Q = some (.cells 93 [.slice oq' (es ++ en).length (es ++ en).length, .int .u32 (((nx + (i + 1)) % 4294967296 : Nat) : Int)] (.own false)) := by
      rw [e10 Q (by omega) (fun q hq => .inl fun e => by have := (oq9 q hq).2; rw [← e, q1.hq] at this; cases this), k89.get Q (by omega)]; exact gq7
    refine i_stB (b := Q) (v := .slice (some ⟨g9.next, 0, some 1⟩) ((es ++ en).length + 1) ((es ++ en).length + 1)) (by exact sel_of rfl) (by rw [sel_of rfl]; rfl) gq10 (by show 0 < 2; decide) fun g11 k11 n11 gq11 => ?_
    have gq11 : g11.get Q = some (.cells 93 [.slice (some ⟨g9.next, 0, some 1⟩) ((es ++ en).length + 1) ((es ++ en).length + 1), .int .u32 (((nx + (i + 1)) % 4294967296 : Nat) : Int)] (.own false)) := gq11
    have hi9 : ∀ d, g.next ≤ d → d < g9.next → g11.get d = g9.get d := fun d hd h5 => by
      rw [k11.get d (by omega) (by omega), e10 d h5 (fun q hq => .inl (by have := (oq9 q hq).1; omega))]
    have low11 : ∀ d, d < g.next → d ≠ Q → (∀ q, oq' = some q → d ≠ q.block) → g11.get d = g.get d := fun d hd h5 h6 => by
      rw [k11.get d (by omega) h5, e10 d (by omega) (fun q hq => .inl (h6 q hq)), low9 d hd h5]
    have gP : g11.get h1.next = some (.cells 112 [.int .i64 (-1), .int .i64 (-1), .bool false] (.own false)) := (low11 _ z5 (by have := x.ql; omega) (fun q hq e => by have := (oq9 q hq).2; rw [← e, z4] at this; cases this)).trans z4
    let e : Ent := ⟨g7.next, h1.next, dk, { y.2 with A := (nx + i) % 4294967296 }, 0, 0, 0, 0⟩
    have hwf : e.c.wf := ⟨cok.wf.fl, Nat.mod_lt _ (by decide), cok.wf.out, cok.wf.inn, cok.wf.pp⟩
    have hdk : g.next ≤ dk ∧ dk < g7.next := ⟨by omega, by have := dt6.1; omega⟩
    have gdk : g11.get dk = some (.cells 5 (u8s y.2.dt) (.own true)) := by
      rw [hi9 dk hdk.1 (by omega), k89.get dk hdk.2, k7.get dk dt6.1 (by omega)]; exact dt6.2
    have hen : EntOK g11 e := ⟨(hi9 g7.next (by omega) (by omega)).trans be, by show g7.next < g11.next; omega, gP, by show h1.next < g11.next; omega, gdk, by show dk < g11.next; omega, hwf, cok.ne, cok.le⟩
    have hque := q1.push (e := e) (by omega) low11 gq11 (by show g9.next < g11.next; omega) (by rw [List.map_append, k11.get g9.next (by omega) (by omega)]; exact ap_own ap10) hen (by show g.next ≤ g7.next; omega) (by omega) (Nat.mod_lt _ (by decide))
    refine gg ?_
    refine rnd_up hi2 ⟨⟨⟨_, en ++ [e], by rw [← List.append_assoc]; exact hque, ?_, ?_, ?_, by rw [List.length_append, q5]; rfl⟩, by omega, ?_, gP, by omega, by omega⟩, sel_of rfl, sel_of rfl, sel_of rfl, sel_of rfl, sel_of rfl, trivial⟩
    · rw [List.map_append, q2, List.take_add_one, hx, List.map_append]
      show numd nx ((ks.take i).map (·.2)) ++ [e.c] = numd nx ((ks.take i).map (·.2) ++ [y.2])
      unfold numd
      rw [List.mapIdx_concat, List.length_map, List.length_take, Nat.min_eq_left hi]
    · intro w hw
      rcases List.mem_append.1 hw with hw | hw
      · exact q3 w hw
      · simp only [List.mem_cons, List.not_mem_nil, or_false] at hw
        subst hw
        exact ⟨rfl, rfl, by show h.next ≤ g7.next; omega⟩
    · intro q hq
      cases hq
      exact .inr (by show h.next ≤ g9.next; omega)
    · intro d hd h5 h6
      refine (low11 d (by omega) h5 fun q hq e => ?_).trans (z3 d hd h5 h6)
      rcases q4 q hq with h7 | h7
      · exact h6 q h7 e
      · omega
end
end Go.Proofs.YtmlagbknnngjjaaGreat

/-! Send. -/
set_option linter.unusedVariables false
namespace Go.Proofs.YtmlagbknnngjjaaGreat
open Go Vm
def mostN (mt : Nat) : Nat := max 1 (min 1172 (mt - 28))
theorem mostN_b (mt : Nat) : 1 ≤ mostN mt ∧ mostN mt ≤ 1172 := by unfold mostN; omega
def ssv (sl : List Nat) : List Value := sl.map fun (x : Nat) => .int .u16 (x : Int)
/-- what Send leaves -/
structure SnQ (h h' : Heap) (Q nx sb : Nat) (oq : Option Addr) (es : List Ent) (cs : List Ck) (sl : List Nat) : Prop where
  que : ∃ oq' en, Que h' Q oq' ((nx + cs.length) % 4294967296) (es ++ en) ∧ en.map Ent.c = numd nx cs ∧ (∀ e ∈ en, e.st = 0 ∧ e.sent = 0 ∧ h.next ≤ e.b) ∧ ∀ q, oq' = some q → oq = some q ∨ h.next ≤ q.block
  nxt : h.next ≤ h'.next
  low : ∀ d, d < h.next → d ≠ Q → d ≠ sb → (∀ q, oq = some q → d ≠ q.block) → h'.get d = h.get d
  gsb : h'.get sb = some (.cells 32 (ssv sl) (.own false))
/-- a block of another type than the queue's own -/
theorem Que.butT {h h' : Heap} {Q nx X ty : Nat} {oq : Option Addr} {es : List Ent} {cs : List Value} {op : Bool} (x : Que h Q oq nx es) (hX : h.get X = some (.cells ty cs (.own op))) (h1 : ty ≠ 93) (h2 : ty ≠ 113) (h3 : ty ≠ 115) (h4 : ty ≠ 112) (h5 : ty ≠ 5) (hn : h.next ≤ h'.next) (hg : ∀ d, d < h.next → d ≠ X → h'.get d = h.get d) : Que h' Q oq nx es := by
  have hql := x.ql
  refine ⟨(hg Q hql fun e => by rw [e] at x; have := x.hq; rw [hX] at this; cases this; exact h1 rfl).trans x.hq, by omega, x.ar.imp id fun ⟨k, a1, a2, a3⟩ => ⟨k, a1, by omega, (hg k a2 fun e => by rw [e, hX] at a3; cases a3; exact h2 rfl).trans a3⟩, fun e he => ?_, x.nd, x.lim, x.nxl⟩
  have z := x.en e he
  have zb := z.bl
  have zp := z.pl
  have zk := z.kl
  exact ⟨(hg _ zb fun e1 => by have := z.hb; rw [e1, hX] at this; cases this; exact h3 rfl).trans z.hb, by omega, (hg _ zp fun e1 => by have := z.hp; rw [e1, hX] at this; cases this; exact h4 rfl).trans z.hp, by omega, (hg _ zk fun e1 => by have := z.hk; rw [e1, hX] at this; cases this; exact h5 rfl).trans z.hk, by omega, z.wf, z.ne, z.le⟩
section
variable {h : Heap} {n Q nx X sb ns : Nat} {oq : Option Addr} {es : List Ent} {cs : List Value} {cw mt w : Nat} {pe : Int} {ru sk : Bool}
theorem w_knowsX {str : Nat} (hX : h.get X = some (.cells 79 cs (.own false))) (h12 : cs[12]? = some (.slice (some ⟨sb, 0, none⟩) ns ns)) (hs : str < ns) (hst : str < 65536) (hn : 1 ≤ n) :
    ResQ (callN Tryz.prog G0 n (.call 27 [pt X, .int .u16 (str : Int)]) h) (fun v h' => v = .bool true ∧ h = h') := by
  obtain ⟨n, rfl⟩ : ∃ m, n = m + 1 := ⟨n - 1, by omega⟩
  refine res_enter rfl d27 rfl ?_; simp only [c27]
  refine gg ?_
  refine i_load1 (v := .slice (some ⟨sb, 0, none⟩) ns ns) (by exact sel_of rfl) ((load1_own hX).trans h12) ?_
  refine gg ?_
  exact ⟨congrArg Value.bool (decide_eq_true (by omega)), rfl⟩
set_option maxHeartbeats 4000000 in
theorem w_sendM {o : Addr} {d : List UInt8} {dc str pp : Nat} {sl : List Nat} {now : Int} (x : Que h Q oq nx es) (hX : h.get X = some (.cells 79 cs (.own false))) (hXl : X < h.next) (v : SdV cs Q cw mt w pe ru sk) (h4 : cs[4]? = some (nv mt)) (h12 : cs[12]? = some (.slice (some ⟨sb, 0, none⟩) sl.length sl.length))
    (hsb : h.get sb = some (.cells 32 (ssv sl) (.own false))) (hsbl : sb < h.next) (hs : str < sl.length) (hst : str < 65536) (hpp : pp < 4294967296) (hsl : ∀ z ∈ sl, z < 65536) (hmt : mt ≤ 65536)
    (hr : Row h 1 (some o) d.length (u8s d)) (hdc : d.length ≤ dc) (hd0 : d ≠ []) (hd : d.length ≤ 16384) (hoct : octs [0, 2] es + d.length ≤ 65536) (hcnt : es.length + (pcs (mostN mt) d).length ≤ 1024) (hn : es.length + d.length + 100 ≤ n) :
    ResQ (callN Tryz.prog G0 n (.call 9 [pt X, .agg #[.int .u16 (str : Int), .bool false, .int .u32 (pp : Int), .slice (some o) d.length dc], .int .i64 (-1), .int .i64 (-1), .int .i64 now]) h) (fun v h' => v = .int .i64 0 ∧ SnQ h h' Q nx sb oq es (spl str (sl[str]) pp (pcs (mostN mt) d)) (sl.set str ((sl[str] + 1) % 65536))) := by
  have hlim := x.lim
  have hm := mostN_b mt
  obtain ⟨n, rfl⟩ : ∃ m, n = m + 1 := ⟨n - 1, by omega⟩
  refine res_enter rfl d9 rfl ?_; simp only [c9]
  refine gg ?_
  obtain ⟨b1, k1, n1⟩ := box_one h (.cells 34 [.int .u16 (str : Int), .bool false, .int .u32 (pp : Int), .slice (some o) d.length dc] (.own false))
  change ItQ (runItems _ _ _ (h.new (.cells 34 [.int .u16 (str : Int), .bool false, .int .u32 (pp : Int), .slice (some o) d.length dc] (.own false)))) _
  generalize (h.new (.cells 34 [.int .u16 (str : Int), .bool false, .int .u32 (pp : Int), .slice (some o) d.length dc] (.own false))) = h1 at *
  have hX1 := (k1.get X hXl).trans hX
  have x1 := x.keeps k1
  refine i_load1 (v := .int .u16 (str : Int)) (by exact sel_of rfl) ((load1_own b1).trans (by rfl)) ?_
  refine i_call2 (by exact sel_of rfl) (by exact sel_of rfl) (w_knowsX hX1 h12 hs hst (by omega)) ?_
  rintro _ _ ⟨rfl, rfl⟩
  refine gg ?_
  refine i_loadN (v := [.int .u16 (str : Int), .bool false, .int .u32 (pp : Int), .slice (some o) d.length dc]) (by exact sel_of rfl) (loadN_all b1 rfl) ?_
  refine gg ?_
  refine i_load1 (v := .slice (some ⟨sb, 0, none⟩) sl.length sl.length) (by exact sel_of rfl) ((load1_own hX1).trans h12) ?_
  refine gg ?_
  refine i_load1 (v := .int .u16 (str : Int)) (by exact sel_of rfl) ((load1_own b1).trans (by rfl)) ?_
  have hsb1 := (k1.get sb hsbl).trans hsb
  have rows : ∀ (g : Heap) (l : List Nat), g.get sb = some (.cells 32 (ssv l) (.own false)) → sb < g.next → Row g 1 (some ⟨sb, 0, none⟩) l.length (ssv l) := fun g l h2 h3 => ⟨by simp [ssv], h3, .inl rfl, loadN_all h2 (by simp [ssv])⟩
  refine i_idx (i := str) (by exact sel_of rfl) (rows h1 sl hsb1 (by omega)) (by exact sel_of rfl) hs fun q hq => ?_
  cases hq
  refine i_load1 (v := .int .u16 ((sl[str] : Nat) : Int)) (by exact sel_of rfl) ((load1_own hsb1).trans (by rw [Nat.mul_one, Nat.zero_add]; simp [ssv, hs])) ?_
  refine gg ?_
  refine i_load1 (v := nv mt) (by exact sel_of rfl) ((load1_own hX1).trans h4) ?_
  refine gg ?_
  refine i_minZ (t := min 1172 ((mt : Int) - 28)) (by exact const_of) (by exact sel_of rfl) rfl ?_
  refine i_maxZ (t := ((mostN mt : Nat) : Int)) (by exact const_of) (by exact sel_of rfl) (by unfold mostN; omega) ?_
  refine i_call4 (by exact sel_of rfl) (by exact const_of) (by exact sel_of rfl) (by exact sel_of rfl) (w_split (hr.keeps k1) hdc hd0 hd hm.1 hm.2 (by omega)) ?_
  rintro _ h2 ⟨ov, ks, rfl, S⟩
  have k2 := S.keep
  have hn2 := k2.next
  have x2 := x1.keeps k2
  have hX2 := (k2.get X (by omega)).trans hX1
  have b2 := (k2.get h.next (by omega)).trans b1
  refine gg ?_
  refine i_load1 (v := pt Q) (by exact sel_of rfl) ((load1_own hX2).trans v.c0) ?_
  refine gg ?_
  refine i_call1 (by exact sel_of rfl) (w_left x2 (by omega)) ?_
  rintro _ h3 ⟨rfl, k3⟩
  have hn3 := k3.next
  have x3 := x2.keeps k3
  have hX3 := (k3.get X (by omega)).trans hX2
  have b3 := (k3.get h.next (by omega)).trans b2
  have l3 : ∀ g : Heap, g.get h.next = some (.cells 34 [.int .u16 (str : Int), .bool false, .int .u32 (pp : Int), .slice (some o) d.length dc] (.own false)) → load1 g.get ⟨h.next, 0 + 3, none⟩ = some (.slice (some o) d.length dc) := fun g hg => (load1_own hg).trans (by rfl)
  refine gg ?_
  refine i_load1 (v := .slice (some o) d.length dc) (by exact sel_of rfl) (l3 h3 b3) ?_
  refine gg ?_
  refine ⟨chk_cons (a := _) rfl (ld1 (by exact sel_of rfl) (l3 h3 b3)) (sv_slice _ _ _) (fun m hm => by
    simp only [List.mem_cons, List.not_mem_nil, or_false] at hm
    rcases hm with rfl | rfl
    · exact ⟨_, _, rfl, ld1 (by exact sel_of rfl) (l3 h2 b2)⟩
    · exact ⟨_, _, rfl, ld1 (by exact sel_of rfl) (l3 h3 b3)⟩) chk_nil, ?_⟩
  refine gg ?_
  refine i_load1 (v := pt Q) (by exact sel_of rfl) ((load1_own hX3).trans v.c0) ?_
  refine gg ?_
  have hkc : ks.length = (spl str (sl[str]) pp (pcs (mostN mt) d)).length := by rw [← S.eq, List.length_map]
  have hkp : (spl str (sl[str]) pp (pcs (mostN mt) d)).length = (pcs (mostN mt) d).length := by unfold spl; rw [List.length_mapIdx]
  have hpos := pcs_pos hm.1 hd0
  have hpl := pcs_len hm.1 d.length d (Nat.le_refl _)
  have cok : ∀ c ∈ spl str (sl[str]) pp (pcs (mostN mt) d), CkOK c := fun c hc => by
    obtain ⟨i, hi, rfl⟩ := List.mem_mapIdx.1 hc
    have hpm := pcs_mem hm.1 d.length d (Nat.le_refl _) _ (List.getElem_mem hi)
    have := hsl _ (List.getElem_mem hs)
    refine ⟨⟨?_, by show i < 4294967296; omega, hst, this, hpp⟩, hpm.1, Nat.le_trans hpm.2 hm.2⟩
    show (if i = 0 then 2 else 0) + (if i + 1 = _ then 1 else 0) < 256
    split <;> split <;> decide
  rcases S.ar.2 with ⟨h0, _⟩ | ⟨kb, rfl, hk1, hk2, hk3⟩
  · omega
  refine i_call4 (by exact sel_of rfl) (by exact sel_of rfl) (by exact sel_of rfl) (by exact sel_of rfl) (w_push x3 (fun y hy => ⟨cok y.2 (by rw [← S.eq]; exact List.mem_map.2 ⟨y, hy, rfl⟩), by have := (S.ch y hy).2; exact ⟨by have := this.1; omega, (k3.get _ this.1).trans this.2⟩⟩) (by omega) (by omega) (by omega) ((k3.get kb hk2).trans hk3) (by omega)) ?_
  rintro _ h5 ⟨rfl, P⟩
  rw [S.eq] at P
  have hn5 := P.nxt
  have xoq : ∀ q, oq = some q → h.get q.block = some (.cells 113 (es.map fun e => pt e.b) (.own true)) ∧ q.block < h.next := fun q hq => by
    rcases x.ar with ⟨_, h2⟩ | ⟨k, h1, h2, h3⟩
    · rw [h2] at hq; cases hq
    · rw [h1] at hq; cases hq; exact ⟨h3, h2⟩
  have hXQ : X ≠ Q := fun e => by rw [e, x.hq] at hX; cases hX
  have hsQ : sb ≠ Q := fun e => by rw [e, x.hq] at hsb; cases hsb
  have hql := x.ql
  have low5 : ∀ z, z < h.next → z ≠ Q → (∀ q, oq = some q → z ≠ q.block) → h5.get z = h.get z := fun z hz h6 h7 => by
    rw [P.low z (by omega) h6 h7, k3.get z (by omega), k2.get z (by omega), k1.get z hz]
  have hX5 := (low5 X hXl hXQ (fun q hq e => by have := (xoq q hq).1; rw [← e, hX] at this; cases this)).trans hX
  have hsb5 := (low5 sb hsbl hsQ (fun q hq e => by have := (xoq q hq).1; rw [← e, hsb] at this; cases this)).trans hsb
  have b5 := (P.low h.next (by omega) (by omega) (fun q hq => by have := (xoq q hq).2; omega)).trans b3
  refine gg ?_
  refine i_load1 (v := .bool false) (by exact sel_of rfl) ((load1_own b5).trans (by rfl)) ?_
  refine gg ?_
  refine i_load1 (v := .slice (some ⟨sb, 0, none⟩) sl.length sl.length) (by exact sel_of rfl) ((load1_own hX5).trans h12) ?_
  refine gg ?_
  refine i_load1 (v := .int .u16 (str : Int)) (by exact sel_of rfl) ((load1_own b5).trans (by rfl)) ?_
  refine i_idx (i := str) (by exact sel_of rfl) (rows h5 sl hsb5 (by omega)) (by exact sel_of rfl) hs fun q hq => ?_
  cases hq
  refine i_load1 (v := .int .u16 ((sl[str] : Nat) : Int)) (by exact sel_of rfl) ((load1_own hsb5).trans (by rw [Nat.mul_one, Nat.zero_add]; simp [ssv, hs])) ?_
  refine i_addW (q := ((1 : Nat) : Int)) (r := (((sl[str] + 1) % 65536 : Nat) : Int)) (by exact sel_of rfl) (by exact const_of) (wrap_u16 (sl[str] + 1)) ?_
  refine i_idx (i := str) (by exact sel_of rfl) (rows h5 sl hsb5 (by omega)) (by exact sel_of rfl) hs fun q hq => ?_
  cases hq
  refine i_stB (b := sb) (v := .int .u16 (((sl[str] + 1) % 65536 : Nat) : Int)) (by exact sel_of rfl) (by rw [sel_of rfl]; rfl) hsb5 (by show 0 + str * 1 < (ssv sl).length; simp [ssv]; omega) fun h6 k6 n6 g6 => ?_
  refine gg ?_
  obtain ⟨⟨oq', en, q1, q2, q3, q4⟩, q5, q6⟩ := P
  refine ⟨rfl, ⟨oq', en, ?_, q2, fun e he => ⟨(q3 e he).1, (q3 e he).2.1, by have := (q3 e he).2.2; omega⟩, fun q hq => (q4 q hq).imp id (by omega)⟩, by omega, fun z hz h7 h8 h9 => (k6.get z (by omega) h8).trans (low5 z hz h7 h9), ?_⟩
  · exact q1.butT hsb5 (by decide) (by decide) (by decide) (by decide) (by decide) (by omega) fun z hz hzs => k6.get z hz hzs
  · rw [g6]
    congr 2
    unfold ssv
    rw [List.map_set, Nat.mul_one, Nat.zero_add]
end
end Go.Proofs.YtmlagbknnngjjaaGreat

