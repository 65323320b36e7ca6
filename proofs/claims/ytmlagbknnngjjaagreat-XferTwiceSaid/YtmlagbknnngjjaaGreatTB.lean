/- Part of a proof by an abstract run of the program's code: TB. No condition. -/
import Derived.Test.YtmlagbknnngjjaaGreatTA
/-! Take: the chunks that are sent now. -/
set_option linter.unusedVariables false
namespace Go.Proofs.YtmlagbknnngjjaaGreat
open Go Vm
theorem ap_own {B k s : Nat} {h : Heap} {e sz n c : Nat} {cs : List Value} (a : Ap B h e sz (some ⟨k, 0, some s⟩) n c cs) : h.get k = some (.cells e cs (.own true)) := by
  rcases a.2.2 _ rfl with e1 | ⟨k', e1, _, e3⟩
  · cases e1
  · cases e1; exact e3
theorem ap_lt {B k s : Nat} {h : Heap} {e sz n c : Nat} {cs : List Value} (a : Ap B h e sz (some ⟨k, 0, some s⟩) n c cs) : k < h.next := a.row.2.1
/-- a row that was appended to -/
def Arr (B : Nat) (h : Heap) (e sz : Nat) (ov : Option Addr) (m : Nat) (cs : List Value) : Prop := cs.length = m * sz ∧ ((m = 0 ∧ ov = none) ∨ ∃ k, ov = some ⟨k, 0, some sz⟩ ∧ B ≤ k ∧ k < h.next ∧ h.get k = some (.cells e cs (.own true)))
theorem Arr.nil (B : Nat) (h : Heap) (e sz : Nat) : Arr B h e sz none 0 [] := ⟨by simp, .inl ⟨rfl, rfl⟩⟩
theorem Arr.ap {B : Nat} {h : Heap} {e sz : Nat} {ov : Option Addr} {m : Nat} {cs : List Value} (a : Arr B h e sz ov m cs) : Ap B h e sz ov m m cs := by
  obtain ⟨hl, ⟨rfl, rfl⟩ | ⟨k, rfl, hB, hk, hg⟩⟩ := a
  · rw [Nat.zero_mul] at hl
    rw [List.length_eq_zero_iff.1 hl]; exact Ap.nil _ _ _ _
  · exact ⟨rfl, ⟨hl, hk, .inr rfl, loadN_all hg hl⟩, fun q e => by cases e; exact .inr ⟨k, rfl, hB, hg⟩⟩
theorem Arr.of {B k : Nat} {h : Heap} {e sz : Nat} {m c : Nat} {cs : List Value} (a : Ap B h e sz (some ⟨k, 0, some sz⟩) m c cs) (hB : B ≤ k) : Arr B h e sz (some ⟨k, 0, some sz⟩) m cs :=
  ⟨a.row.1, .inr ⟨k, rfl, hB, ap_lt a, ap_own a⟩⟩
theorem Arr.low {B : Nat} {h h' : Heap} {e sz : Nat} {ov : Option Addr} {m : Nat} {cs : List Value} (a : Arr B h e sz ov m cs) (hn : h.next ≤ h'.next) (hg : ∀ d, B ≤ d → d < h.next → h'.get d = h.get d) : Arr B h' e sz ov m cs :=
  ⟨a.1, a.2.imp id fun ⟨k, h1, h2, h3, h4⟩ => ⟨k, h1, h2, Nat.lt_of_lt_of_le h3 hn, (hg k h2 h3).trans h4⟩⟩
/-- octets, in a block of their own -/
def Dat (h : Heap) (k : Nat) (l : List UInt8) : Prop := k < h.next ∧ h.get k = some (.cells 5 (u8s l) (.own true))
section
variable {h : Heap} {n : Nat}
theorem w_cloneX {o : Option Addr} {c : Nat} {l : List UInt8} (hr : Row h 1 o l.length (u8s l)) (ho : l ≠ []) (hbig : l.length ≤ 1000000) (hn : 1 ≤ n) :
    ResQ (callN Tryz.prog G0 n (.call 47 [.slice o l.length c]) h) (fun v h' => ∃ k, v = .slice (some ⟨k, 0, some 1⟩) l.length l.length ∧ Keeps h h' ∧ Dat h' k l ∧ h.next ≤ k) := by
  obtain ⟨u, rfl⟩ : ∃ u, o = some u := by
    cases o with
    | none => exact absurd (List.length_eq_zero_iff.1 hr.2) ho
    | some u => exact ⟨u, rfl⟩
  obtain ⟨n, rfl⟩ : ∃ m, n = m + 1 := ⟨n - 1, by omega⟩
  refine res_enter rfl d47 rfl ?_; simp only [c47]
  refine gg ?_
  have ap : Ap h.next (h.new (.cells 5 (rep 0 [.int .u8 0]) (.own false))) 5 1 (some ⟨h.next, 0, none⟩) 0 0 [] := ⟨rfl, Row.new (by simp) rfl (.inl rfl), fun q e => .inl (by cases e; rfl)⟩
  refine i_appF (B := h.next) (m := l.length) (t := l.length) (es := u8s l) (List.length_pos_iff.2 ho) (Nat.le_succ _) (by exact sel_of rfl) ap (by rw [sel_of rfl]; exact (hr.keeps (Keeps.new h _)).src) (by show (u8s l).length = _; rw [u8s_length]; omega) (by omega) (by omega) rfl fun h' n' k' a' => ?_
  refine gg ?_
  refine ⟨_, rfl, ⟨by rw [n']; exact Nat.le_succ_of_le (Nat.le_succ _), fun d hd => ?_⟩, ⟨ap_lt a', ap_own a'⟩, Nat.le_succ _⟩
  rw [k' d (Nat.lt_succ_of_lt hd) (fun q e => .inr (by cases e; rfl)), Heap.get_new, if_neg (Nat.ne_of_lt hd)]
end
/-- an entry that flies -/
def fly (t : Int) (e : Ent) : Ent := { e with st := 1, tm := t, mi := 0, sent := e.sent + 1 }
/-- what Take leaves, and what it tells -/
def takeF (t : Int) : Nat → List Ent → List Ent × List Ent
  | _, [] => ([], [])
  | r, e :: es => if e.st = 0 then (if r < e.sz then (e :: es, []) else (fly t e :: (takeF t (r - e.sz) es).1, e :: (takeF t (r - e.sz) es).2)) else (e :: (takeF t r es).1, (takeF t r es).2)
/-- chunks, each with the block of its octets -/
def cksv (ks : List (Nat × Ck)) : List Value := ks.flatMap fun x => ckv x.2 (some ⟨x.1, 0, some 1⟩) x.2.dt.length
theorem cksv_snoc (ks : List (Nat × Ck)) (x : Nat × Ck) : cksv (ks ++ [x]) = cksv ks ++ ckv x.2 (some ⟨x.1, 0, some 1⟩) x.2.dt.length := by
  unfold cksv; rw [List.flatMap_append]; simp
theorem ckv_length (c : Ck) (o : Option Addr) (cap : Nat) : (ckv c o cap).length = 12 := rfl
theorem cksv_length (ks : List (Nat × Ck)) : (cksv ks).length = ks.length * 12 := by
  induction ks with
  | nil => rfl
  | cons x ks ih =>
    show (ckv x.2 _ _ ++ cksv ks).length = _
    rw [List.length_append, ih, ckv_length, List.length_cons]; omega
/-- while Take ranges over what waits: i entries are done, r octets may follow, ks are told -/
structure TK (h0 h : Heap) (N Qb Sb A L Q : Nat) (t : Int) (es : List Ent) (a : Fr) (i r : Nat) (ks : List (Nat × Ck)) (st : LoopState) : Prop where
  nx : h0.next ≤ h.next
  fr : ∀ d, d < h0.next → (∀ e ∈ es.take i, e.st = 0 → d ≠ e.b) → h.get d = h0.get d
  new : ∀ e ∈ es.take i, e.st = 0 → h.get e.b = some (.cells 115 (entv (fly t e)) (.own false))
  gQ : h.get Qb = some (.cells 59 [pt Q] (.own false))
  gS : h.get Sb = some (.cells 23 [.slice (some ⟨A, 0, none⟩) 1 1] (.own false))
  gA : h.get A = some (.cells 3 [nv 0] (.own false))
  gL : h.get L = some (.loop 63 [22] k57_0.1 k57_0.2 a st none)
  g4 : h.get N = some (.cells 3 [.int .i64 t] (.own false))
  g5 : h.get (N + 1) = some (.cells 3 [nv r] (.own false))
  g6 : h.get (N + 2) = some (.cells 35 [.slice none 0 0] (.own false))
  g7 : ∃ ov, h.get (N + 3) = some (.cells 35 [.slice ov ks.length ks.length] (.own false)) ∧ Arr (L + 1) h 42 12 ov ks.length (cksv ks)
  ch : ∀ x ∈ ks, L < x.1 ∧ Dat h x.1 x.2.dt
  ord : h0.next ≤ N ∧ N + 3 < Qb ∧ N + 3 < Sb ∧ N + 3 < A ∧ Qb < L ∧ Sb < L ∧ A < L ∧ L < h.next
theorem TK.set {h0 h : Heap} {N Qb Sb A L Q : Nat} {t : Int} {es : List Ent} {a : Fr} {i r : Nat} {ks : List (Nat × Ck)} {st : LoopState} (T : TK h0 h N Qb Sb A L Q t es a i r ks st) (hb : ∀ e ∈ es, e.b < h0.next) (st' : LoopState) : TK h0 (h.put L (.loop 63 [22] k57_0.1 k57_0.2 a st' none)) N Qb Sb A L Q t es a i r ks st' := by
  obtain ⟨nx, fr, new, gQ, gS, gA, gL, g4, g5, g6, ⟨ov, g7, ap⟩, ch, o1, o2, o3, o4, o5, o6, o7, o8⟩ := T
  have hg : ∀ d, d ≠ L → (h.put L (.loop 63 [22] k57_0.1 k57_0.2 a st' none)).get d = h.get d := fun d hd => by rw [Heap.get_put, if_neg hd]
  refine ⟨nx, fun d hd h2 => (hg d (by omega)).trans (fr d hd h2), fun e he h1 => (hg _ (by have := hb e (List.mem_of_mem_take he); omega)).trans (new e he h1), (hg _ (by omega)).trans gQ, (hg _ (by omega)).trans gS, (hg _ (by omega)).trans gA, by rw [Heap.get_put, if_pos rfl], (hg _ (by omega)).trans g4, (hg _ (by omega)).trans g5, (hg _ (by omega)).trans g6, ⟨ov, (hg _ (by omega)).trans g7, ap.low (Nat.le_refl _) fun d h1 _ => hg d (by omega)⟩, fun x hx => ?_, o1, o2, o3, o4, o5, o6, o7, o8⟩
  obtain ⟨h1, h2, h3⟩ := ch x hx
  exact ⟨h1, h2, (hg _ (by omega)).trans h3⟩
section
variable {h0 h : Heap} {n N Qb Sb A L Q i r : Nat} {t : Int} {es : List Ent} {a : Fr} {ks : List (Nat × Ck)}
set_option maxHeartbeats 4000000 in
theorem w_tkround {e : Ent} (T : TK h0 h N Qb Sb A L Q t es a i r ks .ready) (fr : Sl [(4, pt N), (5, pt (N + 1)), (6, pt (N + 2)), (7, pt (N + 3))] a) (hes : ∀ e ∈ es, EntOK h0 e) (hnd : (es.map Ent.b).Nodup) (hi : es[i]? = some e) (hst : e.st = 0) (hse : e.sent ≤ 1000) (hr : r ≤ 1000000000) (hks : ks.length ≤ 1024) (hn : 3 ≤ n) :
    ResQ (callN Tryz.prog G0 n (.yield L [pt e.b]) h) (fun v h' => (e.sz ≤ r ∧ v = .bool true ∧ ∃ k, TK h0 h' N Qb Sb A L Q t es a (i + 1) (r - e.sz) (ks ++ [(k, e.c)]) .ready) ∨ (r < e.sz ∧ v = .bool false ∧ ∃ h1 ov, TK h0 h1 N Qb Sb A L Q t es a i r ks .busy ∧ Arr (L + 1) h1 42 12 ov ks.length (cksv ks) ∧ h' = (h1.put (N + 2) (.cells 35 [.slice ov ks.length ks.length] (.own false))).put L (.loop 63 [22] k57_0.1 k57_0.2 a .done (some .ret)))) := by
  have hb : ∀ e ∈ es, e.b < h0.next := fun e he => (hes e he).bl
  have hem : e ∈ es := List.mem_of_getElem? hi
  have en0 := hes e hem
  have frs := fr
  obtain ⟨n, rfl⟩ : ∃ m, n = m + 1 := ⟨n - 1, by omega⟩
  refine res_yield T.gL rfl ea57_0 eb57_0 ?_
  obtain ⟨f0, hfa⟩ := fr.puts
  rw [show setAll [22] [pt e.b] a = puts [(22, pt e.b), (4, pt N), (5, pt (N + 1)), (6, pt (N + 2)), (7, pt (N + 3))] f0 by rw [hfa]; rfl]
  simp only [a57_0]
  refine gg ?_
  refine YA.mk T.gL ?_
  simp only [b57_0]
  have T0 := T
  have T := T.set hb .busy
  generalize (h.put L (.loop 63 [22] k57_0.1 k57_0.2 a .busy none)) = h1 at *
  have hne : ∀ x ∈ es.take i, x.b ≠ e.b := by
    intro x hx hxe
    obtain ⟨j, hj⟩ := List.getElem?_of_mem hx
    have hj2 : es[j]? = some x ∧ j < i := by
      rw [List.getElem?_take] at hj
      split at hj
      · exact ⟨hj, by assumption⟩
      · cases hj
    have h1 : (es.map Ent.b)[j]? = some e.b := by rw [List.getElem?_map, hj2.1]; exact congrArg some hxe
    have h2 : (es.map Ent.b)[i]? = some e.b := by rw [List.getElem?_map, hi]; rfl
    have hil : i < (es.map Ent.b).length := by rw [List.length_map]; exact (List.getElem?_eq_some_iff.1 hi).1
    have := (List.getElem?_inj hil hnd).1 (h2.trans h1.symm)
    omega
  have ge : h1.get e.b = some (.cells 115 (entv e) (.own false)) := (T.fr e.b en0.bl fun x hx _ hxe => hne x hx hxe.symm).trans en0.hb
  have gk : h1.get e.k = some (.cells 5 (u8s e.c.dt) (.own true)) := (T.fr e.k en0.kl fun x hx _ hxe => by
    have := (hes x (List.mem_of_mem_take hx)).hb
    rw [← hxe, en0.hk] at this; cases this).trans en0.hk
  have o := T.ord
  obtain ⟨o1, o2, o3, o4, o5, o6, o7, o8⟩ := o
  have hsz : e.sz ≤ 1172 := en0.le
  have gp : h1.get e.p = some (.cells 112 [.int .i64 (-1), .int .i64 (-1), .bool false] (.own false)) := (T.fr e.p en0.pl fun x hx _ hxe => by
    have := (hes x (List.mem_of_mem_take hx)).hb
    rw [← hxe, en0.hp] at this; cases this).trans en0.hp
  have hnx := T.nx
  have e_ne := en0.ne
  have hbl := en0.bl
  have hpl := en0.pl
  have hkl := en0.kl
  have en : EntOK h1 e := ⟨ge, by omega, gp, by omega, gk, by omega, en0.wf, en0.ne, en0.le⟩
  have l5 : load1 h1.get ⟨N + 1, 0, none⟩ = some (nv r) := (load1_own T.g5).trans (by rfl)
  refine gg ?_
  refine i_call1 (by exact sel_of rfl) (w_size en (by omega)) ?_
  rintro _ _ ⟨rfl, rfl⟩
  refine gg ?_
  refine i_load1 (v := nv r) (by exact sel_of rfl) l5 ?_
  refine gg ?_
  refine ⟨chk_cons (a := _) rfl (ld1 (by exact sel_of rfl) l5) (sv_int _ _) (fun m hm => by
    simp only [List.mem_cons, List.not_mem_nil, or_false] at hm
    rcases hm with rfl | rfl <;> exact ⟨_, _, rfl, ld1 (by exact sel_of rfl) l5⟩) chk_nil, ?_⟩
  obtain ⟨ov, g7, ar⟩ := T.g7
  by_cases hlt : r < e.sz
  · refine gg ?_
    refine i_load1 (v := .slice ov ks.length ks.length) (by exact sel_of rfl) ((load1_own g7).trans (by rfl)) ?_
    refine i_storeP (b := N + 2) (vs := [.slice ov ks.length ks.length]) (by exact sel_of rfl) (by rw [sel_of rfl]; rfl) T.g6 rfl rfl ?_
    refine gg ?_
    refine YB.ret (by rw [Heap.get_put, if_neg (by omega)]; exact T.gL) (.inr ⟨hlt, rfl, h1, ov, T, ar, rfl⟩)
  · refine gg ?_
    refine i_load1 (v := nv r) (by exact sel_of rfl) l5 ?_
    refine gg ?_
    refine i_call1 (by exact sel_of rfl) (w_size en (by omega)) ?_
    rintro _ _ ⟨rfl, rfl⟩
    refine gg ?_
    refine i_stB (v := nv (r - e.sz)) (by exact sel_of rfl) (by rw [sel_of rfl]; show some [_] = _; exact congrArg (fun x => some [Value.int .i64 x]) (by omega)) T.g5 (by show 0 < 1; decide) fun h2 k2 n2 g5 => ?_
    refine gg ?_
    refine ⟨chk_cons (a := _) rfl (ld1 (by exact sel_of rfl) l5) (sv_int _ _) (fun m hm => by
      simp only [List.mem_cons, List.not_mem_nil, or_false] at hm
      rcases hm with rfl | rfl <;> exact ⟨_, _, rfl, ld1 (by exact sel_of rfl) l5⟩) chk_nil, ?_⟩
    have ge2 := (k2.get e.b (by omega) (by omega)).trans ge
    have gN2 := (k2.get N (by omega) (by omega)).trans T.g4
    have l2 : load1 h2.get ⟨N, 0, none⟩ = some (.int .i64 t) := (load1_own gN2).trans (by rfl)
    refine gg ?_
    refine i_load1 (v := .int .i64 t) (by exact sel_of rfl) l2 ?_
    refine gg ?_
    refine i_stB (v := nv 1) (by exact sel_of rfl) (by rfl) ge2 (by show 13 < 17; decide) fun h3 k3 n3 g3 => ?_
    have l3 : load1 h3.get ⟨N, 0, none⟩ = some (.int .i64 t) := (load1_own ((k3.get N (by omega) (by omega)).trans gN2)).trans (by rfl)
    refine gg ?_
    refine i_stB (v := .int .i64 t) (by exact sel_of rfl) (by rw [sel_of rfl]; rfl) g3 (by show 15 < 17; decide) fun h4 k4 n4 g4 => ?_
    refine gg ?_
    refine i_stB (v := nv 0) (by exact sel_of rfl) (by rfl) g4 (by show 16 < 17; decide) fun h5 k5 n5 g5e => ?_
    refine gg ?_
    refine ⟨chk_cons (a := _) rfl (ld1 (by exact sel_of rfl) l2) (sv_int _ _) (fun m hm => by
      simp only [List.mem_cons, List.not_mem_nil, or_false] at hm
      rcases hm with rfl | rfl
      · exact ⟨_, _, rfl, ld1 (by exact sel_of rfl) l2⟩
      · exact ⟨_, _, rfl, ld1 (by exact sel_of rfl) l3⟩) chk_nil, ?_⟩
    refine gg ?_
    refine i_load1 (v := nv e.sent) (by exact sel_of rfl) ((load1_own g5e).trans (by rfl)) ?_
    refine gg ?_
    refine i_stB (v := nv (e.sent + 1)) (by exact sel_of rfl) (by rw [sel_of rfl]; rfl) g5e (by show 14 < 17; decide) fun h6 k6 n6 g6e => ?_
    have g6f : h6.get e.b = some (.cells 115 (entv (fly t e)) (.own false)) := g6e
    clear g6e g5e g4 g3 ge2 l2 l3 gN2
    have low6 : ∀ d, d < h1.next → d ≠ N + 1 → d ≠ e.b → h6.get d = h1.get d := fun d hd h7 h8 => by
      rw [k6.get d (by omega) h8, k5.get d (by omega) h8, k4.get d (by omega) h8, k3.get d (by omega) h8, k2.get d (by omega) h7]
    have g5f : h6.get (N + 1) = some (.cells 3 [nv (r - e.sz)] (.own false)) := by
      rw [k6.get _ (by omega) (by omega), k5.get _ (by omega) (by omega), k4.get _ (by omega) (by omega), k3.get _ (by omega) (by omega)]; exact g5
    have n6f : h6.next = h1.next := by omega
    clear k2 k3 k4 k5 k6 n2 n3 n4 n5 n6 g5
    refine gg ?_
    refine i_loadN (v := ckv e.c (some ⟨e.k, 0, some 1⟩) e.c.dt.length) (by exact sel_of rfl) ((loadN_of (q := ⟨e.b, 0, none⟩) g6f (by simp) (by show 0 + 12 ≤ 17; decide)).trans (by rfl)) ?_
    refine gg ?_
    obtain ⟨b1, k7, n7⟩ := box_one h6 (.cells 42 [.int .u8 0, .int .u8 0, .int .u32 0, .int .u32 0, .int .u16 0, .int .u16 0, .int .u32 0, .slice none 0 0, .slice none 0 0, .slice none 0 0, .slice none 0 0, .slice none 0 0] (.own false))
    generalize (h6.new (.cells 42 [.int .u8 0, .int .u8 0, .int .u32 0, .int .u32 0, .int .u16 0, .int .u16 0, .int .u32 0, .slice none 0 0, .slice none 0 0, .slice none 0 0, .slice none 0 0, .slice none 0 0] (.own false))) = h7 at *
    refine i_storeP (b := h6.next) (vs := ckv e.c (some ⟨e.k, 0, some 1⟩) e.c.dt.length) (by exact sel_of rfl) (by rw [sel_of rfl]; rfl) b1 rfl rfl ?_
    have b2 : (h7.put h6.next (.cells 42 (ckv e.c (some ⟨e.k, 0, some 1⟩) e.c.dt.length) (.own false))).get h6.next = some (.cells 42 (ckv e.c (some ⟨e.k, 0, some 1⟩) e.c.dt.length) (.own false)) := by rw [Heap.get_put, if_pos rfl]
    have k8 : Keeps h6 (h7.put h6.next (.cells 42 (ckv e.c (some ⟨e.k, 0, some 1⟩) e.c.dt.length) (.own false))) := k7.put (Nat.le_refl _) _
    have n8 : (h7.put h6.next (.cells 42 (ckv e.c (some ⟨e.k, 0, some 1⟩) e.c.dt.length) (.own false))).next = h6.next + 1 := n7
    clear b1 k7 n7
    generalize (h7.put h6.next (.cells 42 (ckv e.c (some ⟨e.k, 0, some 1⟩) e.c.dt.length) (.own false))) = h8 at *
    refine gg ?_
    refine i_load1 (v := .slice (some ⟨e.k, 0, some 1⟩) e.c.dt.length e.c.dt.length) (by exact sel_of rfl) ((load1_own b2).trans (by rfl)) ?_
    have gk8 : h8.get e.k = some (.cells 5 (u8s e.c.dt) (.own true)) := by
      rw [k8.get _ (by omega), low6 _ (by omega) (by omega) (fun hke => by rw [hke, ge] at gk; cases gk)]; exact gk
    refine i_call1 (by exact sel_of rfl) (w_cloneX (l := e.c.dt) (o := some ⟨e.k, 0, some 1⟩) ⟨by rw [u8s_length]; omega, by show e.k < h8.next; omega, .inr rfl, loadN_all gk8 (by rw [u8s_length]; omega)⟩ e_ne (by have : e.c.dt.length = e.sz := rfl; omega) (by omega)) ?_
    rintro _ h9 ⟨kb, rfl, k9, dt9, hkb⟩
    have n9 := k9.next
    refine gg ?_
    refine i_stB (b := h6.next) (v := .slice (some ⟨kb, 0, some 1⟩) e.c.dt.length e.c.dt.length) (by exact sel_of rfl) (by rw [sel_of rfl]; rfl) ((k9.get _ (by omega)).trans b2) (by show 11 < 12; decide) fun h10 k10 n10 g10 => ?_
    have g10 : h10.get h6.next = some (.cells 42 (ckv e.c (some ⟨kb, 0, some 1⟩) e.c.dt.length) (.own false)) := g10
    have low10 : ∀ d, d < h6.next → h10.get d = h6.get d := fun d hd => by
      rw [k10.get d (by omega) (by omega), k9.get d (by omega), k8.get d hd]
    have dt10 : Dat h10 kb e.c.dt := ⟨by have := dt9.1; omega, (k10.get _ dt9.1 (by omega)).trans dt9.2⟩
    clear k8 b2 gk8
    refine gg ?_
    refine i_load1 (v := .slice ov ks.length ks.length) (by exact sel_of rfl) ((load1_own (b := N + 3) ((low10 _ (by omega)).trans ((low6 _ (by omega) (by omega) (by omega)).trans g7))).trans (by rfl)) ?_
    refine i_loadN (v := ckv e.c (some ⟨kb, 0, some 1⟩) e.c.dt.length) (by exact sel_of rfl) (loadN_all g10 rfl) ?_
    refine i_bslice (cs := ckv e.c (some ⟨kb, 0, some 1⟩) e.c.dt.length) (by rfl) ?_
    have k11 : Keeps h10 (h10.new (.cells 42 (ckv e.c (some ⟨kb, 0, some 1⟩) e.c.dt.length) (.own false))) := Keeps.new h10 _
    have r11 : Row (h10.new (.cells 42 (ckv e.c (some ⟨kb, 0, some 1⟩) e.c.dt.length) (.own false))) 12 (some ⟨h10.next, 0, none⟩) 1 (ckv e.c (some ⟨kb, 0, some 1⟩) e.c.dt.length) := Row.new (by simp) rfl (.inl rfl)
    have n11 : (h10.new (.cells 42 (ckv e.c (some ⟨kb, 0, some 1⟩) e.c.dt.length) (.own false))).next = h10.next + 1 := rfl
    generalize (h10.new (.cells 42 (ckv e.c (some ⟨kb, 0, some 1⟩) e.c.dt.length) (.own false))) = h11 at *
    have low11 : ∀ d, d < h6.next → h11.get d = h6.get d := fun d hd => (k11.get d (by omega)).trans (low10 d hd)
    have ar11 : Arr (L + 1) h11 42 12 ov ks.length (cksv ks) := ar.low (by omega) fun d h1 h2 => (low11 d (by omega)).trans (low6 d h2 (by omega) (by omega))
    have hko : ∀ q, ov = some q → L + 1 ≤ q.block ∧ q.block < h1.next ∧ h1.get q.block = some (.cells 42 (cksv ks) (.own true)) := fun q e => by
      rcases ar.2 with ⟨_, h2⟩ | ⟨k, h2, h3, h4, h5⟩
      · rw [h2] at e; cases e
      · rw [h2] at e; cases e; exact ⟨h3, h4, h5⟩
    refine i_appF (B := L + 1) (m := 1) (t := (ks ++ [(kb, e.c)]).length) (es := cksv (ks ++ [(kb, e.c)])) (by decide) (by omega) (by exact sel_of rfl) ar11.ap (by rw [sel_of rfl]; exact r11.src) rfl (by omega) (by simp) (by rw [cksv_snoc]) fun h12 n12 e12 ap12 => ?_
    have low12 : ∀ d, d < h1.next → d ≠ N + 1 → d ≠ e.b → (∀ q, ov = some q → d ≠ q.block) → h12.get d = h1.get d := fun d hd h7 h8 h9 => by
      rw [e12 d (by omega) (fun q hq => .inl (h9 q hq)), low11 d (by omega), low6 d hd h7 h8]
    have hkl12 : ∀ d, d < L + 1 → ∀ q, ov = some q → d ≠ q.block := fun d hd q hq => by have := (hko q hq).1; omega
    have g7f := (low12 (N + 3) (by omega) (by omega) (by omega) (hkl12 _ (by omega))).trans g7
    refine i_stB (b := N + 3) (v := .slice (some ⟨h11.next, 0, some 12⟩) (ks ++ [(kb, e.c)]).length (ks ++ [(kb, e.c)]).length) (by exact sel_of rfl) (by rw [sel_of rfl]; rfl) g7f (by show 0 < 1; decide) fun h13 k13 n13 g13 => ?_
    refine gg ?_
    have low13 : ∀ d, d < h1.next → d ≠ N + 1 → d ≠ e.b → d ≠ N + 3 → (∀ q, ov = some q → d ≠ q.block) → h13.get d = h1.get d := fun d hd h7 h8 h9 h10 => by
      rw [k13.get d (by omega) h9]; exact low12 d hd h7 h8 h10
    have gL13 := (low13 L (by omega) (by omega) (by omega) (by omega) (hkl12 _ (by omega))).trans T.gL
    refine YB.go gL13 (.inl ⟨by omega, rfl, kb, ?_⟩)
    have T13 : TK h0 h13 N Qb Sb A L Q t es a (i + 1) (r - e.sz) (ks ++ [(kb, e.c)]) .busy := by
      have htk : es.take (i + 1) = es.take i ++ [e] := by rw [List.take_add_one, hi]; rfl
      refine ⟨by omega, fun d hd h2 => ?_, fun x hx hx0 => ?_, ?_, ?_, ?_, gL13, ?_, ?_, ?_, ⟨_, g13, ?_⟩, fun x hx => ?_, o1, o2, o3, o4, o5, o6, o7, by omega⟩
      · rw [htk] at h2
        rw [low13 d (by omega) (by omega) (h2 e (List.mem_append_right _ (List.mem_singleton.2 rfl)) hst) (by omega) (hkl12 _ (by omega))]
        exact T.fr d hd fun x hx => h2 x (List.mem_append_left _ hx)
      · rw [htk, List.mem_append] at hx
        rcases hx with hx | hx
        · have := hb x (List.mem_of_mem_take hx)
          rw [low13 _ (by omega) (by omega) (hne x hx) (by omega) (hkl12 _ (by omega))]
          exact T.new x hx hx0
        · simp only [List.mem_cons, List.not_mem_nil, or_false] at hx
          subst hx
          rw [k13.get _ (by omega) (by omega), e12 _ (by omega) (fun q hq => .inl (hkl12 _ (by omega) q hq)), low11 _ (by omega)]
          exact g6f
      · exact (low13 _ (by omega) (by omega) (by omega) (by omega) (hkl12 _ (by omega))).trans T.gQ
      · exact (low13 _ (by omega) (by omega) (by omega) (by omega) (hkl12 _ (by omega))).trans T.gS
      · exact (low13 _ (by omega) (by omega) (by omega) (by omega) (hkl12 _ (by omega))).trans T.gA
      · exact (low13 _ (by omega) (by omega) (by omega) (by omega) (hkl12 _ (by omega))).trans T.g4
      · rw [k13.get _ (by omega) (by omega), e12 _ (by omega) (fun q hq => .inl (hkl12 _ (by omega) q hq)), low11 _ (by omega)]
        exact g5f
      · exact (low13 _ (by omega) (by omega) (by omega) (by omega) (hkl12 _ (by omega))).trans T.g6
      · exact (Arr.of ap12 (by omega)).low (by omega) fun d h2 h3 => k13.get d h3 (by omega)
      · rw [List.mem_append] at hx
        rcases hx with hx | hx
        · obtain ⟨c1, c2, c3⟩ := T.ch x hx
          refine ⟨c1, by omega, ?_⟩
          rw [low13 _ c2 (by omega) (by omega) (by omega) (fun q hq hxe => by have := (hko q hq).2.2; rw [← hxe, c3] at this; cases this)]
          exact c3
        · simp only [List.mem_cons, List.not_mem_nil, or_false] at hx
          subst hx
          refine ⟨by show L < kb; omega, by have := dt10.1; show kb < _; omega, ?_⟩
          show h13.get kb = _
          have hd10 := dt10.1
          rw [k13.get _ (by omega) (by omega), e12 _ (by omega) (fun q hq => .inl (by have := (hko q hq).2.1; omega)), k11.get _ hd10]
          exact dt10.2
    exact T13.set hb .ready
end
end Go.Proofs.YtmlagbknnngjjaaGreat

/-! Take, whole. -/
set_option linter.unusedVariables false
namespace Go.Proofs.YtmlagbknnngjjaaGreat
open Go Vm
def flown (t : Int) (es : List Ent) (i : Nat) : List Ent := (es.take i).map fun e => if e.st = 0 then fly t e else e
theorem flown_b (t : Int) (es : List Ent) (i : Nat) : (flown t es i ++ es.drop i).map Ent.b = es.map Ent.b := by
  have : (flown t es i).map Ent.b = (es.take i).map Ent.b := by
    unfold flown
    rw [List.map_map]
    refine List.map_congr_left fun e _ => ?_
    show (if e.st = 0 then fly t e else e).b = e.b
    split <;> rfl
  rw [List.map_append, this, ← List.map_append, List.take_append_drop]
theorem flown_succ {t : Int} {es : List Ent} {i : Nat} {e : Ent} (h : es[i]? = some e) : flown t es (i + 1) = flown t es i ++ [if e.st = 0 then fly t e else e] := by
  unfold flown
  rw [List.take_add_one, h, List.map_append]; rfl
theorem drop_get {es : List Ent} {i : Nat} {e : Ent} (h : es[i]? = some e) : es.drop i = e :: es.drop (i + 1) := by
  obtain ⟨hi, rfl⟩ := List.getElem?_eq_some_iff.1 h
  exact List.drop_eq_getElem_cons hi
/-- what a range that has come to i means for the whole -/
structure TF (t : Int) (r : Nat) (es : List Ent) (i r' : Nat) (ks : List (Nat × Ck)) : Prop where
  rr : r' ≤ r
  len : ks.length ≤ i
  one : (takeF t r es).1 = flown t es i ++ (takeF t r' (es.drop i)).1
  two : (takeF t r es).2.map Ent.c = ks.map (·.2) ++ (takeF t r' (es.drop i)).2.map Ent.c
theorem TF.zero (t : Int) (r : Nat) (es : List Ent) : TF t r es 0 r [] := ⟨Nat.le_refl _, Nat.le_refl _, rfl, rfl⟩
theorem TF.skip {t : Int} {r i r' : Nat} {es : List Ent} {ks : List (Nat × Ck)} {e : Ent} (f : TF t r es i r' ks) (h : es[i]? = some e) (hs : e.st ≠ 0) : TF t r es (i + 1) r' ks := by
  obtain ⟨h1, h2, h3, h4⟩ := f
  rw [drop_get h] at h3 h4
  simp only [takeF, if_neg hs] at h3 h4
  refine ⟨h1, by omega, ?_, h4⟩
  rw [flown_succ h, if_neg hs, List.append_assoc]; exact h3
theorem TF.take {t : Int} {r i r' k : Nat} {es : List Ent} {ks : List (Nat × Ck)} {e : Ent} (f : TF t r es i r' ks) (h : es[i]? = some e) (hs : e.st = 0) (hr : e.sz ≤ r') : TF t r es (i + 1) (r' - e.sz) (ks ++ [(k, e.c)]) := by
  obtain ⟨h1, h2, h3, h4⟩ := f
  rw [drop_get h] at h3 h4
  simp only [takeF, if_pos hs, if_neg (show ¬ r' < e.sz by omega)] at h3 h4
  refine ⟨by omega, by rw [List.length_append]; show _ + 1 ≤ _; omega, ?_, ?_⟩
  · rw [flown_succ h, if_pos hs, List.append_assoc]; exact h3
  · rw [List.map_append, List.append_assoc]; exact h4
theorem TF.stop {t : Int} {r i r' : Nat} {es : List Ent} {ks : List (Nat × Ck)} {e : Ent} (f : TF t r es i r' ks) (h : es[i]? = some e) (hs : e.st = 0) (hr : r' < e.sz) : (takeF t r es).1 = flown t es i ++ es.drop i ∧ (takeF t r es).2.map Ent.c = ks.map (·.2) := by
  obtain ⟨h1, h2, h3, h4⟩ := f
  rw [drop_get h] at h3 h4
  simp only [takeF, if_pos hs, if_pos hr] at h3 h4
  exact ⟨by rw [h3, drop_get h], by rw [h4]; simp⟩
theorem TF.fin {t : Int} {r i r' : Nat} {es : List Ent} {ks : List (Nat × Ck)} (f : TF t r es i r' ks) (h : i = es.length) : (takeF t r es).1 = flown t es i ++ es.drop i ∧ (takeF t r es).2.map Ent.c = ks.map (·.2) := by
  obtain ⟨h1, h2, h3, h4⟩ := f
  have : es.drop i = [] := List.drop_eq_nil_of_le (by omega)
  rw [this] at h3 h4 ⊢
  simp only [takeF] at h3 h4
  exact ⟨h3, by rw [h4]; simp⟩
theorem que_fly {h0 h h' : Heap} {N Qb Sb A L Q i r nx : Nat} {t : Int} {es : List Ent} {a : Fr} {ks : List (Nat × Ck)} {st : LoopState} {oq : Option Addr} (x : Que h0 Q oq nx es) (T : TK h0 h N Qb Sb A L Q t es a i r ks st) (hn : h.next ≤ h'.next) (hg : ∀ d, d < h0.next → h'.get d = h.get d) : Que h' Q oq nx (flown t es i ++ es.drop i) := by
  have hnx := T.nx
  have hlen : (flown t es i ++ es.drop i).length = es.length := by
    have := congrArg List.length (flown_b t es i)
    rwa [List.length_map, List.length_map] at this
  have hsplit : es = es.take i ++ es.drop i := (List.take_append_drop i es).symm
  have hnd := x.nd
  have inj : ∀ y ∈ es, ∀ z ∈ es, y.b = z.b → y = z := by
    have : ∀ (l : List Ent), (l.map Ent.b).Nodup → ∀ y ∈ l, ∀ z ∈ l, y.b = z.b → y = z := by
      intro l
      induction l with
      | nil => intro _ y hy; cases hy
      | cons w l ih =>
        intro hn y hy z hz hyz
        rw [List.map_cons, List.nodup_cons] at hn
        rcases List.mem_cons.1 hy with hy1 | hy1 <;> rcases List.mem_cons.1 hz with hz1 | hz1
        · rw [hy1, hz1]
        · exact absurd (List.mem_map.2 ⟨z, hz1, by rw [← hyz, hy1]⟩) hn.1
        · exact absurd (List.mem_map.2 ⟨y, hy1, by rw [hyz, hz1]⟩) hn.1
        · exact ih hn.2 y hy1 z hz1 hyz
    exact this es hnd
  have dis : ∀ y ∈ es.take i, ∀ z ∈ es.drop i, y.b ≠ z.b := by
    rw [hsplit, List.map_append, List.nodup_append] at hnd
    intro y hy z hz hyz
    exact hnd.2.2 y.b (List.mem_map.2 ⟨y, hy, rfl⟩) z.b (List.mem_map.2 ⟨z, hz, rfl⟩) hyz
  have ent : ∀ d, d < h0.next → (∀ e cs, h0.get d = some (.cells e cs (.own false)) → e ≠ 115) → h'.get d = h0.get d := fun d hd hne => by
    rw [hg d hd]
    refine T.fr d hd fun e he _ hde => ?_
    have := (x.en e (List.mem_of_mem_take he)).hb
    rw [← hde] at this
    exact hne _ _ this rfl
  have dat : ∀ k l, h0.get k = some (.cells 5 l (.own true)) → k < h0.next → h'.get k = h0.get k := fun k l hk hl => ent k hl fun e cs he => by rw [hk] at he; cases he
  have pol : ∀ k l, h0.get k = some (.cells 112 l (.own false)) → k < h0.next → h'.get k = h0.get k := fun k l hk hl => ent k hl fun e cs he => by rw [hk] at he; cases he; decide
  have old : ∀ e ∈ es, (∀ y ∈ es.take i, y.st = 0 → e.b ≠ y.b) → EntOK h' e := fun e he hy => by
    have z := x.en e he
    have zb := z.bl
    have zp := z.pl
    have zk := z.kl
    exact ⟨by rw [hg _ zb, T.fr _ zb hy]; exact z.hb, by omega, by rw [pol _ _ z.hp zp]; exact z.hp, by omega, by rw [dat _ _ z.hk zk]; exact z.hk, by omega, z.wf, z.ne, z.le⟩
  have hql := x.ql
  refine ⟨?_, by omega, ?_, ?_, by rw [flown_b]; exact x.nd, by rw [hlen]; exact x.lim, x.nxl⟩
  · rw [hlen, ent Q hql fun e cs he => by rw [x.hq] at he; cases he; decide]; exact x.hq
  · rcases x.ar with ⟨rfl, h2⟩ | ⟨k, h1, h2, h3⟩
    · exact .inl ⟨by simp [flown], h2⟩
    · refine .inr ⟨k, h1, by omega, ?_⟩
      rw [ent k h2 fun e cs he => by rw [h3] at he; cases he]
      have : (flown t es i ++ es.drop i).map (fun e => pt e.b) = es.map fun e => pt e.b := by
        have := congrArg (List.map pt) (flown_b t es i)
        rw [List.map_map, List.map_map] at this; exact this
      rw [this]; exact h3
  · intro e he
    rcases List.mem_append.1 he with he | he
    · obtain ⟨y, hy, rfl⟩ := List.mem_map.1 he
      have hye := List.mem_of_mem_take hy
      by_cases h0 : y.st = 0
      · rw [if_pos h0]
        have z := x.en y hye
        have zb := z.bl
        have zp := z.pl
        have zk := z.kl
        exact ⟨by show h'.get y.b = _; rw [hg _ zb]; exact T.new y hy h0, by show y.b < _; omega, by show h'.get y.p = _; rw [pol _ _ z.hp zp]; exact z.hp, by show y.p < _; omega, by show h'.get y.k = _; rw [dat _ _ z.hk zk]; exact z.hk, by show y.k < _; omega, z.wf, z.ne, z.le⟩
      · rw [if_neg h0]
        exact old y hye fun w hw hw0 hyw => h0 (by rw [inj y hye w (List.mem_of_mem_take hw) hyw]; exact hw0)
    · exact old e (List.mem_of_mem_drop he) fun y hy _ hye => dis y hy e he hye.symm
section
variable {h0 h : Heap} {n Q nx r : Nat} {t : Int} {oq : Option Addr} {es : List Ent}
/-- Take's two ranges -/
theorem w_tl1 {a : Fr} {Qb Sb A : Nat} (x : Que h0 Q oq nx es) (k0 : Keeps h0 h) (hs : ∀ e ∈ es, e.st < 2) (gQ : h.get Qb = some (.cells 59 [pt Q] (.own false))) (gS : h.get Sb = some (.cells 23 [.slice (some ⟨A, 0, none⟩) 1 1] (.own false))) (gA : h.get A = some (.cells 3 [nv 2] (.own false))) (ord : Qb < h.next ∧ Sb < h.next ∧ A < h.next) (hn : es.length + 30 ≤ n) :
    ResQ (callN Tryz.prog G0 n (.call 104 (Value.func (.yield h.next) #[] #[] :: #[pt Qb, pt Sb].toList)) (h.new (.loop 63 [22] k57_0.1 k57_0.2 a .ready none))) (fun _ h' => h' = h.new (.loop 63 [22] k57_0.1 k57_0.2 a .ready none)) := by
  obtain ⟨o1, o2, o3⟩ := ord
  have e1 : ∀ d, d < h.next → (h.new (.loop 63 [22] k57_0.1 k57_0.2 a .ready none)).get d = h.get d := fun d hd => by rw [Heap.get_new, if_neg (by omega)]
  have k1 := k0.trans (Keeps.new h (.loop 63 [22] k57_0.1 k57_0.2 a .ready none))
  refine ResQ.mono (w_inQ (Qb := Qb) (Sb := Sb) (L := h.next) (d := 3) (ss := [2]) x (fun i h' => h' = h.new (.loop 63 [22] k57_0.1 k57_0.2 a .ready none)) (fun _ => False) (by decide) ?_ ?_ ?_ ?_ rfl (by simp only [List.length_cons, List.length_nil]; omega)) ?_
  · rintro i _ rfl
    exact ⟨⟨_, _, (e1 _ o1).trans gQ⟩, ⟨_, _, _, _, (e1 _ o2).trans gS, ⟨by simp, Nat.lt_succ_of_lt o3, .inl rfl, loadN_all ((e1 _ o3).trans gA) (by simp)⟩⟩, ⟨_, _, _, by rw [List.length_map]; exact (x.keeps k1).hq⟩, (x.keeps k1).row⟩
  · rintro i e _ rfl he
    exact ⟨_, _, _, ((x.en e (List.mem_of_getElem? he)).keeps k1).hb, rfl⟩
  · rintro i e _ rfl he hst
    rfl
  · rintro i e h' m T he hst hm
    have := hs e (List.mem_of_getElem? he)
    simp only [List.mem_cons, List.not_mem_nil, or_false] at hst
    omega
  · rintro v h' (T | hf)
    · exact T
    · exact hf.elim
theorem w_tl2 {a : Fr} {Qb Sb A N : Nat} (x : Que h0 Q oq nx es) (k0 : Keeps h0 h) (hse : ∀ e ∈ es, e.sent ≤ 1000) (hr : r ≤ 1000000000) (gQ : h.get Qb = some (.cells 59 [pt Q] (.own false))) (gS : h.get Sb = some (.cells 23 [.slice (some ⟨A, 0, none⟩) 1 1] (.own false))) (gA : h.get A = some (.cells 3 [nv 0] (.own false)))
    (g4 : h.get N = some (.cells 3 [.int .i64 t] (.own false))) (g5 : h.get (N + 1) = some (.cells 3 [nv r] (.own false))) (g6 : h.get (N + 2) = some (.cells 35 [.slice none 0 0] (.own false))) (g7 : h.get (N + 3) = some (.cells 35 [.slice none 0 0] (.own false)))
    (ord : h0.next ≤ N ∧ N + 3 < Qb ∧ N + 3 < Sb ∧ N + 3 < A ∧ Qb < h.next ∧ Sb < h.next ∧ A < h.next) (fr : Sl [(4, pt N), (5, pt (N + 1)), (6, pt (N + 2)), (7, pt (N + 3))] a) (hn : es.length + 30 ≤ n) :
    ResQ (callN Tryz.prog G0 n (.call 104 (Value.func (.yield h.next) #[] #[] :: #[pt Qb, pt Sb].toList)) (h.new (.loop 63 [22] k57_0.1 k57_0.2 a .ready none))) (fun _ h' => (∃ r' ks, TK h0 h' N Qb Sb A h.next Q t es a es.length r' ks .ready ∧ TF t r es es.length r' ks) ∨ (∃ h1 ov i r' ks e, TK h0 h1 N Qb Sb A h.next Q t es a i r' ks .busy ∧ TF t r es i r' ks ∧ es[i]? = some e ∧ e.st = 0 ∧ r' < e.sz ∧ Arr (h.next + 1) h1 42 12 ov ks.length (cksv ks) ∧ h' = (h1.put (N + 2) (.cells 35 [.slice ov ks.length ks.length] (.own false))).put h.next (.loop 63 [22] k57_0.1 k57_0.2 a .done (some .ret)))) := by
  obtain ⟨o1, o2, o3, o4, o5, o6, o7⟩ := ord
  have hk0 := k0.next
  have hlim := x.lim
  have e1 : ∀ d, d < h.next → (h.new (.loop 63 [22] k57_0.1 k57_0.2 a .ready none)).get d = h.get d := fun d hd => by rw [Heap.get_new, if_neg (by omega)]
  refine ResQ.mono (w_inQ (Qb := Qb) (Sb := Sb) (L := h.next) (d := 3) (ss := [0]) x (fun i h' => ∃ r' ks, TK h0 h' N Qb Sb A h.next Q t es a i r' ks .ready ∧ TF t r es i r' ks) (fun h' => ∃ h1 ov i r' ks e, TK h0 h1 N Qb Sb A h.next Q t es a i r' ks .busy ∧ TF t r es i r' ks ∧ es[i]? = some e ∧ e.st = 0 ∧ r' < e.sz ∧ Arr (h.next + 1) h1 42 12 ov ks.length (cksv ks) ∧ h' = (h1.put (N + 2) (.cells 35 [.slice ov ks.length ks.length] (.own false))).put h.next (.loop 63 [22] k57_0.1 k57_0.2 a .done (some .ret))) (by decide) ?_ ?_ ?_ ?_ ?_ (by simp only [List.length_cons, List.length_nil]; omega)) (fun v h' H => H)
  · rintro i h' ⟨r', ks, T, f⟩
    have oz := T.ord
    have xq := que_fly x T (Nat.le_refl _) (fun _ _ => rfl)
    have hrow := xq.row
    have hqq := xq.hq
    have hlen : (flown t es i ++ es.drop i).length = es.length := by
      have := congrArg List.length (flown_b t es i)
      rwa [List.length_map, List.length_map] at this
    rw [flown_b] at hrow
    rw [hlen] at hqq
    exact ⟨⟨_, _, T.gQ⟩, ⟨_, _, _, _, T.gS, ⟨by simp, by show A < h'.next; omega, .inl rfl, loadN_all T.gA (by simp)⟩⟩, ⟨_, _, _, by rw [List.length_map]; exact hqq⟩, hrow⟩
  · rintro i e h' ⟨r', ks, T, f⟩ he
    have hd := drop_get he
    have hem : e ∈ es := List.mem_of_getElem? he
    have xq := que_fly x T (Nat.le_refl _) (fun _ _ => rfl)
    exact ⟨_, _, _, (xq.en e (List.mem_append_right _ (by rw [hd]; exact List.mem_cons_self ..))).hb, rfl⟩
  · rintro i e h' ⟨r', ks, T, f⟩ he hst
    simp only [List.mem_cons, List.not_mem_nil, or_false] at hst
    have htk : es.take (i + 1) = es.take i ++ [e] := by rw [List.take_add_one, he]; rfl
    refine ⟨r', ks, ?_, f.skip he hst⟩
    obtain ⟨nx', fr', new, gQ', gS', gA', gL', g4', g5', g6', g7', ch', ord'⟩ := T
    refine ⟨nx', fun d hd h2 => fr' d hd fun y hy => h2 y (by rw [htk]; exact List.mem_append_left _ hy), fun y hy h2 => ?_, gQ', gS', gA', gL', g4', g5', g6', g7', ch', ord'⟩
    rw [htk, List.mem_append] at hy
    rcases hy with hy | hy
    · exact new y hy h2
    · simp only [List.mem_cons, List.not_mem_nil, or_false] at hy
      subst hy; exact absurd h2 hst
  · rintro i e h' m ⟨r', ks, T, f⟩ he hst hm
    simp only [List.mem_cons, List.not_mem_nil, or_false] at hst
    have hil : i < es.length := (List.getElem?_eq_some_iff.1 he).1
    refine (w_tkround T fr x.en x.nd he hst (hse e (List.mem_of_getElem? he)) (by have := f.rr; omega) (by have := f.len; omega) (by omega)).mono ?_
    rintro v h'' (⟨hle, rfl, k, T'⟩ | ⟨hlt, rfl, h1, ov, T', ar, rfl⟩)
    · exact .inl ⟨rfl, _, _, T', f.take he hst hle⟩
    · exact .inr ⟨rfl, h1, ov, i, r', ks, e, T', f, he, hst, hlt, ar, rfl⟩
  · exact ⟨r, [], ⟨by show h0.next ≤ h.next + 1; omega, fun d hd _ => (e1 d (by omega)).trans (k0.get d hd), fun e he => absurd he (by simp), (e1 _ o5).trans gQ, (e1 _ o6).trans gS, (e1 _ o7).trans gA, by rw [Heap.get_new, if_pos rfl], (e1 _ (by omega)).trans g4, (e1 _ (by omega)).trans g5, (e1 _ (by omega)).trans g6, ⟨none, (e1 _ (by omega)).trans g7, Arr.nil _ _ _ _⟩, fun y hy => absurd hy (by simp), o1, o2, o3, o4, o5, o6, o7, Nat.lt_succ_self _⟩, TF.zero t r es⟩
end
end Go.Proofs.YtmlagbknnngjjaaGreat

/-! Take, whole: its contract. -/
set_option linter.unusedVariables false
namespace Go.Proofs.YtmlagbknnngjjaaGreat
open Go Vm
theorem finO1 {x1 : Sel} {a : Fr} {h : Heap} {u1 : Addr} {v1 : Value} {R : Value → Heap → Prop} (h1 : x1.f a = .pointer (some u1)) (l1 : load1 h.get u1 = some v1) (hr : R v1 h) : Fin [.one x1] R .ret a h :=
  ⟨.inr rfl, [v1], _, by simp only [rvs, rv, h1, l1], .inl rfl, hr⟩
theorem rg_ret {L nt : Nat} {ps : List Tmp} {s b : Code} {a a' : Fr} {Q : Ex → Fr → Heap → Prop} {h' : Heap} (hg : h'.get L = some (.loop nt ps s b a' .done (some .ret))) (Z : Heap → Prop) (hz : ∀ B, Z (h'.put L B)) (hq : ∀ h2, Z h2 → Q .ret a h2) : RgQ L nt ps s b a Q h' := RgQ.ret hg (hq _ (hz _))
/-- what Take leaves and tells -/
structure FN (h h' : Heap) (Q nx : Nat) (oq : Option Addr) (t : Int) (r : Nat) (es : List Ent) (ov : Option Addr) (ks : List (Nat × Ck)) : Prop where
  que : ∀ h2 : Heap, h'.next ≤ h2.next → (∀ d, d < h.next → h2.get d = h'.get d) → Que h2 Q oq nx (takeF t r es).1
  two : (takeF t r es).2.map Ent.c = ks.map (·.2)
  nxt : h.next ≤ h'.next
  low : ∀ d, d < h.next → d ∉ es.map Ent.b → h'.get d = h.get d
  ch : ∀ x ∈ ks, h.next ≤ x.1 ∧ Dat h' x.1 x.2.dt
  ar : Arr h.next h' 42 12 ov ks.length (cksv ks)
section
variable {h0 h : Heap} {n Q nx r N : Nat} {t : Int} {oq : Option Addr} {es : List Ent}
/-- Take's own cells, ahead of its ranges -/
structure TZ (h0 h : Heap) (N : Nat) (t : Int) (r : Nat) : Prop where
  keep : Keeps h0 h
  g4 : h.get N = some (.cells 3 [.int .i64 t] (.own false))
  g5 : h.get (N + 1) = some (.cells 3 [nv r] (.own false))
  g6 : h.get (N + 2) = some (.cells 35 [.slice none 0 0] (.own false))
  g7 : h.get (N + 3) = some (.cells 35 [.slice none 0 0] (.own false))
  gS : h.get (N + 4) = some (.cells 3 [nv 2, nv 0] (.own false))
  ord : h0.next ≤ N ∧ N + 4 < h.next
theorem TZ.keeps {h' : Heap} (z : TZ h0 h N t r) (k : Keeps h h') : TZ h0 h' N t r := by
  obtain ⟨keep, g4, g5, g6, g7, gS, o1, o2⟩ := z
  have := k.next
  exact ⟨keep.trans k, (k.get _ (by omega)).trans g4, (k.get _ (by omega)).trans g5, (k.get _ (by omega)).trans g6, (k.get _ (by omega)).trans g7, (k.get _ (by omega)).trans gS, o1, by omega⟩
theorem FN.set {h' : Heap} {ov : Option Addr} {ks : List (Nat × Ck)} {d ty : Nat} {cs : List Value} (f : FN h h' Q nx oq t r es ov ks) (hd : h.next ≤ d) (hg : h'.get d = some (.cells ty cs (.own false))) (B : Blk) : FN h (h'.put d B) Q nx oq t r es ov ks := by
  have e : ∀ c, c ≠ d → (h'.put d B).get c = h'.get c := fun c hc => by rw [Heap.get_put, if_neg hc]
  refine ⟨fun h2 hn2 hg2 => f.que h2 hn2 fun c hc => (hg2 c hc).trans (e c (by omega)), f.two, f.nxt, fun c hc hm => (e c (by omega)).trans (f.low c hc hm), fun y hy => ?_, ?_⟩
  · obtain ⟨c1, c2, c3⟩ := f.ch y hy
    exact ⟨c1, c2, (e _ fun hc => by rw [hc, hg] at c3; cases c3).trans c3⟩
  · exact ⟨f.ar.1, f.ar.2.imp id fun ⟨k, h2, h3, h4, h7⟩ => ⟨k, h2, h3, h4, (e k fun hc => by rw [hc, hg] at h7; cases h7).trans h7⟩⟩
/-- from the end of a range to the end of Take -/
theorem fn_of {h1 h' : Heap} {Qb Sb A L i r' : Nat} {a : Fr} {ks : List (Nat × Ck)} {st : LoopState} {ov : Option Addr} (x : Que h0 Q oq nx es) (hN : N = h0.next) (T : TK h0 h1 N Qb Sb A L Q t es a i r' ks st) (e1 : (takeF t r es).1 = flown t es i ++ es.drop i) (e2 : (takeF t r es).2.map Ent.c = ks.map (·.2)) (ar : Arr (L + 1) h1 42 12 ov ks.length (cksv ks)) (hn : h1.next ≤ h'.next) (hg : ∀ d, d < h1.next → d ≠ N + 2 → d ≠ L → h'.get d = h1.get d) : FN h0 h' Q nx oq t r es ov ks := by
  have o := T.ord
  refine ⟨?_, e2, by have := T.nx; omega, fun d hd hm => ?_, fun y hy => ?_, ?_⟩
  · intro h2 hn2 hg2
    have := T.nx
    rw [e1]; exact que_fly x T (Nat.le_trans hn hn2) fun d hd => (hg2 d hd).trans (hg d (by omega) (by omega) (by omega))
  · rw [hg d (by omega) (by omega) (by omega)]
    exact T.fr d hd fun e he _ hde => hm (List.mem_map.2 ⟨e, List.mem_of_mem_take he, hde.symm⟩)
  · obtain ⟨c1, c2, c3⟩ := T.ch y hy
    exact ⟨by omega, by omega, (hg _ c2 (by omega) (by omega)).trans c3⟩
  · exact ⟨ar.1, ar.2.imp id fun ⟨k, h2, h3, h4, h5⟩ => ⟨k, h2, by omega, by omega, (hg k h4 (by omega) (by omega)).trans h5⟩⟩
set_option maxHeartbeats 2000000 in
theorem w_take (x : Que h Q oq nx es) (hs : ∀ e ∈ es, e.st < 2) (hse : ∀ e ∈ es, e.sent ≤ 1000) (hr : r ≤ 1000000000) (hn : es.length + 60 ≤ n) :
    ResQ (callN Tryz.prog G0 n (.call 57 [pt Q, .int .i64 t, nv r]) h) (fun v h' => ∃ ov ks, v = .slice ov ks.length ks.length ∧ FN h h' Q nx oq t r es ov ks) := by
  have hlim := x.lim
  obtain ⟨n, rfl⟩ : ∃ m, n = m + 1 := ⟨n - 1, by omega⟩
  refine res_enter rfl d57 rfl ?_; simp only [c57]
  refine gg ?_
  have z : TZ h (((((h.new (.cells 3 [.int .i64 t] (.own false))).new (.cells 3 [nv r] (.own false))).new (.cells 35 [.slice none 0 0] (.own false))).new (.cells 35 [.slice none 0 0] (.own false))).new (.cells 3 [nv 2, nv 0] (.own false))) h.next t r := by
    refine ⟨((((Keeps.new _ _).trans (Keeps.new _ _)).trans (Keeps.new _ _)).trans (Keeps.new _ _)).trans (Keeps.new _ _), ?_, ?_, ?_, ?_, ?_, Nat.le_refl _, Nat.lt_succ_self _⟩
    · rw [Heap.get_new, if_neg (by show h.next ≠ h.next + 4; omega), Heap.get_new, if_neg (by show h.next ≠ h.next + 3; omega), Heap.get_new, if_neg (by show h.next ≠ h.next + 2; omega), Heap.get_new, if_neg (by show h.next ≠ h.next + 1; omega)]; exact (Heap.get_new _ _ _).trans (if_pos rfl)
    · rw [Heap.get_new, if_neg (by show h.next + 1 ≠ h.next + 4; omega), Heap.get_new, if_neg (by show h.next + 1 ≠ h.next + 3; omega), Heap.get_new, if_neg (by show h.next + 1 ≠ h.next + 2; omega)]; exact (Heap.get_new _ _ _).trans (if_pos rfl)
    · rw [Heap.get_new, if_neg (by show h.next + 2 ≠ h.next + 4; omega), Heap.get_new, if_neg (by show h.next + 2 ≠ h.next + 3; omega)]; exact (Heap.get_new _ _ _).trans (if_pos rfl)
    · rw [Heap.get_new, if_neg (by show h.next + 3 ≠ h.next + 4; omega)]; exact (Heap.get_new _ _ _).trans (if_pos rfl)
    · exact (Heap.get_new _ _ _).trans (if_pos rfl)
  have row : ∀ h', TZ h h' h.next t r → Row h' 1 (some ⟨h.next + 4, 0, none⟩) 2 [nv 2, nv 0] := fun h' z => ⟨rfl, z.ord.2, .inl rfl, loadN_all z.gS rfl⟩
  refine o_up 2 (fun i f h' => ((i ≤ 1 ∧ TZ h h' h.next t r) ∨ (i = 2 ∧ ∃ ov ks, FN h h' Q nx oq t r es ov ks ∧ (∃ c, h'.get (h.next + 2) = some (.cells 35 [c] (.own false))) ∧ h'.get (h.next + 3) = some (.cells 35 [.slice ov ks.length ks.length] (.own false)))) ∧ Sl [(14, nv i), (13, nv 2), (12, .slice (some ⟨h.next + 4, 0, none⟩) 2 2), (0, pt Q), (4, pt h.next), (5, pt (h.next + 1)), (6, pt (h.next + 2)), (7, pt (h.next + 3))] f) (by omega) ⟨.inl ⟨by omega, z⟩, sel_of rfl, sel_of rfl, sel_of rfl, sel_of rfl, sel_of rfl, sel_of rfl, sel_of rfl, sel_of rfl, trivial⟩ ?_
  clear z
  rintro i f h1 hi ⟨hJ, hsl⟩
  obtain ⟨f0, rfl⟩ := hsl.puts
  clear hsl
  simp only [c57_1]
  refine gg ?_
  rcases hJ with ⟨hi1, z⟩ | ⟨rfl, ov, ks, F, ⟨c6, g6⟩, g7⟩
  rotate_left
  · refine gg ?_
    refine i_load1 (v := .slice ov ks.length ks.length) (by exact sel_of rfl) ((load1_own g7).trans (by rfl)) ?_
    refine i_storeP (b := h.next + 2) (vs := [.slice ov ks.length ks.length]) (by exact sel_of rfl) (by rw [sel_of rfl]; rfl) g6 rfl rfl ?_
    refine gg ?_
    refine finO1 (v1 := .slice ov ks.length ks.length) (by exact sel_of rfl) ((load1_own (b := h.next + 2) (by rw [Heap.get_put, if_pos rfl])).trans (by rfl)) ⟨ov, ks, rfl, ?_⟩
    exact F.set (by omega) g6 _
  · have hi2 : i < 2 := by omega
    have hzo := z.ord
    refine gg ?_
    refine i_idx (by exact sel_of rfl) (row h1 z) (i := i) (by exact sel_of rfl) hi2 fun q hq => ?_
    cases hq
    refine i_load1 (v := nv (if i = 0 then 2 else 0)) (by exact sel_of rfl) ?_ ?_
    · rw [Nat.mul_one, (row h1 z).cell (i := i) (by omega)]
      rcases (show i = 0 ∨ i = 1 by omega) with rfl | rfl <;> rfl
    refine gg ?_
    obtain ⟨a1, k1, n1⟩ := box_one h1 (.cells 3 [nv (if i = 0 then 2 else 0)] (.own false))
    refine i_call2 (by exact sel_of rfl) (by exact sel_of rfl) (w_in (by omega)) ?_
    rintro _ _ ⟨rfl, rfl⟩
    change ItQ (runItems _ _ _ (((h1.new (.cells 3 [nv (if i = 0 then 2 else 0)] (.own false))).new (.cells 59 [pt Q] (.own false))).new (.cells 23 [.slice (some ⟨h1.next, 0, none⟩) 1 1] (.own false)))) _
    generalize (h1.new (.cells 3 [nv (if i = 0 then 2 else 0)] (.own false))) = g1 at *
    obtain ⟨b1, c1, kk1, nn1⟩ := box_two g1 (.cells 59 [pt Q] (.own false)) (.cells 23 [.slice (some ⟨h1.next, 0, none⟩) 1 1] (.own false))
    generalize ((g1.new (.cells 59 [pt Q] (.own false))).new (.cells 23 [.slice (some ⟨h1.next, 0, none⟩) 1 1] (.own false))) = f1 at *
    rw [n1] at b1 c1
    refine gg ?_
    refine o_brangeX (P := Tryz.prog) (by exact sel_of rfl) ?_
    have z1 := z.keeps (k1.trans kk1)
    clear z
    have a2 := (kk1.get _ (by omega)).trans a1
    by_cases h0 : i = 0
    · subst h0
      refine (w_tl1 (n := n) (Qb := h1.next + 1) (Sb := h1.next + 1 + 1) x z1.keep hs b1 c1 a2 ⟨by omega, by omega, by omega⟩ (by omega)).mono ?_
      rintro v h2 rfl
      refine rg_none (by rw [Heap.get_new, if_pos rfl]) (fun h2 => TZ h h2 h.next t r) (fun B => z1.keeps ((Keeps.new f1 _).put (Nat.le_refl _) B)) fun h3 z3 => blo_n ?_
      refine gg ?_
      refine rnd_up (by omega) ⟨.inl ⟨by omega, z3⟩, sel_of rfl, sel_of rfl, sel_of rfl, sel_of rfl, sel_of rfl, sel_of rfl, sel_of rfl, sel_of rfl, trivial⟩
    · have hi1' : i = 1 := by omega
      subst hi1'
      refine (w_tl2 (n := n) (N := h.next) (Qb := h1.next + 1) (Sb := h1.next + 1 + 1) x z1.keep hse hr b1 c1 a2 z1.g4 z1.g5 z1.g6 z1.g7 ⟨by omega, by omega, by omega, by omega, by omega, by omega, by omega⟩ ⟨by exact sel_of rfl, by exact sel_of rfl, by exact sel_of rfl, by exact sel_of rfl, trivial⟩ (by omega)).mono ?_
      rintro v h2 (⟨r', ks, T, f⟩ | ⟨h3, ov, i, r', ks, e, T, f, he, hst, hlt, ar, rfl⟩)
      · obtain ⟨e1, e2⟩ := f.fin rfl
        obtain ⟨ov, g7, ar⟩ := T.g7
        have oz := T.ord
        refine rg_none T.gL (fun h4 => FN h h4 Q nx oq t r es ov ks ∧ h4.get (h.next + 2) = some (.cells 35 [.slice none 0 0] (.own false)) ∧ h4.get (h.next + 3) = some (.cells 35 [.slice ov ks.length ks.length] (.own false))) (fun B => ⟨fn_of x rfl T e1 e2 ar (Nat.le_refl _) (fun d _ _ hd => by rw [Heap.get_put, if_neg hd]), by rw [Heap.get_put, if_neg (by omega)]; exact T.g6, by rw [Heap.get_put, if_neg (by omega)]; exact g7⟩) fun h4 z4 => blo_n ?_
        obtain ⟨F, g6, g7⟩ := z4
        refine gg ?_
        refine rnd_up (by omega) ⟨.inr ⟨rfl, ov, ks, F, ⟨_, g6⟩, g7⟩, sel_of rfl, sel_of rfl, sel_of rfl, sel_of rfl, sel_of rfl, sel_of rfl, sel_of rfl, sel_of rfl, trivial⟩
      · obtain ⟨e1, e2⟩ := f.stop he hst hlt
        have oz := T.ord
        refine rg_ret (by rw [Heap.get_put, if_pos rfl]) (fun h4 => FN h h4 Q nx oq t r es ov ks ∧ h4.get (h.next + 2) = some (.cells 35 [.slice ov ks.length ks.length] (.own false))) (fun B => ⟨fn_of x rfl T e1 e2 ar (Nat.le_refl _) (fun d _ h5 h6 => by rw [Heap.get_put, if_neg h6, Heap.get_put, if_neg h6, Heap.get_put, if_neg h5]), by rw [Heap.get_put, if_neg (by omega), Heap.get_put, if_neg (by omega), Heap.get_put, if_pos rfl]⟩) fun h4 z4 => blo_r ?_
        obtain ⟨F, g6⟩ := z4
        refine gg ?_
        exact finO1 (v1 := .slice ov ks.length ks.length) (by exact sel_of rfl) ((load1_own g6).trans (by rfl)) ⟨ov, ks, rfl, F⟩
end
end Go.Proofs.YtmlagbknnngjjaaGreat

/-! What an End sends: skips, start, send. -/
set_option linter.unusedVariables false
namespace Go.Proofs.YtmlagbknnngjjaaGreat
open Go Vm
section
variable {rec : Rec} {L : List (Nat × Value)} {f : Fr} {h : Heap} {K : Fr → Heap → Prop} {x y : Sel} {l : List ISem} {b e n : Nat} {s : Option Nat} {cs vs : List Value} {op : Bool}
theorem i_storeG {off : Nat} (hx : x.f (puts L f) = .pointer (some ⟨b, off, s⟩)) (hy : cellsL (y.f (puts L f)) = some vs) (hg : h.get b = some (.cells e cs (.own op))) (hv : vs.length = n) (hl : off + vs.length ≤ cs.length)
    (hq : ItQ (runItems rec l (puts L f) (h.put b (.cells e (putAt cs off vs) (.own op)))) K) : ItQ (runItems rec (iOp ⟨fun _ a => a⟩ (.e (eStore n x y)) :: l) (puts L f) h) K := by
  refine items_cons (it_e ⟨Vm.undef, h.put b (.cells e (putAt cs off vs) (.own op)), ?_, hq⟩)
  have h1 := storeN_own (s := s) (off := off) (vs := vs) hg hl
  simp only [eStore, hx, hy]
  rw [h1, hv, Nat.beq_refl]; rfl
theorem i_appX {dt sz by_ m : Nat} {ds : List Value} (hx : x.f (puts L f) = .slice none 0 0) (hy : srcCells h.get sz (y.f (puts L f)) = some (m, ds)) (hd : ds.length = m * sz) (hbig : m * by_ ≤ 140737488355328)
    (hq : ∀ ov h', Keeps h h' → Arr h.next h' e sz ov m ds → ItQ (runItems rec l (puts ((dt, .slice ov m m) :: L) f) h') K) : ItQ (runItems rec (iOp (put dt) (.e (eAppend e sz by_ x y)) :: l) (puts L f) h) K := by
  cases m with
  | zero =>
    refine items_cons (it_e ⟨_, h, ?_, hq none h (Keeps.refl h) ⟨hd, .inl ⟨rfl, rfl⟩⟩⟩)
    simp only [eAppend, hx, hy]
    rw [Nat.zero_add, Nat.zero_mul]; rfl
  | succ m =>
    refine i_appF (B := h.next) (m := m + 1) (t := m + 1) (es := ds) (Nat.succ_pos _) (Nat.le_refl _) hx (Ap.nil _ _ _ _) hy hd (by rw [Nat.zero_add]; exact hbig) (by omega) rfl fun h' n' k' a' => ?_
    exact hq _ _ ⟨by omega, fun d hd => k' d hd fun q e => by cases e⟩ (Arr.of a' (Nat.le_refl _))
end
theorem sv_pt (b : Nat) : sameV (pt b) (pt b) = true := by
  show (bif eqA (⟨b, 0, none⟩ : Addr) ⟨b, 0, none⟩ then ((none : Option Nat) == none) else false) = true
  have : eqA (⟨b, 0, none⟩ : Addr) ⟨b, 0, none⟩ = true := by simp [eqA]
  rw [this]; rfl
theorem Arr.row {B : Nat} {h : Heap} {e sz : Nat} {ov : Option Addr} {m : Nat} {cs : List Value} (a : Arr B h e sz ov m cs) : Row h sz ov m cs := a.ap.row
/-- another block than the queue's own -/
theorem Que.but {h h' : Heap} {Q nx X : Nat} {oq : Option Addr} {es : List Ent} {cs : List Value} {op : Bool} (x : Que h Q oq nx es) (hX : h.get X = some (.cells 79 cs (.own op))) (hn : h.next ≤ h'.next) (hg : ∀ d, d < h.next → d ≠ X → h'.get d = h.get d) : Que h' Q oq nx es := by
  have hql := x.ql
  refine ⟨(hg Q hql fun e => by rw [e] at x; have := x.hq; rw [hX] at this; cases this).trans x.hq, by omega, x.ar.imp id fun ⟨k, h1, h2, h3⟩ => ⟨k, h1, by omega, (hg k h2 fun e => by rw [e, hX] at h3; cases h3).trans h3⟩, fun e he => ?_, x.nd, x.lim, x.nxl⟩
  have z := x.en e he
  have zb := z.bl
  have zp := z.pl
  have zk := z.kl
  exact ⟨(hg _ zb fun e1 => by have := z.hb; rw [e1, hX] at this; cases this).trans z.hb, by omega, (hg _ zp fun e1 => by have := z.hp; rw [e1, hX] at this; cases this).trans z.hp, by omega, (hg _ zk fun e1 => by have := z.hk; rw [e1, hX] at this; cases this).trans z.hk, by omega, z.wf, z.ne, z.le⟩
/-- what send reads of an End -/
structure SdV (cs : List Value) (Q cw mt w : Nat) (pe : Int) (ru sk : Bool) : Prop where
  len : cs.length = 21
  c0 : cs[0]? = some (pt Q)
  cw : (cs.drop 1).take 6 = wayv cw mt
  c9 : cs[9]? = some (nv w)
  c11 : cs[11]? = some (.int .i64 pe)
  c13 : cs[13]? = some (.bool ru)
def alarmed (cs : List Value) (b ru : Bool) (t : Int) (w : Nat) : List Value := if b && !ru then putAt cs 13 [.bool true, .int .i64 (t + w)] else cs
/-- what send leaves and tells -/
structure FX (h h' : Heap) (X : Nat) (cs : List Value) (Q nx : Nat) (oq : Option Addr) (t : Int) (r w : Nat) (ru : Bool) (es : List Ent) (ov : Option Addr) (ks : List (Nat × Ck)) : Prop where
  que : Que h' Q oq nx (takeF t r es).1
  two : (takeF t r es).2.map Ent.c = ks.map (·.2)
  nxt : h.next ≤ h'.next
  low : ∀ d, d < h.next → d ∉ es.map Ent.b → d ≠ X → h'.get d = h.get d
  ch : ∀ x ∈ ks, h.next ≤ x.1 ∧ Dat h' x.1 x.2.dt
  ar : Arr h.next h' 42 12 ov ks.length (cksv ks)
  gX : h'.get X = some (.cells 79 (alarmed cs (decide (0 < ks.length ∨ 0 < octs [1] (takeF t r es).1)) ru t w) (.own false))
theorem takeF_len (t : Int) : ∀ (es : List Ent) (r : Nat), (takeF t r es).1.length = es.length ∧ (takeF t r es).2.length ≤ es.length
  | [], _ => ⟨rfl, Nat.le_refl _⟩
  | e :: es, r => by
    unfold takeF
    by_cases h1 : e.st = 0
    · rw [if_pos h1]
      by_cases h2 : r < e.sz
      · rw [if_pos h2]; exact ⟨rfl, Nat.zero_le _⟩
      · rw [if_neg h2]
        have := takeF_len t es (r - e.sz)
        exact ⟨congrArg (· + 1) this.1, Nat.succ_le_succ this.2⟩
    · rw [if_neg h1]
      have := takeF_len t es r
      exact ⟨congrArg (· + 1) this.1, Nat.le_succ_of_le this.2⟩
section
variable {h : Heap} {n Q nx X : Nat} {t : Int} {oq : Option Addr} {es : List Ent} {cs : List Value} {cw mt w : Nat} {pe : Int} {ru sk : Bool}
theorem w_skips (x : Que h Q oq nx es) (hX : h.get X = some (.cells 79 cs (.own false))) (v : SdV cs Q cw mt w pe ru sk) (hs : ∀ e, es.head? = some e → e.st < 3) (hn : es.length + 40 ≤ n) :
    ResQ (callN Tryz.prog G0 n (.call 55 [pt X]) h) (fun v h' => v = .slice none 0 0 ∧ h = h') := by
  obtain ⟨n, rfl⟩ : ∃ m, n = m + 1 := ⟨n - 1, by omega⟩
  refine res_enter rfl d55 rfl ?_; simp only [c55]
  refine gg ?_
  refine i_load1 (v := pt Q) (by exact sel_of rfl) ((load1_own hX).trans v.c0) ?_
  refine i_call1 (by exact sel_of rfl) (w_qfwd x hs (by omega)) ?_
  rintro _ _ ⟨⟨fl, rfl⟩, rfl⟩
  refine gg ?_
  exact ⟨rfl, rfl⟩
theorem w_startA (hX : h.get X = some (.cells 79 cs (.own false))) (v : SdV cs Q cw mt w pe ru sk) (ht : 0 ≤ t ∧ t ≤ 1099511627776) (hw : w ≤ 100000) (hn : 1 ≤ n) :
    ResQ (callN Tryz.prog G0 n (.call 59 [pt X, .int .i64 t]) h) (fun _ h' => h' = h.put X (.cells 79 (putAt cs 13 [.bool true, .int .i64 (t + w)]) (.own false))) := by
  obtain ⟨n, rfl⟩ : ∃ m, n = m + 1 := ⟨n - 1, by omega⟩
  refine res_enter rfl d59 rfl ?_; simp only [c59]
  refine gg ?_
  refine i_load1 (v := nv w) (by exact sel_of rfl) ((load1_own hX).trans v.c9) ?_
  refine gg ?_
  refine i_storeG (b := X) (off := 0 + 13) (vs := [.bool true, .int .i64 (t + w)]) (by exact sel_of rfl) (by rw [sel_of rfl]; rfl) hX rfl (by rw [v.len]; show 15 ≤ 21; decide) ?_
  refine gg ?_
  rfl
set_option maxHeartbeats 2000000 in
theorem w_send (x : Que h Q oq nx es) (hX : h.get X = some (.cells 79 cs (.own false))) (hXl : X < h.next) (v : SdV cs Q cw mt w pe ru sk) (hs : ∀ e ∈ es, e.st < 2) (hse : ∀ e ∈ es, e.sent ≤ 1000) (ht : 0 ≤ t ∧ t ≤ 1099511627776) (hw : w ≤ 100000) (h1 : 1 ≤ mt) (h2 : mt ≤ 65536) (h3 : mt ≤ cw) (h4 : cw ≤ 1000000) (hp : 0 ≤ pe ∧ pe ≤ 4294967296) (hn : es.length + 100 ≤ n) :
    ResQ (callN Tryz.prog G0 n (.call 33 [pt X, .int .i64 t]) h) (fun v h' => ∃ ov ks, v = .slice ov ks.length ks.length ∧ FX h h' X cs Q nx oq t (roomN cw mt (octs [1] es) (pe.toNat - octs [1] es)) w ru es ov ks) := by
  have hlim := x.lim
  have hh : ∀ e, es.head? = some e → e.st < 3 := fun e he => by
    cases es with
    | nil => cases he
    | cons y es => cases he; have := hs e (List.mem_cons_self ..); omega
  have hfl := octs_le [1] es x.en
  have hXe : X ∉ es.map Ent.b := fun hm => by
    obtain ⟨e, he, heX⟩ := List.mem_map.1 hm
    have := (x.en e he).hb
    rw [heX, hX] at this; cases this
  obtain ⟨n, rfl⟩ : ∃ m, n = m + 1 := ⟨n - 1, by omega⟩
  refine res_enter rfl d33 rfl ?_; simp only [c33]
  refine gg ?_
  refine i_load1 (v := pt Q) (by exact sel_of rfl) ((load1_own hX).trans v.c0) ?_
  refine gg ?_
  refine i_call2 (by exact sel_of rfl) (by exact sel_of rfl) (w_expire x (by omega)) ?_
  intro _ ha ka
  have xa := x.keeps ka
  have hXa := (ka.get _ hXl).trans hX
  refine gg ?_
  refine i_call1 (by exact sel_of rfl) (w_skips xa hXa v hh (by omega)) ?_
  rintro _ _ ⟨rfl, rfl⟩
  refine gg ?_
  refine i_load1 (v := pt Q) (by exact sel_of rfl) ((load1_own hXa).trans v.c0) ?_
  refine i_call1 (by exact sel_of rfl) (w_flying xa (by omega)) ?_
  rintro _ hb ⟨rfl, kb⟩
  have xb := xa.keeps kb
  have hnb := kb.next
  have hna := ka.next
  have hXb := (kb.get _ (by omega)).trans hXa
  have l0 : load1 hb.get ⟨X, 0 + 0, none⟩ = some (pt Q) := (load1_own hXb).trans v.c0
  refine gg ?_
  refine i_load1 (v := pt Q) (by exact sel_of rfl) l0 ?_
  refine gg ?_
  refine i_loadN (v := wayv cw mt) (by exact sel_of rfl) ((loadN_of (q := ⟨X, 0 + 1, none⟩) hXb (by simp) (by rw [v.len]; show 7 ≤ 21; decide)).trans (congrArg some v.cw)) ?_
  refine gg ?_
  refine i_load1 (v := .int .i64 pe) (by exact sel_of rfl) ((load1_own hXb).trans v.c11) ?_
  refine gg ?_
  refine i_maxZ (t := ((pe.toNat - octs [1] es : Nat) : Int)) (by exact const_of) (by exact sel_of rfl) (by omega) ?_
  refine gg ?_
  refine i_call3 (by exact sel_of rfl) (by exact sel_of rfl) (by exact sel_of rfl) (w_room h1 h2 h3 (by omega) (by omega) (by omega)) ?_
  rintro _ hc ⟨rfl, kc⟩
  have hroom : roomN cw mt (octs [1] es) (pe.toNat - octs [1] es) ≤ 1000000000 := by unfold roomN; split <;> omega
  generalize roomN cw mt (octs [1] es) (pe.toNat - octs [1] es) = r at *
  have xc := xb.keeps kc
  have hnc := kc.next
  have hXc := (kc.get _ (by omega)).trans hXb
  refine gg ?_
  refine i_call3 (by exact sel_of rfl) (by exact sel_of rfl) (by exact sel_of rfl) (w_take xc hs hse hroom (by omega)) ?_
  rintro _ hd ⟨ov, ks, rfl, F⟩
  have hnd := F.nxt
  have hlen : ks.length ≤ 1024 := by
    have h5 := congrArg List.length F.two
    rw [List.length_map, List.length_map] at h5
    have := (takeF_len t es r).2
    omega
  have hXd := (F.low X (by omega) hXe).trans hXc
  refine gg ?_
  refine i_appX (m := ks.length) (ds := cksv ks) (by exact sel_of rfl) (by rw [sel_of rfl]; exact F.ar.row.src) F.ar.1 (by omega) fun ov2 he ke ar => ?_
  have hne := ke.next
  have hXE := (ke.get _ (by omega)).trans hXd
  have xe : Que he Q oq nx (takeF t r es).1 := F.que he hne fun d hd => ke.get d (by omega)
  refine gg ?_
  refine ⟨chk_cons (a := _) rfl (ld1 (by exact sel_of rfl) l0) (sv_pt Q) (fun m hm => by
    simp only [List.mem_cons, List.not_mem_nil, or_false] at hm
    rcases hm with rfl | rfl
    · exact ⟨_, _, rfl, ld1 (by exact sel_of rfl) l0⟩
    · exact ⟨_, _, rfl, ld1 (by exact sel_of rfl) ((load1_own hXc).trans v.c0)⟩) chk_nil, ?_⟩
  have xlow : ∀ d, d < h.next → d ∉ es.map Ent.b → he.get d = h.get d := fun d hd1 hm => by
    rw [ke.get d (by omega), F.low d (by omega) hm, kc.get d (by omega), kb.get d (by omega), ka.get d hd1]
  have fin : ∀ (b : Bool) (h' : Heap), b = decide (0 < ks.length ∨ 0 < octs [1] (takeF t r es).1) → he.next ≤ h'.next → (∀ d, d < he.next → d ≠ X → h'.get d = he.get d) → h'.get X = some (.cells 79 (alarmed cs b ru t w) (.own false)) → FX h h' X cs Q nx oq t r w ru es ov2 ks := by
    intro b h' hb1 hn1 hg1 hX1
    refine ⟨xe.but hXE hn1 hg1, F.two, by omega, fun d hd1 hm hX => (hg1 d (by omega) hX).trans (xlow d hd1 hm), fun y hy => ?_, ?_, by rw [← hb1]; exact hX1⟩
    · obtain ⟨c1, c2, c3⟩ := F.ch y hy
      exact ⟨by omega, by omega, (hg1 _ (by omega) (by omega)).trans ((ke.get _ c2).trans c3)⟩
    · exact ⟨ar.1, ar.2.imp id fun ⟨k, h2, h3, h4, h7⟩ => ⟨k, h2, by omega, by omega, (hg1 k h4 (by omega)).trans h7⟩⟩
  have hvs := v.c13
  have fin2 : ∀ (h2 : Heap), Keeps he h2 → FX h h2 X cs Q nx oq t r w ru es ov2 ks ∨ True := fun _ _ => .inr trivial
  clear fin2
  have last : ∀ (b : Bool) (hf : Heap), b = decide (0 < ks.length ∨ 0 < octs [1] (takeF t r es).1) → Keeps he hf → (b && !ru) = true → FX h (hf.put X (.cells 79 (putAt cs 13 [.bool true, .int .i64 (t + w)]) (.own false))) X cs Q nx oq t r w ru es ov2 ks := fun b hf hb1 kf hbr => fin b _ hb1 kf.next (fun d hd1 hX1 => by rw [Heap.get_put, if_neg hX1]; exact kf.get d hd1) (by rw [Heap.get_put, if_pos rfl]; unfold alarmed; rw [hbr]; rfl)
  have last2 : ∀ (b : Bool) (hf : Heap), b = decide (0 < ks.length ∨ 0 < octs [1] (takeF t r es).1) → Keeps he hf → (b && !ru) = false → FX h hf X cs Q nx oq t r w ru es ov2 ks := fun b hf hb1 kf hbr => fin b _ hb1 kf.next (fun d hd1 hX1 => kf.get d hd1) (by rw [kf.get X (by omega)]; unfold alarmed; rw [hbr]; exact hXE)
  refine gg ?_
  by_cases hk0 : 0 < ks.length
  · refine gg ?_
    refine i_load1 (v := .bool ru) (by exact sel_of rfl) ((load1_own hXE).trans v.c13) ?_
    have hbt : true = decide (0 < ks.length ∨ 0 < octs [1] (takeF t r es).1) := (decide_eq_true (.inl hk0)).symm
    cases ru with
    | true =>
      refine gg ?_
      exact ⟨ov2, ks, rfl, last2 true he hbt (Keeps.refl he) rfl⟩
    | false =>
      refine gg ?_
      refine i_call2 (by exact sel_of rfl) (by exact sel_of rfl) (w_startA hXE v ht hw (by omega)) ?_
      rintro _ _ rfl
      refine gg ?_
      exact ⟨ov2, ks, rfl, last true he hbt (Keeps.refl he) rfl⟩
  · refine gg ?_
    refine i_load1 (v := pt Q) (by exact sel_of rfl) ((load1_own hXE).trans v.c0) ?_
    refine gg ?_
    refine i_call1 (by exact sel_of rfl) (w_flying xe (by rw [(takeF_len t es r).1]; omega)) ?_
    rintro _ hf ⟨rfl, kf⟩
    have hnf := kf.next
    refine gg ?_
    by_cases hf0 : 0 < octs [1] (takeF t r es).1
    · have hbt : true = decide (0 < ks.length ∨ 0 < octs [1] (takeF t r es).1) := (decide_eq_true (.inr hf0)).symm
      have hXf := (kf.get X (by omega)).trans hXE
      refine gg ?_
      refine i_load1 (v := .bool ru) (by exact sel_of rfl) ((load1_own hXf).trans v.c13) ?_
      cases ru with
      | true =>
        refine gg ?_
        exact ⟨ov2, ks, rfl, last2 true hf hbt kf rfl⟩
      | false =>
        refine gg ?_
        refine i_call2 (by exact sel_of rfl) (by exact sel_of rfl) (w_startA hXf v ht hw (by omega)) ?_
        rintro _ _ rfl
        refine gg ?_
        exact ⟨ov2, ks, rfl, last true hf hbt kf rfl⟩
    · have hbt : false = decide (0 < ks.length ∨ 0 < octs [1] (takeF t r es).1) := (decide_eq_false (by omega)).symm
      refine gg ?_
      exact ⟨ov2, ks, rfl, last2 false hf hbt kf rfl⟩
end
end Go.Proofs.YtmlagbknnngjjaaGreat

/-! Tell. -/
set_option linter.unusedVariables false
namespace Go.Proofs.YtmlagbknnngjjaaGreat
open Go Vm
section
variable {h : Heap} {n Q nx X : Nat} {t : Int} {oq : Option Addr} {es : List Ent} {cs : List Value} {cw mt w : Nat} {pe : Int} {ru sk : Bool}
theorem w_answer0 (hX : h.get X = some (.cells 79 cs (.own false))) (h20 : cs[20]? = some (.bool false)) (hn : 1 ≤ n) :
    ResQ (callN Tryz.prog G0 n (.call 32 [.pointer (some ⟨X, 18, none⟩)]) h) (fun v h' => v = .slice none 0 0 ∧ h = h') := by
  obtain ⟨n, rfl⟩ : ∃ m, n = m + 1 := ⟨n - 1, by omega⟩
  refine res_enter rfl d32 rfl ?_; simp only [c32]
  refine gg ?_
  refine i_load1 (v := .bool false) (by exact sel_of rfl) ((load1_own hX).trans h20) ?_
  refine gg ?_
  exact ⟨rfl, rfl⟩
theorem w_tell (x : Que h Q oq nx es) (hX : h.get X = some (.cells 79 cs (.own false))) (hXl : X < h.next) (v : SdV cs Q cw mt w pe ru sk) (h20 : cs[20]? = some (.bool false)) (hs : ∀ e ∈ es, e.st < 2) (hse : ∀ e ∈ es, e.sent ≤ 1000) (hw : w ≤ 100000) (h1 : 1 ≤ mt) (h2 : mt ≤ 65536) (h3 : mt ≤ cw) (h4 : cw ≤ 1000000) (hp : 0 ≤ pe ∧ pe ≤ 4294967296) (hn : es.length + 110 ≤ n) :
    ResQ (callN Tryz.prog G0 n (.call 10 [pt X, .int .i64 t]) h) (fun v h' => ∃ ov ks, v = .slice ov ks.length ks.length ∧ FX h h' X cs Q nx oq (tmI t) (roomN cw mt (octs [1] es) (pe.toNat - octs [1] es)) w ru es ov ks) := by
  have hlim := x.lim
  obtain ⟨n, rfl⟩ : ∃ m, n = m + 1 := ⟨n - 1, by omega⟩
  refine res_enter rfl d10 rfl ?_; simp only [c10]
  refine gg ?_
  refine i_call1 (by exact sel_of rfl) (w_answer0 hX h20 (by omega)) ?_
  rintro _ _ ⟨rfl, rfl⟩
  refine gg ?_
  refine i_call1 (by exact sel_of rfl) (w_time (by omega)) ?_
  rintro _ _ ⟨rfl, rfl⟩
  refine gg ?_
  refine i_call2 (by exact sel_of rfl) (by exact sel_of rfl) (w_send x hX hXl v hs hse (tmI_b t) hw h1 h2 h3 h4 hp (by omega)) ?_
  rintro _ hb ⟨ov, ks, rfl, F⟩
  have hlen : ks.length ≤ 1024 := by
    have h5 := congrArg List.length F.two
    rw [List.length_map, List.length_map] at h5
    have := (takeF_len (tmI t) es (roomN cw mt (octs [1] es) (pe.toNat - octs [1] es))).2
    omega
  have hnb := F.nxt
  refine i_appX (m := ks.length) (ds := cksv ks) (by exact sel_of rfl) (by rw [sel_of rfl]; exact F.ar.row.src) F.ar.1 (by omega) fun ov2 he ke ar => ?_
  have hne := ke.next
  refine gg ?_
  refine ⟨ov2, ks, rfl, F.que.keeps ke, F.two, by omega, fun d hd h5 h6 => (ke.get d (by omega)).trans (F.low d hd h5 h6), fun y hy => ?_, ?_, (ke.get X (by omega)).trans F.gX⟩
  · obtain ⟨c1, c2, c3⟩ := F.ch y hy
    exact ⟨c1, by omega, (ke.get _ c2).trans c3⟩
  · exact ⟨ar.1, ar.2.imp id fun ⟨k, h2, h3, h4, h7⟩ => ⟨k, h2, by omega, h4, h7⟩⟩
end
end Go.Proofs.YtmlagbknnngjjaaGreat

