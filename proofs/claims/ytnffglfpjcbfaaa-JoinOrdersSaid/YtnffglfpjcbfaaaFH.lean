/- Part of a proof by an abstract run of the program's code: FH. No condition. -/
import Derived.Test.YtnffglfpjcbfaaaFF
/-! For JoinOrders: a chunk that comes twice, a message that is dropped, lists of messages that are the same. -/
set_option linter.unusedVariables false
namespace Go.Proofs.Ytnffglfpjcbfaaa
open Go Vm
section
variable {h : Heap} {n : Nat} {N : Nat} {nx : List Nat} {ch : List (Nat × Ck)} {st : List ((Nat × Nat) × Mg)} {rd : List Mg} {held : Nat} {ro : Option Addr}
set_option maxHeartbeats 2000000 in
theorem w_addT (j : Jn h N nx ch st rd held ro) {c : Ck} (wc : c.wf) (hd0 : c.dt ≠ []) {o : Option Addr} {cap : Nat} (hout : c.out < nx.length) {p : Nat × Ck} (hz : look ch c.A = some p) (hn : 4 ≤ n) :
    ResQ (callN Try.prog G0 n (.call 11 [.pointer (some ⟨N + 3, 0, none⟩), .agg (ckv c o cap).toArray]) h) (fun v h' => Keeps h h') := by
  have jup := j.up
  have top := j.top
  obtain ⟨es, cc, gm, hes⟩ := j.chs
  obtain ⟨n, rfl⟩ : ∃ m, n = m + 1 := ⟨n - 1, by omega⟩
  refine res_enter rfl d11 rfl ?_; simp only [c11]
  refine o_cut (fun f h1 => (Keeps h h1 ∧ h1.next = h.next + 1 ∧ h1.get h.next = some (.cells 42 (ckv c o cap) (.own false))) ∧ Sl [(0, .pointer (some ⟨N + 3, 0, none⟩)), (3, .pointer (some ⟨h.next, 0, none⟩)), (4, .int .i64 0)] f) ?_ ?_
  · refine gg ?_
    exact ⟨rfl, ⟨Keeps.new h _, rfl, by rw [Heap.get_new, if_pos rfl]⟩, sel_of rfl, sel_of rfl, sel_of rfl, trivial⟩
  rintro f1 h1 ⟨⟨k1, n1, g1⟩, hs⟩
  obtain ⟨f0, rfl⟩ := hs.puts
  clear hs
  have hdl : c.dt.length ≠ 0 := fun e => hd0 (List.length_eq_zero_iff.1 e)
  refine o_cut (fun f h2 => h2 = h1 ∧ Sl [(0, .pointer (some ⟨N + 3, 0, none⟩)), (3, .pointer (some ⟨h.next, 0, none⟩)), (4, .int .i64 0)] f) ?_ ?_
  · refine gg ?_; repeat (refine i_ldown (by exact sel_of rfl) (by assumption) (by rfl) ?_; refine gg ?_)
    rw [decide_eq_false (p := ((c.dt.length : Nat) : Int) = 0) (by omega)]
    refine gg ?_; repeat (refine i_ldown (by exact sel_of rfl) (by assumption) (by rfl) ?_; refine gg ?_)
    exact ⟨rfl, rfl, sel_of rfl, sel_of rfl, sel_of rfl, trivial⟩
  rintro f2 h2 ⟨e, hs⟩
  subst e
  obtain ⟨f0, rfl⟩ := hs.puts
  clear hs
  have top1 := (k1.get _ (by omega)).trans top
  have gm1 := (k1.get _ (by omega)).trans gm
  refine o_cut (fun f h3 => Keeps h2 h3 ∧ Sl [(0, .pointer (some ⟨N + 3, 0, none⟩)), (3, .pointer (some ⟨h.next, 0, none⟩)), (4, .int .i64 0), (6, .bool true)] f) ?_ ?_
  · refine gg ?_; repeat (refine i_ldown (by exact sel_of rfl) (by assumption) (by rfl) ?_; refine gg ?_)
    obtain ⟨vx, sx, fe, ox, cx, rfl, dx⟩ := (hes.find _).2 _ hz
    refine i_lookup (ok := true) (res := some (.agg (ckv p.2 ox cx).toArray, sx)) (by exact sel_of rfl) gm1 (kv := .int .u32 (c.A : Int)) (by rw [sel_of rfl]) rfl fe ?_
    show ItQ (runItems _ _ (puts ((32, .tuple #[.agg (ckv p.2 ox cx).toArray, .bool true]) :: _) _) _) _
    refine gg ?_
    refine i_storeF (vs := ckv p.2 ox cx) (Keeps.new h2 _) (Nat.le_refl _) (by exact sel_of rfl) (by rw [sel_of rfl]; rfl) (by rw [Heap.get_new, if_pos rfl]) rfl rfl (Nat.lt_succ_self _) fun h3 k3 g3 lt3 => ?_
    refine gg ?_
    exact ⟨rfl, k3, sel_of rfl, sel_of rfl, sel_of rfl, sel_of rfl, trivial⟩
  rintro f3 h3 ⟨k3, hs⟩
  obtain ⟨f0, rfl⟩ := hs.puts
  clear hs
  have k03 := k1.trans k3
  have j3 := j.keeps k03
  have g3 := (k3.get _ (by omega : h.next < h2.next)).trans g1
  clear top top1 gm gm1
  refine gg ?_; repeat (refine i_ldown (by exact sel_of rfl) (by assumption) (by rfl) ?_; refine gg ?_)
  refine i_call2 (by exact sel_of rfl) (by exact sel_of rfl) (w_knows j3 hout wc.out (by omega)) ?_
  rintro _ _ ⟨rfl, rfl⟩
  refine gg ?_
  exact k03
set_option maxHeartbeats 2000000 in
theorem w_keepD (j : Jn h N nx ch st rd held ro) {m : Mg} {v : List Value} (hv : MgAt h N ro m v) (hu : m.un = false) {ssn x : Nat} (hx : nx[m.str]? = some x) (hl : (∃ p, lookS st (m.str, ssn) = some p) ∨ (ssn ≠ x ∧ (x + 65536 - ssn) % 65536 ≤ 32767)) (hs16 : ssn < 65536) (hx16 : x < 65536) (hle : m.dt.length ≤ held) (hb : held ≤ 1000000) (hn : 5 ≤ n) :
    ResQ (callN Try.prog G0 n (.call 23 [.pointer (some ⟨N + 3, 0, none⟩), .agg v.toArray, .int .u16 (ssn : Int)]) h) (fun _ h' => ∃ ro', Jn h' N nx ch st rd (held - m.dt.length) ro' ∧ Pres N h ro h' ro') := by
  obtain ⟨om, cap, rfl, hd⟩ := hv
  obtain ⟨es, cc, gm, hes⟩ := j.sts
  have jup := j.up
  have top := j.top
  obtain ⟨n, rfl⟩ : ∃ m, n = m + 1 := ⟨n - 1, by omega⟩
  refine res_enter rfl d23 rfl ?_; simp only [c23]
  refine o_cut (fun f h1 => (Keeps h h1 ∧ h.next < h1.next ∧ h1.get h.next = some (.cells 30 (mgv m om cap) (.own false))) ∧ Sl [(0, .pointer (some ⟨N + 3, 0, none⟩)), (2, .int .u16 (ssn : Int)), (4, .pointer (some ⟨h.next, 0, none⟩))] f) ?_ ?_
  · refine gg ?_
    exact ⟨rfl, ⟨Keeps.new h _, Nat.lt_succ_self _, by rw [Heap.get_new, if_pos rfl]⟩, sel_of rfl, sel_of rfl, sel_of rfl, trivial⟩
  rintro f1 h1 ⟨⟨k1, lt1, g1⟩, hs⟩
  obtain ⟨f0, rfl⟩ := hs.puts
  clear hs
  refine o_cut (fun f h2 => (Keeps h1 h2 ∧ h1.next < h2.next ∧ h2.get h1.next = some (.cells 78 [.int .u16 (m.str : Int), .int .u16 (ssn : Int)] (.own false))) ∧ Sl [(0, .pointer (some ⟨N + 3, 0, none⟩)), (2, .int .u16 (ssn : Int)), (4, .pointer (some ⟨h.next, 0, none⟩)), (6, .pointer (some ⟨h1.next, 0, none⟩))] f) ?_ ?_
  · refine gg ?_
    refine i_load1 (v := .int .u16 (m.str : Int)) (by exact sel_of rfl) ((load1_own g1).trans (by rfl)) ?_
    refine gg ?_
    refine i_storeF (vs := [.int .u16 (m.str : Int), .int .u16 (ssn : Int)]) (Keeps.new h1 _) (Nat.le_refl _) (by exact sel_of rfl) (by rw [sel_of rfl]; rfl) (by rw [Heap.get_new, if_pos rfl]) rfl rfl (Nat.lt_succ_self _) fun h2 k2 g2 lt2 => ?_
    refine gg ?_
    exact ⟨rfl, ⟨k2, lt2, g2⟩, sel_of rfl, sel_of rfl, sel_of rfl, sel_of rfl, trivial⟩
  rintro f2 h2 ⟨⟨k2, lt2, g2⟩, hs⟩
  obtain ⟨f0, rfl⟩ := hs.puts
  clear hs
  have k02 := k1.trans k2
  have top2 := (k02.get _ (by omega)).trans top
  have gm2 := (k02.get _ (by omega)).trans gm
  refine o_cut (fun f h3 => (Keeps h2 h3 ∧ ∃ b, (b = true ↔ ∃ p, lookS st (m.str, ssn) = some p) ∧ Sl [(0, .pointer (some ⟨N + 3, 0, none⟩)), (2, .int .u16 (ssn : Int)), (4, .pointer (some ⟨h.next, 0, none⟩)), (6, .pointer (some ⟨h1.next, 0, none⟩)), (8, .bool b)] f)) ?_ ?_
  · refine gg ?_; repeat (refine i_ldown (by exact sel_of rfl) (by assumption) (by rfl) ?_; refine gg ?_)
    refine i_loadN (v := [.int .u16 (m.str : Int), .int .u16 (ssn : Int)]) (by exact sel_of rfl) (loadN_all g2 rfl) ?_
    cases hz' : lookS st (m.str, ssn) with
    | none =>
      refine i_lookup (ok := true) (res := none) (by exact sel_of rfl) gm2 (kv := nkey (m.str, ssn)) (by rw [sel_of rfl]; rfl) rfl ((hes.find _).1 hz') ?_
      show ItQ (runItems _ _ (puts ((19, .tuple #[.agg #[.int .u16 0, .bool false, .int .u32 0, .slice none 0 0], .bool false]) :: _) _) _) _
      refine gg ?_
      refine i_storeF (vs := [.int .u16 0, .bool false, .int .u32 0, .slice none 0 0]) (Keeps.new h2 _) (Nat.le_refl _) (by exact sel_of rfl) (by rw [sel_of rfl]; rfl) (by rw [Heap.get_new, if_pos rfl]) rfl rfl (Nat.lt_succ_self _) fun h3 k3 g3 lt3 => ?_
      refine gg ?_
      exact ⟨rfl, k3, false, by simp, sel_of rfl, sel_of rfl, sel_of rfl, sel_of rfl, sel_of rfl, trivial⟩
    | some p =>
      obtain ⟨vx, sx, fe, ox, cx, rfl, dx⟩ := (hes.find _).2 _ hz'
      refine i_lookup (ok := true) (res := some (.agg (mgv p.2 ox cx).toArray, sx)) (by exact sel_of rfl) gm2 (kv := nkey (m.str, ssn)) (by rw [sel_of rfl]; rfl) rfl fe ?_
      show ItQ (runItems _ _ (puts ((19, .tuple #[.agg (mgv p.2 ox cx).toArray, .bool true]) :: _) _) _) _
      refine gg ?_
      refine i_storeF (vs := mgv p.2 ox cx) (Keeps.new h2 _) (Nat.le_refl _) (by exact sel_of rfl) (by rw [sel_of rfl]; rfl) (by rw [Heap.get_new, if_pos rfl]) rfl rfl (Nat.lt_succ_self _) fun h3 k3 g3 lt3 => ?_
      refine gg ?_
      exact ⟨rfl, k3, true, by simp, sel_of rfl, sel_of rfl, sel_of rfl, sel_of rfl, sel_of rfl, trivial⟩
  rintro f3 h3 ⟨k3, b, hb, hs⟩
  obtain ⟨f0, rfl⟩ := hs.puts
  clear hs
  have k03 := k02.trans k3
  have g3 := (k3.get _ (Nat.lt_of_lt_of_le lt1 k2.next)).trans ((k2.get _ lt1).trans g1)
  have j3 := j.keeps k03
  have lt3 : h.next < h3.next := by have := k2.next; have := k3.next; omega
  have gn3 := (k3.get _ lt2).trans g2
  clear top top2 gm gm2 hes
  have top := j3.top
  have hsl : m.str < nx.length := (List.getElem?_eq_some_iff.1 hx).1
  have jup3 := j3.up
  have hrow : Row h3 1 (some ⟨N, 0, none⟩) nx.length (nx.map fun (x : Nat) => Value.int .u16 (x : Int)) := ⟨by simp, by show N < _; omega, .inl rfl, loadN_all j3.nxt (by simp)⟩
  refine gg ?_; repeat (refine i_ldown (by exact sel_of rfl) (by assumption) (by rfl) ?_; refine gg ?_)
  rw [hu]
  refine gg ?_; repeat (refine i_ldown (by exact sel_of rfl) (by assumption) (by rfl) ?_; refine gg ?_)
  refine i_cut 12 (fun f h' => h3 = h' ∧ Sl [(45, .bool true), (0, .pointer (some ⟨N + 3, 0, none⟩)), (2, .int .u16 (ssn : Int)), (4, .pointer (some ⟨h.next, 0, none⟩))] f) ?_ ?_
  · simp only [List.take]
    cases b with
    | true =>
      refine gg ?_
      exact ⟨rfl, sel_of rfl, sel_of rfl, sel_of rfl, sel_of rfl, trivial⟩
    | false =>
      have hl' := hl.resolve_left (fun hp => by have := hb.2 hp; cases this)
      refine gg ?_; repeat (refine i_ldown (by exact sel_of rfl) (by assumption) (by rfl) ?_; refine gg ?_)
      refine i_idx (by exact sel_of rfl) hrow (i := m.str) (by exact sel_of rfl) hsl fun q hq => ?_
      cases hq
      refine gg ?_
      refine i_load1 (v := .int .u16 (x : Int)) (by exact sel_of rfl) ((hrow.cell (i := m.str * 1) (by omega) _).trans (by rw [Nat.mul_one, List.getElem?_map, hx]; rfl)) ?_
      refine gg ?_
      refine i_call2 (by exact sel_of rfl) (by exact sel_of rfl) (w_less hs16 hx16 (by omega)) ?_
      rintro _ _ ⟨rfl, rfl⟩
      rw [decide_eq_true hl']
      refine gg ?_
      exact ⟨rfl, sel_of rfl, sel_of rfl, sel_of rfl, sel_of rfl, trivial⟩
  simp only [List.drop]
  rintro f4 _ ⟨rfl, hs⟩
  obtain ⟨f0, rfl⟩ := hs.puts
  clear hs
  refine gg ?_; repeat (refine i_ldown (by exact sel_of rfl) (by assumption) (by rfl) ?_; refine gg ?_)
  have e9 : ((held : Nat) : Int) - ((m.dt.length : Nat) : Int) = ((held - m.dt.length : Nat) : Int) := by omega
  refine i_store1 (u := ⟨N + 3, 0 + 4, none⟩) (v := .int .i64 ((held - m.dt.length : Nat) : Int)) (by exact sel_of rfl) (by rw [sel_of rfl, e9]; rfl) top (by show 0 + 4 < 5; decide) ?_
  have p10 : Pres N h3 ro (h3.put (N + 3) (.cells 64 ((jcells N nx ro rd.length held).set (0 + 4) (.int .i64 ((held - m.dt.length : Nat) : Int))) (.own false))) ro := Pres.put (by omega) (by omega) _
  have kd := p10.kd
  obtain ⟨es1, c1, a1, b1⟩ := j3.chs
  obtain ⟨es2, c2, a2, b2⟩ := j3.sts
  obtain ⟨cs9, ap9, hrd9⟩ := j3.rdy
  refine gg ?_
  exact ⟨ro, ⟨j3.up, by rw [Heap.get_put, if_pos rfl]; rfl, by rw [Heap.get_put, if_neg (by show N ≠ N + 3; omega)]; exact j3.nxt, ⟨es1, c1, by rw [Heap.get_put, if_neg (by show N + 1 ≠ N + 3; omega)]; exact a1, b1.mono kd⟩, ⟨es2, c2, by rw [Heap.get_put, if_neg (by show N + 2 ≠ N + 3; omega)]; exact a2, b2.mono kd⟩, ⟨cs9, apB ap9 (putB h3 (N + 3) _) (fun q' e => by have := j3.ofr q' e; omega), hrd9.mono kd⟩, j3.ofr⟩, (Pres.keeps k03).trans p10⟩
end
/-! lists of messages -/
def MsS (h : Heap) : List Value → List Mg → Prop
  | cs, [] => cs = []
  | cs, m :: l => ∃ o cap cs', cs = mgv m o cap ++ cs' ∧ Row h 1 o m.dt.length (u8s m.dt) ∧ MsS h cs' l
theorem mgv_length (m : Mg) (o : Option Addr) (cap : Nat) : (mgv m o cap).length = 4 := rfl
theorem MsS.keeps {h h' : Heap} (k : Keeps h h') : ∀ {l : List Mg} {cs : List Value}, MsS h cs l → MsS h' cs l
  | [], _, e => e
  | _ :: _, _, ⟨o, cap, cs', e, r, x⟩ => ⟨o, cap, cs', e, r.keeps k, MsS.keeps k x⟩
theorem RdL.mss {h : Heap} {N : Nat} {ro : Option Addr} : ∀ {l : List Mg} {cs : List Value}, RdL h N ro cs l → MsS h cs l
  | [], _, e => e
  | _ :: _, _, ⟨v, cs', e, ⟨o, cap, ev, d⟩, x⟩ => ⟨o, cap, cs', by rw [e, ev], d.1, RdL.mss x⟩
theorem MsS.at {h : Heap} : ∀ {l : List Mg} {cs : List Value} {i : Nat} {m : Mg}, MsS h cs l → l[i]? = some m → ∃ o cap, (cs.drop (i * 4)).take 4 = mgv m o cap ∧ Row h 1 o m.dt.length (u8s m.dt)
  | [], _, i, c, _, e => by simp at e
  | d :: l, _, 0, c, ⟨o, cap, cs', e, r, x⟩, e' => by
    cases e'
    refine ⟨o, cap, ?_, r⟩
    subst e
    rw [Nat.zero_mul, List.drop_zero, List.take_append_of_le_length (by rw [mgv_length]; exact Nat.le_refl 4), List.take_of_length_le (by rw [mgv_length]; exact Nat.le_refl 4)]
  | d :: l, _, i + 1, c, ⟨o, cap, cs', e, r, x⟩, e' => by
    obtain ⟨o', cap', y, z⟩ := MsS.at x (by simpa using e' : l[i]? = some c)
    refine ⟨o', cap', ?_, z⟩
    subst e
    rw [← y, Nat.succ_mul, Nat.add_comm (i * 4) 4, List.drop_append, mgv_length, List.drop_of_length_le (by rw [mgv_length]; omega), List.nil_append, Nat.add_sub_cancel_left]
section
variable {h : Heap} {n : Nat}
theorem w_sameAll {l : List Mg} {o o' : Option Addr} {c c' : Nat} {cs cs' : List Value} (hr : Row h 4 o l.length cs) (hm : MsS h cs l) (hr' : Row h 4 o' l.length cs') (hm' : MsS h cs' l) (hb : l.length ≤ 100000) (hn : l.length + 3 ≤ n) :
    ResQ (callN Try.prog G0 n (.call 13 [.slice o l.length c, .slice o' l.length c']) h) (fun v h' => v = .bool true ∧ Keeps h h') := by
  obtain ⟨n, rfl⟩ : ∃ m, n = m + 1 := ⟨n - 1, by omega⟩
  refine res_enter rfl d13 rfl ?_; simp only [c13]
  refine gg ?_
  refine o_up l.length (fun i f h' => Keeps h h' ∧ Sl [(5, .int .i64 ((i : Nat) : Int)), (0, .slice o l.length c), (1, .slice o' l.length c')] f) (by omega) ?_ ?_
  · exact ⟨Keeps.refl h, sel_of rfl, sel_of rfl, sel_of rfl, trivial⟩
  rintro i f h' hi ⟨k, hs⟩
  obtain ⟨f0, rfl⟩ := hs.puts
  clear hs
  simp only [c13_0]
  refine gg ?_
  refine out_if (by exact sel_of rfl) (fun hif => ?_) (fun hif => ?_)
  · have hi' : i < l.length := by omega
    obtain ⟨m, hmi⟩ : ∃ m, l[i]? = some m := ⟨_, List.getElem?_eq_getElem hi'⟩
    obtain ⟨om, cm, hv, rm⟩ := hm.at hmi
    obtain ⟨om', cm', hv', rm'⟩ := hm'.at hmi
    obtain ⟨u, rfl⟩ : ∃ u, o = some u := by
      cases o with
      | none => exact absurd (show l.length = 0 from hr.2) (by omega)
      | some u => exact ⟨u, rfl⟩
    obtain ⟨u', rfl⟩ : ∃ u, o' = some u := by
      cases o' with
      | none => exact absurd (show l.length = 0 from hr'.2) (by omega)
      | some u => exact ⟨u, rfl⟩
    refine gg ?_
    refine i_idx (by exact sel_of rfl) (hr.keeps k) (i := i) (by exact sel_of rfl) hi' fun q hq => ?_
    cases hq
    refine i_loadN (v := mgv m om cm) (by exact sel_of rfl) (by rw [← hv]; exact (hr.keeps k).cells (by omega) _) ?_
    refine gg ?_
    refine i_idx (by exact sel_of rfl) (hr'.keeps k) (i := i) (by exact sel_of rfl) hi' fun q hq => ?_
    cases hq
    refine i_loadN (v := mgv m om' cm') (by exact sel_of rfl) (by rw [← hv']; exact (hr'.keeps k).cells (by omega) _) ?_
    refine gg ?_
    refine i_call2 (by exact sel_of rfl) (by exact sel_of rfl) (w_same (rm.keeps k) (rm'.keeps k) (by omega)) ?_
    rintro _ h2 ⟨rfl, k2⟩
    refine gg ?_
    exact rnd_up hi' ⟨k.trans k2, sel_of rfl, sel_of rfl, sel_of rfl, trivial⟩
  · refine gg ?_
    exact ⟨rfl, k⟩
end
end Go.Proofs.Ytnffglfpjcbfaaa

/-! JoinOrders, the plain part: what is held, stashed, told, while chunks come in any order. -/
set_option linter.unusedVariables false
namespace Go.Proofs.Ytnffglfpjcbfaaa
open Go Vm
/-! looking up behind a deletion -/
theorem look_del {k a : Nat} : ∀ {ch : List (Nat × Ck)}, (ch.map (·.1)).Nodup → look (delK k ch) a = if a = k then none else look ch a
  | [], _ => by simp [delK, look]
  | (b, c) :: l, h => by
    have hl := List.nodup_cons.1 (show (b :: l.map (·.1)).Nodup from h)
    have ih := look_del (k := k) (a := a) (ch := l) hl.2
    rw [delK]
    by_cases hkb : k = b
    · subst hkb
      rw [if_pos rfl]
      by_cases hak : a = k
      · subst hak
        rw [if_pos rfl]
        apply List.find?_eq_none.2
        rintro ⟨x, y⟩ hx
        simp only [beq_iff_eq]
        intro e
        exact hl.1 (List.mem_map.2 ⟨_, hx, e⟩)
      · rw [if_neg hak]
        show _ = List.find? _ _
        rw [List.find?_cons]
        have : (k == a) = false := by rw [← Bool.not_eq_true, beq_iff_eq]; exact fun e => hak e.symm
        simp only [this]
    · rw [if_neg hkb]
      show List.find? _ _ = _
      rw [List.find?_cons]
      cases hab : (b == a) with
      | true =>
        have : b = a := by simpa using hab
        subst this
        simp only [if_neg (show ¬ b = k from fun e => hkb e.symm)]
        show _ = List.find? _ _
        rw [List.find?_cons]
        simp
      | false =>
        show look (delK k l) a = _
        rw [ih]
        show _ = if _ then _ else List.find? _ _
        rw [List.find?_cons, hab]
theorem del_sub {k : Nat} : ∀ {ch : List (Nat × Ck)}, ∀ a ∈ (delK k ch).map (·.1), a ∈ ch.map (·.1)
  | [], a, h => h
  | (b, c) :: l, a, h => by
    rw [delK] at h
    split at h
    · exact List.mem_cons_of_mem _ h
    · rw [List.map_cons, List.mem_cons] at h ⊢
      exact h.imp id (del_sub a)
theorem del_nodup {k : Nat} : ∀ {ch : List (Nat × Ck)}, (ch.map (·.1)).Nodup → ((delK k ch).map (·.1)).Nodup
  | [], h => h
  | (b, c) :: l, h => by
    have hl := List.nodup_cons.1 (show (b :: l.map (·.1)).Nodup from h)
    rw [delK]
    split
    · exact hl.2
    · rw [List.map_cons, List.nodup_cons]
      exact ⟨fun e => hl.1 (del_sub _ e), del_nodup hl.2⟩
theorem look_delAll {a : Nat} : ∀ {L : List Ck} {ch : List (Nat × Ck)}, (ch.map (·.1)).Nodup → look (delAll L ch) a = (if ∃ c ∈ L, c.A = a then none else look ch a) ∧ ((delAll L ch).map (·.1)).Nodup
  | [], ch, h => ⟨by simp [delAll], h⟩
  | c :: L, ch, h => by
    obtain ⟨e, hn⟩ := look_delAll (a := a) (L := L) (ch := delK c.A ch) (del_nodup h)
    refine ⟨?_, hn⟩
    rw [delAll, e, look_del h]
    by_cases h1 : ∃ d ∈ L, d.A = a
    · rw [if_pos h1, if_pos (by obtain ⟨d, hd, e⟩ := h1; exact ⟨d, List.mem_cons_of_mem _ hd, e⟩)]
    · rw [if_neg h1]
      by_cases h2 : a = c.A
      · rw [if_pos h2, if_pos ⟨c, List.mem_cons_self .., h2.symm⟩]
      · rw [if_neg h2, if_neg]
        rintro ⟨d, hd, e'⟩
        rcases List.mem_cons.1 hd with rfl | hd
        · exact h2 e'.symm
        · exact h1 ⟨d, hd, e'⟩
theorem look_snoc {ch : List (Nat × Ck)} {c : Ck} {a : Nat} (hz : look ch c.A = none) : look (ch ++ [(c.A, c)]) a = if a = c.A then some (c.A, c) else look ch a := by
  show List.find? _ _ = _
  rw [List.find?_append]
  by_cases h : a = c.A
  · subst h
    rw [if_pos rfl, show List.find? _ ch = none from hz]
    simp
  · rw [if_neg h]
    have : List.find? (fun p => p.1 == a) [(c.A, c)] = none := by simp [show ¬c.A = a from fun e => h e.symm]
    rw [this, Option.or_none]
theorem look_none {ch : List (Nat × Ck)} {a : Nat} (h : look ch a = none) : a ∉ ch.map (·.1) := fun hm => by
  obtain ⟨p, hp, e⟩ := List.mem_map.1 hm
  have := List.find?_eq_none.1 h p hp
  simp [e] at this
theorem snoc_nodup {ch : List (Nat × Ck)} {c : Ck} (hz : look ch c.A = none) (h : (ch.map (·.1)).Nodup) : ((ch ++ [(c.A, c)]).map (·.1)).Nodup := by
  rw [List.map_append, List.nodup_append]
  refine ⟨h, by simp, fun a ha b hb => ?_⟩
  simp at hb
  subst hb
  exact fun e => look_none hz (e ▸ ha)
/-! the same for the stash -/
theorem lookS_del {k a : Nat × Nat} : ∀ {ch : List ((Nat × Nat) × Mg)}, (ch.map (·.1)).Nodup → lookS (delS k ch) a = if a = k then none else lookS ch a
  | [], _ => by simp [delS, lookS]
  | (b, c) :: l, h => by
    have hl := List.nodup_cons.1 (show (b :: l.map (·.1)).Nodup from h)
    have ih := lookS_del (k := k) (a := a) (ch := l) hl.2
    rw [delS]
    by_cases hkb : b = k
    · subst hkb
      rw [if_pos rfl]
      by_cases hak : a = b
      · subst hak
        rw [if_pos rfl]
        apply List.find?_eq_none.2
        rintro ⟨x, y⟩ hx
        simp only [beq_iff_eq]
        intro e
        exact hl.1 (List.mem_map.2 ⟨_, hx, e⟩)
      · rw [if_neg hak]
        show _ = List.find? _ _
        rw [List.find?_cons]
        have : (b == a) = false := by rw [← Bool.not_eq_true, beq_iff_eq]; exact fun e => hak e.symm
        simp only [this]
    · rw [if_neg hkb]
      show List.find? _ _ = _
      rw [List.find?_cons]
      cases hab : (b == a) with
      | true =>
        have : b = a := by simpa using hab
        subst this
        simp only [if_neg hkb]
        show _ = List.find? _ _
        rw [List.find?_cons]
        simp
      | false =>
        show lookS (delS k l) a = _
        rw [ih]
        show _ = if _ then _ else List.find? _ _
        rw [List.find?_cons, hab]
theorem delS_sub {k : Nat × Nat} : ∀ {ch : List ((Nat × Nat) × Mg)}, ∀ a ∈ (delS k ch).map (·.1), a ∈ ch.map (·.1)
  | [], a, h => h
  | (b, c) :: l, a, h => by
    rw [delS] at h
    split at h
    · exact List.mem_cons_of_mem _ h
    · rw [List.map_cons, List.mem_cons] at h ⊢
      exact h.imp id (delS_sub a)
theorem delS_nodup {k : Nat × Nat} : ∀ {ch : List ((Nat × Nat) × Mg)}, (ch.map (·.1)).Nodup → ((delS k ch).map (·.1)).Nodup
  | [], h => h
  | (b, c) :: l, h => by
    have hl := List.nodup_cons.1 (show (b :: l.map (·.1)).Nodup from h)
    rw [delS]
    split
    · exact hl.2
    · rw [List.map_cons, List.nodup_cons]
      exact ⟨fun e => hl.1 (delS_sub _ e), delS_nodup hl.2⟩
theorem lookS_snoc {st : List ((Nat × Nat) × Mg)} {k : Nat × Nat} {m : Mg} {a : Nat × Nat} (hz : lookS st k = none) : lookS (st ++ [(k, m)]) a = if a = k then some (k, m) else lookS st a := by
  show List.find? _ _ = _
  rw [List.find?_append]
  by_cases h : a = k
  · subst h
    rw [if_pos rfl, show List.find? _ st = none from hz]
    simp
  · rw [if_neg h]
    have hb : (k == a) = false := by rw [← Bool.not_eq_true, beq_iff_eq]; exact fun e => h e.symm
    have : List.find? (fun p => p.1 == a) [(k, m)] = none := by rw [List.find?_cons, hb]; rfl
    rw [this, Option.or_none]
theorem snocS_nodup {st : List ((Nat × Nat) × Mg)} {k : Nat × Nat} {m : Mg} (hz : lookS st k = none) (h : (st.map (·.1)).Nodup) : ((st ++ [(k, m)]).map (·.1)).Nodup := by
  rw [List.map_append, List.nodup_append]
  refine ⟨h, by simp, fun a ha b hb => ?_⟩
  simp at hb
  subst hb
  intro e
  subst e
  obtain ⟨p, hp, e⟩ := List.mem_map.1 ha
  have := List.find?_eq_none.1 hz p hp
  simp [e] at this
/-! telling -/
theorem tel_go {n : Nat} {Ms : List Mg} (hl : Ms.length = n) (hn : n ≤ 20) (E : Nat → Prop) (dec : ∀ i, Decidable (E i)) : ∀ (d x : Nat) (st : List ((Nat × Nat) × Mg)) (rd : List Mg), d = n - x → x ≤ n → rd = Ms.take x →
    (∀ i, lookS st (1, i) = if i < n ∧ x ≤ i ∧ E i then Ms[i]?.map (fun M => ((1, i), M)) else none) → (st.map (·.1)).Nodup →
    ∃ st' x' rd', Tel 1 st' x' rd' d st x rd ∧ x ≤ x' ∧ x' ≤ n ∧ rd' = Ms.take x' ∧ (∀ i, x ≤ i → i < x' → E i) ∧ (x' < n → ¬E x') ∧ (∀ i, lookS st' (1, i) = if i < n ∧ x' ≤ i ∧ E i then Ms[i]?.map (fun M => ((1, i), M)) else none) ∧ (st'.map (·.1)).Nodup
  | 0, x, st, rd, hd, hx, hr, hs, hnd => by
    refine ⟨st, x, rd, .done ?_, Nat.le_refl _, hx, hr, fun i h1 h2 => absurd h2 (by omega), fun h => absurd h (by omega), hs, hnd⟩
    rw [hs, if_neg (by omega)]
  | d + 1, x, st, rd, hd, hx, hr, hs, hnd => by
    have := dec x
    by_cases hE : E x
    · have hxn : x < n := by omega
      obtain ⟨M, hM⟩ : ∃ M, Ms[x]? = some M := ⟨_, List.getElem?_eq_getElem (by omega)⟩
      have hlx : lookS st (1, x) = some ((1, x), M) := by rw [hs, if_pos ⟨hxn, Nat.le_refl _, hE⟩, hM]; rfl
      obtain ⟨st', x', rd', t, a1, a2, a3, a4, a5, a6, a7⟩ := tel_go hl hn E dec d (x + 1) (delS (1, x) st) (rd ++ [M]) (by omega) (by omega) (by rw [hr, List.take_add_one, hM]; rfl) (fun i => by
        rw [lookS_del hnd, hs]
        by_cases hi : i = x
        · subst hi
          rw [if_pos rfl, if_neg (by omega)]
        · rw [if_neg (by simpa using hi)]
          by_cases h2 : i < n ∧ x ≤ i ∧ E i
          · rw [if_pos h2, if_pos ⟨h2.1, by omega, h2.2.2⟩]
          · rw [if_neg h2, if_neg (fun h3 => h2 ⟨h3.1, by omega, h3.2.2⟩)]) (delS_nodup hnd)
      refine ⟨st', x', rd', .step hlx (by rw [show (x + 1) % 65536 = x + 1 by omega]; exact t), by omega, a2, a3, fun i h1 h2 => ?_, a5, a6, a7⟩
      rcases Nat.eq_or_lt_of_le h1 with rfl | h1
      · exact hE
      · exact a4 i h1 h2
    · refine ⟨st, x, rd, .done ?_, Nat.le_refl _, hx, hr, fun i h1 h2 => absurd h2 (by omega), fun _ => hE, hs, hnd⟩
      rw [hs, if_neg (fun h => hE h.2.2)]
end Go.Proofs.Ytnffglfpjcbfaaa

/-! JoinOrders: what holds of a Join between two steps. -/
set_option linter.unusedVariables false
namespace Go.Proofs.Ytnffglfpjcbfaaa
open Go Vm
/-- the messages, and their chunks -/
structure Mes (n : Nat) (Cs : Nat → List Ck) (Ms : List Mg) : Prop where
  n20 : n ≤ 20
  len : Ms.length = n
  chn : ∀ i, i < n → Chn (Cs i)
  msg : ∀ i b l, i < n → Cs i = b :: l → Ms[i]? = some (whole b l) ∧ (whole b l).str = 1 ∧ (whole b l).un = false ∧ b.inn = i
  inj : ∀ (i j k l : Nat) (x y : Ck), i < n → j < n → (Cs i)[k]? = some x → (Cs j)[l]? = some y → x.A = y.A → i = j ∧ k = l
  out : ∀ i, i < n → ∀ c ∈ Cs i, c.out = 1
  dts : ∀ i, i < n → (dts (Cs i)).length ≤ 32
  len32 : ∀ i, i < n → (Cs i).length ≤ 32
abbrev ks (l : List Ck) : List Nat := l.map (·.A)
def Dn (L : List Ck) (K : List Nat) : Prop := ∀ c ∈ L, c.A ∉ K
instance (L : List Ck) (K : List Nat) : Decidable (Dn L K) := inferInstanceAs (Decidable (∀ c ∈ L, c.A ∉ K))
structure OI (n : Nat) (Cs : Nat → List Ck) (Ms : List Mg) (left : List Ck) (ch : List (Nat × Ck)) (st : List ((Nat × Nat) × Mg)) (x : Nat) (rd : List Mg) (held tot e : Nat) : Prop where
  sub : ∀ c ∈ left, ∃ (i k : Nat), i < n ∧ (Cs i)[k]? = some c
  nd : (ks left).Nodup
  has : ∀ i, i < n → ¬Dn (Cs i) (ks left) → ∀ c ∈ Cs i, look ch c.A = if c.A ∈ ks left then none else some (c.A, c)
  chn : (ch.map (·.1)).Nodup
  xn : x ≤ n
  rdx : rd = Ms.take x
  dx : x < n → ¬Dn (Cs x) (ks left)
  dl : ∀ i, i < x → Dn (Cs i) (ks left)
  stx : ∀ i, lookS st (1, i) = if i < n ∧ x ≤ i ∧ Dn (Cs i) (ks left) then Ms[i]?.map (fun M => ((1, i), M)) else none
  stn : (st.map (·.1)).Nodup
  le : (Go.Proofs.Ytnffglfpjcbfaaa.dts left).length ≤ tot
  lo : tot ≤ held + (Go.Proofs.Ytnffglfpjcbfaaa.dts left).length
  hi : held + e + 2 * (Go.Proofs.Ytnffglfpjcbfaaa.dts left).length ≤ 2 * tot
/-- one chunk is taken out -/
structure Rem (left : List Ck) (c : Ck) (left' : List Ck) : Prop where
  mem : ∀ a, a ∈ ks left' ↔ a ∈ ks left ∧ a ≠ c.A
  nd : (ks left').Nodup
  sub : ∀ d ∈ left', d ∈ left
  inn : c ∈ left
  len : (dts left).length = (dts left').length + c.dt.length
theorem rem_of {left : List Ck} {p : Nat} {c : Ck} (hp : left[p]? = some c) (nd : (ks left).Nodup) : Rem left c (left.take p ++ left.drop (p + 1)) := by
  have hl := (List.getElem?_eq_some_iff.1 hp).1
  have e : left = left.take p ++ c :: left.drop (p + 1) := by
    conv => lhs; rw [← List.take_append_drop p left]
    rw [List.drop_eq_getElem_cons hl]
    rw [List.getElem?_eq_getElem hl] at hp
    rw [Option.some.inj hp]
  have hk : ks left = ks (left.take p) ++ c.A :: ks (left.drop (p + 1)) := by
    conv => lhs; rw [e]
    simp [ks]
  have hk' : ks (left.take p ++ left.drop (p + 1)) = ks (left.take p) ++ ks (left.drop (p + 1)) := by simp [ks]
  have nd0 := nd
  rw [hk, List.nodup_append] at nd
  obtain ⟨n1, n2, n3⟩ := nd
  rw [List.nodup_cons] at n2
  refine ⟨fun a => ?_, ?_, fun d hd => ?_, List.mem_of_getElem? hp, ?_⟩
  · rw [hk, hk', List.mem_append, List.mem_append, List.mem_cons]
    constructor
    · rintro (h | h)
      · exact ⟨.inl h, n3 a h c.A (List.mem_cons_self ..)⟩
      · exact ⟨.inr (.inr h), fun e => n2.1 (e ▸ h)⟩
    · rintro ⟨h | h | h, hne⟩
      · exact .inl h
      · exact absurd h hne
      · exact .inr h
  · rw [hk', List.nodup_append]
    exact ⟨n1, n2.2, fun a ha b hb => n3 a ha b (List.mem_cons_of_mem _ hb)⟩
  · rw [List.mem_append] at hd
    exact hd.elim List.mem_of_mem_take List.mem_of_mem_drop
  · conv => lhs; rw [e]
    simp [Go.Proofs.Ytnffglfpjcbfaaa.dts]
    omega
section
variable {n : Nat} {Cs : Nat → List Ck} {Ms : List Mg} {left left' : List Ck} {ch : List (Nat × Ck)} {st : List ((Nat × Nat) × Mg)} {x : Nat} {rd : List Mg} {held tot e i k : Nat} {c : Ck}
theorem Mes.neA (M : Mes n Cs Ms) (hi : i < n) (hc : c ∈ Cs i) {j : Nat} (hj : j < n) (hne : j ≠ i) {d : Ck} (hd : d ∈ Cs j) : d.A ≠ c.A := fun ea => by
  obtain ⟨k, hk⟩ := List.getElem?_of_mem hc
  obtain ⟨l, hl⟩ := List.getElem?_of_mem hd
  exact hne (M.inj j i l k d c hj hi hl hk ea).1
theorem Rem.dn (M : Mes n Cs Ms) (r : Rem left c left') (hi : i < n) (hc : c ∈ Cs i) {j : Nat} (hj : j < n) (hne : j ≠ i) : Dn (Cs j) (ks left') ↔ Dn (Cs j) (ks left) :=
  ⟨fun h d hd hm => h d hd ((r.mem _).2 ⟨hm, M.neA hi hc hj hne hd⟩), fun h d hd hm => h d hd ((r.mem _).1 hm).1⟩
theorem OI.ndn (o : OI n Cs Ms left ch st x rd held tot e) (hi : i < n) (hc : c ∈ Cs i) (hm : c ∈ left) : ¬Dn (Cs i) (ks left) := fun h => h c hc (List.mem_map.2 ⟨c, hm, rfl⟩)
theorem OI.free (o : OI n Cs Ms left ch st x rd held tot e) (hi : i < n) (hc : c ∈ Cs i) (hm : c ∈ left) : look ch c.A = none := by
  rw [o.has i hi (o.ndn hi hc hm) c hc, if_pos (List.mem_map.2 ⟨c, hm, rfl⟩)]
/-- which of a message's chunks are in -/
def inS (L : List Ck) (K : List Nat) (k : Nat) : Bool := match L[k]? with | some c => decide (c.A ∉ K) | none => true
theorem OI.look' (M : Mes n Cs Ms) (o : OI n Cs Ms left ch st x rd held tot e) (r : Rem left c left') (hi : i < n) (hk : (Cs i)[k]? = some c) : ∀ d ∈ Cs i, look (ch ++ [(c.A, c)]) d.A = if d.A ∈ ks left' then none else some (d.A, d) := by
  intro d hd
  have hc := List.mem_of_getElem? hk
  have hz := o.free hi hc r.inn
  obtain ⟨l, hl⟩ := List.getElem?_of_mem hd
  rw [look_snoc hz]
  by_cases ea : d.A = c.A
  · obtain ⟨_, rfl⟩ := M.inj i i l k d c hi hi hl hk ea
    rw [hk] at hl
    cases hl
    rw [if_pos rfl, if_neg (fun h => ((r.mem _).1 h).2 rfl)]
  · rw [if_neg ea, o.has i hi (o.ndn hi hc r.inn) d hd]
    by_cases hm : d.A ∈ ks left
    · rw [if_pos hm, if_pos ((r.mem _).2 ⟨hm, ea⟩)]
    · rw [if_neg hm, if_neg (fun h => hm ((r.mem _).1 h).1)]
theorem OI.hasS (M : Mes n Cs Ms) (o : OI n Cs Ms left ch st x rd held tot e) (r : Rem left c left') (hi : i < n) (hk : (Cs i)[k]? = some c) : Has (ch ++ [(c.A, c)]) (Cs i) (inS (Cs i) (ks left')) := by
  intro l d hd
  rw [o.look' M r hi hk d (List.mem_of_getElem? hd)]
  unfold inS
  rw [hd]
  by_cases h : d.A ∈ ks left' <;> simp [h]
theorem OI.addN (M : Mes n Cs Ms) (o : OI n Cs Ms left ch st x rd held tot 0) (r : Rem left c left') (hi : i < n) (hk : (Cs i)[k]? = some c) (hd : ¬Dn (Cs i) (ks left')) :
    OI n Cs Ms left' (ch ++ [(c.A, c)]) st x rd (held + c.dt.length) tot c.dt.length ∧ ∃ p, look (ch ++ [(c.A, c)]) c.A = some p := by
  have hc := List.mem_of_getElem? hk
  have hz := o.free hi hc r.inn
  have hdn : ∀ j, j < n → (Dn (Cs j) (ks left') ↔ Dn (Cs j) (ks left)) := fun j hj => by
    by_cases e : j = i
    · subst e
      exact ⟨fun h => absurd h hd, fun h => absurd h (o.ndn hi hc r.inn)⟩
    · exact r.dn M hi hc hj e
  have hlen := r.len
  have hle := o.le
  have hlo := o.lo
  have hhi := o.hi
  refine ⟨⟨fun d h => o.sub d (r.sub d h), r.nd, fun j hj hj' d hdj => ?_, snoc_nodup hz o.chn, o.xn, o.rdx, fun h => fun h' => o.dx h ((hdn x h).1 h'), fun j hj => (hdn j (Nat.lt_of_lt_of_le hj o.xn)).2 (o.dl j hj), fun j => ?_, o.stn, by omega, by omega, by omega⟩, _, by rw [look_snoc hz, if_pos rfl]⟩
  · by_cases e : j = i
    · subst e
      exact o.look' M r hi hk d hdj
    · have hne := M.neA hi hc hj e hdj
      rw [look_snoc hz, if_neg hne, o.has j hj (fun h => hj' ((hdn j hj).2 h)) d hdj]
      by_cases hm : d.A ∈ ks left
      · rw [if_pos hm, if_pos ((r.mem _).2 ⟨hm, hne⟩)]
      · rw [if_neg hm, if_neg (fun h => hm ((r.mem _).1 h).1)]
  · rw [o.stx]
    by_cases hj : j < n
    · simp only [hdn j hj]
    · rw [if_neg (fun h => hj h.1), if_neg (fun h => hj h.1)]
theorem OI.addD (M : Mes n Cs Ms) (o : OI n Cs Ms left ch st x rd held tot 0) (r : Rem left c left') (hi : i < n) (hk : (Cs i)[k]? = some c) (hd : Dn (Cs i) (ks left')) {W : Mg} (hW : Ms[i]? = some W) :
    x ≤ i ∧ lookS st (1, i) = none ∧ ∃ st' x' rd' d, Tel 1 st' x' rd' d (st ++ [((1, i), W)]) x rd ∧ d ≤ 20 ∧
      OI n Cs Ms left' (delAll (Cs i) (ch ++ [(c.A, c)])) st' x' rd' (held + c.dt.length) tot c.dt.length ∧ ∀ d ∈ Cs i, look (delAll (Cs i) (ch ++ [(c.A, c)])) d.A = none := by
  have hc := List.mem_of_getElem? hk
  have hz := o.free hi hc r.inn
  have hndi := o.ndn hi hc r.inn
  have hxi : x ≤ i := by
    rcases Nat.lt_or_ge i x with h | h
    · exact absurd (o.dl i h) hndi
    · exact h
  have hls : lookS st (1, i) = none := by rw [o.stx, if_neg (fun h => hndi h.2.2)]
  have hdn : ∀ j, j < n → j ≠ i → (Dn (Cs j) (ks left') ↔ Dn (Cs j) (ks left)) := fun j hj e => r.dn M hi hc hj e
  obtain ⟨st', x', rd', t, a1, a2, a3, a4, a5, a6, a7⟩ := tel_go M.len M.n20 (fun j => Dn (Cs j) (ks left')) (fun j => inferInstance) (n - x) x (st ++ [((1, i), W)]) rd rfl o.xn o.rdx (fun j => by
    rw [lookS_snoc hls]
    by_cases e : j = i
    · subst e
      rw [if_pos rfl, if_pos ⟨hi, hxi, hd⟩, hW]; rfl
    · rw [if_neg (by simpa using e), o.stx]
      by_cases hj : j < n
      · simp only [hdn j hj e]
      · rw [if_neg (fun h => hj h.1), if_neg (fun h => hj h.1)]) (snocS_nodup hls o.stn)
  have hlen := r.len
  have hle := o.le
  have hlo := o.lo
  have hhi := o.hi
  have n20 := M.n20
  have hnd' := snoc_nodup hz o.chn
  refine ⟨hxi, hls, st', x', rd', n - x, t, by omega, ⟨fun d h => o.sub d (r.sub d h), r.nd, fun j hj hj' d hdj => ?_, (look_delAll (a := 0) hnd').2, a2, a3, fun h => a5 h, fun j hj => ?_, a6, a7, by omega, by omega, by omega⟩, fun d hdi => ?_⟩
  · have e : j ≠ i := fun e => hj' (by rw [e]; exact hd)
    have hne := M.neA hi hc hj e hdj
    rw [(look_delAll hnd').1, if_neg, look_snoc hz, if_neg hne, o.has j hj (fun h => hj' ((hdn j hj e).2 h)) d hdj]
    · by_cases hm : d.A ∈ ks left
      · rw [if_pos hm, if_pos ((r.mem _).2 ⟨hm, hne⟩)]
      · rw [if_neg hm, if_neg (fun h => hm ((r.mem _).1 h).1)]
    · rintro ⟨c', hc', ea⟩
      exact M.neA hi hc' hj e hdj ea.symm
  · by_cases h : j < x
    · have hjn : j < n := Nat.lt_of_lt_of_le h o.xn
      exact (hdn j hjn (by omega)).2 (o.dl j h)
    · exact a4 j (by omega) hj
  · rw [(look_delAll hnd').1, if_pos ⟨d, hdi, rfl⟩]
/-- chunks of a message that is whole may come and go -/
theorem OI.chg (M : Mes n Cs Ms) (o : OI n Cs Ms left ch st x rd held tot e) (hi : i < n) (hd : Dn (Cs i) (ks left)) {ch' : List (Nat × Ck)} (nd : (ch'.map (·.1)).Nodup) (hl : ∀ j, j < n → j ≠ i → ∀ d ∈ Cs j, look ch' d.A = look ch d.A) {held' e' : Nat} (h1 : held ≤ held') (h2 : held' + e' ≤ held + e) :
    OI n Cs Ms left ch' st x rd held' tot e' := by
  have hlo := o.lo
  have hhi := o.hi
  exact ⟨o.sub, o.nd, fun j hj hj' d hdj => by rw [hl j hj (fun e => hj' (by rw [e]; exact hd)) d hdj]; exact o.has j hj hj' d hdj, nd, o.xn, o.rdx, o.dx, o.dl, o.stx, o.stn, o.le, by omega, by omega⟩
end
end Go.Proofs.Ytnffglfpjcbfaaa

/-! JoinOrders: a chunk is added, and added again. -/
set_option linter.unusedVariables false
namespace Go.Proofs.Ytnffglfpjcbfaaa
open Go Vm
section
variable {h : Heap} {n N m : Nat} {Cs : Nat → List Ck} {Ms : List Mg} {left left' : List Ck} {ch : List (Nat × Ck)} {st : List ((Nat × Nat) × Mg)} {x : Nat} {rd : List Mg} {held tot e i k : Nat} {c : Ck} {ro : Option Addr}
theorem dts_mem {L : List Ck} {c : Ck} (h : c ∈ L) : c.dt.length ≤ (dts L).length := by
  obtain ⟨a, b, rfl⟩ := List.append_of_mem h
  simp [dts]
  omega
set_option maxHeartbeats 1000000 in
theorem w_addO1 (M : Mes m Cs Ms) (j : Jn h N [0, x] ch st rd held ro) (o : OI m Cs Ms left ch st x rd held tot 0) (r : Rem left c left') (hi : i < m) (hk : (Cs i)[k]? = some c) {oc : Option Addr} {cap : Nat} (hrow : Row h 1 oc c.dt.length (u8s c.dt)) (ht : tot ≤ 640) (hn : 200 ≤ n) :
    ResQ (callN Try.prog G0 n (.call 11 [.pointer (some ⟨N + 3, 0, none⟩), .agg (ckv c oc cap).toArray]) h) (fun v h' => v = .int .i64 0 ∧ ∃ ro', (∃ ch' st' x' rd' held', Jn h' N [0, x'] ch' st' rd' held' ro' ∧ OI m Cs Ms left' ch' st' x' rd' held' tot c.dt.length ∧ ((∃ p, look ch' c.A = some p) ∨ (Dn (Cs i) (ks left') ∧ ∀ d ∈ Cs i, look ch' d.A = none))) ∧ Pres N h ro h' ro') := by
  have hc := List.mem_of_getElem? hk
  have chn := M.chn i hi
  have wc := chn.wf c hc
  have hkl := (List.getElem?_eq_some_iff.1 hk).1
  have hl32 := M.len32 i hi
  have hd32 := M.dts i hi
  have hlen := r.len
  have hle := o.le
  have hhi := o.hi
  have n20 := M.n20
  have hx20 := o.xn
  refine w_add j wc.1 wc.2 hrow (by rw [M.out i hi c hc]; show 1 < 2; decide) (o.free hi hc r.inn) (by omega) (r := if Dn (Cs i) (ks left') then some (Cs i) else none) (by omega) (fun m' h' v e j' hv => ?_)
    (S := fun h' ro' => ∃ ch' st' x' rd' held', Jn h' N [0, x'] ch' st' rd' held' ro' ∧ OI m Cs Ms left' ch' st' x' rd' held' tot c.dt.length ∧ ((∃ p, look ch' c.A = some p) ∨ (Dn (Cs i) (ks left') ∧ ∀ d ∈ Cs i, look ch' d.A = none))) (fun e h' j' => ?_) (fun l e => ?_)
  · have hS := o.hasS M r hi hk
    have hin : ∀ (l : Nat) (d : Ck), (Cs i)[l]? = some d → inS (Cs i) (ks left') l = decide (d.A ∉ ks left') := fun l d hd => by unfold inS; rw [hd]
    by_cases hd : Dn (Cs i) (ks left')
    · rw [if_pos hd]
      refine w_runAll j' chn hS hk hv (fun l hl => ?_) (by omega) (by omega)
      obtain ⟨d, hld⟩ : ∃ d, (Cs i)[l]? = some d := ⟨_, List.getElem?_eq_getElem hl⟩
      rw [hin l d hld, decide_eq_true (hd d (List.mem_of_getElem? hld))]
    · rw [if_neg hd]
      obtain ⟨d, hdi, hdk⟩ : ∃ d, d ∈ Cs i ∧ d.A ∈ ks left' := Classical.byContradiction fun h => hd fun d hdi hdk => h ⟨d, hdi, hdk⟩
      obtain ⟨l, hld⟩ := List.getElem?_of_mem hdi
      refine w_runNot j' chn hS hk hv ?_ (i := l) (List.getElem?_eq_some_iff.1 hld).1 ?_ (by omega) (by omega)
      · rw [hin k c hk]; exact decide_eq_true (fun h => ((r.mem _).1 h).2 rfl)
      · rw [hin l d hld]; exact decide_eq_false (fun h => h hdk)
  · by_cases hd : Dn (Cs i) (ks left')
    · rw [if_pos hd] at e; cases e
    · obtain ⟨o', p⟩ := o.addN M r hi hk hd
      exact ⟨_, _, _, _, _, j', o', .inl p⟩
  · by_cases hd : Dn (Cs i) (ks left')
    · rw [if_pos hd] at e
      cases e
      cases hL : Cs i with
      | nil => rw [hL] at hc; cases hc
      | cons b l' =>
        obtain ⟨hW, hstr, hun, hinn⟩ := M.msg i b l' hi hL
        obtain ⟨hxi, hls, st', x', rd', d, t, hd20, o', hno⟩ := o.addD M r hi hk hd hW
        rw [hL] at chn hl32 hd32
        simp only [List.length_cons] at hl32
        refine ⟨b, l', rfl, chn.wf, chn.fols, chn.bg b rfl, chn.en, by omega, by omega, by omega, fun m' h' v e j' hv => ?_⟩
        rw [hinn]
        have hrdl : rd.length ≤ 20 := by rw [o.rdx, List.length_take, M.len]; omega
        refine ResQ.mono (w_keepO j' hv hun (ssn := i) (x := x) (by rw [hstr]; exact hls) (by rw [hstr]; rfl) (by omega) (by omega) (by omega) (st' := st') (x' := x') (rd' := rd') (mm := d) (by rw [hstr]; exact t) (by omega) (by omega)) ?_
        rintro _ h'' ⟨ro', j'', p''⟩
        rw [hstr, ← hL] at j''
        refine ⟨ro', ⟨_, st', x', rd', _, j'', o', .inr ⟨?_, fun d hdm => ?_⟩⟩, p''⟩
        · rw [← hL]; exact hd
        · rw [← hL] at hdm; exact hno d hdm
    · rw [if_neg hd] at e; cases e
set_option maxHeartbeats 1000000 in
theorem w_addO2 (M : Mes m Cs Ms) (j : Jn h N [0, x] ch st rd held ro) (o : OI m Cs Ms left ch st x rd held tot c.dt.length) (hi : i < m) (hk : (Cs i)[k]? = some c) (alt : (∃ p, look ch c.A = some p) ∨ (Dn (Cs i) (ks left) ∧ ∀ d ∈ Cs i, look ch d.A = none)) {oc : Option Addr} {cap : Nat} (hrow : Row h 1 oc c.dt.length (u8s c.dt)) (ht : tot ≤ 640) (hn : 200 ≤ n) :
    ResQ (callN Try.prog G0 n (.call 11 [.pointer (some ⟨N + 3, 0, none⟩), .agg (ckv c oc cap).toArray]) h) (fun _ h' => ∃ ro', (∃ ch' held', Jn h' N [0, x] ch' st rd held' ro' ∧ OI m Cs Ms left ch' st x rd held' tot 0) ∧ Pres N h ro h' ro') := by
  have hc := List.mem_of_getElem? hk
  have chn := M.chn i hi
  have wc := chn.wf c hc
  have hkl := (List.getElem?_eq_some_iff.1 hk).1
  have hl32 := M.len32 i hi
  have hd32 := M.dts i hi
  have hle := o.le
  have hhi := o.hi
  have n20 := M.n20
  have hx20 := o.xn
  have hcl := dts_mem hc
  rcases alt with ⟨p, hp⟩ | ⟨hd, hno⟩
  · refine ResQ.mono (w_addT j wc.1 wc.2 (by rw [M.out i hi c hc]; show 1 < 2; decide) hp (by omega)) ?_
    intro _ h' k'
    exact ⟨ro, ⟨ch, held, j.keeps k', ⟨o.sub, o.nd, o.has, o.chn, o.xn, o.rdx, o.dx, o.dl, o.stx, o.stn, o.le, o.lo, by omega⟩⟩, Pres.keeps k'⟩
  · have hz := hno c hc
    have hlk : ∀ d ∈ Cs i, look (ch ++ [(c.A, c)]) d.A = if d.A = c.A then some (c.A, c) else none := fun d hdi => by rw [look_snoc hz, hno d hdi]
    have hnd' := snoc_nodup hz o.chn
    have hS : Has (ch ++ [(c.A, c)]) (Cs i) (fun l => decide (l = k)) := by
      intro l d hld
      rw [hlk d (List.mem_of_getElem? hld)]
      by_cases ea : d.A = c.A
      · obtain ⟨_, rfl⟩ := M.inj i i l k d c hi hi hld hk ea
        rw [hk] at hld
        cases hld
        simp
      · have : l ≠ k := fun e => by subst e; rw [hk] at hld; cases hld; exact ea rfl
        simp [ea, this]
    refine ResQ.mono (w_add j wc.1 wc.2 hrow (by rw [M.out i hi c hc]; show 1 < 2; decide) hz (by omega) (r := if (Cs i).length = 1 then some (Cs i) else none) (by omega) (fun m' h' v e j' hv => ?_)
      (S := fun h' ro' => ∃ ch' held', Jn h' N [0, x] ch' st rd held' ro' ∧ OI m Cs Ms left ch' st x rd held' tot 0) (fun e h' j' => ?_) (fun l e => ?_)) (fun v h' => fun ⟨_, ro', a, b⟩ => ⟨ro', a, b⟩)
    · by_cases h1 : (Cs i).length = 1
      · rw [if_pos h1]
        exact w_runAll j' chn hS hk hv (fun l hl => by simp; omega) (by omega) (by omega)
      · rw [if_neg h1]
        exact w_runNot j' chn hS hk hv (by simp) (i := if k = 0 then 1 else 0) (by split <;> omega) (by split <;> simp <;> omega) (by omega) (by omega)
    · by_cases h1 : (Cs i).length = 1
      · rw [if_pos h1] at e; cases e
      · exact ⟨_, _, j', o.chg M hi hd hnd' (fun j hj hne d hdj => by rw [look_snoc hz, if_neg (M.neA hi hc hj hne hdj)]) (by omega) (by omega)⟩
    · by_cases h1 : (Cs i).length = 1
      · rw [if_pos h1] at e
        cases e
        cases hL : Cs i with
        | nil => rw [hL] at hc; cases hc
        | cons b l' =>
          obtain ⟨hW, hstr, hun, hinn⟩ := M.msg i b l' hi hL
          have hl0 : l' = [] := by rw [hL] at h1; simpa using h1
          subst hl0
          have hcb : c = b := by rw [hL] at hc; simpa using hc
          subst hcb
          rw [hL] at chn
          refine ⟨c, [], rfl, chn.wf, chn.fols, chn.bg c rfl, chn.en, by rw [hL] at hd32; omega, by simp, by simp; omega, fun m' h' v e j' hv => ?_⟩
          rw [hinn]
          have hWd : (whole c []).dt.length = c.dt.length := by simp [whole, dts]
          have hl : (∃ p, lookS st ((whole c []).str, i) = some p) ∨ (i ≠ x ∧ (x + 65536 - i) % 65536 ≤ 32767) := by
            rw [hstr]
            by_cases hxi : x ≤ i
            · left
              rw [o.stx, if_pos ⟨hi, hxi, hd⟩, hW]
              exact ⟨_, rfl⟩
            · right
              omega
          refine ResQ.mono (w_keepD j' hv hun (ssn := i) (x := x) (by rw [hstr]; rfl) hl (by omega) (by omega) (by rw [hWd]; omega) (by omega) (by omega)) ?_
          rintro _ h'' ⟨ro', j'', p''⟩
          rw [hWd, Nat.add_sub_cancel, ← hL] at j''
          refine ⟨ro', ⟨_, _, j'', o.chg M hi hd (look_delAll (a := 0) hnd').2 (fun j hj hne d hdj => ?_) (Nat.le_refl _) (by omega)⟩, p''⟩
          rw [(look_delAll hnd').1, if_neg, look_snoc hz, if_neg (M.neA hi hc hj hne hdj)]
          rintro ⟨c', hc', ea⟩
          exact M.neA hi hc' hj hne hdj ea.symm
      · rw [if_neg h1] at e; cases e
end
end Go.Proofs.Ytnffglfpjcbfaaa

