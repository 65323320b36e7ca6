/- Part of a proof by an abstract run of the program's code: FF. No condition. -/
import Derived.Test.YtnffglfpjcbfaaaFE
/-! The law JoinFree, walked. -/
set_option linter.unusedVariables false
namespace Go.Proofs.Ytnffglfpjcbfaaa
open Go Vm
theorem w_awake (h : Heap) (n : Nat) (hn : 1 ≤ n) : ResQ (callN Try.prog G0 n (.call 8 []) h) (fun v h' => v = .bool true ∧ h = h') := by
  obtain ⟨m, rfl⟩ : ∃ m, n = m + 1 := ⟨n - 1, by omega⟩
  exact ⟨.bool true, h, by rw [callN_call]; rfl, rfl, rfl⟩
theorem CkS.at {h : Heap} {P : Nat → Prop} : ∀ {l : List Ck} {cs : List Value} {i : Nat} {c : Ck}, CkS h P cs l → l[i]? = some c → ∃ o cap, CkA h P c (ckv c o cap) ∧ (cs.drop (i * 12)).take 12 = ckv c o cap ∧ Row h 1 o c.dt.length (u8s c.dt)
  | [], _, i, c, _, e => by simp at e
  | d :: l, _, 0, c, ⟨v, cs', e, ⟨o, cap, ev, r, hp⟩, r'⟩, e' => by
    cases e'
    subst ev
    refine ⟨o, cap, ⟨o, cap, rfl, r, hp⟩, ?_, r⟩
    subst e
    rw [Nat.zero_mul, List.drop_zero, List.take_append_of_le_length (by exact Nat.le_refl 12), List.take_of_length_le (by exact Nat.le_refl 12)]
  | d :: l, _, i + 1, c, ⟨v, cs', e, ⟨o, cap, ev, r, hp⟩, r'⟩, e' => by
    subst ev
    obtain ⟨o', cap', x, y, z⟩ := CkS.at r' (by simpa using e' : l[i]? = some c)
    refine ⟨o', cap', x, ?_, z⟩
    subst e
    rw [← y, Nat.succ_mul, Nat.add_comm (i * 12) 12, List.drop_append, ckv_length, List.drop_of_length_le (by rw [ckv_length]; omega), List.nil_append, Nat.add_sub_cancel_left]
section
variable {hA h h' : Heap} {n : Nat} {N : Nat} {nx : List Nat} {ch : List (Nat × Ck)} {st : List ((Nat × Nat) × Mg)} {rd : List Mg} {held : Nat} {ro ro' : Option Addr}
theorem Pres.far (p : Pres N h ro h' ro') (hN : hA.next ≤ N) (k : Keeps hA h) (of : ∀ r, ro = some r → N + 4 ≤ r.block) : Keeps hA h' :=
  ⟨Nat.le_trans k.next p.next, fun d hd => (p.get d (Nat.lt_of_lt_of_le hd k.next) (.inl (by omega)) (fun r e => by have := of r e; omega)).trans (k.get d hd)⟩
end
section
variable {h : Heap} {n : Nat}
/-- the one that waits -/
def waitC (tsn : Nat) : Ck := ⟨3, (tsn + 4294967296 - 5) % 4294967296, 1, 7, 0, [UInt8.ofNat 1], 0, .slice none 0 0, .slice none 0 0, .slice none 0 0, .slice none 0 0⟩
theorem waitC_wf (tsn : Nat) : (waitC tsn).wf := ⟨by show 3 < 256; decide, Nat.mod_lt _ (by decide), by show 1 < 65536; decide, by show 7 < 65536; decide, by show 0 < 4294967296; decide⟩
theorem waitC_chn (tsn : Nat) : Chn [waitC tsn] := ⟨fun c hc => by rw [List.mem_singleton.1 hc]; exact ⟨waitC_wf tsn, by simp [waitC]⟩, fun i x y hx hy => by simp at hy, fun c hc => by cases hc; show 3 &&& 2 = 2; decide, fun c hc => by cases hc; show 3 &&& 1 = 1; decide⟩
theorem w_addWait {N tsn : Nat} (j : Jn h N [0, 0] [] [] [] 0 none) {o : Option Addr} {cap : Nat} (hrow : Row h 1 o 1 (u8s [UInt8.ofNat 1])) (hn : 20 ≤ n) :
    ResQ (callN Try.prog G0 n (.call 11 [.pointer (some ⟨N + 3, 0, none⟩), .agg (ckv (waitC tsn) o cap).toArray]) h) (fun v h' => v = .int .i64 0 ∧ ∃ ro', (∃ st, Jn h' N [0, 0] [] st [] 1 ro') ∧ Pres N h none h' ro') := by
  refine w_add j (waitC_wf tsn) (by simp [waitC]) hrow (by show 1 < 2; decide) rfl (by show 0 + 1 ≤ 65536; decide) (r := some [waitC tsn]) (by omega) (fun m h' v e j' hv => ?_) (S := fun h' ro' => ∃ st, Jn h' N [0, 0] [] st [] 1 ro') (fun e => by cases e) (fun l e => ?_)
  · refine w_runAll j' (waitC_chn tsn) (S := fun _ => true) (fun i c hc => ?_) (k := 0) rfl hv (fun _ _ => rfl) (by show 1 ≤ 100000; decide) (by show 0 + 1 + 2 ≤ m; omega)
    cases i with
    | zero => cases hc; simp [look]
    | succ i => simp at hc
  · cases e
    refine ⟨waitC tsn, [], rfl, (waitC_chn tsn).wf, trivial, (waitC_chn tsn).bg _ rfl, (waitC_chn tsn).en, by show 1 ≤ 1000000; decide, by show 0 ≤ 100000; decide, by show 0 + 7 ≤ n; omega, fun m h' v e j' hv => ?_⟩
    have hdel : delAll [waitC tsn] ([] ++ [((waitC tsn).A, waitC tsn)]) = [] := by simp [delAll, delK]
    rw [hdel] at j'
    refine ResQ.mono (w_keepO (ssn := 7) j' hv (by simp [whole, waitC]) rfl (x := 0) rfl (by omega) (by decide) (by decide) (mm := 0) (Tel.done (by rfl)) (by decide) (by omega)) ?_
    rintro v h'' ⟨ro', j'', p⟩
    exact ⟨ro', ⟨_, j''⟩, p⟩
theorem cuts_inj {m : Mg} {tsn ssn most : Nat} (h1 : 1 ≤ most) (hb : m.dt.length ≤ 100000) {i j : Nat} {x y : Ck} (hx : (cuts m tsn ssn most)[i]? = some x) (hy : (cuts m tsn ssn most)[j]? = some y) (e : x.A = y.A) : i = j := by
  have a := (cuts_at h1 hx).1
  have b := (cuts_at h1 hy).1
  have l := cuts_len (m := m) (tsn := tsn) (ssn := ssn) (most := most) h1
  have li := (List.getElem?_eq_some_iff.1 hx).1
  have lj := (List.getElem?_eq_some_iff.1 hy).1
  rw [a, b] at e
  omega
theorem Has.add {ch : List (Nat × Ck)} {L : List Ck} {S : Nat → Bool} (hS : Has ch L S) (inj : ∀ (i j : Nat) (x y : Ck), L[i]? = some x → L[j]? = some y → x.A = y.A → i = j) {i : Nat} {c : Ck} (hi : L[i]? = some c) {S' : Nat → Bool} (hs' : ∀ x, S' x = (S x || decide (x = i))) : Has (ch ++ [(c.A, c)]) L S' := by
  intro x d hd
  have g := hS x d hd
  show (ch ++ [(c.A, c)]).find? _ = _
  rw [List.find?_append, hs']
  cases hx : S x with
  | true =>
    rw [hx, if_pos rfl] at g
    rw [show ch.find? _ = _ from g]
    simp
  | false =>
    rw [hx] at g
    rw [show ch.find? _ = _ from g]
    by_cases e : x = i
    · subst e
      rw [hi] at hd
      cases hd
      simp
    · have : ¬ c.A = d.A := fun e' => e (inj x i d c hd hi e'.symm)
      simp [e, this]
theorem dts_at {L : List Ck} {i : Nat} {c : Ck} (hc : L[i]? = some c) : (dts (L.drop i)).length = c.dt.length + (dts (L.drop (i + 1))).length := by
  have hl := (List.getElem?_eq_some_iff.1 hc).1
  rw [List.drop_eq_getElem_cons hl]
  rw [List.getElem?_eq_getElem hl] at hc
  rw [Option.some.inj hc]
  show (c.dt ++ dts _).length = _
  rw [List.length_append]
set_option maxHeartbeats 4000000 in
theorem w_lfree {tsn : Nat} {dt : List UInt8} {o : Option Addr} {cap : Nat} {most : Int} {w : Bool} (hr : Row h 1 o dt.length (u8s dt)) (hcap : dt.length ≤ cap) (ht : tsn < 4294967296) (hn : 5000 ≤ n) :
    ResQ (callN Try.prog G0 n (.call 4 [.int .u32 (tsn : Int), .slice o dt.length cap, .int .i64 most, .bool w]) h) (fun u h' => u = .bool true) := by
  obtain ⟨n, rfl⟩ : ∃ m, n = m + 1 := ⟨n - 1, by omega⟩
  refine res_enter rfl d4 rfl ?_; simp only [c4]
  refine gg ?_
  refine i_call0 (w_awake _ n (by omega)) ?_
  rintro _ _ ⟨rfl, rfl⟩
  refine gg ?_
  by_cases g0 : dt.length = 0
  · rw [decide_eq_true (p := ((dt.length : Nat) : Int) = 0) (by omega)]
    refine gg ?_
    rfl
  rw [decide_eq_false (p := ((dt.length : Nat) : Int) = 0) (by omega)]
  refine gg ?_
  by_cases g1 : 1000 < dt.length
  · rw [decide_eq_true (p := (1000 : Int) < ((dt.length : Nat) : Int)) (by omega)]
    refine gg ?_
    rfl
  rw [decide_eq_false (p := (1000 : Int) < ((dt.length : Nat) : Int)) (by omega)]
  refine gg ?_
  by_cases g2 : most < 1
  · rw [decide_eq_true g2]
    refine gg ?_
    rfl
  rw [decide_eq_false g2]
  refine gg ?_
  by_cases g3 : 1172 < most
  · rw [decide_eq_true g3]
    refine gg ?_
    rfl
  rw [decide_eq_false g3]
  refine gg ?_
  obtain ⟨k, rfl⟩ : ∃ k : Nat, most = (k : Int) := ⟨most.toNat, by omega⟩
  refine i_call1 (by rfl) (w_new (k := 2) (by decide) (by decide) (by omega)) ?_
  rintro _ h1 ⟨rfl, k1, j1⟩
  refine gg ?_
  refine i_cut 7 (fun f h' => (∃ st held ro, held ≤ 1 ∧ Jn h' h.next [0, 0] [] st [] held ro ∧ Keeps h h') ∧ Sl [(43, .bool false), (9, .bool true), (10, .pointer (some ⟨h.next + 3, 0, none⟩)), (0, .int .u32 (tsn : Int)), (1, .slice o dt.length cap), (2, .int .i64 (k : Int))] f) ?_ ?_
  · simp only [List.take]
    have j1 : Jn h1 h.next [0, 0] [] [] [] 0 none := j1
    cases w with
    | false =>
      refine gg ?_
      exact ⟨⟨[], 0, none, by decide, j1, k1⟩, sel_of rfl, sel_of rfl, sel_of rfl, sel_of rfl, sel_of rfl, sel_of rfl, trivial⟩
    | true =>
      refine gg ?_
      refine i_subW (by exact sel_of rfl) (by rfl) (sub32 tsn (by decide : 5 < 4294967296)) ?_
      refine gg ?_
      refine i_call5 (v2 := .int .u16 ((1 : Nat) : Int)) (v3 := .int .u16 ((7 : Nat) : Int)) (v4 := .int .u8 ((3 : Nat) : Int)) (v5 := .int .u8 ((1 : Nat) : Int)) (by exact sel_of rfl) (by rfl) (by rfl) (by rfl) (by rfl) (w_piece (by omega)) ?_
      rintro _ h2 ⟨rfl, k2, r2⟩
      refine gg ?_
      refine i_call2 (by exact sel_of rfl) (by exact sel_of rfl) (w_addWait (tsn := tsn) (j1.keeps k2) r2 (by omega)) ?_
      rintro _ h3 ⟨rfl, ro, ⟨st, j3⟩, p3⟩
      refine gg ?_
      exact ⟨⟨st, 1, ro, by decide, j3, p3.far (Nat.le_refl _) (k1.trans k2) (fun r e => by cases e)⟩, sel_of rfl, sel_of rfl, sel_of rfl, sel_of rfl, sel_of rfl, sel_of rfl, trivial⟩
  simp only [List.drop]
  clear k1 j1 h1
  rintro f1 h1 ⟨⟨st, held, ro, hh, j1, k1⟩, hs⟩
  obtain ⟨f0, rfl⟩ := hs.puts
  clear hs
  refine gg ?_
  obtain ⟨m, hm⟩ : ∃ m : Mg, m = ⟨1, true, 9, dt⟩ := ⟨_, rfl⟩
  have hmv : mgv m o cap = [.int .u16 ((1 : Nat) : Int), .bool true, .int .u32 ((9 : Nat) : Int), .slice o dt.length cap] := by rw [hm]; rfl
  refine i_storeF (vs := mgv m o cap) (Keeps.new h1 _) (Nat.le_refl _) (by exact sel_of rfl) (by rw [sel_of rfl, hmv]; rfl) (by rw [Heap.get_new, if_pos rfl]) rfl rfl (Nat.lt_succ_self _) fun h2 k2 g2 lt2 => ?_
  refine gg ?_
  refine i_loadN (v := mgv m o cap) (by exact sel_of rfl) (loadN_all g2 rfl) ?_
  refine gg ?_
  have hmd : m.dt = dt := by rw [hm]
  have hrm : Row h 1 o m.dt.length (u8s m.dt) := by rw [hmd]; exact hr
  refine i_call4 (v3 := .int .u16 ((0 : Nat) : Int)) (by exact sel_of rfl) (by exact sel_of rfl) (by rfl) (by exact sel_of rfl) (w_rsplit (m := m) (tsn := tsn) (ssn := 0) (most := k) (k1.trans k2) (fun _ => True) hrm (fun _ _ => trivial) (by rw [hmd]; exact hcap) (fun e => g0 (by rw [← hmd, e]; rfl)) (by rw [hmd]; omega) (by omega) (by omega) ht (by decide) (by rw [hmd]; omega)) ?_
  rintro _ h3 ⟨q, cs, rfl, k3, ap3, fl3, hcs⟩
  obtain ⟨L, hL⟩ : ∃ L, L = cuts m tsn 0 k := ⟨_, rfl⟩
  rw [← hL] at ap3 hcs ⊢
  have hLl : L.length ≤ 1000 := by
    have := cuts_len (m := m) (tsn := tsn) (ssn := 0) (most := k) (by omega)
    rw [← hL, hmd] at this
    omega
  refine gg ?_
  have chn : Chn L := by rw [hL]; exact cuts_chn (by omega) (by decide) (by rw [hm]; show 1 < 65536; decide) (by rw [hm]; show 9 < 4294967296; decide) ht
  have inj : ∀ (i j : Nat) (x y : Ck), L[i]? = some x → L[j]? = some y → x.A = y.A → i = j := by
    intro i j x y hx hy e
    rw [hL] at hx hy
    exact cuts_inj (by omega) (by rw [hmd]; omega) hx hy e
  have hLd : dts L = dt := by rw [hL, cuts_dts (by omega), hmd]
  have hLo : ∀ (i : Nat) (c : Ck), L[i]? = some c → c.out = 1 := fun i c hc => by
    rw [hL] at hc
    rw [(cuts_at (by omega) hc).2.1, hm]
  have hup := j1.up
  have k02 := k1.trans k2
  have hro : ∀ r, ro = some r → r.block < h1.next := by
    obtain ⟨cs', a, _⟩ := j1.rdy
    exact fun r e => Row.low a.row r e
  have hqb : q.block < h3.next := Row.low ap3.row q rfl
  refine (o_while (fun K f h' => ∃ ch rd held ro, (Jn h' h.next [0, 0] ch st rd held ro ∧ Keeps h h' ∧ h'.get h1.next = some (.cells 30 (mgv m o cap) (.own false)) ∧ h1.next < h'.next ∧ Apart ro h1.next ∧ Row h' 12 (some q) L.length cs ∧ Apart ro q.block)
    ∧ (K ≤ L.length ∧ held ≤ 1 + (dts (L.drop K)).length ∧ (dts (L.drop K)).length ≤ held ∧ ((0 < K ∧ rd = [] ∧ Has ch L (fun i => decide (K ≤ i))) ∨ (K = 0 ∧ rd = [m])))
    ∧ Sl [(14, .int .i64 ((K : Int) - 1)), (9, .bool true), (10, .pointer (some ⟨h.next + 3, 0, none⟩)), (11, .pointer (some ⟨h1.next, 0, none⟩)), (12, .slice (some q) L.length L.length)] f) L.length (by omega) ?_ ?_)
  · refine ⟨[], [], held, ro, ⟨j1.keeps (k2.trans k3), k02.trans k3, (k3.get _ lt2).trans g2, Nat.lt_of_lt_of_le lt2 k3.next, fun r e => by have := hro r e; omega, ap3.row, fun r e => by have := hro r e; have := k2.next; omega⟩, ⟨Nat.le_refl _, ?_, ?_, .inl ⟨?_, rfl, fun i c hc => ?_⟩⟩, ?_⟩
    · rw [List.drop_length]; show held ≤ 1 + 0; omega
    · rw [List.drop_length]; exact Nat.zero_le _
    · exact List.length_pos_iff.2 (by rw [hL]; exact cuts_ne (by rw [hmd]; exact fun e => g0 (by rw [e]; rfl)))
    · have := (List.getElem?_eq_some_iff.1 hc).1
      show _ = if decide (L.length ≤ i) = true then _ else _
      rw [decide_eq_false (by omega)]; rfl
    · exact ⟨sel_of rfl, sel_of rfl, sel_of rfl, sel_of rfl, sel_of rfl, trivial⟩
  have hqN : h.next + 4 ≤ q.block := by have := k2.next; omega
  clear j1 k1 k2 k3 g2 lt2 ap3 hro k02 hh
  have hle : ∀ i, (dts (L.drop i)).length ≤ 1000 := fun i => by
    have e := congrArg List.length (congrArg dts (List.take_append_drop i L))
    rw [hLd] at e
    simp only [dts, List.flatMap_append, List.length_append] at e ⊢
    omega
  rintro K f h' ⟨ch, rd, held, ro, ⟨j, kA, g, lt, aB, rq, aq⟩, ⟨hK, hu, hl, hcase⟩, hs⟩
  obtain ⟨f0, rfl⟩ := hs.puts
  clear hs
  simp only [c4_0]
  refine gg ?_
  rcases hcase with ⟨hK0, rfl, hS⟩ | ⟨rfl, rfl⟩
  · obtain ⟨i, rfl⟩ : ∃ i, K = i + 1 := ⟨K - 1, by omega⟩
    rw [show ((i + 1 : Nat) : Int) - 1 = (i : Int) by omega]
    rw [decide_eq_true (p := (0 : Int) ≤ (i : Int)) (by omega)]
    refine gg ?_
    have hli := hle (i + 1)
    refine i_call1 (by exact sel_of rfl) (w_take j (by show 0 ≤ held; omega) (by omega) (by show 0 ≤ 1000000; decide) (by show 0 + 2 ≤ n; omega)) ?_
    rintro _ h4 ⟨rfl, j4, p4, _⟩
    have j4 : Jn h4 h.next [0, 0] ch st [] held none := j4
    show ItQ (runItems _ _ (puts ((61, .slice ro ((0 : Nat)) ((0 : Nat))) :: _) _) _) _
    have kA4 : Keeps h h4 := p4.far (Nat.le_refl _) kA (fun r e => by cases e)
    have g4 := (p4.get _ lt (.inr hup) (fun r e => by cases e)).trans g
    have r4 := p4.row rq (fun q' e => ⟨.inr (by cases e; exact hqN), fun r e => by cases e⟩)
    have lt4 := Nat.lt_of_lt_of_le lt p4.next
    obtain ⟨c, hc⟩ : ∃ c, L[i]? = some c := ⟨_, List.getElem?_eq_getElem (by omega)⟩
    obtain ⟨oc, cc, ca, hv, hrow⟩ := hcs.at hc
    have wc := chn.wf c (List.mem_of_getElem? hc)
    have hda := dts_at hc
    have hli' := hle i
    refine gg ?_
    refine i_idx (by exact sel_of rfl) r4 (i := i) (by exact sel_of rfl) (by omega) fun q' hq' => ?_
    cases hq'
    refine gg ?_
    refine i_loadN (v := ckv c oc cc) (by exact sel_of rfl) (by rw [← hv]; exact r4.cells (by omega) _) ?_
    refine gg ?_
    have hz : look ch c.A = none := by
      have := hS i c hc
      rw [this, if_neg]
      simp
    have hS' : Has (ch ++ [(c.A, c)]) L (fun x => decide (i ≤ x)) := hS.add inj hc (fun x => by
      rw [Bool.eq_iff_iff]; simp; omega)
    refine i_call2 (by exact sel_of rfl) (by exact sel_of rfl) (w_add j4 wc.1 wc.2 (hrow.keeps kA4) (by rw [hLo i c hc]; show 1 < 2; decide) hz (by omega) (r := if i = 0 then some L else none) (by omega) (fun m' h' v e j' hv' => ?_) (S := fun h'' ro'' => ∃ ch' rd' held', Jn h'' h.next [0, 0] ch' st rd' held' ro'' ∧ held' = held + c.dt.length ∧ ((0 < i ∧ rd' = [] ∧ Has ch' L (fun x => decide (i ≤ x))) ∨ (i = 0 ∧ rd' = [m]))) (fun e h' j' => ?_) (fun l e => ?_)) ?_
    · by_cases hi : i = 0
      · subst hi
        rw [if_pos rfl]
        exact w_runAll j' chn hS' hc hv' (fun _ _ => by simp) (by omega) (by omega)
      · rw [if_neg hi]
        exact w_runNot j' chn hS' hc hv' (by simp) (i := 0) (by omega) (by simp; omega) (by omega) (by omega)
    · by_cases hi : i = 0
      · rw [if_pos hi] at e; cases e
      · exact ⟨_, [], _, j', rfl, .inl ⟨by omega, rfl, hS'⟩⟩
    · by_cases hi : i = 0
      · rw [if_pos hi] at e
        cases e
        cases hLL : L with
        | nil => rw [hLL] at hc; simp at hc
        | cons b l' =>
          have hw : whole b l' = m := cuts_whole (tsn := tsn) (ssn := 0) (most := k) (by omega) (by rw [← hL]; exact hLL)
          rw [hLL] at chn hLl hLd
          refine ⟨b, l', rfl, chn.wf, chn.fols, chn.bg b rfl, chn.en, by rw [hLd]; omega, by simp at hLl; omega, by simp at hLl; omega, fun m' h' v e j' hv' => ?_⟩
          rw [hw] at hv'
          refine ResQ.mono (w_keepU j' hv' (by rw [hm]) (by decide) (by omega)) ?_
          rintro _ h'' ⟨ro'', j'', p''⟩
          exact ⟨ro'', ⟨_, _, _, j'', rfl, .inr ⟨hi, rfl⟩⟩, p''⟩
      · rw [if_neg hi] at e; cases e
    rintro _ h5 ⟨rfl, ro5, ⟨ch5, rd5, held5, j5, hh5, hc5⟩, p5⟩
    refine gg ?_
    refine rnd_n i (Nat.lt_succ_self _) ⟨ch5, rd5, held5, ro5, ⟨j5, p5.far (Nat.le_refl _) kA4 (fun r e => by cases e), (p5.get _ lt4 (.inr hup) (fun r e => by cases e)).trans g4, Nat.lt_of_lt_of_le lt4 p5.next, p5.apart lt4 (fun r e => by cases e), p5.row r4 (fun q' e => ⟨.inr (by cases e; exact hqN), fun r e => by cases e⟩), p5.apart (Row.low r4 q rfl) (fun r e => by cases e)⟩, ⟨by omega, by omega, by omega, hc5⟩, sel_of rfl, sel_of rfl, sel_of rfl, sel_of rfl, sel_of rfl, trivial⟩
  · rw [decide_eq_false (p := (0 : Int) ≤ ((0 : Nat) : Int) - 1) (by omega)]
    refine gg ?_
    have hh0 := hle 0
    rw [List.drop_zero, hLd] at hu hl hh0
    have hmt : mts [m] = dt.length := by simp [mts, hmd]
    refine i_call1 (by exact sel_of rfl) (w_take j (by rw [hmt]; exact hl) (by omega) (by show 1 ≤ 1000000; decide) (by show 1 + 2 ≤ n; omega)) ?_
    rintro _ h4 ⟨rfl, j4, p4, cs4, r4, ⟨v4, cs4', e4, ⟨o4, c4, rfl, d4⟩, e4'⟩⟩
    subst e4'
    rw [List.append_nil] at e4
    subst e4
    have r4 : Row h4 4 ro 1 (mgv m o4 c4) := r4
    have kA4 : Keeps h h4 := p4.far (Nat.le_refl _) kA (fun r e => by cases e)
    have g4 := (p4.get _ lt (.inr hup) (fun r e => by cases e)).trans g
    obtain ⟨u, rfl⟩ : ∃ u, ro = some u := by
      cases ro with
      | none => exact absurd (show 1 = 0 from r4.2) (by decide)
      | some u => exact ⟨u, rfl⟩
    show ItQ (runItems _ _ (puts ((74, .slice (some u) ((1 : Nat)) ((1 : Nat))) :: _) _) _) _
    refine gg ?_
    refine i_idx (i := 0) (by exact sel_of rfl) r4 (by rfl) (by decide) fun q' hq' => ?_
    cases hq'
    refine gg ?_
    refine i_loadN (v := mgv m o4 c4) (by exact sel_of rfl) (by rw [r4.cells (m := 4) (by decide)]; rfl) ?_
    refine gg ?_
    refine i_loadN (v := mgv m o cap) (by exact sel_of rfl) (loadN_all g4 rfl) ?_
    refine gg ?_
    refine i_call2 (by exact sel_of rfl) (by exact sel_of rfl) (w_same d4.1 (hrm.keeps kA4) (by omega)) ?_
    rintro _ h5 ⟨rfl, k5⟩
    refine gg ?_
    refine i_call1 (by exact sel_of rfl) (w_take (j4.keeps k5) (by show 0 ≤ _; omega) (by omega) (by show 0 ≤ 1000000; decide) (by show 0 + 2 ≤ n; omega)) ?_
    rintro _ h6 ⟨rfl, _⟩
    show ItQ (runItems _ _ (puts ((90, .slice none ((0 : Nat)) ((0 : Nat))) :: _) _) _) _
    refine gg ?_
    rfl
end
end Go.Proofs.Ytnffglfpjcbfaaa

