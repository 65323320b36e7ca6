/- Part of a proof by an abstract run of the program's code: RE. No condition. -/
import Derived.Test.YtmlagbknnngjjaaGreatRD
/-! What an End sends: skips, start, send. -/
set_option linter.unusedVariables false
namespace Go.Proofs.YtmlagbknnngjjaaGreat
open Go Vm
section
variable {rec : Rec} {L : List (Nat × Value)} {f : Fr} {h : Heap} {K : Fr → Heap → Prop} {x y : Sel} {l : List ISem} {b e n : Nat} {s : Option Nat} {cs vs : List Value} {op : Bool}
theorem i_storeG {off : Nat} (hx : x.f (puts L f) = .pointer (some ⟨b, off, s⟩)) (hy : cellsL (y.f (puts L f)) = some vs) (hg : h.get b = some (.cells e cs (.own op))) (hv : vs.length = n) (hl : off + vs.length ≤ cs.length)
    (hq : ItQ (runItems rec l (puts L f) (h.put b (.cells e (putAt cs off vs) (.own op)))) K) : ItQ (runItems rec (iOp ⟨fun _ a => a⟩ (.e (eStore n x y)) :: l) (puts L f) h) K := by
  refine items_cons (it_e ⟨Vm.undef, h.put b (.cells e (putAt cs off vs) (.own op)), ?_, hq⟩)
  have h1 := storeN_own (s := s) (off := off) (vs := vs) hg hl
  simp only [eStore, hx, hy]
  rw [h1, hv, Nat.beq_refl]; rfl
theorem i_appX {dt sz by_ m : Nat} {ds : List Value} (hx : x.f (puts L f) = .slice none 0 0) (hy : srcCells h.get sz (y.f (puts L f)) = some (m, ds)) (hd : ds.length = m * sz) (hbig : m * by_ ≤ 140737488355328)
    (hq : ∀ ov h', Keeps h h' → Arr h.next h' e sz ov m ds → ItQ (runItems rec l (puts ((dt, .slice ov m m) :: L) f) h') K) : ItQ (runItems rec (iOp (put dt) (.e (eAppend e sz by_ x y)) :: l) (puts L f) h) K := by
  cases m with
  | zero =>
    refine items_cons (it_e ⟨_, h, ?_, hq none h (Keeps.refl h) ⟨hd, .inl ⟨rfl, rfl⟩⟩⟩)
    simp only [eAppend, hx, hy]
    rw [Nat.zero_add, Nat.zero_mul]; rfl
  | succ m =>
    refine i_appF (B := h.next) (m := m + 1) (t := m + 1) (es := ds) (Nat.succ_pos _) (Nat.le_refl _) hx (Ap.nil _ _ _ _) hy hd (by rw [Nat.zero_add]; exact hbig) (by omega) rfl fun h' n' k' a' => ?_
    exact hq _ _ ⟨by omega, fun d hd => k' d hd fun q e => by cases e⟩ (Arr.of a' (Nat.le_refl _))
end
theorem sv_pt (b : Nat) : sameV (pt b) (pt b) = true := by
  show (bif eqA (⟨b, 0, none⟩ : Addr) ⟨b, 0, none⟩ then ((none : Option Nat) == none) else false) = true
  have : eqA (⟨b, 0, none⟩ : Addr) ⟨b, 0, none⟩ = true := by simp [eqA]
  rw [this]; rfl
theorem Arr.row {B : Nat} {h : Heap} {e sz : Nat} {ov : Option Addr} {m : Nat} {cs : List Value} (a : Arr B h e sz ov m cs) : Row h sz ov m cs := a.ap.row
/-- another block than the queue's own -/
theorem Que.but {h h' : Heap} {Q nx X : Nat} {oq : Option Addr} {es : List Ent} {cs : List Value} {op : Bool} (x : Que h Q oq nx es) (hX : h.get X = some (.cells 79 cs (.own op))) (hn : h.next ≤ h'.next) (hg : ∀ d, d < h.next → d ≠ X → h'.get d = h.get d) : Que h' Q oq nx es := by
  have hql := x.ql
  refine ⟨(hg Q hql fun e => by rw [e] at x; have := x.hq; rw [hX] at this; cases this).trans x.hq, by omega, x.ar.imp id fun ⟨k, h1, h2, h3⟩ => ⟨k, h1, by omega, (hg k h2 fun e => by rw [e, hX] at h3; cases h3).trans h3⟩, fun e he => ?_, x.nd, x.lim, x.nxl⟩
  have z := x.en e he
  have zb := z.bl
  have zp := z.pl
  have zk := z.kl
  exact ⟨(hg _ zb fun e1 => by have := z.hb; rw [e1, hX] at this; cases this).trans z.hb, by omega, (hg _ zp fun e1 => by have := z.hp; rw [e1, hX] at this; cases this).trans z.hp, by omega, (hg _ zk fun e1 => by have := z.hk; rw [e1, hX] at this; cases this).trans z.hk, by omega, z.wf, z.ne, z.le⟩
/-- what send reads of an End -/
structure SdV (cs : List Value) (Q cw mt w : Nat) (pe : Int) (ru sk : Bool) : Prop where
  len : cs.length = 21
  c0 : cs[0]? = some (pt Q)
  cw : (cs.drop 1).take 6 = wayv cw mt
  c9 : cs[9]? = some (nv w)
  c11 : cs[11]? = some (.int .i64 pe)
  c13 : cs[13]? = some (.bool ru)
def alarmed (cs : List Value) (b ru : Bool) (t : Int) (w : Nat) : List Value := if b && !ru then putAt cs 13 [.bool true, .int .i64 (t + w)] else cs
/-- what send leaves and tells -/
structure FX (h h' : Heap) (X : Nat) (cs : List Value) (Q nx : Nat) (oq : Option Addr) (t : Int) (r w : Nat) (ru : Bool) (es : List Ent) (ov : Option Addr) (ks : List (Nat × Ck)) : Prop where
  que : Que h' Q oq nx (takeF t r es).1
  two : (takeF t r es).2.map Ent.c = ks.map (·.2)
  nxt : h.next ≤ h'.next
  low : ∀ d, d < h.next → d ∉ es.map Ent.b → d ≠ X → h'.get d = h.get d
  ch : ∀ x ∈ ks, h.next ≤ x.1 ∧ Dat h' x.1 x.2.dt
  ar : Arr h.next h' 42 12 ov ks.length (cksv ks)
  gX : h'.get X = some (.cells 79 (alarmed cs (decide (0 < ks.length ∨ 0 < octs [1] (takeF t r es).1)) ru t w) (.own false))
theorem takeF_len (t : Int) : ∀ (es : List Ent) (r : Nat), (takeF t r es).1.length = es.length ∧ (takeF t r es).2.length ≤ es.length
  | [], _ => ⟨rfl, Nat.le_refl _⟩
  | e :: es, r => by
    unfold takeF
    by_cases h1 : e.st = 0
    · rw [if_pos h1]
      by_cases h2 : r < e.sz
      · rw [if_pos h2]; exact ⟨rfl, Nat.zero_le _⟩
      · rw [if_neg h2]
        have := takeF_len t es (r - e.sz)
        exact ⟨congrArg (· + 1) this.1, Nat.succ_le_succ this.2⟩
    · rw [if_neg h1]
      have := takeF_len t es r
      exact ⟨congrArg (· + 1) this.1, Nat.le_succ_of_le this.2⟩
section
variable {h : Heap} {n Q nx X : Nat} {t : Int} {oq : Option Addr} {es : List Ent} {cs : List Value} {cw mt w : Nat} {pe : Int} {ru sk : Bool}
theorem w_skips (x : Que h Q oq nx es) (hX : h.get X = some (.cells 79 cs (.own false))) (v : SdV cs Q cw mt w pe ru sk) (hs : ∀ e, es.head? = some e → e.st < 3) (hn : es.length + 40 ≤ n) :
    ResQ (callN Tryz.prog G0 n (.call 55 [pt X]) h) (fun v h' => v = .slice none 0 0 ∧ h = h') := by
  obtain ⟨n, rfl⟩ : ∃ m, n = m + 1 := ⟨n - 1, by omega⟩
  refine res_enter rfl d55 rfl ?_; simp only [c55]
  refine gg ?_
  refine i_load1 (v := pt Q) (by exact sel_of rfl) ((load1_own hX).trans v.c0) ?_
  refine i_call1 (by exact sel_of rfl) (w_qfwd x hs (by omega)) ?_
  rintro _ _ ⟨⟨fl, rfl⟩, rfl⟩
  refine gg ?_
  exact ⟨rfl, rfl⟩
theorem w_startA (hX : h.get X = some (.cells 79 cs (.own false))) (v : SdV cs Q cw mt w pe ru sk) (ht : 0 ≤ t ∧ t ≤ 1099511627776) (hw : w ≤ 100000) (hn : 1 ≤ n) :
    ResQ (callN Tryz.prog G0 n (.call 59 [pt X, .int .i64 t]) h) (fun _ h' => h' = h.put X (.cells 79 (putAt cs 13 [.bool true, .int .i64 (t + w)]) (.own false))) := by
  obtain ⟨n, rfl⟩ : ∃ m, n = m + 1 := ⟨n - 1, by omega⟩
  refine res_enter rfl d59 rfl ?_; simp only [c59]
  refine gg ?_
  refine i_load1 (v := nv w) (by exact sel_of rfl) ((load1_own hX).trans v.c9) ?_
  refine gg ?_
  refine i_storeG (b := X) (off := 0 + 13) (vs := [.bool true, .int .i64 (t + w)]) (by exact sel_of rfl) (by rw [sel_of rfl]; rfl) hX rfl (by rw [v.len]; show 15 ≤ 21; decide) ?_
  refine gg ?_
  rfl
set_option maxHeartbeats 2000000 in
theorem w_send (x : Que h Q oq nx es) (hX : h.get X = some (.cells 79 cs (.own false))) (hXl : X < h.next) (v : SdV cs Q cw mt w pe ru sk) (hs : ∀ e ∈ es, e.st < 2) (hse : ∀ e ∈ es, e.sent ≤ 1000) (ht : 0 ≤ t ∧ t ≤ 1099511627776) (hw : w ≤ 100000) (h1 : 1 ≤ mt) (h2 : mt ≤ 65536) (h3 : mt ≤ cw) (h4 : cw ≤ 1000000) (hp : 0 ≤ pe ∧ pe ≤ 4294967296) (hn : es.length + 100 ≤ n) :
    ResQ (callN Tryz.prog G0 n (.call 33 [pt X, .int .i64 t]) h) (fun v h' => ∃ ov ks, v = .slice ov ks.length ks.length ∧ FX h h' X cs Q nx oq t (roomN cw mt (octs [1] es) (pe.toNat - octs [1] es)) w ru es ov ks) := by
  have hlim := x.lim
  have hh : ∀ e, es.head? = some e → e.st < 3 := fun e he => by
    cases es with
    | nil => cases he
    | cons y es => cases he; have := hs e (List.mem_cons_self ..); omega
  have hfl := octs_le [1] es x.en
  have hXe : X ∉ es.map Ent.b := fun hm => by
    obtain ⟨e, he, heX⟩ := List.mem_map.1 hm
    have := (x.en e he).hb
    rw [heX, hX] at this; cases this
  obtain ⟨n, rfl⟩ : ∃ m, n = m + 1 := ⟨n - 1, by omega⟩
  refine res_enter rfl d33 rfl ?_; simp only [c33]
  refine gg ?_
  refine i_load1 (v := pt Q) (by exact sel_of rfl) ((load1_own hX).trans v.c0) ?_
  refine gg ?_
  refine i_call2 (by exact sel_of rfl) (by exact sel_of rfl) (w_expire x (by omega)) ?_
  intro _ ha ka
  have xa := x.keeps ka
  have hXa := (ka.get _ hXl).trans hX
  refine gg ?_
  refine i_call1 (by exact sel_of rfl) (w_skips xa hXa v hh (by omega)) ?_
  rintro _ _ ⟨rfl, rfl⟩
  refine gg ?_
  refine i_load1 (v := pt Q) (by exact sel_of rfl) ((load1_own hXa).trans v.c0) ?_
  refine i_call1 (by exact sel_of rfl) (w_flying xa (by omega)) ?_
  rintro _ hb ⟨rfl, kb⟩
  have xb := xa.keeps kb
  have hnb := kb.next
  have hna := ka.next
  have hXb := (kb.get _ (by omega)).trans hXa
  have l0 : load1 hb.get ⟨X, 0 + 0, none⟩ = some (pt Q) := (load1_own hXb).trans v.c0
  refine gg ?_
  refine i_load1 (v := pt Q) (by exact sel_of rfl) l0 ?_
  refine gg ?_
  refine i_loadN (v := wayv cw mt) (by exact sel_of rfl) ((loadN_of (q := ⟨X, 0 + 1, none⟩) hXb (by simp) (by rw [v.len]; show 7 ≤ 21; decide)).trans (congrArg some v.cw)) ?_
  refine gg ?_
  refine i_load1 (v := .int .i64 pe) (by exact sel_of rfl) ((load1_own hXb).trans v.c11) ?_
  refine gg ?_
  refine i_maxZ (t := ((pe.toNat - octs [1] es : Nat) : Int)) (by exact const_of) (by exact sel_of rfl) (by omega) ?_
  refine gg ?_
  refine i_call3 (by exact sel_of rfl) (by exact sel_of rfl) (by exact sel_of rfl) (w_room h1 h2 h3 (by omega) (by omega) (by omega)) ?_
  rintro _ hc ⟨rfl, kc⟩
  have hroom : roomN cw mt (octs [1] es) (pe.toNat - octs [1] es) ≤ 1000000000 := by unfold roomN; split <;> omega
  generalize roomN cw mt (octs [1] es) (pe.toNat - octs [1] es) = r at *
  have xc := xb.keeps kc
  have hnc := kc.next
  have hXc := (kc.get _ (by omega)).trans hXb
  refine gg ?_
  refine i_call3 (by exact sel_of rfl) (by exact sel_of rfl) (by exact sel_of rfl) (w_take xc hs hse hroom (by omega)) ?_
  rintro _ hd ⟨ov, ks, rfl, F⟩
  have hnd := F.nxt
  have hlen : ks.length ≤ 1024 := by
    have h5 := congrArg List.length F.two
    rw [List.length_map, List.length_map] at h5
    have := (takeF_len t es r).2
    omega
  have hXd := (F.low X (by omega) hXe).trans hXc
  refine gg ?_
  refine i_appX (m := ks.length) (ds := cksv ks) (by exact sel_of rfl) (by rw [sel_of rfl]; exact F.ar.row.src) F.ar.1 (by omega) fun ov2 he ke ar => ?_
  have hne := ke.next
  have hXE := (ke.get _ (by omega)).trans hXd
  have xe : Que he Q oq nx (takeF t r es).1 := F.que he hne fun d hd => ke.get d (by omega)
  refine gg ?_
  refine ⟨chk_cons (a := _) rfl (ld1 (by exact sel_of rfl) l0) (sv_pt Q) (fun m hm => by
    simp only [List.mem_cons, List.not_mem_nil, or_false] at hm
    rcases hm with rfl | rfl
    · exact ⟨_, _, rfl, ld1 (by exact sel_of rfl) l0⟩
    · exact ⟨_, _, rfl, ld1 (by exact sel_of rfl) ((load1_own hXc).trans v.c0)⟩) chk_nil, ?_⟩
  have xlow : ∀ d, d < h.next → d ∉ es.map Ent.b → he.get d = h.get d := fun d hd1 hm => by
    rw [ke.get d (by omega), F.low d (by omega) hm, kc.get d (by omega), kb.get d (by omega), ka.get d hd1]
  have fin : ∀ (b : Bool) (h' : Heap), b = decide (0 < ks.length ∨ 0 < octs [1] (takeF t r es).1) → he.next ≤ h'.next → (∀ d, d < he.next → d ≠ X → h'.get d = he.get d) → h'.get X = some (.cells 79 (alarmed cs b ru t w) (.own false)) → FX h h' X cs Q nx oq t r w ru es ov2 ks := by
    intro b h' hb1 hn1 hg1 hX1
    refine ⟨xe.but hXE hn1 hg1, F.two, by omega, fun d hd1 hm hX => (hg1 d (by omega) hX).trans (xlow d hd1 hm), fun y hy => ?_, ?_, by rw [← hb1]; exact hX1⟩
    · obtain ⟨c1, c2, c3⟩ := F.ch y hy
      exact ⟨by omega, by omega, (hg1 _ (by omega) (by omega)).trans ((ke.get _ c2).trans c3)⟩
    · exact ⟨ar.1, ar.2.imp id fun ⟨k, h2, h3, h4, h7⟩ => ⟨k, h2, by omega, by omega, (hg1 k h4 (by omega)).trans h7⟩⟩
  have hvs := v.c13
  have fin2 : ∀ (h2 : Heap), Keeps he h2 → FX h h2 X cs Q nx oq t r w ru es ov2 ks ∨ True := fun _ _ => .inr trivial
  clear fin2
  have last : ∀ (b : Bool) (hf : Heap), b = decide (0 < ks.length ∨ 0 < octs [1] (takeF t r es).1) → Keeps he hf → (b && !ru) = true → FX h (hf.put X (.cells 79 (putAt cs 13 [.bool true, .int .i64 (t + w)]) (.own false))) X cs Q nx oq t r w ru es ov2 ks := fun b hf hb1 kf hbr => fin b _ hb1 kf.next (fun d hd1 hX1 => by rw [Heap.get_put, if_neg hX1]; exact kf.get d hd1) (by rw [Heap.get_put, if_pos rfl]; unfold alarmed; rw [hbr]; rfl)
  have last2 : ∀ (b : Bool) (hf : Heap), b = decide (0 < ks.length ∨ 0 < octs [1] (takeF t r es).1) → Keeps he hf → (b && !ru) = false → FX h hf X cs Q nx oq t r w ru es ov2 ks := fun b hf hb1 kf hbr => fin b _ hb1 kf.next (fun d hd1 hX1 => kf.get d hd1) (by rw [kf.get X (by omega)]; unfold alarmed; rw [hbr]; exact hXE)
  refine gg ?_
  by_cases hk0 : 0 < ks.length
  · refine gg ?_
    refine i_load1 (v := .bool ru) (by exact sel_of rfl) ((load1_own hXE).trans v.c13) ?_
    have hbt : true = decide (0 < ks.length ∨ 0 < octs [1] (takeF t r es).1) := (decide_eq_true (.inl hk0)).symm
    cases ru with
    | true =>
      refine gg ?_
      exact ⟨ov2, ks, rfl, last2 true he hbt (Keeps.refl he) rfl⟩
    | false =>
      refine gg ?_
      refine i_call2 (by exact sel_of rfl) (by exact sel_of rfl) (w_startA hXE v ht hw (by omega)) ?_
      rintro _ _ rfl
      refine gg ?_
      exact ⟨ov2, ks, rfl, last true he hbt (Keeps.refl he) rfl⟩
  · refine gg ?_
    refine i_load1 (v := pt Q) (by exact sel_of rfl) ((load1_own hXE).trans v.c0) ?_
    refine gg ?_
    refine i_call1 (by exact sel_of rfl) (w_flying xe (by rw [(takeF_len t es r).1]; omega)) ?_
    rintro _ hf ⟨rfl, kf⟩
    have hnf := kf.next
    refine gg ?_
    by_cases hf0 : 0 < octs [1] (takeF t r es).1
    · have hbt : true = decide (0 < ks.length ∨ 0 < octs [1] (takeF t r es).1) := (decide_eq_true (.inr hf0)).symm
      have hXf := (kf.get X (by omega)).trans hXE
      refine gg ?_
      refine i_load1 (v := .bool ru) (by exact sel_of rfl) ((load1_own hXf).trans v.c13) ?_
      cases ru with
      | true =>
        refine gg ?_
        exact ⟨ov2, ks, rfl, last2 true hf hbt kf rfl⟩
      | false =>
        refine gg ?_
        refine i_call2 (by exact sel_of rfl) (by exact sel_of rfl) (w_startA hXf v ht hw (by omega)) ?_
        rintro _ _ rfl
        refine gg ?_
        exact ⟨ov2, ks, rfl, last true hf hbt kf rfl⟩
    · have hbt : false = decide (0 < ks.length ∨ 0 < octs [1] (takeF t r es).1) := (decide_eq_false (by omega)).symm
      refine gg ?_
      exact ⟨ov2, ks, rfl, last2 false hf hbt kf rfl⟩
end
end Go.Proofs.YtmlagbknnngjjaaGreat

/-! Tell. -/
set_option linter.unusedVariables false
namespace Go.Proofs.YtmlagbknnngjjaaGreat
open Go Vm
section
variable {h : Heap} {n Q nx X : Nat} {t : Int} {oq : Option Addr} {es : List Ent} {cs : List Value} {cw mt w : Nat} {pe : Int} {ru sk : Bool}
theorem w_answer0 (hX : h.get X = some (.cells 79 cs (.own false))) (h20 : cs[20]? = some (.bool false)) (hn : 1 ≤ n) :
    ResQ (callN Tryz.prog G0 n (.call 32 [.pointer (some ⟨X, 18, none⟩)]) h) (fun v h' => v = .slice none 0 0 ∧ h = h') := by
  obtain ⟨n, rfl⟩ : ∃ m, n = m + 1 := ⟨n - 1, by omega⟩
  refine res_enter rfl d32 rfl ?_; simp only [c32]
  refine gg ?_
  refine i_load1 (v := .bool false) (by exact sel_of rfl) ((load1_own hX).trans h20) ?_
  refine gg ?_
  exact ⟨rfl, rfl⟩
theorem w_tell (x : Que h Q oq nx es) (hX : h.get X = some (.cells 79 cs (.own false))) (hXl : X < h.next) (v : SdV cs Q cw mt w pe ru sk) (h20 : cs[20]? = some (.bool false)) (hs : ∀ e ∈ es, e.st < 2) (hse : ∀ e ∈ es, e.sent ≤ 1000) (hw : w ≤ 100000) (h1 : 1 ≤ mt) (h2 : mt ≤ 65536) (h3 : mt ≤ cw) (h4 : cw ≤ 1000000) (hp : 0 ≤ pe ∧ pe ≤ 4294967296) (hn : es.length + 110 ≤ n) :
    ResQ (callN Tryz.prog G0 n (.call 10 [pt X, .int .i64 t]) h) (fun v h' => ∃ ov ks, v = .slice ov ks.length ks.length ∧ FX h h' X cs Q nx oq (tmI t) (roomN cw mt (octs [1] es) (pe.toNat - octs [1] es)) w ru es ov ks) := by
  have hlim := x.lim
  obtain ⟨n, rfl⟩ : ∃ m, n = m + 1 := ⟨n - 1, by omega⟩
  refine res_enter rfl d10 rfl ?_; simp only [c10]
  refine gg ?_
  refine i_call1 (by exact sel_of rfl) (w_answer0 hX h20 (by omega)) ?_
  rintro _ _ ⟨rfl, rfl⟩
  refine gg ?_
  refine i_call1 (by exact sel_of rfl) (w_time (by omega)) ?_
  rintro _ _ ⟨rfl, rfl⟩
  refine gg ?_
  refine i_call2 (by exact sel_of rfl) (by exact sel_of rfl) (w_send x hX hXl v hs hse (tmI_b t) hw h1 h2 h3 h4 hp (by omega)) ?_
  rintro _ hb ⟨ov, ks, rfl, F⟩
  have hlen : ks.length ≤ 1024 := by
    have h5 := congrArg List.length F.two
    rw [List.length_map, List.length_map] at h5
    have := (takeF_len (tmI t) es (roomN cw mt (octs [1] es) (pe.toNat - octs [1] es))).2
    omega
  have hnb := F.nxt
  refine i_appX (m := ks.length) (ds := cksv ks) (by exact sel_of rfl) (by rw [sel_of rfl]; exact F.ar.row.src) F.ar.1 (by omega) fun ov2 he ke ar => ?_
  have hne := ke.next
  refine gg ?_
  refine ⟨ov2, ks, rfl, F.que.keeps ke, F.two, by omega, fun d hd h5 h6 => (ke.get d (by omega)).trans (F.low d hd h5 h6), fun y hy => ?_, ?_, (ke.get X (by omega)).trans F.gX⟩
  · obtain ⟨c1, c2, c3⟩ := F.ch y hy
    exact ⟨c1, by omega, (ke.get _ c2).trans c3⟩
  · exact ⟨ar.1, ar.2.imp id fun ⟨k, h2, h3, h4, h7⟩ => ⟨k, h2, by omega, h4, h7⟩⟩
end
end Go.Proofs.YtmlagbknnngjjaaGreat

