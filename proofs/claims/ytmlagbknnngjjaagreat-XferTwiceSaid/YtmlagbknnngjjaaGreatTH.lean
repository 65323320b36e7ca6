/- Part of a proof by an abstract run of the program's code: TH. No condition. -/
import Derived.Test.YtmlagbknnngjjaaGreatTG
/-! The receiver, whole: a chunk comes, twice; what is told; the messages. -/
set_option linter.unusedVariables false
namespace Go.Proofs.YtmlagbknnngjjaaGreat
open Go Vm
theorem row_noU8 {h : Heap} {q : Addr} {bs : List UInt8} {ty : Nat} {cs : List Value} {op : Bool} (r : Row h 1 (some q) bs.length (u8s bs)) (hb : bs ≠ []) (hY : h.get q.block = some (.cells ty cs (.own op))) (hno : ∀ v ∈ cs, ∀ k, v ≠ .int .u8 k) : False := by
  cases bs with
  | nil => exact hb rfl
  | cons b bs =>
    have h1 := r.cell (i := 0) (by simp) none
    rw [Nat.add_zero, load1_own (off := q.off) (s := none) hY] at h1
    have h2 : (u8s (b :: bs))[0]? = some (.int .u8 ((b.toNat : Nat) : Int)) := rfl
    rw [h2] at h1
    exact hno _ (List.mem_of_getElem? h1) _ rfl
theorem RdL.keepX {h h' : Heap} {N Y ty : Nat} {ro : Option Addr} {cs : List Value} {op : Bool} (hY : h.get Y = some (.cells ty cs (.own op))) (hno : ∀ v ∈ cs, ∀ k, v ≠ .int .u8 k) (hn : h.next ≤ h'.next) (hg : ∀ d, d < h.next → N ≤ d → d ≠ Y → h'.get d = h.get d) : ∀ {rd : List Mg} {vs : List Value}, (∀ m ∈ rd, m.dt ≠ []) → RdL h N ro vs rd → RdL h' N ro vs rd
  | [], _, _, e => e
  | m :: rd, _, hm, ⟨v, cs', e, ⟨o, cap, hv, r, ho⟩, rest⟩ => by
    refine ⟨v, cs', e, ⟨o, cap, hv, ?_, ho⟩, RdL.keepX hY hno hn hg (fun x hx => hm x (List.mem_cons_of_mem _ hx)) rest⟩
    refine rowG r hn fun q hq => ?_
    have h1 := ho q hq
    subst hq
    refine hg q.block r.2.1 (by omega) fun e2 => ?_
    rw [← e2] at hY
    exact row_noU8 r (hm m (List.mem_cons_self ..)) hY hno
theorem Jn.keepX {h h' : Heap} {N Y ty held : Nat} {nx : List Nat} {rd : List Mg} {ro : Option Addr} {cs : List Value} {op : Bool} (j : Jn h N nx [] [] rd held ro) (hrd : ∀ m ∈ rd, m.dt ≠ []) (hY : h.get Y = some (.cells ty cs (.own op))) (hno : ∀ v ∈ cs, ∀ k, v ≠ .int .u8 k) (hYn : N + 4 ≤ Y) (hYr : Apart ro Y) (hn : h.next ≤ h'.next) (hg : ∀ d, d < h.next → N ≤ d → d ≠ Y → h'.get d = h.get d) : Jn h' N nx [] [] rd held ro := by
  obtain ⟨up, top, nxt, ⟨es, cc, e1, e2⟩, ⟨fs, fc, f1, f2⟩, ⟨vs, a, r⟩, ofr⟩ := j
  have he : es = [] := by cases es with
    | nil => rfl
    | cons x es => exact e2.elim
  have hro : ∀ q, ro = some q → h'.get q.block = h.get q.block := fun q hq => by
    have h1 := ofr q hq
    have h2 : q.block < h.next := by subst hq; exact a.row.2.1
    exact hg _ h2 (by omega) fun e => hYr q hq e.symm
  subst he
  refine ⟨by omega, (hg _ (by omega) (by omega) (by omega)).trans top, (hg _ (by omega) (by omega) (by omega)).trans nxt, ⟨[], cc, (hg _ (by omega) (by omega) (by omega)).trans e1, trivial⟩, ⟨fs, fc, (hg _ (by omega) (by omega) (by omega)).trans f1, ?_⟩, ⟨vs, ⟨a.1, rowG a.row hn hro, fun q hq => (a.2.2 q hq).imp id fun ⟨k, h1, h2, h3⟩ => ⟨k, h1, h2, ?_⟩⟩, RdL.keepX hY hno hn hg hrd r⟩, ofr⟩
  · obtain ⟨g1, g2⟩ := f2
    cases fs with
    | nil => exact ⟨trivial, g2⟩
    | cons x fs => exact g1.elim
  · have := hro q hq
    rw [h1] at this
    exact this.trans h3
theorem Jn.keep0 {h h' : Heap} {N held : Nat} {nx : List Nat} (j : Jn h N nx [] [] [] held none) (hn : h.next ≤ h'.next) (hg : ∀ d, N ≤ d → d < N + 4 → h'.get d = h.get d) : Jn h' N nx [] [] [] held none := by
  obtain ⟨up, top, nxt, ⟨es, cc, e1, e2⟩, ⟨fs, fc, f1, f2⟩, ⟨vs, a, r⟩, ofr⟩ := j
  have he : es = [] := by cases es with
    | nil => rfl
    | cons x es => exact e2.elim
  subst he
  refine ⟨by omega, (hg _ (by omega) (by omega)).trans top, (hg _ (by omega) (by omega)).trans nxt, ⟨[], cc, (hg _ (by omega) (by omega)).trans e1, trivial⟩, ⟨fs, fc, (hg _ (by omega) (by omega)).trans f1, ?_⟩, ⟨vs, ⟨a.1, rowG a.row hn (fun q hq => nomatch hq), (fun q hq => nomatch hq)⟩, r⟩, ofr⟩
  obtain ⟨g1, g2⟩ := f2
  cases fs with
  | nil => exact ⟨trivial, g2⟩
  | cons x fs => exact g1.elim
def yv (Q sb S N : Nat) (ow : Bool) : List Value := [pt Q, nv 3600, nv 1073741824, nv 0, nv 1200, .bool false, .int .u32 ((0 : Nat) : Int), nv 0, nv 0, nv 3000, .bool false, nv 65536, .slice (some ⟨sb, 0, none⟩) 4 4, .bool false, nv 0, .bool false, .int .u32 ((0 : Nat) : Int), nv 0, pt S, pt (N + 3), .bool ow]
theorem yv_no (Q sb S N : Nat) (ow : Bool) : ∀ v ∈ yv Q sb S N ow, ∀ k, v ≠ .int .u8 k := by
  intro v hv k e
  subst e
  simp [yv] at hv
/-- a receiver in memory -/
structure YS (h : Heap) (Y Q S M N sb nxq cum : Nat) (ow : Bool) (dv : Value) (nx : List Nat) (rd : List Mg) (held : Nat) (ro : Option Addr) : Prop where
  gY : h.get Y = some (.cells 79 (yv Q sb S N ow) (.own false))
  que : Que h Q none nxq []
  gp : Gp h S M cum [] dv
  jn : Jn h N nx [] [] rd held ro
  ord : Q < N ∧ S < N ∧ M < N ∧ N + 4 ≤ Y ∧ Y < h.next
  orr : ∀ r, ro = some r → Y < r.block
  hrd : ∀ m ∈ rd, m.dt ≠ []
  hh : held ≤ 65535
/-- the blocks that a receiver's steps may touch -/
def YF (Y S M N : Nat) (ro : Option Addr) (h h' : Heap) : Prop := h.next ≤ h'.next ∧ ∀ d, d < h.next → d ≠ Y → d ≠ S → d ≠ M → (d < N ∨ N + 4 ≤ d) → Apart ro d → h'.get d = h.get d
theorem YF.trans {Y S M N : Nat} {ro ro' : Option Addr} {h h' h'' : Heap} (a : YF Y S M N ro h h') (b : YF Y S M N ro' h' h'') (hr : ∀ r, ro' = some r → ro = some r ∨ h.next ≤ r.block) : YF Y S M N ro h h'' := by
  refine ⟨Nat.le_trans a.1 b.1, fun d hd h1 h2 h3 h4 h5 => (b.2 d (Nat.lt_of_lt_of_le hd a.1) h1 h2 h3 h4 fun r hr2 e => ?_).trans (a.2 d hd h1 h2 h3 h4 h5)⟩
  rcases hr r hr2 with h6 | h6
  · exact h5 r h6 e
  · omega
end Go.Proofs.YtmlagbknnngjjaaGreat

/-! The receiver's steps. -/
set_option linter.unusedVariables false
namespace Go.Proofs.YtmlagbknnngjjaaGreat
open Go Vm
section
variable {h : Heap} {n Y Q S M N sb nxq cum : Nat} {c : Ck} {o : Option Addr} {cap : Nat}
/-- the first time -/
theorem w_data0 (y : YS h Y Q S M N sb nxq cum false (.slice none 0 0) [0, 0, 0, 0] [] 0 none) (wc : c.wf) (hA : c.A = (cum + 1) % 4294967296) (hfl : c.fl = 3) (hout : c.out = 3) (hinn : c.inn = 0) (hd0 : c.dt ≠ []) (hdl : c.dt.length ≤ 1172) (hrow : Row h 1 o c.dt.length (u8s c.dt)) (hn : 120 ≤ n) :
    ResQ (callN Tryz.prog G0 n (.call 34 [.pointer (some ⟨Y, 18, none⟩), .agg (ckv c o cap).toArray]) h) (fun v h' => v = .int .i64 0 ∧ ∃ ro, YS h' Y Q S M N sb nxq c.A true (.slice none 0 0) [0, 0, 0, 1] [⟨3, false, c.pp, c.dt⟩] c.dt.length ro ∧ YF Y S M N none h h' ∧ ∀ r, ro = some r → h.next ≤ r.block) := by
  obtain ⟨gY, que, gp, jn, ⟨o1, o2, o3, o4, o5⟩, orr, hrd, hh⟩ := y
  have hql := que.ql
  have hjup := jn.up
  have hSM : S ≠ M := fun e => by obtain ⟨l, cc, g1, _⟩ := gp.gM; have := gp.gS; rw [e, g1] at this; cases this
  have hSQ : S ≠ Q := fun e => by have := gp.gS; rw [e, que.hq] at this; cases this
  have hMQ : M ≠ Q := fun e => by obtain ⟨l, cc, g1, _⟩ := gp.gM; rw [e, que.hq] at g1; cases g1
  have hl3 := gp.lt.2.2
  obtain ⟨n, rfl⟩ : ∃ m, n = m + 1 := ⟨n - 1, by omega⟩
  refine res_enter rfl d34 rfl ?_; simp only [c34]
  refine o_cut (fun f h1 => (Keeps h h1 ∧ h1.next = h.next + 1 ∧ h1.get h.next = some (.cells 42 (ckv c o cap) (.own false))) ∧ Sl [(0, .pointer (some ⟨Y, 18, none⟩)), (3, pt h.next), (4, .int .i64 0)] f) ?_ ?_
  · refine gg ?_
    exact ⟨rfl, ⟨Keeps.new h _, rfl, by rw [Heap.get_new, if_pos rfl]⟩, sel_of rfl, sel_of rfl, sel_of rfl, trivial⟩
  rintro f1 h1 ⟨⟨k1, n1, b1⟩, hs⟩
  obtain ⟨f0, rfl⟩ := hs.puts
  clear hs
  have Y1 := (k1.get Y o5).trans gY
  have gp1 := gp.keeps k1
  have jn1 := jn.keeps k1
  have LS : ∀ g : Heap, g.get Y = some (.cells 79 (yv Q sb S N false) (.own false)) → load1 g.get ⟨Y, 18 + 0, none⟩ = some (pt S) := fun g hg => (load1_own hg).trans (by rfl)
  have LA : ∀ g : Heap, g.get h.next = some (.cells 42 (ckv c o cap) (.own false)) → load1 g.get ⟨h.next, 0 + 2, none⟩ = some (.int .u32 (c.A : Int)) := fun g hg => (load1_own hg).trans (by rfl)
  refine gg ?_
  refine i_load1 (v := pt S) (by exact sel_of rfl) (LS h1 Y1) ?_
  refine gg ?_
  refine i_load1 (v := .int .u32 (c.A : Int)) (by exact sel_of rfl) (LA h1 b1) ?_
  rw [hA]
  refine i_call2 (by exact sel_of rfl) (by exact sel_of rfl) (w_has0 gp1 (by omega)) ?_
  rintro _ _ ⟨rfl, rfl⟩
  refine gg ?_
  refine i_load1 (v := pt S) (by exact sel_of rfl) (LS h1 Y1) ?_
  refine gg ?_
  refine i_call1 (by exact sel_of rfl) (w_cum gp1 (by omega)) ?_
  rintro _ _ ⟨rfl, rfl⟩
  refine gg ?_
  refine i_load1 (v := .int .u32 (c.A : Int)) (by exact sel_of rfl) (LA h1 b1) ?_
  refine gg ?_
  refine i_call2 (by exact sel_of rfl) (by exact sel_of rfl) (w_dist hl3 (by omega)) ?_
  rintro _ _ ⟨rfl, rfl⟩
  have hd : (c.A + 4294967296 - cum) % 4294967296 = 1 := by omega
  rw [hd]
  refine gg ?_
  refine ⟨chk_cons (a := _) rfl (ld1 (by exact sel_of rfl) (LA h1 b1)) (sv_int _ _) (fun m hm => by
    simp only [List.mem_cons, List.not_mem_nil, or_false] at hm
    rcases hm with rfl | rfl <;> exact ⟨_, _, rfl, ld1 (by exact sel_of rfl) (LA h1 b1)⟩) chk_nil, ?_⟩
  refine gg ?_
  refine i_load1 (v := pt (N + 3)) (by exact sel_of rfl) ((load1_own Y1).trans (by rfl)) ?_
  refine i_loadN (v := ckv c o cap) (by exact sel_of rfl) (loadN_all b1 rfl) ?_
  refine i_call2 (by exact sel_of rfl) (by exact sel_of rfl) (w_jadd jn1 wc hfl hout hinn hd0 hdl (hrow.keeps k1) (by omega)) ?_
  rintro _ h2 ⟨rfl, ro, jn2, P⟩
  have n2 := P.next
  have pg : ∀ d, d < h1.next → (d < N ∨ N + 4 ≤ d) → h2.get d = h1.get d := fun d hd h5 => P.get d hd h5 (fun r hr => by cases hr)
  have hnew : ∀ r, ro = some r → h1.next ≤ r.block := fun r hr => (P.new r hr).elim (fun e => by cases e) id
  have Y2 := (pg Y (by omega) (.inr o4)).trans Y1
  have b2 := (pg h.next (by omega) (by omega)).trans b1
  have gp2 : Gp h2 S M cum [] (.slice none 0 0) := by
    obtain ⟨gS, ⟨l, cc, gM, e1, e2⟩, l1, l2, l3⟩ := gp1
    exact ⟨(pg S l1 (.inl o2)).trans gS, ⟨l, cc, (pg M l2 (.inl o3)).trans gM, e1, e2⟩, by omega, by omega, l3⟩
  have q2 := (pg Q (by omega) (.inl o1)).trans ((k1.get Q hql).trans que.hq)
  refine gg ?_
  refine i_load1 (v := pt S) (by exact sel_of rfl) (LS h2 Y2) ?_
  refine gg ?_
  refine i_load1 (v := .int .u32 (c.A : Int)) (by exact sel_of rfl) (LA h2 b2) ?_
  rw [hA]
  refine i_call2 (by exact sel_of rfl) (by exact sel_of rfl) (w_gadd0 gp2 (by omega)) ?_
  rintro _ h3 ⟨gp3, n3, low3⟩
  have Y3 := (low3 Y (by omega) (by omega) (by omega)).trans Y2
  have hm0 : ∀ m ∈ [(⟨3, false, c.pp, c.dt⟩ : Mg)], m.dt ≠ [] := fun m hm => by
    simp only [List.mem_cons, List.not_mem_nil, or_false] at hm
    subst hm; exact hd0
  have hYr : Apart ro Y := fun r hr e => by have := hnew r hr; omega
  have jn3 := jn2.keepX (h' := h3) hm0 Y2 (yv_no _ _ _ _ _) o4 hYr (by omega) (fun d hd h5 h6 => low3 d hd (by omega) (by omega))
  refine gg ?_
  refine i_stB (b := Y) (v := .bool true) (by exact sel_of rfl) (by rfl) Y3 (by show 20 < 21; decide) fun h4 k4 n4 Y4 => ?_
  have Y4 : h4.get Y = some (.cells 79 (yv Q sb S N true) (.own false)) := Y4
  refine gg ?_
  refine ⟨rfl, ro, ⟨Y4, ?_, ?_, jn3.keepX hm0 Y3 (yv_no _ _ _ _ _) o4 hYr (by omega) (fun d hd h5 h6 => k4.get d hd h6), ⟨o1, o2, o3, o4, by omega⟩, fun r hr => by have := hnew r hr; omega, hm0, by omega⟩, ⟨by omega, fun d hd h5 h6 h7 h8 h9 => ?_⟩, fun r hr => by have := hnew r hr; omega⟩
  · exact ⟨(k4.get Q (by omega) (by omega)).trans ((low3 Q (by omega) (Ne.symm hSQ) (Ne.symm hMQ)).trans q2), by omega, .inl ⟨rfl, rfl⟩, (fun e he => nomatch he), List.nodup_nil, Nat.zero_le _, que.nxl⟩
  · obtain ⟨gS, ⟨l, cc, gM, e1, e2⟩, l1, l2, l3⟩ := gp3
    exact ⟨(k4.get S l1 (by omega)).trans gS, ⟨l, cc, (k4.get M l2 (by omega)).trans gM, e1, e2⟩, by omega, by omega, l3⟩
  · rw [k4.get d (by omega) h5, low3 d (by omega) h6 h7, pg d (by omega) h8, k1.get d hd]
/-- the second time -/
theorem w_data1 {nx : List Nat} {rd : List Mg} {held : Nat} {ro : Option Addr} (y : YS h Y Q S M N sb nxq cum false (.slice none 0 0) nx rd held ro) (hA : c.A = cum) (hn : 50 ≤ n) :
    ResQ (callN Tryz.prog G0 n (.call 34 [.pointer (some ⟨Y, 18, none⟩), .agg (ckv c o cap).toArray]) h) (fun v h' => v = .int .i64 0 ∧ ∃ k, YS h' Y Q S M N sb nxq cum true (.slice (some ⟨k, 0, some 1⟩) 1 1) nx rd held ro ∧ YF Y S M N ro h h' ∧ h.next ≤ k ∧ k < h'.next ∧ h'.get k = some (.cells 22 [.int .u32 (cum : Int)] (.own true))) := by
  obtain ⟨gY, que, gp, jn, ⟨o1, o2, o3, o4, o5⟩, orr, hrd, hh⟩ := y
  have hql := que.ql
  have hjup := jn.up
  have hSM : S ≠ M := fun e => by obtain ⟨l, cc, g1, _⟩ := gp.gM; have := gp.gS; rw [e, g1] at this; cases this
  have hSQ : S ≠ Q := fun e => by have := gp.gS; rw [e, que.hq] at this; cases this
  have hYr : Apart ro Y := fun r hr e => by have := orr r hr; omega
  obtain ⟨n, rfl⟩ : ∃ m, n = m + 1 := ⟨n - 1, by omega⟩
  refine res_enter rfl d34 rfl ?_; simp only [c34]
  refine o_cut (fun f h1 => (Keeps h h1 ∧ h1.next = h.next + 1 ∧ h1.get h.next = some (.cells 42 (ckv c o cap) (.own false))) ∧ Sl [(0, .pointer (some ⟨Y, 18, none⟩)), (3, pt h.next), (4, .int .i64 0)] f) ?_ ?_
  · refine gg ?_
    exact ⟨rfl, ⟨Keeps.new h _, rfl, by rw [Heap.get_new, if_pos rfl]⟩, sel_of rfl, sel_of rfl, sel_of rfl, trivial⟩
  rintro f1 h1 ⟨⟨k1, n1, b1⟩, hs⟩
  obtain ⟨f0, rfl⟩ := hs.puts
  clear hs
  have Y1 := (k1.get Y o5).trans gY
  have gp1 := gp.keeps k1
  have jn1 := jn.keeps k1
  have LS : ∀ g : Heap, g.get Y = some (.cells 79 (yv Q sb S N false) (.own false)) → load1 g.get ⟨Y, 18 + 0, none⟩ = some (pt S) := fun g hg => (load1_own hg).trans (by rfl)
  have LA : ∀ g : Heap, g.get h.next = some (.cells 42 (ckv c o cap) (.own false)) → load1 g.get ⟨h.next, 0 + 2, none⟩ = some (.int .u32 (c.A : Int)) := fun g hg => (load1_own hg).trans (by rfl)
  refine gg ?_
  refine i_load1 (v := pt S) (by exact sel_of rfl) (LS h1 Y1) ?_
  refine gg ?_
  refine i_load1 (v := .int .u32 (c.A : Int)) (by exact sel_of rfl) (LA h1 b1) ?_
  rw [hA]
  refine i_call2 (by exact sel_of rfl) (by exact sel_of rfl) (w_hasB gp1 (by omega)) ?_
  rintro _ _ ⟨rfl, rfl⟩
  refine gg ?_
  refine i_load1 (v := pt S) (by exact sel_of rfl) (LS h1 Y1) ?_
  refine gg ?_
  refine i_load1 (v := .int .u32 (c.A : Int)) (by exact sel_of rfl) (LA h1 b1) ?_
  rw [hA]
  refine i_call2 (by exact sel_of rfl) (by exact sel_of rfl) (w_gadd1 gp1 (by omega)) ?_
  rintro _ h2 ⟨k, gp2, hk1, hk2, gk, n2, low2⟩
  have Y2 := (low2 Y (by omega) (by omega)).trans Y1
  have jn2 := jn1.keepX (h' := h2) hrd Y1 (yv_no _ _ _ _ _) o4 hYr n2 (fun d hd h5 h6 => low2 d hd (by omega))
  refine gg ?_
  refine i_stB (b := Y) (v := .bool true) (by exact sel_of rfl) (by rfl) Y2 (by show 20 < 21; decide) fun h4 k4 n4 Y4 => ?_
  have Y4 : h4.get Y = some (.cells 79 (yv Q sb S N true) (.own false)) := Y4
  refine gg ?_
  refine ⟨rfl, k, ⟨Y4, ?_, ?_, jn2.keepX hrd Y2 (yv_no _ _ _ _ _) o4 hYr (by omega) (fun d hd h5 h6 => k4.get d hd h6), ⟨o1, o2, o3, o4, by omega⟩, orr, hrd, hh⟩, ⟨by omega, fun d hd h5 h6 h7 h8 h9 => ?_⟩, by omega, by omega, (k4.get k hk2 (by omega)).trans gk⟩
  · exact ⟨(k4.get Q (by omega) (by omega)).trans ((low2 Q (by omega) (Ne.symm hSQ)).trans ((k1.get Q hql).trans que.hq)), by omega, .inl ⟨rfl, rfl⟩, (fun e he => nomatch he), List.nodup_nil, Nat.zero_le _, que.nxl⟩
  · obtain ⟨gS, ⟨l, cc, gM, e1, e2⟩, l1, l2, l3⟩ := gp2
    exact ⟨(k4.get S l1 (by omega)).trans gS, ⟨l, cc, (k4.get M l2 (by omega)).trans gM, e1, e2⟩, by omega, by omega, l3⟩
  · rw [k4.get d (by omega) h5, low2 d (by omega) h6, k1.get d hd]
/-- Hear, a chunk of Data -/
theorem w_hearD {now : Int} {R : Value → Heap → Prop} (hY : Y < h.next) (hd : ∀ h1 m, Keeps h h1 → 200 ≤ m → ResQ (callN Tryz.prog G0 m (.call 34 [.pointer (some ⟨Y, 18, none⟩), .agg (ckv c o cap).toArray]) h1) R) (hn : 210 ≤ n) :
    ResQ (callN Tryz.prog G0 n (.call 12 [pt Y, .agg (ckv c o cap).toArray, .int .i64 now]) h) R := by
  obtain ⟨n, rfl⟩ : ∃ m, n = m + 1 := ⟨n - 1, by omega⟩
  refine res_enter rfl d12 rfl ?_; simp only [c12]
  refine o_cut (fun f h1 => (Keeps h h1 ∧ h1.get h.next = some (.cells 42 (ckv c o cap) (.own false))) ∧ Sl [(0, pt Y), (4, pt h.next), (6, .int .i64 0)] f) ?_ ?_
  · refine gg ?_
    exact ⟨rfl, ⟨Keeps.new h _, by rw [Heap.get_new, if_pos rfl]⟩, sel_of rfl, sel_of rfl, sel_of rfl, trivial⟩
  rintro f1 h1 ⟨⟨k1, b1⟩, hs⟩
  obtain ⟨f0, rfl⟩ := hs.puts
  clear hs
  refine gg ?_
  refine i_load1 (v := .int .u8 ((0 : Nat) : Int)) (by exact sel_of rfl) ((load1_own b1).trans (by rfl)) ?_
  refine gg ?_
  refine i_loadN (v := ckv c o cap) (by exact sel_of rfl) (loadN_all b1 rfl) ?_
  refine i_call2 (by exact sel_of rfl) (by exact sel_of rfl) (hd h1 n k1 (by omega)) ?_
  intro v h2 hR
  refine gg ?_
  exact hR
end
end Go.Proofs.YtmlagbknnngjjaaGreat

/-! The receiver tells; its messages; a Sack is heard. -/
set_option linter.unusedVariables false
namespace Go.Proofs.YtmlagbknnngjjaaGreat
open Go Vm
section
variable {h : Heap} {n Y Q S M N sb nxq cum held md : Nat} {od ro : Option Addr} {nx : List Nat} {rd : List Mg} {now : Int}
set_option maxHeartbeats 1000000 in
theorem w_ytell (y : YS h Y Q S M N sb nxq cum true (.slice od md md) nx rd held ro) (hn : 200 ≤ n) :
    ResQ (callN Tryz.prog G0 n (.call 10 [pt Y, .int .i64 now]) h) (fun v h' => ∃ k, v = .slice (some ⟨k, 0, none⟩) 1 1 ∧ h.next ≤ k ∧ k < h'.next ∧ h'.get k = some (.cells 42 (sackv cum held (.slice od md md)) (.own false)) ∧ YS h' Y Q S M N sb nxq cum false (.slice none 0 0) nx rd held ro ∧ YF Y S M N ro h h') := by
  obtain ⟨gY, que, gp, jn, ⟨o1, o2, o3, o4, o5⟩, orr, hrd, hh⟩ := y
  have hql := que.ql
  have hjup := jn.up
  have hSQ : S ≠ Q := fun e => by have := gp.gS; rw [e, que.hq] at this; cases this
  have hYr : Apart ro Y := fun r hr e => by have := orr r hr; omega
  obtain ⟨n, rfl⟩ : ∃ m, n = m + 1 := ⟨n - 1, by omega⟩
  refine res_enter rfl d10 rfl ?_; simp only [c10]
  refine gg ?_
  refine i_call1 (by exact sel_of rfl) (w_answer1 gY o5 rfl rfl rfl rfl gp jn.top (by omega) hh (by omega)) ?_
  rintro _ h1 ⟨k, rfl, hk1, hk2, gk, Y1, gp1, n1, low1⟩
  have Y1 : h1.get Y = some (.cells 79 (yv Q sb S N false) (.own false)) := Y1
  have que1 : Que h1 Q none nxq [] := ⟨(low1 Q hql (by omega) (Ne.symm hSQ)).trans que.hq, by omega, .inl ⟨rfl, rfl⟩, (fun e he => nomatch he), List.nodup_nil, Nat.zero_le _, que.nxl⟩
  have jn1 := jn.keepX (h' := h1) hrd gY (yv_no _ _ _ _ _) o4 hYr n1 (fun d hd h5 h6 => low1 d hd h6 (by omega))
  refine gg ?_
  refine i_call1 (by exact sel_of rfl) (w_time (by omega)) ?_
  rintro _ _ ⟨rfl, rfl⟩
  refine gg ?_
  have sd : SdV (yv Q sb S N false) Q 3600 1200 3000 ((65536 : Nat) : Int) false true := ⟨rfl, rfl, rfl, rfl, rfl, rfl⟩
  refine i_call2 (by exact sel_of rfl) (by exact sel_of rfl) (w_send que1 Y1 (by omega) sd (fun e he => nomatch he) (fun e he => nomatch he) (tmI_b now) (by decide) (by decide) (by decide) (by decide) (by decide) ⟨by decide, by decide⟩ (by rw [List.length_nil]; omega)) ?_
  rintro _ h2 ⟨ov, ks, rfl, F⟩
  obtain ⟨f1, f2, f3, f4, f5, f6, f7⟩ := F
  have hks : ks = [] := by
    have : [] = ks.map (·.2) := f2
    exact List.map_eq_nil_iff.1 this.symm
  subst hks
  have Y2 : h2.get Y = some (.cells 79 (yv Q sb S N false) (.own false)) := f7
  have low2 : ∀ d, d < h1.next → d ≠ Y → h2.get d = h1.get d := fun d hd hdY => f4 d hd (by simp) hdY
  refine i_appE (p := ⟨k, 0, none⟩) (len := 1) (cap := 1) (by exact sel_of rfl) (by rw [sel_of rfl]; exact f6.row.src) (by decide) (by decide) ?_
  refine gg ?_
  refine ⟨k, rfl, hk1, by omega, (low2 k hk2 (by omega)).trans gk, ⟨Y2, f1, ?_, jn1.keepX hrd Y1 (yv_no _ _ _ _ _) o4 hYr f3 (fun d hd h5 h6 => low2 d hd h6), ⟨o1, o2, o3, o4, by omega⟩, orr, hrd, hh⟩, ⟨by omega, fun d hd h5 h6 h7 h8 h9 => (low2 d (by omega) h5).trans (low1 d hd h5 h6)⟩⟩
  obtain ⟨gS, ⟨l, cc, gM, e1, e2⟩, l1, l2, l3⟩ := gp1
  exact ⟨(low2 S l1 (by omega)).trans gS, ⟨l, cc, (low2 M l2 (by omega)).trans gM, e1, e2⟩, by omega, by omega, l3⟩
theorem w_ymsgs {ow : Bool} {dv : Value} (y : YS h Y Q S M N sb nxq cum ow dv nx rd held ro) (hm : mts rd ≤ held) (hl : rd.length ≤ 1000) (hn : rd.length + 20 ≤ n) :
    ResQ (callN Tryz.prog G0 n (.call 13 [pt Y]) h) (fun v h' => v = .slice ro rd.length rd.length ∧ (∃ cs, Row h' 4 ro rd.length cs ∧ RdL h' N none cs rd) ∧ h.next ≤ h'.next ∧ ∀ d, d < h.next → (d < N ∨ N + 4 ≤ d) → h'.get d = h.get d) := by
  obtain ⟨n, rfl⟩ : ∃ m, n = m + 1 := ⟨n - 1, by omega⟩
  refine res_enter rfl d13 rfl ?_; simp only [c13]
  refine gg ?_
  refine i_load1 (v := pt (N + 3)) (by exact sel_of rfl) ((load1_own y.gY).trans (by rfl)) ?_
  refine i_call1 (by exact sel_of rfl) (w_jtake y.jn hm (by have := y.hh; omega) (by omega) (by omega)) ?_
  rintro _ h2 ⟨rfl, j2, P, cs, r, l⟩
  refine gg ?_
  exact ⟨rfl, ⟨cs, r, l⟩, P.next, fun d hd h5 => P.get d hd h5 (fun r hr => by cases hr)⟩
/-- Hear, a Sack -/
theorem w_hearS {X : Nat} {R : Value → Heap → Prop} (hX : X < h.next) (hd : ∀ h1 m, Keeps h h1 → 200 ≤ m → ResQ (callN Tryz.prog G0 m (.call 35 [pt X, .agg (sackv cum held (.slice od md md)).toArray, .int .i64 (tmI now)]) h1) R) (hn : 210 ≤ n) :
    ResQ (callN Tryz.prog G0 n (.call 12 [pt X, .agg (sackv cum held (.slice od md md)).toArray, .int .i64 now]) h) R := by
  obtain ⟨n, rfl⟩ : ∃ m, n = m + 1 := ⟨n - 1, by omega⟩
  refine res_enter rfl d12 rfl ?_; simp only [c12]
  refine o_cut (fun f h1 => (Keeps h h1 ∧ h1.get h.next = some (.cells 42 (sackv cum held (.slice od md md)) (.own false))) ∧ Sl [(0, pt X), (2, .int .i64 now), (4, pt h.next), (6, .int .i64 0)] f) ?_ ?_
  · refine gg ?_
    exact ⟨rfl, ⟨Keeps.new h _, by rw [Heap.get_new, if_pos rfl]⟩, sel_of rfl, sel_of rfl, sel_of rfl, sel_of rfl, trivial⟩
  rintro f1 h1 ⟨⟨k1, b1⟩, hs⟩
  obtain ⟨f0, rfl⟩ := hs.puts
  clear hs
  refine gg ?_
  refine i_load1 (v := .int .u8 ((3 : Nat) : Int)) (by exact sel_of rfl) ((load1_own b1).trans (by rfl)) ?_
  refine gg ?_
  refine i_loadN (v := sackv cum held (.slice od md md)) (by exact sel_of rfl) (loadN_all b1 rfl) ?_
  refine gg ?_
  refine i_call1 (by exact sel_of rfl) (w_time (by omega)) ?_
  rintro _ _ ⟨rfl, rfl⟩
  refine gg ?_
  refine i_call3 (by exact sel_of rfl) (by exact sel_of rfl) (by exact sel_of rfl) (hd h1 n k1 (by omega)) ?_
  intro v h2 hR
  refine gg ?_
  refine ⟨chk_cons (a := _) rfl (ldN (by exact sel_of rfl) (loadN_all b1 rfl)) ?_ (fun m hm => by
    simp only [List.mem_cons, List.not_mem_nil, or_false] at hm
    rcases hm with rfl | rfl <;> exact ⟨_, _, rfl, ldN (by exact sel_of rfl) (loadN_all b1 rfl)⟩) chk_nil, ?_⟩
  · refine sv_agg ?_
    unfold sackv
    repeat (first | exact sl_nil | refine sl_cons (by first | exact sv_int _ _ | exact sv_bool _ | exact sv_pt _ | exact sv_slice _ _ _) rfl ?_)
  refine gg ?_
  exact hR
end
end Go.Proofs.YtmlagbknnngjjaaGreat

/-! Frames for the law XferTwice. -/
set_option linter.unusedVariables false
namespace Go.Proofs.YtmlagbknnngjjaaGreat
open Go Vm
/-- blocks of the queue's types stay -/
theorem Que.keepT {h h' : Heap} {Q nx : Nat} {oq : Option Addr} {es : List Ent} (x : Que h Q oq nx es) (hn : h.next ≤ h'.next) (hg : ∀ d ty cs op, d < h.next → h.get d = some (.cells ty cs (.own op)) → (ty = 93 ∨ ty = 113 ∨ ty = 115 ∨ ty = 112 ∨ ty = 5) → (ty = 93 → d = Q) → h'.get d = h.get d) : Que h' Q oq nx es := by
  have hql := x.ql
  refine ⟨(hg _ _ _ _ hql x.hq (.inl rfl) (fun _ => rfl)).trans x.hq, by omega, x.ar.imp id fun ⟨k, a1, a2, a3⟩ => ⟨k, a1, by omega, (hg _ _ _ _ a2 a3 (.inr (.inl rfl)) (fun e => by cases e)).trans a3⟩, fun e he => ?_, x.nd, x.lim, x.nxl⟩
  have z := x.en e he
  have zb := z.bl
  have zp := z.pl
  have zk := z.kl
  exact ⟨(hg _ _ _ _ zb z.hb (.inr (.inr (.inl rfl))) (fun e => by cases e)).trans z.hb, by omega, (hg _ _ _ _ zp z.hp (.inr (.inr (.inr (.inl rfl)))) (fun e => by cases e)).trans z.hp, by omega, (hg _ _ _ _ zk z.hk (.inr (.inr (.inr (.inr rfl)))) (fun e => by cases e)).trans z.hk, by omega, z.wf, z.ne, z.le⟩
theorem YS.keeps {h h' : Heap} {Y Q S M N sb nxq cum held : Nat} {ow : Bool} {dv : Value} {nx : List Nat} {rd : List Mg} {ro : Option Addr} (y : YS h Y Q S M N sb nxq cum ow dv nx rd held ro) (k : Keeps h h') : YS h' Y Q S M N sb nxq cum ow dv nx rd held ro := by
  obtain ⟨gY, que, gp, jn, ⟨o1, o2, o3, o4, o5⟩, orr, hrd, hh⟩ := y
  have := k.next
  exact ⟨(k.get _ o5).trans gY, que.keeps k, gp.keeps k, jn.keeps k, ⟨o1, o2, o3, o4, by omega⟩, orr, hrd, hh⟩
/-- a new receiver, later: its blocks lie between lo and hi, and are as they were -/
theorem YS.new {h1 h2 h : Heap} {X Q sb S M N pf first : Nat} (W : NwQ h1 h2 X Q sb S M N first pf 65536 1200 4 4) (hpf : pf < 4294967296) (hn : h2.next ≤ h.next) (hg : ∀ d, h1.next ≤ d → d < h2.next → h.get d = h2.get d) : YS h X Q S M N sb first ((pf + 4294967295) % 4294967296) false (.slice none 0 0) [0, 0, 0, 0] [] 0 none := by
  obtain ⟨keep, ⟨x1, x2⟩, gX, que, gsb, sbl, ql, gS, gM, ⟨s1, s2, s3, s4, s5⟩, jn, ⟨o1, o2, o3, o4, o5⟩⟩ := W
  have hql := que.ql
  have jup := jn.up
  refine ⟨(hg _ x2 x1).trans gX, ⟨(hg _ ql hql).trans que.hq, by omega, .inl ⟨rfl, rfl⟩, (fun e he => nomatch he), List.nodup_nil, Nat.zero_le _, que.nxl⟩, ⟨(hg _ s2 s1).trans gS, ⟨[], 0, (hg _ s4 s3).trans gM, rfl, (fun e he => nomatch he)⟩, by omega, by omega, Nat.mod_lt _ (by decide)⟩, jn.keep0 hn (fun d h5 h6 => hg d (by omega) (by omega)), ⟨o1, o2, o3, o4, by omega⟩, (fun r hr => by cases hr), (fun m hm => nomatch hm), by decide⟩
end Go.Proofs.YtmlagbknnngjjaaGreat

