/- Part of a proof by an abstract run of the program's code: RPkD. No condition. -/
import Derived.Test.YtdcllpjoejkpnaaRPkT
import Derived.Test.YtdcllpjoejkpnaaRLwA
/-! packet.Decode of a packet's octets, walked. -/
set_option linter.unusedVariables false
namespace Go.Proofs.Ytdcllpjoejkpnaa
open Go Vm
/-- what is at hand of chunks; what they point to lies at or behind a block -/
def ChEN (N : Nat) (h : Heap) (l : List Chk) (els : List (List Value)) : Prop := els.length = l.length ∧ (∀ c ∈ els, c.length = 12) ∧ ∀ (i : Nat) (x : Chk) (v : List Value), l[i]? = some x → els[i]? = some v → ChVN N h x v
theorem ChEN.nil (N : Nat) (h : Heap) : ChEN N h [] [] := ⟨rfl, (fun c hc => by cases hc), fun i x v hx => by simp at hx⟩
theorem ChEN.che {N : Nat} {h : Heap} {l : List Chk} {els : List (List Value)} (r : ChEN N h l els) : ChE h l els := ⟨r.1, r.2.1, fun i x v hx hv => (r.2.2 i x v hx hv).chv⟩
theorem ChEN.low {N : Nat} {h h' : Heap} {l : List Chk} {els : List (List Value)} (r : ChEN N h l els) {p : Nat → Prop} (k : KeepsP p h h') (hp : ∀ d, N ≤ d → ¬p d) : ChEN N h' l els := ⟨r.1, r.2.1, fun i x v hx hv => (r.2.2 i x v hx hv).low k hp⟩
theorem ChEN.keeps {N : Nat} {h h' : Heap} {l : List Chk} {els : List (List Value)} (r : ChEN N h l els) (k : Keeps h h') : ChEN N h' l els := r.low (k.toP (fun _ => False)) (fun d _ hf => hf)
theorem ChEN.snoc {N : Nat} {h : Heap} {l : List Chk} {els : List (List Value)} {x : Chk} {v : List Value} (r : ChEN N h l els) (hx : ChVN N h x v) : ChEN N h (l ++ [x]) (els ++ [v]) := by
  refine ⟨by simp [r.1], fun c hc => ?_, fun i y w hy hw => ?_⟩
  · rcases List.mem_append.1 hc with hc | hc
    · exact r.2.1 c hc
    · simp at hc; subst hc; exact hx.chv.len
  · rw [List.getElem?_append] at hy hw
    by_cases hi : i < l.length
    · rw [if_pos hi] at hy
      rw [if_pos (by rw [r.1]; exact hi)] at hw
      exact r.2.2 i y w hy hw
    · rw [if_neg hi] at hy
      rw [if_neg (by rw [r.1]; exact hi), r.1] at hw
      cases hj : i - l.length with
      | zero =>
        rw [hj] at hy hw
        simp at hy hw
        subst hy hw
        exact hx
      | succ j => rw [hj] at hy; simp at hy
/-- what is at hand of a chunk, in a heap seen only so far -/
theorem ChVN.upto {N A : Nat} {h h' : Heap} {c : Chk} {v : List Value} (r : ChVN N h c v) {p : Nat → Prop} (k : KeepsP p h ⟨A, h'.t⟩) (hp : ∀ d, N ≤ d → ¬p d) : ChVN N ⟨A, h'.t⟩ c v := r.low k hp
set_option maxHeartbeats 8000000 in
theorem w_pall {h : Heap} {o : Option Addr} {c : Nat} {l : List Chk} (hr : Row h 1 o (encs l).length (u8s (encs l))) (hc : (encs l).length ≤ c) (hlen : (encs l).length ≤ 1200) (hall : ∀ x ∈ l, x.shaped ∧ x.Ok) (h64 : l.length ≤ 64) (hm : ¬mixedC l) (n : Nat) (hn : 101000 ≤ n) :
    ResQ (callN Try.prog G0 n (.call 45 [.slice o (encs l).length c]) h) (fun v h' => Keeps h h' ∧ ∃ (oc : Option Addr) (es : List (List Value)), v = .tuple #[.slice oc l.length l.length, .int .i64 0] ∧ Row h' 12 oc l.length es.flatten ∧ ChEN h.next h' l es ∧ ∀ q, oc = some q → h.next ≤ q.block) := by
  obtain ⟨n, rfl⟩ : ∃ m, n = m + 1 := ⟨n - 1, by omega⟩
  refine res_enter rfl d45 rfl ?_; simp only [c45]
  refine gg ?_
  refine o_up l.length (fun i f h' => ∃ (ob oc : Option Addr) (cb : Nat) (es : List (List Value)) (g : Heap), Sl [(0, .slice ob (encs (l.drop i)).length cb), (4, .slice oc i i)] f ∧ Keeps h h' ∧ Row h' 1 ob (encs (l.drop i)).length (u8s (encs (l.drop i))) ∧ (encs (l.drop i)).length ≤ cb ∧ (∀ q, ob = some q → q.block < h.next) ∧ Ap h.next h' 33 12 oc i i es.flatten ∧ ChEN h.next g (l.take i) es ∧ Keeps g h' ∧ h.next ≤ g.next ∧ (∀ q, oc = some q → g.next ≤ q.block)) (by omega) ?_ ?_
  · exact ⟨o, none, c, [], h, ⟨sel_of rfl, sel_of rfl, trivial⟩, Keeps.refl h, hr, hc, (fun q e => by subst e; exact hr.2.1), Ap.nil _ _ _ _, ChEN.nil _ h, Keeps.refl h, Nat.le_refl _, fun q e => by cases e⟩
  rintro i f h' hi ⟨ob, oc, cb, es, g, hs, k, rb, hcb, hob, ap, he, kg, hgn, hoc⟩
  obtain ⟨f0, rfl⟩ := hs.puts
  have kn := k.next
  have kgn := kg.next
  simp only [c45_0]
  by_cases hi2 : i < l.length
  · obtain ⟨x, hx⟩ : ∃ x, l[i]? = some x := ⟨_, List.getElem?_eq_getElem hi2⟩
    obtain ⟨hsh, hox⟩ := hall x (List.mem_of_getElem? hx)
    have hdr : encs (l.drop i) = (encC x).1 ++ encs (l.drop (i + 1)) := by rw [drop_cons hx]; rfl
    have hd := decC_enc hsh hox (encs (l.drop (i + 1)))
    obtain ⟨e3, e4, e5⟩ := encC_len hsh
    have hlen2 : (encs (l.drop i)).length ≤ 1200 := by
      have : encs l = encs (l.take i) ++ encs (l.drop i) := by rw [encs, encs, encs, ← List.flatMap_append, List.take_append_drop]
      have := congrArg List.length this
      rw [List.length_append] at this
      omega
    rw [hdr] at rb hcb hlen2 ⊢
    generalize (encC x).1 = E at *
    generalize hrest : encs (l.drop (i + 1)) = rest at *
    have hlr : (E ++ rest).length = E.length + rest.length := List.length_append
    refine gg ?_
    by_cases hi64 : i = 64
    · omega
    refine gg ?_
    refine i_call1 (by exact sel_of rfl) (w_cdecodeN rb (by omega) n (by omega)) ?_
    rintro _ h3 ⟨k3, w, rfl, cw⟩
    have lw := cw.chv.len
    simp only [hd] at cw ⊢
    have n3 := k3.next
    refine gg ?_
    refine i_storeF (vs := w) (Keeps.new h3 _) (Nat.le_refl _) (by exact sel_of rfl) (by rfl) (by rw [Heap.get_new, if_pos rfl]) lw rfl (Nat.lt_succ_self _) fun h4 k4 g4 lt4 => ?_
    have n4 := k4.next
    refine gg ?_
    refine i_loadN (by exact sel_of rfl) (loadN_all (by assumption) (by first | rfl | assumption)) ?_
    refine gg ?_
    refine i_bslice (cs := w) (by
      obtain ⟨o1, c1, o2, c2, o3, c3, o4, c4, o5, c5, ps, rfl, _⟩ := cw
      rfl) ?_
    have k5 : Keeps h4 (h4.new (.cells 33 w (.own false))) := Keeps.new h4 _
    have row5 : Row (h4.new (.cells 33 w (.own false))) 12 (some ⟨h4.next, 0, none⟩) 1 w := Row.new (by simp) (by rw [lw]) (.inl rfl)
    have nx5 : (h4.new (.cells 33 w (.own false))).next = h4.next + 1 := rfl
    generalize (h4.new (.cells 33 w (.own false))) = h5 at *
    have k35 := k3.trans (k4.trans k5)
    have es2 : es.flatten ++ w = (es ++ [w]).flatten := by rw [List.flatten_append]; simp
    have ap5 := ap.keeps k35
    refine i_appF (t := i + 1) (es := (es ++ [w]).flatten) (by decide) (B := h.next) (by omega) (by exact sel_of rfl) ap5 (row5.src) (by rw [lw]) (by omega) rfl es2 fun h6 nx6 fr6 ap6 => ?_
    have hlow : ∀ d, d < h'.next → (∀ q, oc = some q → d ≠ q.block) → h6.get d = h'.get d := fun d hd hq => (fr6 d (by omega) (fun q e => .inl (hq q e))).trans (k35.get d hd)
    have k6 : Keeps h h6 := ⟨by omega, fun d hd => (hlow d (by omega) (fun q e => by have := hoc q e; omega)).trans (k.get d hd)⟩
    have rb6 : Row h6 1 ob (E ++ rest).length (u8s (E ++ rest)) := row_low rb (by omega) (fun q e => hlow _ (by have := hob q e; omega) (fun q2 e2 => by have := hob q e; have := hoc q2 e2; omega))
    have kgA : Keeps g (⟨h5.next, h6.t⟩ : Heap) := ⟨by show g.next ≤ h5.next; omega, fun d hd => (hlow d (by omega) (fun q e => by have := hoc q e; omega)).trans (kg.get d hd)⟩
    have hocb : ∀ q, oc = some q → q.block < h'.next := fun q e => by subst e; exact ap.2.1.2.1
    have cwA : ChVN h.next (⟨h5.next, h6.t⟩ : Heap) x w := by
      have c5 := cw.low ((k4.trans k5).toP (fun _ => False)) (fun d hd hf => hf)
      refine ChVN.mono (N := h'.next) (ChVN.upto c5 (p := fun d => d < h'.next) ⟨Nat.le_refl _, fun d hd hp => ?_⟩ (fun d hd hp => by omega)) (by omega)
      exact fr6 d hd (fun q e => .inl (by have := hocb q e; omega))
    refine gg ?_
    refine i_sl_lo (by exact sel_of rfl) rb6 hcb (by exact sel_of rfl) (by omega) fun o2 hn2 r2 => ?_
    refine gg ?_
    have hr2 : (E ++ rest).length - E.length = rest.length := by omega
    rw [Nat.mul_one, ← u8s_drop, List.drop_left' rfl, hr2] at r2
    rw [hr2]
    subst hrest
    refine rnd_up (by omega) ⟨o2, _, cb - E.length, es ++ [w], (⟨h5.next, h6.t⟩ : Heap), ⟨sel_of rfl, sel_of rfl, trivial⟩, k6, r2, by omega, (fun q e => by obtain ⟨q0, e0, e1⟩ := hn2 q e; rw [e1]; exact hob q0 e0), ap6, ?_, ⟨by show h5.next ≤ h6.next; omega, fun d hd => rfl⟩, by show h.next ≤ h5.next; omega, (fun q e => by cases e; exact Nat.le_refl _)⟩
    rw [List.take_add_one, hx]
    exact (he.keeps kgA).snoc cwA
  · have e0 : encs (l.drop i) = [] := by rw [List.drop_eq_nil_of_le (by omega)]; rfl
    obtain rfl : i = l.length := by omega
    rw [List.take_length] at he
    rw [e0]
    refine gg ?_
    refine i_call1 (by exact sel_of rfl) (w_mixed ap.row (he.keeps kg).che (by omega) n (by omega)) ?_
    rintro _ h3 ⟨rfl, k3⟩
    rw [decide_eq_false hm]
    refine gg ?_
    exact ⟨k.trans k3, oc, es, rfl, ap.row.keeps k3, he.keeps (kg.trans k3), fun q e => by have := hoc q e; omega⟩
end Go.Proofs.Ytdcllpjoejkpnaa

/-! packet.Decode of what packet.Encode wrote, walked. -/
set_option linter.unusedVariables false
namespace Go.Proofs.Ytdcllpjoejkpnaa
open Go Vm
theorem getR_pre {x r : List UInt8} {k v : Nat} (h : x.length = k) (hv : num x = v) : getR (x ++ r) k = (v, r, 0) := by
  rw [getR, if_neg (by rw [List.length_append]; omega), List.take_left' h, List.drop_left' h, hv]
def goodPk (t : List Nat) (p : Pk) : Prop := (¬badPk t p ∧ ¬bigPk p) ∧ (p.from_ < 65536 ∧ p.to_ < 65536 ∧ p.tag < 4294967296) ∧ ∀ x ∈ p.l, x.Ok
theorem numD2 (v : Nat) (hv : v < 65536) : num (down v 2) = v := num_two_down v hv
set_option maxHeartbeats 4000000 in
theorem w_pdecode {h : Heap} {ot o : Option Addr} {ct c : Nat} {t : List Nat} {p : Pk} (ht : Row h 1 ot t.length (n32 t)) (hb : ∀ v ∈ t, v < 4294967296) (hg : goodPk t p) (hr : Row h 1 o (encPk t p).1.length (u8s (encPk t p).1)) (hc : (encPk t p).1.length ≤ c) (n : Nat) (hn : 102000 ≤ n) :
    ResQ (callN Try.prog G0 n (.call 24 [.slice ot t.length ct, .slice o (encPk t p).1.length c]) h) (fun v h' => Keeps h h' ∧ ∃ pv : List Value, v = .tuple #[.agg pv.toArray, .int .i64 0] ∧ PkV h' p pv) := by
  obtain ⟨⟨hbad, hbig⟩, ⟨b1, b2, b3⟩, hok⟩ := hg
  have h256 : t.length = 256 := Classical.byContradiction fun e => hbad (.inl e)
  have hl0 : p.l ≠ [] := fun e => hbad (.inr (.inl e))
  have hm : ¬mixedC p.l := fun e => hbad (.inr (.inr (.inl e)))
  have hsh : ∀ x ∈ p.l, x.shaped := fun x hx => Classical.byContradiction fun e => hbad (.inr (.inr (.inr (by
    rw [List.any_eq_true]; exact ⟨x, hx, by simp [e]⟩))))
  have h64 : p.l.length ≤ 64 := Nat.le_of_not_lt fun e => hbig (.inl e)
  have h12 : 12 + (encs p.l).length ≤ 1200 := Nat.le_of_not_lt fun e => hbig (.inr e)
  have e0 : (encPk t p).1 = hdr p ++ le4 (sumPk t p) ++ encs p.l := by rw [encPk, if_neg hbad, if_neg hbig]
  rw [e0] at hr hc ⊢
  have hX : (hdr p).length = 8 := by simp [hdr, down_length]
  have hl4 : (le4 (sumPk t p)).length = 4 := rfl
  have hlen : (hdr p ++ le4 (sumPk t p) ++ encs p.l).length = 12 + (encs p.l).length := by simp only [List.length_append, hX, hl4]
  have hge : 4 ≤ (encs p.l).length := by
    obtain ⟨x, r, e⟩ : ∃ x r, p.l = x :: r := by
      cases hp : p.l with
      | nil => exact absurd hp hl0
      | cons x r => exact ⟨x, r, rfl⟩
    obtain ⟨d3, d4, d5⟩ := encC_len (hsh x (by rw [e]; simp))
    rw [e, show encs (x :: r) = (encC x).1 ++ encs r from rfl, List.length_append]
    omega
  obtain ⟨n, rfl⟩ : ∃ m, n = m + 1 := ⟨n - 1, by omega⟩
  refine res_enter rfl d24 rfl ?_; simp only [c24]
  obtain ⟨a1, k1, n1⟩ := box_one h (.cells 27 [.int .u16 0, .int .u16 0, .int .u32 0, .slice none 0 0] (.own false))
  refine gg ?_
  generalize (h.new (.cells 27 [.int .u16 0, .int .u16 0, .int .u32 0, .slice none 0 0] (.own false))) = h1 at *
  have x1 : h.next < h1.next := by omega
  rw [decide_eq_false (p := ((t.length : Nat) : Int) ≠ 256) (by omega)]
  refine gg ?_
  have hsnd := w_sound (ct := ct) (c := c) (ht.keeps k1) h256 hb hX (hr.keeps k1) (by omega) n (by omega)
  rw [show le4 (crcC t (hdr p ++ [0, 0, 0, 0] ++ encs p.l)) = le4 (sumPk t p) from rfl] at hsnd
  have hdrop : (hdr p ++ le4 (sumPk t p) ++ encs p.l).drop 12 = encs p.l := List.drop_left' (by rw [List.length_append, hX, hl4])
  have hread : hdr p ++ le4 (sumPk t p) ++ encs p.l = down p.from_ 2 ++ (down p.to_ 2 ++ (down p.tag 4 ++ (le4 (sumPk t p) ++ encs p.l))) := by
    rw [hdr]; simp only [List.append_assoc]
  generalize hW : hdr p ++ le4 (sumPk t p) ++ encs p.l = W at *
  rw [hlen] at hsnd hr hc ⊢
  have hc2 := hc
  rw [decide_eq_false (p := (1200 : Int) < ((12 + (encs p.l).length : Nat) : Int)) (by omega)]
  refine gg ?_
  rw [decide_eq_false (p := ((12 + (encs p.l).length : Nat) : Int) < 16) (by omega)]
  refine gg ?_
  refine i_call2 (by exact sel_of rfl) (by exact sel_of rfl) hsnd ?_
  rintro _ h2 ⟨rfl, k2⟩
  have a2 := (k2.get _ x1).trans a1
  have x2 := Nat.lt_of_lt_of_le x1 k2.next
  have k12 := k1.trans k2
  refine gg ?_
  refine i_sl_lo (i := 12) (by exact sel_of rfl) (hr.keeps k12) hc (by first | exact sel_of rfl | exact const_of) (by omega) fun o2 hn2 r2 => ?_
  rw [Nat.mul_one, ← u8s_drop, hdrop, show 12 + (encs p.l).length - 12 = (encs p.l).length by omega] at r2
  rw [show 12 + (encs p.l).length - 12 = (encs p.l).length by omega]
  refine gg ?_
  refine i_call1 (by exact sel_of rfl) (w_pall r2 (by omega) (by omega) (fun x hx => ⟨hsh x hx, hok x hx⟩) h64 hm n (by omega)) ?_
  rintro _ h3 ⟨k3, oc, es, rfl, rc, ec, hoc⟩
  have a3 := (k3.get _ x2).trans a2
  have x3 := Nat.lt_of_lt_of_le x2 k3.next
  have k13 := k12.trans k3
  refine gg ?_
  refine i_call1 (by exact sel_of rfl) (w_new (hr.keeps k13) (by omega) n (by omega)) ?_
  rintro _ h4 ⟨k4, b, hb4, rfl, rd4⟩
  have a4 := (k4.get _ x3).trans a3
  have x4 := Nat.lt_of_lt_of_le x3 k4.next
  rw [hread] at rd4
  refine gg ?_
  refine i_call1 (by exact sel_of rfl) (w_get16 rd4 (getR_pre (down_length _ _) (numD2 _ b1)) n (by omega)) ?_
  rintro _ h5 ⟨kb5, nx5, rd5, rfl⟩
  refine gg ?_
  refine i_call1 (by exact sel_of rfl) (w_get16 rd5 (getR_pre (down_length _ _) (numD2 _ b2)) n (by omega)) ?_
  rintro _ h6 ⟨kb6, nx6, rd6, rfl⟩
  refine gg ?_
  refine i_call1 (by exact sel_of rfl) (w_get32 rd6 (getR_pre (down_length _ _) (num_four_down _ b3)) n (by omega)) ?_
  rintro _ h7 ⟨kb7, nx7, rd7, rfl⟩
  have k37 : Keeps h3 h7 := kb7.new hb4 (kb6.new hb4 (kb5.new hb4 k4))
  have a7 := (k37.get _ x3).trans a3
  have x7 := Nat.lt_of_lt_of_le x3 k37.next
  refine gg ?_
  refine i_storeP (b := h.next) (s := none) (vs := [.int .u16 (p.from_ : Int), .int .u16 (p.to_ : Int), .int .u32 (p.tag : Int), .slice oc p.l.length p.l.length]) (by exact sel_of rfl) (by rfl) a7 rfl rfl ?_
  refine gg ?_
  refine finA2 (by exact sel_of rfl) (loadN_put rfl) (by exact sel_of rfl) ?_
  have kp : ∀ v, KeepsP (fun d => d = h.next) h7 (h7.put h.next v) := fun v => ⟨Nat.le_refl _, fun d hd hp => by rw [Heap.get_put, if_neg hp]⟩
  refine ⟨(k13.trans k37).put (Nat.le_refl _) _, _, rfl, oc, p.l.length, es, rfl, Row.top (rc.keeps k37) (fun q e => by have := hoc q e; omega) _, ((ec.keeps k37).low (kp _) (fun d hd hp => by omega)).che, Nat.le_refl _⟩
end Go.Proofs.Ytdcllpjoejkpnaa

