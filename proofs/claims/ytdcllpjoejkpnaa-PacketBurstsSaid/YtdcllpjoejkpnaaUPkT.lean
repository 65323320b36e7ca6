/- Part of a proof by an abstract run of the program's code: UPkT. No condition. -/
import Derived.Test.YtdcllpjoejkpnaaUPkA
/-! The document's table, a copy of octets, and whether a checksum fits, walked. -/
set_option linter.unusedVariables false
namespace Vm
open Go
theorem i_slX {rec : Rec} {L : List (Nat × Value)} {f : Fr} {dt : Nat} {h : Heap} {K : Fr → Heap → Prop} {rd : Bool} {x lo hi : Sel} {l : List ISem} {q : Addr} {m c b t sz : Nat} {k k' : IntKind} (hx : x.f (puts L f) = .slice (some q) m c) (hs : q.spot = none ∨ q.spot = some sz) (hz : lo.f (puts L f) = .int k' (b : Int)) (hy : hi.f (puts L f) = .int k (t : Int)) (hb : b ≤ t) (ht : t ≤ c) (hcb : c ≠ b)
    (hq : ItQ (runItems rec l (puts ((dt, (.slice (some ⟨q.block, q.off + b * sz, q.spot⟩) (t - b) (c - b))) :: L) f) h) K) : ItQ (runItems rec (iOp (put dt) (.v rd (oSlice sz x (some lo) (some hi) none)) :: l) (puts L f) h) K := by
  refine i_v (v := .slice (some ⟨q.block, q.off + b * sz, q.spot⟩) (t - b) (c - b)) ?_ hq
  have e : Nat.beq c b = false := by
    cases h : Nat.beq c b with
    | true => exact absurd (Nat.eq_of_beq_eq_true h) hcb
    | false => rfl
  simp only [oSlice, hx, bnd_none, bnd_nat hz hb, bnd_nat hy ht, cutSpot_lo hs ht, e, cond_false]
/-- a part of a block is made nothing -/
theorem i_clear {rec : Rec} {L : List (Nat × Value)} {f : Fr} {h : Heap} {K : Fr → Heap → Prop} {x : Sel} {l : List ISem} {b off n c e : Nat} {s : Option Nat} {z cs : List Value} {op : Bool} (hx : x.f (puts L f) = .slice (some ⟨b, off, s⟩) n c) (hn : n ≠ 0) (hg : h.get b = some (.cells e cs (.own op))) (hl : off + (rep n z).length ≤ cs.length)
    (hq : ItQ (runItems rec l (puts L f) (h.put b (.cells e (cs.take off ++ rep n z ++ cs.drop (off + (rep n z).length)) (.own op)))) K) : ItQ (runItems rec (iOp ⟨fun _ a => a⟩ (.e (eClearS z x)) :: l) (puts L f) h) K := by
  refine items_cons (it_e ⟨.tuple #[], h.put b (.cells e (cs.take off ++ rep n z ++ cs.drop (off + (rep n z).length)) (.own op)), ?_, hq⟩)
  have h1 := storeN_own (s := none) (off := off) (vs := rep n z) hg hl
  rw [putAt_eq _ _ _ (by omega)] at h1
  have e1 : Nat.beq n 0 = false := by
    cases h : Nat.beq n 0 with
    | true => exact absurd (Nat.eq_of_beq_eq_true h) hn
    | false => rfl
  simp only [eClearS, hx, e1, cond_false]
  rw [h1]
end Vm
namespace Go.Proofs.Ytdcllpjoejkpnaa
open Go Vm
theorem w_bit {h : Heap} (v : Nat) (hv : v < 4294967296) (n : Nat) (hn : 1 ≤ n) :
    ResQ (callN Try.prog G0 n (.call 65 [.int .u32 (v : Int)]) h) (fun u h' => (∃ w : Nat, u = .int .u32 (w : Int) ∧ w < 4294967296) ∧ h = h') := by
  obtain ⟨n, rfl⟩ : ∃ m, n = m + 1 := ⟨n - 1, by omega⟩
  refine res_enter rfl d65 rfl ?_; simp only [c65]
  refine gg ?_
  refine i_rem (m := 0) (by exact sel_of rfl) (by first | exact sel_of rfl | exact const_of) (by decide) ?_
  refine gg ?_
  refine out_if (by exact sel_of rfl) (fun hif => ?_) (fun hif => ?_)
  · refine gg ?_
    refine i_quo32 (m := v) (q := 2) (by exact sel_of rfl) (by first | exact sel_of rfl | exact const_of) (by decide) hv ?_
    refine i_xorn 32 (m := v / 2) (q := 2197175160) (by exact sel_of rfl) (by first | exact sel_of rfl | exact const_of) rfl (by omega) (by decide) ?_
    refine gg ?_
    exact ⟨⟨_, rfl, Nat.xor_lt_two_pow (n := 32) (by omega) (by decide)⟩, rfl⟩
  · refine gg ?_
    refine i_quo32 (m := v) (q := 2) (by exact sel_of rfl) (by first | exact sel_of rfl | exact const_of) (by decide) hv ?_
    refine gg ?_
    exact ⟨⟨_, rfl, by omega⟩, rfl⟩
set_option maxRecDepth 20000 in
theorem w_entry {h : Heap} (i : Nat) (hi : i < 256) (n : Nat) (hn : 20 ≤ n) :
    ResQ (callN Try.prog G0 n (.call 43 [.int .i64 (i : Int)]) h) (fun u h' => (∃ w : Nat, u = .int .u32 (w : Int) ∧ w < 4294967296) ∧ h = h') := by
  obtain ⟨n, rfl⟩ : ∃ m, n = m + 1 := ⟨n - 1, by omega⟩
  refine res_enter rfl d43 rfl ?_; simp only [c43]
  refine gg ?_
  refine o_up 8 (fun j f h' => ∃ w : Nat, Sl [(4, .int .i64 (j : Int)), (3, .int .u32 (w : Int))] f ∧ h = h' ∧ w < 4294967296) (by omega) ?_ ?_
  · exact ⟨i, ⟨sel_of rfl, sel_of rfl, trivial⟩, rfl, by omega⟩
  rintro j f h' hj ⟨w, hs, rfl, hw⟩
  obtain ⟨f0, rfl⟩ := hs.puts
  simp only [c43_0]
  refine gg ?_
  refine out_if (by exact sel_of rfl) (fun hif => ?_) (fun hif => ?_)
  · refine gg ?_
    refine i_call1 (by exact sel_of rfl) (w_bit w hw n (by omega)) ?_
    rintro _ _ ⟨⟨w2, rfl, hw2⟩, rfl⟩
    refine gg ?_
    exact rnd_up (by omega) ⟨w2, ⟨sel_of rfl, sel_of rfl, trivial⟩, rfl, hw2⟩
  · refine gg ?_
    exact ⟨⟨w, rfl, hw⟩, rfl⟩
set_option maxRecDepth 20000 in
theorem w_table {h : Heap} (n : Nat) (hn : 300 ≤ n) :
    ResQ (callN Try.prog G0 n (.call 23 []) h) (fun u h' => Keeps h h' ∧ ∃ (o : Option Addr) (t : List Nat), u = .slice o t.length t.length ∧ t.length = 256 ∧ Row h' 1 o t.length (n32 t) ∧ ∀ v ∈ t, v < 4294967296) := by
  obtain ⟨n, rfl⟩ : ∃ m, n = m + 1 := ⟨n - 1, by omega⟩
  refine res_enter rfl d23 rfl ?_; simp only [c23]
  refine gg ?_
  refine o_up 256 (fun i f h' => ∃ (t : List Nat) (o : Option Addr), Sl [(2, .int .i64 (i : Int)), (1, .slice o t.length t.length)] f ∧ Keeps h h' ∧ Ap h.next h' 24 1 o t.length t.length (n32 t) ∧ t.length = i ∧ ∀ v ∈ t, v < 4294967296) (by omega) ?_ ?_
  · exact ⟨[], none, ⟨sel_of rfl, sel_of rfl, trivial⟩, Keeps.refl h, Ap.nil _ _ _ _, rfl, fun v hv => by cases hv⟩
  rintro i f h' hi ⟨t, o, hs, k, ap, hlen, hb⟩
  obtain ⟨f0, rfl⟩ := hs.puts
  simp only [c23_0]
  refine gg ?_
  refine out_if (by exact sel_of rfl) (fun hif => ?_) (fun hif => ?_)
  · refine gg ?_
    refine i_call1 (by exact sel_of rfl) (w_entry i (by omega) n (by omega)) ?_
    rintro _ _ ⟨⟨w, rfl, hw⟩, rfl⟩
    refine gg ?_
    have k7 : Keeps h' (h'.new (.cells 24 [.int .u32 (w : Int)] (.own false))) := Keeps.new h' _
    have row7 : Row (h'.new (.cells 24 [.int .u32 (w : Int)] (.own false))) 1 (some ⟨h'.next, 0, none⟩) 1 [.int .u32 (w : Int)] := Row.new (by simp) rfl (.inl rfl)
    show ItQ (runItems _ _ _ (h'.new (.cells 24 [.int .u32 (w : Int)] (.own false)))) _
    generalize h'.new (.cells 24 [.int .u32 (w : Int)] (.own false)) = h7 at *
    refine i_app (t := (t ++ [w]).length) (es := n32 (t ++ [w])) (k.trans k7) (by decide) (by exact sel_of rfl) (ap.keeps k7) (row7.src) rfl (by omega) (by simp) (by rw [n32_app]; rfl) fun o8 h8 k8 ap8 _ => ?_
    refine gg ?_
    refine rnd_up (by omega) ⟨t ++ [w], o8, ⟨sel_of rfl, sel_of rfl, trivial⟩, k8, ap8, by simp [hlen], fun v hv => ?_⟩
    rcases List.mem_append.1 hv with hv | hv
    · exact hb v hv
    · simp at hv; subst hv; exact hw
  · refine gg ?_
    exact ⟨k, o, t, rfl, by omega, ap.row, hb⟩
/-- a copy lies in a block of its own -/
theorem w_cloneX {h : Heap} {o : Option Addr} {m c : Nat} {l : List UInt8} (hr : Row h 1 o m (u8s l)) (hl : l.length ≤ 1000000) (h0 : 0 < l.length) (n : Nat) (hn : 1 ≤ n) :
    ResQ (callN Try.prog G0 n (.call 66 [.slice o m c]) h) (fun v h' => Keeps h h' ∧ ∃ b, v = .slice (some ⟨b, 0, some 1⟩) l.length l.length ∧ h.next ≤ b ∧ b < h'.next ∧ h'.get b = some (.cells 5 (u8s l) (.own true))) := by
  have hm : l.length = m := by simpa [u8s_length] using hr.1
  subst hm
  obtain ⟨n, rfl⟩ : ∃ m, n = m + 1 := ⟨n - 1, by omega⟩
  refine res_enter rfl d66 rfl ?_; simp only [c66]
  cases o with
  | none =>
    have : l.length = 0 := hr.2
    omega
  | some u =>
    refine gg ?_
    have k1 : Keeps h (h.new (.cells 5 [] (.own false))) := Keeps.new h _
    have n1 : (h.new (.cells 5 [] (.own false))).next = h.next + 1 := rfl
    have row1 : Row (h.new (.cells 5 [] (.own false))) 1 (some ⟨h.next, 0, none⟩) 0 [] := Row.new (by simp) rfl (.inl rfl)
    refine i_appF (t := l.length) (es := u8s l) (o := some ⟨h.next, 0, none⟩) (cs := []) h0 (B := h.next) (by show h.next ≤ h.next + 1; omega) (by exact sel_of rfl) ⟨rfl, row1, fun q e => .inl (by cases e; rfl)⟩ ((hr.keeps k1).src (c := c)) (by rw [u8s_length, Nat.mul_one]) (by omega) (Nat.zero_add _) (List.nil_append _) fun h1 nx1 fr1 a1 => ?_
    have nx1' : h1.next = h.next + 2 := by rw [nx1]; rfl
    refine gg ?_
    have kk : Keeps h h1 := ⟨by omega, fun d hd => (fr1 d (by show d < h.next + 1; omega) (fun q e => .inr (by cases e; rfl))).trans (k1.get d hd)⟩
    refine ⟨kk, _, rfl, by show h.next ≤ h.next + 1; omega, by show h.next + 1 < h1.next; omega, ?_⟩
    rcases a1.2.2 _ rfl with h2 | ⟨j, h3, h4, h5⟩
    · cases h2
    · cases h3; exact h5
theorem rowB {h : Heap} {b e : Nat} {l : List UInt8} {op : Bool} (hb : b < h.next) (hg : h.get b = some (.cells e (u8s l) (.own op))) : Row h 1 (some ⟨b, 0, some 1⟩) l.length (u8s l) := by
  refine ⟨by rw [u8s_length, Nat.mul_one], hb, .inr rfl, ?_⟩
  rw [Nat.mul_one, loadN_of (q := ⟨b, 0, some 1⟩) hg (by simp) (by show 0 + l.length ≤ _; rw [u8s_length]; omega), List.drop_zero, ← u8s_length, List.take_length]
set_option maxHeartbeats 4000000 in
theorem w_sound {h : Heap} {ot o : Option Addr} {ct c : Nat} {t : List Nat} {X Y : List UInt8} (ht : Row h 1 ot t.length (n32 t)) (h256 : t.length = 256) (hb : ∀ v ∈ t, v < 4294967296) (hX : X.length = 8)
    (hr : Row h 1 o (X ++ le4 (crcC t (X ++ [0, 0, 0, 0] ++ Y)) ++ Y).length (u8s (X ++ le4 (crcC t (X ++ [0, 0, 0, 0] ++ Y)) ++ Y))) (hlen : Y.length ≤ 1200) (n : Nat) (hn : 2000 ≤ n) :
    ResQ (callN Try.prog G0 n (.call 44 [.slice ot t.length ct, .slice o (X ++ le4 (crcC t (X ++ [0, 0, 0, 0] ++ Y)) ++ Y).length c]) h) (fun v h' => v = .bool true ∧ Keeps h h') := by
  have hS := crcC_lt hb (X ++ [0, 0, 0, 0] ++ Y)
  have hl4 : (le4 (crcC t (X ++ [0, 0, 0, 0] ++ Y))).length = 4 := rfl
  have hZl : (X ++ [0, 0, 0, 0] ++ Y).length = (X ++ le4 (crcC t (X ++ [0, 0, 0, 0] ++ Y)) ++ Y).length := by simp only [List.length_append, hl4, List.length_cons, List.length_nil]
  have hZ12 : (X ++ le4 (crcC t (X ++ [0, 0, 0, 0] ++ Y)) ++ Y).length = 12 + Y.length := by simp only [List.length_append, hl4, hX]
  have hget : ∀ j, j < 4 → (X ++ le4 (crcC t (X ++ [0, 0, 0, 0] ++ Y)) ++ Y)[8 + j]? = (le4 (crcC t (X ++ [0, 0, 0, 0] ++ Y)))[j]? := fun j hj => by
    rw [List.append_assoc, List.getElem?_append_right (by omega), List.getElem?_append_left (by omega), hX, show 8 + j - 8 = j by omega]
  have hz : (u8s (X ++ le4 (crcC t (X ++ [0, 0, 0, 0] ++ Y)) ++ Y)).take 8 ++ rep 4 [Value.int .u8 0] ++ (u8s (X ++ le4 (crcC t (X ++ [0, 0, 0, 0] ++ Y)) ++ Y)).drop (8 + 4) = u8s (X ++ [0, 0, 0, 0] ++ Y) := by
    rw [← u8s_take, ← u8s_drop, List.append_assoc X, List.take_left' hX, ← List.append_assoc X, List.drop_left' (by rw [List.length_append, hX, hl4]), u8s_append, u8s_append]
    rfl
  have hk := ht
  generalize hZ : X ++ le4 (crcC t (X ++ [0, 0, 0, 0] ++ Y)) ++ Y = Z at *
  generalize hW : X ++ [0, 0, 0, 0] ++ Y = W at *
  obtain ⟨n, rfl⟩ : ∃ m, n = m + 1 := ⟨n - 1, by omega⟩
  refine res_enter rfl d44 rfl ?_; simp only [c44]
  refine gg ?_
  refine i_call1 (by exact sel_of rfl) (w_cloneX hr (by omega) (by omega) n (by omega)) ?_
  rintro _ h1 ⟨k1, b, rfl, hbn, hblt, hg⟩
  refine gg ?_
  refine i_slX (b := 8) (t := 12) (sz := 1) (by exact sel_of rfl) (.inr rfl) (by first | exact sel_of rfl | exact const_of) (by first | exact sel_of rfl | exact const_of) (by omega) (by omega) (by omega) ?_
  refine i_clear (b := b) (off := 0 + 8 * 1) (n := 12 - 8) (by exact sel_of rfl) (by decide) hg (by show 0 + 8 * 1 + 4 ≤ _; rw [u8s_length]; omega) ?_
  have hz' : (u8s Z).take (0 + 8 * 1) ++ rep (12 - 8) [Value.int .u8 0] ++ (u8s Z).drop (0 + 8 * 1 + (rep (12 - 8) [Value.int .u8 0]).length) = u8s W := hz
  rw [hz']
  have k2 : Keeps h (h1.put b (.cells 5 (u8s W) (.own true))) := k1.put hbn _
  have row2 : Row (h1.put b (.cells 5 (u8s W) (.own true))) 1 (some ⟨b, 0, some 1⟩) W.length (u8s W) := rowB hblt (by rw [Heap.get_put, if_pos rfl])
  generalize h1.put b (.cells 5 (u8s W) (.own true)) = h2 at *
  rw [hZl] at row2
  refine gg ?_
  have hsum := w_csum (h := h2) (ct := ct) (ht.keeps k2) h256 hb (o := some ⟨b, 0, some 1⟩) (c := Z.length) (l := W) (by rw [hZl]; exact row2) (by omega) n (by omega)
  rw [hZl] at hsum
  refine i_call2 (by exact sel_of rfl) (by exact sel_of rfl) hsum ?_
  rintro _ _ ⟨rfl, rfl⟩
  generalize hSS : crcC t W = S at *
  have r2 := hr.keeps k2
  have h24 : (UInt8.ofNat (S / 2 ^ 24)).toNat = S / 2 ^ 24 := by rw [ofNat_mod256]; omega
  refine gg ?_
  refine o_up 4 (fun i f h' => Sl [(15, .int .i64 (i : Int)), (1, .slice o Z.length c), (6, .int .u32 (S : Int))] f ∧ h2 = h') (by omega) ?_ ?_
  · exact ⟨⟨sel_of rfl, sel_of rfl, sel_of rfl, trivial⟩, rfl⟩
  rintro i f h' hi ⟨hs, rfl⟩
  obtain ⟨f0, rfl⟩ := hs.puts
  simp only [c44_0]
  refine gg ?_
  refine out_if (by exact sel_of rfl) (fun hif => ?_) (fun hif => ?_)
  · have hi4 : i = 0 ∨ i = 1 ∨ i = 2 ∨ i = 3 := by omega
    rcases hi4 with rfl | rfl | rfl | rfl
    · refine gg ?_
      refine i_idx (by exact sel_of rfl) r2 (i := 8) (by exact sel_of rfl) (by omega) fun u hu => ?_
      subst hu
      refine i_load1 (v := .int .u8 (((UInt8.ofNat S).toNat : Nat) : Int)) (by exact sel_of rfl) (by rw [r2.cell (by omega), Nat.mul_one, u8s_get, hget 0 (by omega)]; rfl) ?_
      refine gg ?_
      refine i_v (v := .int .i64 ((0 : Nat) : Int)) ((int2w _ (by first | exact sel_of rfl | exact const_of) (by exact sel_of rfl) rfl).trans rfl) ?_
      refine gg ?_
      rw [Nat.pow_zero, Nat.div_one]
      refine gg ?_
      exact rnd_up (by omega) ⟨⟨sel_of rfl, sel_of rfl, sel_of rfl, trivial⟩, rfl⟩
    · refine gg ?_
      refine i_idx (by exact sel_of rfl) r2 (i := 9) (by exact sel_of rfl) (by omega) fun u hu => ?_
      subst hu
      refine i_load1 (v := .int .u8 (((UInt8.ofNat (S / 2 ^ 8)).toNat : Nat) : Int)) (by exact sel_of rfl) (by rw [r2.cell (by omega), Nat.mul_one, u8s_get, hget 1 (by omega)]; rfl) ?_
      refine gg ?_
      refine i_v (v := .int .i64 ((8 : Nat) : Int)) ((int2w _ (by first | exact sel_of rfl | exact const_of) (by exact sel_of rfl) rfl).trans rfl) ?_
      refine gg ?_
      exact rnd_up (by omega) ⟨⟨sel_of rfl, sel_of rfl, sel_of rfl, trivial⟩, rfl⟩
    · refine gg ?_
      refine i_idx (by exact sel_of rfl) r2 (i := 10) (by exact sel_of rfl) (by omega) fun u hu => ?_
      subst hu
      refine i_load1 (v := .int .u8 (((UInt8.ofNat (S / 2 ^ 16)).toNat : Nat) : Int)) (by exact sel_of rfl) (by rw [r2.cell (by omega), Nat.mul_one, u8s_get, hget 2 (by omega)]; rfl) ?_
      refine gg ?_
      refine i_v (v := .int .i64 ((16 : Nat) : Int)) ((int2w _ (by first | exact sel_of rfl | exact const_of) (by exact sel_of rfl) rfl).trans rfl) ?_
      refine gg ?_
      exact rnd_up (by omega) ⟨⟨sel_of rfl, sel_of rfl, sel_of rfl, trivial⟩, rfl⟩
    · refine gg ?_
      refine i_idx (by exact sel_of rfl) r2 (i := 11) (by exact sel_of rfl) (by omega) fun u hu => ?_
      subst hu
      refine i_load1 (v := .int .u8 (((UInt8.ofNat (S / 2 ^ 24)).toNat : Nat) : Int)) (by exact sel_of rfl) (by rw [r2.cell (by omega), Nat.mul_one, u8s_get, hget 3 (by omega)]; rfl) ?_
      refine gg ?_
      refine i_v (v := .int .i64 ((24 : Nat) : Int)) ((int2w _ (by first | exact sel_of rfl | exact const_of) (by exact sel_of rfl) rfl).trans rfl) ?_
      refine gg ?_
      exact rnd_up (by omega) ⟨⟨sel_of rfl, sel_of rfl, sel_of rfl, trivial⟩, rfl⟩
  · obtain rfl : i = 4 := by omega
    refine gg ?_
    exact ⟨rfl, k2⟩
end Go.Proofs.Ytdcllpjoejkpnaa

/-! The document's table of octets; octets that differ within four neighbours have other checksums. -/
set_option linter.unusedVariables false
namespace Go.Proofs.Ytdcllpjoejkpnaa
open Go Vm
/-- one bit's step -/
def bitN (v : Nat) : Nat := if v % 2 = 1 then (v / 2) ^^^ 2197175160 else v / 2
def entN : Nat → Nat → Nat
  | 0, v => v
  | k + 1, v => bitN (entN k v)
def crcTab : List Nat := (List.range 256).map (entN 8)
theorem crcTab_len : crcTab.length = 256 := by simp [crcTab]
theorem crcTab_get {i : Nat} (h : i < 256) : crcTab[i]? = some (entN 8 i) := by simp [crcTab, h]
def topInv : List Nat := (List.range 256).map fun j => ((List.range 256).find? fun i => entN 8 i / 16777216 == j).getD 0
theorem tops : ∀ i : Fin 256, topInv[entN 8 i.1 / 16777216]? = some i.1 ∧ entN 8 i.1 < 4294967296 := by decide +kernel
theorem top_inj {i j : Nat} (hi : i < 256) (hj : j < 256) (h : entN 8 i / 16777216 = entN 8 j / 16777216) : i = j := by
  have h1 := (tops ⟨i, hi⟩).1
  have h2 := (tops ⟨j, hj⟩).1
  rw [h] at h1
  exact Option.some.inj (h1.symm.trans h2)
theorem crcTab_lt : ∀ v ∈ crcTab, v < 4294967296 := by
  intro v hv
  obtain ⟨i, hi, rfl⟩ := List.mem_map.1 hv
  exact (tops ⟨i, by simpa using hi⟩).2
theorem xor_div (a b n : Nat) : (a ^^^ b) / 2 ^ n = (a / 2 ^ n) ^^^ (b / 2 ^ n) := by
  rw [← Nat.shiftRight_eq_div_pow, ← Nat.shiftRight_eq_div_pow, ← Nat.shiftRight_eq_div_pow, Nat.shiftRight_xor_distrib]
theorem xor_mod (a b n : Nat) : (a ^^^ b) % 2 ^ n = (a % 2 ^ n) ^^^ (b % 2 ^ n) := Nat.xor_mod_two_pow
theorem xor_zero {a b : Nat} (h : a ^^^ b = 0) : a = b := by
  have : a ^^^ (a ^^^ b) = a ^^^ 0 := by rw [h]
  rw [← Nat.xor_assoc, Nat.xor_self, Nat.zero_xor, Nat.xor_zero] at this
  exact this.symm
theorem crcB_ent (s : Nat) (x : UInt8) : crcB crcTab s x = (s / 2 ^ 8) ^^^ entN 8 ((s % 2 ^ 8) ^^^ x.toNat) := by
  rw [crcB, crcTab_get (idx_lt s x)]; rfl
/-- one step back: where the uppermost octets are the same -/
theorem crc_back {s s' : Nat} {x x' : UInt8} (hs : s < 2 ^ 32) (hs' : s' < 2 ^ 32) (h : (crcB crcTab s x ^^^ crcB crcTab s' x') / 2 ^ 24 = 0) :
    (s ^^^ s') % 2 ^ 8 = x.toNat ^^^ x'.toNat ∧ (s ^^^ s') / 2 ^ 8 = crcB crcTab s x ^^^ crcB crcTab s' x' := by
  have e1 := crcB_ent s x
  have e2 := crcB_ent s' x'
  have hi := idx_lt s x
  have hi' := idx_lt s' x'
  have hz : s / 2 ^ 8 / 2 ^ 24 = 0 := by omega
  have hz' : s' / 2 ^ 8 / 2 ^ 24 = 0 := by omega
  have ht : entN 8 ((s % 2 ^ 8) ^^^ x.toNat) / 2 ^ 24 = entN 8 ((s' % 2 ^ 8) ^^^ x'.toNat) / 2 ^ 24 := by
    rw [xor_div] at h
    have := xor_zero h
    rw [e1, e2, xor_div, xor_div, hz, hz', Nat.zero_xor, Nat.zero_xor] at this
    exact this
  have hidx := top_inj hi hi' ht
  have hidx' : (s % 2 ^ 8) ^^^ x.toNat = (s' % 2 ^ 8) ^^^ x'.toNat := hidx
  refine ⟨?_, ?_⟩
  · rw [xor_mod]
    have : ((s % 2 ^ 8) ^^^ x.toNat) ^^^ ((s' % 2 ^ 8) ^^^ x'.toNat) = 0 := by rw [hidx', Nat.xor_self]
    have h2 : ((s % 2 ^ 8) ^^^ (s' % 2 ^ 8)) ^^^ (x.toNat ^^^ x'.toNat) = 0 := by
      rw [← this]
      rw [Nat.xor_assoc, Nat.xor_assoc]
      congr 1
      rw [← Nat.xor_assoc, Nat.xor_comm (s' % 2 ^ 8), Nat.xor_assoc]
    exact xor_zero h2
  · rw [xor_div, e1, e2, hidx']
    rw [Nat.xor_assoc, ← Nat.xor_assoc (entN 8 _), Nat.xor_comm (entN 8 _) (s' / 2 ^ 8), Nat.xor_assoc (s' / 2 ^ 8), Nat.xor_self, Nat.xor_zero]
theorem crcB_lt' {s : Nat} (hs : s < 2 ^ 32) (x : UInt8) : crcB crcTab s x < 2 ^ 32 := crcB_lt crcTab_lt hs x
theorem xor_parts {a b : Nat} (h1 : (a ^^^ b) % 2 ^ 8 = 0) (h2 : (a ^^^ b) / 2 ^ 8 = 0) : a = b := xor_zero (by omega)
/-- the same octets keep numbers apart -/
theorem crcS_inj : ∀ (l : List UInt8) {s s' : Nat}, s < 2 ^ 32 → s' < 2 ^ 32 → crcS crcTab s l = crcS crcTab s' l → s = s'
  | [], s, s', _, _, h => h
  | x :: l, s, s', hs, hs', h => by
    have h1 := crcS_inj l (crcB_lt' hs x) (crcB_lt' hs' x) h
    have hx : crcB crcTab s x ^^^ crcB crcTab s' x = 0 := by rw [h1, Nat.xor_self]
    obtain ⟨h2, h3⟩ := crc_back hs hs' (by rw [hx])
    rw [hx] at h3
    rw [Nat.xor_self] at h2
    exact xor_parts h2 h3
theorem toNat_inj {x y : UInt8} (h : x.toNat ^^^ y.toNat = 0) : x = y := UInt8.toNat_inj.1 (xor_zero h)
/-- four octets -/
theorem crc_four {s : Nat} (hs : s < 2 ^ 32) {a b c d a' b' c' d' : UInt8} (h : crcS crcTab s [a, b, c, d] = crcS crcTab s [a', b', c', d']) : a = a' ∧ b = b' ∧ c = c' ∧ d = d' := by
  have h' : crcB crcTab (crcB crcTab (crcB crcTab (crcB crcTab s a) b) c) d = crcB crcTab (crcB crcTab (crcB crcTab (crcB crcTab s a') b') c') d' := h
  have l1 := crcB_lt' hs a
  have m1 := crcB_lt' hs a'
  have b1 := @crc_back s s a a' hs hs
  generalize crcB crcTab s a = s1 at *
  generalize crcB crcTab s a' = t1 at *
  have l2 := crcB_lt' l1 b
  have m2 := crcB_lt' m1 b'
  have b2 := @crc_back s1 t1 b b' l1 m1
  generalize crcB crcTab s1 b = s2 at *
  generalize crcB crcTab t1 b' = t2 at *
  have l3 := crcB_lt' l2 c
  have m3 := crcB_lt' m2 c'
  have b3 := @crc_back s2 t2 c c' l2 m2
  generalize crcB crcTab s2 c = s3 at *
  generalize crcB crcTab t2 c' = t3 at *
  have b4 := @crc_back s3 t3 d d' l3 m3
  rw [h', Nat.xor_self] at b4
  obtain ⟨p4, q4⟩ := b4 (by decide)
  obtain ⟨p3, q3⟩ := b3 (by omega)
  obtain ⟨p2, q2⟩ := b2 (by omega)
  obtain ⟨p1, q1⟩ := b1 (by omega)
  rw [Nat.xor_self] at p1 q1
  exact ⟨toNat_inj (by omega), toNat_inj (by omega), toNat_inj (by omega), toNat_inj (by omega)⟩
theorem crcS_app (t : List Nat) (s : Nat) (l m : List UInt8) : crcS t s (l ++ m) = crcS t (crcS t s l) m := by
  rw [crcS, List.foldl_append]; rfl
/-- A BURST TURNS THE CHECKSUM -/
theorem crc_burst {p q X Y : List UInt8} (hX : X.length = 4) (hY : Y.length = 4) (h : crcC crcTab (p ++ X ++ q) = crcC crcTab (p ++ Y ++ q)) : X = Y := by
  have h1 : crcS crcTab 4294967295 (p ++ X ++ q) = crcS crcTab 4294967295 (p ++ Y ++ q) := by
    have : 4294967295 ^^^ crcS crcTab 4294967295 (p ++ X ++ q) = 4294967295 ^^^ crcS crcTab 4294967295 (p ++ Y ++ q) := h
    have h2 := congrArg (fun z => 4294967295 ^^^ z) this
    simpa [← Nat.xor_assoc] using h2
  rw [crcS_app, crcS_app, crcS_app, crcS_app] at h1
  have hp : crcS crcTab 4294967295 p < 2 ^ 32 := crcS_lt crcTab_lt p (by decide)
  have h2 := crcS_inj q (crcS_lt crcTab_lt X hp) (crcS_lt crcTab_lt Y hp) h1
  match X, hX, Y, hY with
  | [a, b, c, d], _, [a', b', c', d'], _ =>
    obtain ⟨rfl, rfl, rfl, rfl⟩ := crc_four hp h2
    rfl
theorem le4_inj {s t : Nat} (hs : s < 4294967296) (ht : t < 4294967296) (h : le4 s = le4 t) : s = t := by
  simp only [le4, List.cons.injEq, and_true] at h
  obtain ⟨h0, h1, h2, h3⟩ := h
  have e0 := congrArg UInt8.toNat h0
  have e1 := congrArg UInt8.toNat h1
  have e2 := congrArg UInt8.toNat h2
  have e3 := congrArg UInt8.toNat h3
  rw [ofNat_mod256, ofNat_mod256] at e0 e1 e2 e3
  omega
/-! the document's table, walked -/
theorem w_bitX {h : Heap} (v : Nat) (hv : v < 4294967296) (n : Nat) (hn : 1 ≤ n) :
    ResQ (callN Try.prog G0 n (.call 65 [.int .u32 (v : Int)]) h) (fun u h' => (u = .int .u32 (bitN v : Int) ∧ bitN v < 4294967296) ∧ h = h') := by
  obtain ⟨n, rfl⟩ : ∃ m, n = m + 1 := ⟨n - 1, by omega⟩
  refine res_enter rfl d65 rfl ?_; simp only [c65]
  refine gg ?_
  have ht : (v : Int).tmod 2 = ((v % 2 : Nat) : Int) := rfl
  refine i_rem (m := 0) (by exact sel_of rfl) (by first | exact sel_of rfl | exact const_of) (by decide) ?_
  refine gg ?_
  refine out_if (by exact sel_of rfl) (fun hif => ?_) (fun hif => ?_)
  · have e : bitN v = (v / 2) ^^^ 2197175160 := by rw [bitN, if_pos (by omega)]
    refine gg ?_
    refine i_quo32 (m := v) (q := 2) (by exact sel_of rfl) (by first | exact sel_of rfl | exact const_of) (by decide) hv ?_
    refine i_xorn 32 (m := v / 2) (q := 2197175160) (by exact sel_of rfl) (by first | exact sel_of rfl | exact const_of) rfl (by omega) (by decide) ?_
    refine gg ?_
    rw [e]
    exact ⟨⟨rfl, Nat.xor_lt_two_pow (n := 32) (by omega) (by decide)⟩, rfl⟩
  · have e : bitN v = v / 2 := by rw [bitN, if_neg (by omega)]
    refine gg ?_
    refine i_quo32 (m := v) (q := 2) (by exact sel_of rfl) (by first | exact sel_of rfl | exact const_of) (by decide) hv ?_
    refine gg ?_
    rw [e]
    exact ⟨⟨rfl, by omega⟩, rfl⟩
set_option maxRecDepth 20000 in
theorem w_entryX {h : Heap} (i : Nat) (hi : i < 256) (n : Nat) (hn : 20 ≤ n) :
    ResQ (callN Try.prog G0 n (.call 43 [.int .i64 (i : Int)]) h) (fun u h' => u = .int .u32 (entN 8 i : Int) ∧ h = h') := by
  obtain ⟨n, rfl⟩ : ∃ m, n = m + 1 := ⟨n - 1, by omega⟩
  refine res_enter rfl d43 rfl ?_; simp only [c43]
  refine gg ?_
  refine o_up 8 (fun j f h' => Sl [(4, .int .i64 (j : Int)), (3, .int .u32 (entN j i : Int))] f ∧ h = h' ∧ entN j i < 4294967296) (by omega) ?_ ?_
  · exact ⟨⟨sel_of rfl, sel_of rfl, trivial⟩, rfl, by show i < _; omega⟩
  rintro j f h' hj ⟨hs, rfl, hw⟩
  obtain ⟨f0, rfl⟩ := hs.puts
  simp only [c43_0]
  refine gg ?_
  refine out_if (by exact sel_of rfl) (fun hif => ?_) (fun hif => ?_)
  · refine gg ?_
    refine i_call1 (by exact sel_of rfl) (w_bitX (entN j i) hw n (by omega)) ?_
    rintro _ _ ⟨⟨rfl, hw2⟩, rfl⟩
    refine gg ?_
    exact rnd_up (by omega) ⟨⟨sel_of rfl, sel_of rfl, trivial⟩, rfl, hw2⟩
  · obtain rfl : j = 8 := by omega
    refine gg ?_
    exact ⟨rfl, rfl⟩
set_option maxRecDepth 20000 in
theorem w_tableX {h : Heap} (n : Nat) (hn : 300 ≤ n) :
    ResQ (callN Try.prog G0 n (.call 23 []) h) (fun u h' => Keeps h h' ∧ ∃ (o : Option Addr), u = .slice o crcTab.length crcTab.length ∧ Row h' 1 o crcTab.length (n32 crcTab)) := by
  obtain ⟨n, rfl⟩ : ∃ m, n = m + 1 := ⟨n - 1, by omega⟩
  refine res_enter rfl d23 rfl ?_; simp only [c23]
  refine gg ?_
  have hT : ∀ i, i ≤ 256 → (crcTab.take i).length = i := fun i hi => by rw [List.length_take, crcTab_len]; omega
  refine o_up 256 (fun i f h' => ∃ (o : Option Addr), Sl [(2, .int .i64 (i : Int)), (1, .slice o i i)] f ∧ Keeps h h' ∧ Ap h.next h' 24 1 o i i (n32 (crcTab.take i))) (by omega) ?_ ?_
  · exact ⟨none, ⟨sel_of rfl, sel_of rfl, trivial⟩, Keeps.refl h, Ap.nil _ _ _ _⟩
  rintro i f h' hi ⟨o, hs, k, ap⟩
  obtain ⟨f0, rfl⟩ := hs.puts
  simp only [c23_0]
  refine gg ?_
  refine out_if (by exact sel_of rfl) (fun hif => ?_) (fun hif => ?_)
  · refine gg ?_
    refine i_call1 (by exact sel_of rfl) (w_entryX i (by omega) n (by omega)) ?_
    rintro _ _ ⟨rfl, rfl⟩
    have hst : crcTab.take (i + 1) = crcTab.take i ++ [entN 8 i] := by rw [List.take_add_one, crcTab_get (by omega)]; rfl
    generalize entN 8 i = w at *
    refine gg ?_
    have k7 : Keeps h' (h'.new (.cells 24 [.int .u32 (w : Int)] (.own false))) := Keeps.new h' _
    have row7 : Row (h'.new (.cells 24 [.int .u32 (w : Int)] (.own false))) 1 (some ⟨h'.next, 0, none⟩) 1 [.int .u32 (w : Int)] := Row.new (by simp) rfl (.inl rfl)
    show ItQ (runItems _ _ _ (h'.new (.cells 24 [.int .u32 (w : Int)] (.own false)))) _
    generalize h'.new (.cells 24 [.int .u32 (w : Int)] (.own false)) = h7 at *
    refine i_app (t := i + 1) (es := n32 (crcTab.take (i + 1))) (k.trans k7) (by decide) (by exact sel_of rfl) (ap.keeps k7) (row7.src) rfl (by omega) rfl (by rw [hst, n32_app]; rfl) fun o8 h8 k8 ap8 _ => ?_
    refine gg ?_
    exact rnd_up (by omega) ⟨o8, ⟨sel_of rfl, sel_of rfl, trivial⟩, k8, ap8⟩
  · obtain rfl : i = 256 := by omega
    rw [List.take_of_length_le (by rw [crcTab_len]; exact Nat.le_refl _)] at ap
    refine gg ?_
    exact ⟨k, o, by rw [crcTab_len], by rw [crcTab_len]; exact ap.row⟩
end Go.Proofs.Ytdcllpjoejkpnaa

