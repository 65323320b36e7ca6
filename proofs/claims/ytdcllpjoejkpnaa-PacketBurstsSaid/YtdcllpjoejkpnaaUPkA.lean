/- Part of a proof by an abstract run of the program's code: UPkA. No condition. -/
import Derived.Test.YtdcllpjoejkpnaaUEsA
/-! Packets: checksums, octets, in plain terms; bits. -/
set_option linter.unusedVariables false
namespace Vm
open Go
theorem wrap_lt {k : IntKind} {r : Nat} (h : r < lim k) : wrap k (.ofNat r) = (r : Int) := by
  show (bif Nat.blt r (lim k) then Int.ofNat r else k.wrap (.ofNat r)) = _
  have e : Nat.blt r (lim k) = true := by simpa [Nat.blt_eq] using h
  rw [e]; rfl
theorem i_xorn {rec : Rec} {L : List (Nat × Value)} {f : Fr} {dt : Nat} {h : Heap} {K : Fr → Heap → Prop} {rd : Bool} {x y : Sel} {l : List ISem} {k : IntKind} {m q : Nat} (b : Nat) (hx : x.f (puts L f) = .int k (m : Int)) (hy : y.f (puts L f) = .int k (q : Int)) (hb : lim k = 2 ^ b) (hm : m < 2 ^ b) (hq' : q < 2 ^ b)
    (hq : ItQ (runItems rec l (puts ((dt, .int k ((m ^^^ q : Nat) : Int)) :: L) f) h) K) : ItQ (runItems rec (iOp (put dt) (.v rd (oInt2 fXor x y)) :: l) (puts L f) h) K :=
  i_v (int2w _ hx hy (by
    show some (Value.int k (wrap k (.ofNat (Nat.xor m q)))) = _
    rw [wrap_lt (by rw [hb]; exact Nat.xor_lt_two_pow hm hq')]; rfl)) hq
theorem i_com32 {rec : Rec} {L : List (Nat × Value)} {f : Fr} {dt : Nat} {h : Heap} {K : Fr → Heap → Prop} {rd : Bool} {x : Sel} {l : List ISem} {m : Nat} (hx : x.f (puts L f) = .int .u32 (m : Int)) (hm : m < 4294967296)
    (hq : ItQ (runItems rec l (puts ((dt, .int .u32 ((4294967295 ^^^ m : Nat) : Int)) :: L) f) h) K) : ItQ (runItems rec (iOp (put dt) (.v rd (oCom x)) :: l) (puts L f) h) K :=
  i_v (by
    simp only [oCom, hx]
    exact congrArg (fun z => some (Value.int .u32 z)) (wrap_lt (k := .u32) (r := 4294967295 ^^^ m) (Nat.xor_lt_two_pow (n := 32) (by decide) hm))) hq
end Vm
namespace Go.Proofs.Ytdcllpjoejkpnaa
open Go Vm
/-- a checksum's step -/
def crcB (t : List Nat) (s : Nat) (x : UInt8) : Nat := (s / 256) ^^^ ((t[(s % 256) ^^^ x.toNat]?).getD 0)
def crcS (t : List Nat) (s : Nat) (l : List UInt8) : Nat := l.foldl (crcB t) s
theorem idx_lt (s : Nat) (x : UInt8) : (s % 256) ^^^ x.toNat < 256 := Nat.xor_lt_two_pow (n := 8) (Nat.mod_lt _ (by decide)) x.toNat_lt
theorem crcB_lt {t : List Nat} (ht : ∀ v ∈ t, v < 4294967296) {s : Nat} (hs : s < 4294967296) (x : UInt8) : crcB t s x < 4294967296 := by
  refine Nat.xor_lt_two_pow (n := 32) (by omega) ?_
  cases h : t[(s % 256) ^^^ x.toNat]? with
  | none => exact (by decide : 0 < 2 ^ 32)
  | some v => exact ht v (List.mem_of_getElem? h)
theorem crcS_lt {t : List Nat} (ht : ∀ v ∈ t, v < 4294967296) : ∀ (l : List UInt8) {s : Nat}, s < 4294967296 → crcS t s l < 4294967296
  | [], s, hs => hs
  | x :: l, s, hs => crcS_lt ht l (crcB_lt ht hs x)
theorem crcS_take {t : List Nat} {s i : Nat} {l : List UInt8} {x : UInt8} (h : l[i]? = some x) : crcS t s (l.take (i + 1)) = crcB t (crcS t s (l.take i)) x := by
  rw [List.take_add_one, h, crcS, List.foldl_append]; rfl
/-- the checksum -/
def crcC (t : List Nat) (l : List UInt8) : Nat := 4294967295 ^^^ crcS t 4294967295 l
theorem crcC_lt {t : List Nat} (ht : ∀ v ∈ t, v < 4294967296) (l : List UInt8) : crcC t l < 4294967296 := Nat.xor_lt_two_pow (n := 32) (by decide) (crcS_lt ht l (by decide))
def le4 (s : Nat) : List UInt8 := [UInt8.ofNat s, UInt8.ofNat (s / 2 ^ 8), UInt8.ofNat (s / 2 ^ 16), UInt8.ofNat (s / 2 ^ 24)]
/-- a packet -/
structure Pk where
  from_ : Nat
  to_ : Nat
  tag : Nat
  l : List Chk
def alone (k : Nat) : Prop := k = 1 ∨ k = 2 ∨ k = 14
instance (k : Nat) : Decidable (alone k) := by unfold alone; infer_instance
def mixedC (l : List Chk) : Prop := 1 < l.length ∧ (l.any fun x => decide (alone x.k)) = true
instance (l : List Chk) : Decidable (mixedC l) := by unfold mixedC; infer_instance
def hdr (p : Pk) : List UInt8 := down p.from_ 2 ++ down p.to_ 2 ++ down p.tag 4
def badPk (t : List Nat) (p : Pk) : Prop := t.length ≠ 256 ∨ p.l = [] ∨ mixedC p.l ∨ (p.l.any fun x => !decide x.shaped) = true
instance (t : List Nat) (p : Pk) : Decidable (badPk t p) := by unfold badPk; infer_instance
def bigPk (p : Pk) : Prop := 64 < p.l.length ∨ 1200 < 12 + (encs p.l).length
instance (p : Pk) : Decidable (bigPk p) := by unfold bigPk; infer_instance
def sumPk (t : List Nat) (p : Pk) : Nat := crcC t (hdr p ++ [0, 0, 0, 0] ++ encs p.l)
/-- a packet's octets, or why there are none -/
def encPk (t : List Nat) (p : Pk) : List UInt8 × Nat :=
  if badPk t p then ([], 1) else if bigPk p then ([], 10) else (hdr p ++ le4 (sumPk t p) ++ encs p.l, 0)
end Go.Proofs.Ytdcllpjoejkpnaa

/-! Predicates on lists of chunks, walked. -/
set_option linter.unusedVariables false
namespace Go.Proofs.Ytdcllpjoejkpnaa
open Go Vm
/-- the place of the first chunk that is so -/
def idxC (P : Chk → Bool) : List Chk → Nat → Int
  | [], _ => -1
  | p :: l, i => if P p = true then (i : Int) else idxC P l (i + 1)
theorem idxC_any (P : Chk → Bool) : ∀ (l : List Chk) (i : Nat), decide (0 ≤ idxC P l i) = l.any P
  | [], i => by simp [idxC]
  | p :: l, i => by
    rw [idxC, List.any_cons]
    by_cases h : P p = true
    · rw [if_pos h, h]; simp
    · rw [if_neg h, idxC_any P l (i + 1)]; simp at h; rw [h]; simp
theorem w_idxC {h : Heap} {o : Option Addr} {c : Nat} {l : List Chk} {els : List (List Value)} (hr : Row h 12 o l.length els.flatten) (he : ChE h l els) (hbig : l.length ≤ 1000000) {g : FuncId} {cp : Array Value} {P : Chk → Bool} (N : Nat)
    (n : Nat) (hcall : ∀ h' x v, Keeps h h' → ChV h' x v → ∀ n, N ≤ n → ResQ (callN Try.prog G0 n (.call g (.agg v.toArray :: cp.toList)) h') (fun u h'' => u = .bool (P x) ∧ Keeps h' h'')) (hn : N + 3 + l.length ≤ n) :
    ResQ (callN Try.prog G0 n (.call 50 [.slice o l.length c, .func (.func g) #[] cp]) h) (fun v h' => v = .int .i64 (idxC P l 0) ∧ Keeps h h') := by
  obtain ⟨n, rfl⟩ : ∃ m, n = m + 1 := ⟨n - 1, by omega⟩
  refine res_enter rfl d50 rfl ?_; simp only [c50]
  refine gg ?_
  refine o_up l.length (fun i f h' => Sl [(8, .int .i64 (i : Int)), (7, .int .i64 (l.length : Int)), (0, .slice o l.length c), (1, .func (.func g) #[] cp)] f ∧ Keeps h h' ∧ idxC P l 0 = idxC P (l.drop i) i) (by omega) ?_ ?_
  · exact ⟨⟨sel_of rfl, sel_of rfl, sel_of rfl, sel_of rfl, trivial⟩, Keeps.refl h, rfl⟩
  rintro i f h' hi ⟨hs, k1, hfi⟩
  obtain ⟨f0, rfl⟩ := hs.puts
  simp only [c50_0]
  refine gg ?_
  refine out_if (by exact sel_of rfl) (fun hif => ?_) (fun hif => ?_)
  · obtain ⟨x, hx⟩ : ∃ x, l[i]? = some x := ⟨_, List.getElem?_eq_getElem (by omega)⟩
    obtain ⟨v, hv, cv⟩ := he.at hx
    have rr := hr.keeps k1
    rw [drop_cons hx, idxC] at hfi
    refine gg ?_
    refine i_idx (by exact sel_of rfl) rr (i := i) (by exact sel_of rfl) (by omega) fun u hu => ?_
    subst hu
    refine i_loadN (v := v) (by exact sel_of rfl) (by rw [rr.cells (by omega) (some 0), flat_get els i he.2.1 hv]) ?_
    refine i_callc1 (by exact sel_of rfl) (by exact sel_of rfl) (hcall h' x v k1 (cv.keeps k1) n (by omega)) ?_
    rintro _ h2 ⟨rfl, k2⟩
    cases hk : P x with
    | true =>
      rw [if_pos hk] at hfi
      refine gg ?_
      exact ⟨congrArg (Value.int .i64) hfi.symm, k1.trans k2⟩
    | false =>
      rw [if_neg (by rw [hk]; simp)] at hfi
      refine gg ?_
      exact rnd_up (by omega) ⟨⟨sel_of rfl, sel_of rfl, sel_of rfl, sel_of rfl, trivial⟩, k1.trans k2, hfi⟩
  · refine gg ?_
    refine ⟨congrArg (Value.int .i64) ?_, k1⟩
    rw [hfi, List.drop_eq_nil_of_le (by omega)]; rfl
theorem w_hasC {h : Heap} {o : Option Addr} {c : Nat} {l : List Chk} {els : List (List Value)} (hr : Row h 12 o l.length els.flatten) (he : ChE h l els) (hbig : l.length ≤ 1000000) {g : FuncId} {cp : Array Value} {P : Chk → Bool} (N : Nat)
    (n : Nat) (hcall : ∀ h' x v, Keeps h h' → ChV h' x v → ∀ n, N ≤ n → ResQ (callN Try.prog G0 n (.call g (.agg v.toArray :: cp.toList)) h') (fun u h'' => u = .bool (P x) ∧ Keeps h' h'')) (hn : N + 4 + l.length ≤ n) :
    ResQ (callN Try.prog G0 n (.call 27 [.slice o l.length c, .func (.func g) #[] cp]) h) (fun v h' => v = .bool (l.any P) ∧ Keeps h h') := by
  obtain ⟨n, rfl⟩ : ∃ m, n = m + 1 := ⟨n - 1, by omega⟩
  refine res_enter rfl d27 rfl ?_; simp only [c27]
  refine gg ?_
  refine i_call2 (by exact sel_of rfl) (by exact sel_of rfl) (w_idxC hr he hbig N n hcall (by omega)) ?_
  rintro _ h2 ⟨rfl, k2⟩
  refine gg ?_
  exact ⟨congrArg Value.bool (idxC_any P l 0), k2⟩
theorem w_alone {h : Heap} (k : Nat) (n : Nat) (hn : 1 ≤ n) :
    ResQ (callN Try.prog G0 n (.call 18 [.int .u8 (k : Int)]) h) (fun v h' => v = .bool (decide (alone k)) ∧ h = h') := by
  have e : alone k ↔ k = 1 ∨ k = 2 ∨ k = 14 := Iff.rfl
  obtain ⟨n, rfl⟩ : ∃ m, n = m + 1 := ⟨n - 1, by omega⟩
  refine res_enter rfl d18 rfl ?_; simp only [c18]
  refine gg ?_
  by_cases h1 : k = 1
  · refine gg ?_
    exact ⟨(bool_true (e.2 (by omega))).symm, rfl⟩
  refine gg ?_
  by_cases h2 : k = 2
  · refine gg ?_
    exact ⟨(bool_true (e.2 (by omega))).symm, rfl⟩
  refine gg ?_
  by_cases h14 : k = 14
  · refine gg ?_
    exact ⟨(bool_true (e.2 (by omega))).symm, rfl⟩
  refine gg ?_
  exact ⟨(bool_false (fun hn => by have := e.1 hn; omega)).symm, rfl⟩
theorem w_mixed1 {h : Heap} {x : Chk} {v : List Value} (hv : ChV h x v) (n : Nat) (hn : 2 ≤ n) :
    ResQ (callN Try.prog G0 n (.call 49 [.agg v.toArray]) h) (fun u h' => u = .bool (decide (alone x.k)) ∧ Keeps h h') := by
  obtain ⟨n, rfl⟩ : ∃ m, n = m + 1 := ⟨n - 1, by omega⟩
  refine res_enter rfl d49 rfl ?_; simp only [c49]
  obtain ⟨a1, k1, n1⟩ := box_one h (.cells 33 v.toArray.toList (.own false))
  refine gg ?_
  generalize (h.new (.cells 33 v.toArray.toList (.own false))) = h1 at *
  obtain ⟨o1, c1, o2, c2, o3, c3, o4, c4, o5, c5, ps, rfl, _⟩ := hv
  refine gg ?_; repeat (refine i_ldown (by exact sel_of rfl) (by assumption) (by rfl) ?_; refine gg ?_)
  refine i_call1 (by exact sel_of rfl) (w_alone x.k n (by omega)) ?_
  rintro _ _ ⟨rfl, rfl⟩
  refine gg ?_; repeat (refine i_ldown (by exact sel_of rfl) (by assumption) (by rfl) ?_; refine gg ?_)
  exact ⟨rfl, k1⟩
theorem w_unshaped {h : Heap} {x : Chk} {v : List Value} (hv : ChV h x v) (n : Nat) (hn : 100500 ≤ n) :
    ResQ (callN Try.prog G0 n (.call 28 [.agg v.toArray]) h) (fun u h' => u = .bool (!decide x.shaped) ∧ Keeps h h') := by
  have lv := hv.len
  obtain ⟨n, rfl⟩ : ∃ m, n = m + 1 := ⟨n - 1, by omega⟩
  refine res_enter rfl d28 rfl ?_; simp only [c28]
  obtain ⟨a1, k1, n1⟩ := box_one h (.cells 33 v.toArray.toList (.own false))
  refine gg ?_
  generalize (h.new (.cells 33 v.toArray.toList (.own false))) = h1 at *
  refine i_loadN (by exact sel_of rfl) (loadN_all (by assumption) (by first | rfl | assumption)) ?_
  refine gg ?_
  refine i_call1 (by exact sel_of rfl) (w_shapedG (hv.keeps k1) n (by omega)) ?_
  rintro _ h2 ⟨rfl, k2⟩
  refine gg ?_
  exact ⟨rfl, k1.trans k2⟩
theorem w_mixed {h : Heap} {o : Option Addr} {c : Nat} {l : List Chk} {els : List (List Value)} (hr : Row h 12 o l.length els.flatten) (he : ChE h l els) (hbig : l.length ≤ 1000000) (n : Nat) (hn : 10 + l.length ≤ n) :
    ResQ (callN Try.prog G0 n (.call 26 [.slice o l.length c]) h) (fun v h' => v = .bool (decide (mixedC l)) ∧ Keeps h h') := by
  obtain ⟨n, rfl⟩ : ∃ m, n = m + 1 := ⟨n - 1, by omega⟩
  refine res_enter rfl d26 rfl ?_; simp only [c26]
  refine gg ?_
  by_cases h1 : 1 < l.length
  case neg =>
    rw [decide_eq_false (p := (1 : Int) < ((l.length : Nat) : Int)) (by omega)]
    refine gg ?_
    exact ⟨(bool_false (fun hm => h1 hm.1)).symm, Keeps.refl h⟩
  rw [decide_eq_true (p := (1 : Int) < ((l.length : Nat) : Int)) (by omega)]
  refine gg ?_
  refine i_call2 (by exact sel_of rfl) (by first | exact sel_of rfl | exact const_of) (w_hasC hr he hbig (P := fun x => decide (alone x.k)) (cp := #[]) 2 n (fun h' x v k hv n hn => w_mixed1 hv n hn) (by omega)) ?_
  rintro _ h2 ⟨rfl, k2⟩
  refine gg ?_
  refine ⟨congrArg Value.bool ?_, k2⟩
  cases ha : (l.any fun x => decide (alone x.k)) with
  | true => exact (decide_eq_true ⟨h1, ha⟩).symm
  | false => exact (decide_eq_false (fun hm => by have h2 := hm.2; rw [ha] at h2; cases h2)).symm
end Go.Proofs.Ytdcllpjoejkpnaa

/-! packet.Encode, walked. -/
set_option linter.unusedVariables false
namespace Vm
open Go
theorem i_quo32 {rec : Rec} {L : List (Nat × Value)} {f : Fr} {dt : Nat} {h : Heap} {K : Fr → Heap → Prop} {rd : Bool} {x y : Sel} {l : List ISem} {m q : Nat} (hx : x.f (puts L f) = .int .u32 (m : Int)) (hy : y.f (puts L f) = .int .u32 (q : Int)) (h0 : q ≠ 0) (hm : m < 4294967296)
    (hq : ItQ (runItems rec l (puts ((dt, .int .u32 ((m / q : Nat) : Int)) :: L) f) h) K) : ItQ (runItems rec (iOp (put dt) (.v rd (oInt2 fQuo x y)) :: l) (puts L f) h) K :=
  i_v (int2w _ hx hy (by
    show (bif eqI (q : Int) 0 then none else some (Value.int .u32 (wrap .u32 (Int.tdiv (m : Int) (q : Int))))) = _
    rw [eqI_dec, decide_eq_false (by omega)]
    show some (Value.int .u32 (wrap .u32 (.ofNat (m / q)))) = _
    rw [wrap_lt (k := .u32) (Nat.lt_of_le_of_lt (Nat.div_le_self _ _) hm)])) hq
end Vm
namespace Go.Proofs.Ytdcllpjoejkpnaa
open Go Vm
theorem ofNat_mod256 (s : Nat) : (UInt8.ofNat s).toNat = s % 256 := UInt8.toNat_ofNat'
theorem tab_get {t : List Nat} (h256 : t.length = 256) (s : Nat) (x : UInt8) : ∃ w, t[(s % 256) ^^^ x.toNat]? = some w ∧ crcB t s x = (s / 2 ^ 8) ^^^ w := by
  have hi := idx_lt s x
  refine ⟨t[(s % 256) ^^^ x.toNat]'(by omega), List.getElem?_eq_getElem (by omega), ?_⟩
  rw [crcB, List.getElem?_eq_getElem (by omega)]; rfl
theorem w_cstep {h : Heap} {ot o : Option Addr} {ct c : Nat} {t : List Nat} {l : List UInt8} (ht : Row h 1 ot t.length (n32 t)) (h256 : t.length = 256) (hb : ∀ v ∈ t, v < 4294967296) (hr : Row h 1 o l.length (u8s l)) {s : Nat} (hs0 : s < 4294967296) (hlen : l.length ≤ 1000000) (n : Nat) (hn : 2 + l.length ≤ n) :
    ResQ (callN Try.prog G0 n (.call 55 [.slice ot t.length ct, .int .u32 (s : Int), .slice o l.length c]) h) (fun v h' => v = .int .u32 (crcS t s l : Int) ∧ h = h') := by
  obtain ⟨n, rfl⟩ : ∃ m, n = m + 1 := ⟨n - 1, by omega⟩
  refine res_enter rfl d55 rfl ?_; simp only [c55]
  refine gg ?_
  refine o_up l.length (fun i f h' => Sl [(14, .int .i64 (i : Int)), (13, .int .i64 (l.length : Int)), (12, .slice o l.length c), (0, .slice ot t.length ct), (1, .int .u32 (crcS t s (l.take i) : Int))] f ∧ h = h') (by omega) ?_ ?_
  · exact ⟨⟨sel_of rfl, sel_of rfl, sel_of rfl, sel_of rfl, sel_of rfl, trivial⟩, rfl⟩
  rintro i f h' hi ⟨hs, rfl⟩
  obtain ⟨f0, rfl⟩ := hs.puts
  simp only [c55_0]
  refine gg ?_
  refine out_if (by exact sel_of rfl) (fun hif => ?_) (fun hif => ?_)
  · obtain ⟨x, hx⟩ : ∃ x, l[i]? = some x := ⟨_, List.getElem?_eq_getElem (by omega)⟩
    have hS := crcS_lt hb (l.take i) hs0
    obtain ⟨w, hw, e⟩ := tab_get h256 (crcS t s (l.take i)) x
    have hwb := hb w (List.mem_of_getElem? hw)
    have hil := idx_lt (crcS t s (l.take i)) x
    rw [← ofNat_mod256] at hw hil
    have hst := crcS_take (t := t) (s := s) hx
    rw [e] at hst
    generalize crcS t s (l.take i) = S at *
    refine gg ?_
    refine i_idx (by exact sel_of rfl) hr (i := i) (by exact sel_of rfl) (by omega) fun u hu => ?_
    subst hu
    refine i_load1 (v := .int .u8 ((x.toNat : Nat) : Int)) (by exact sel_of rfl) (by rw [hr.cell (by omega), Nat.mul_one, u8s_get, hx]; rfl) ?_
    refine gg ?_
    refine i_xorn 8 (m := (UInt8.ofNat S).toNat) (q := x.toNat) (by exact sel_of rfl) (by exact sel_of rfl) rfl (UInt8.toNat_lt _) (UInt8.toNat_lt _) ?_
    refine i_idx (by exact sel_of rfl) ht (i := (UInt8.ofNat S).toNat ^^^ x.toNat) (by exact sel_of rfl) (by omega) fun u hu => ?_
    subst hu
    refine i_load1 (v := .int .u32 (w : Int)) (by exact sel_of rfl) (by rw [← n32_at hw, ← ht.cell (by omega), Nat.mul_one]) ?_
    refine i_xorn 32 (m := S / 2 ^ 8) (q := w) (by exact sel_of rfl) (by exact sel_of rfl) rfl (by omega) (by omega) ?_
    refine gg ?_
    refine rnd_up (by omega) ⟨⟨sel_of rfl, sel_of rfl, sel_of rfl, sel_of rfl, sel_of (by rw [hst]; rfl), trivial⟩, rfl⟩
  · rw [List.take_of_length_le (by omega)]
    refine gg ?_
    exact ⟨rfl, rfl⟩
theorem w_csum {h : Heap} {ot o : Option Addr} {ct c : Nat} {t : List Nat} {l : List UInt8} (ht : Row h 1 ot t.length (n32 t)) (h256 : t.length = 256) (hb : ∀ v ∈ t, v < 4294967296) (hr : Row h 1 o l.length (u8s l)) (hlen : l.length ≤ 1000000) (n : Nat) (hn : 3 + l.length ≤ n) :
    ResQ (callN Try.prog G0 n (.call 32 [.slice ot t.length ct, .slice o l.length c]) h) (fun v h' => v = .int .u32 (crcC t l : Int) ∧ h = h') := by
  obtain ⟨n, rfl⟩ : ∃ m, n = m + 1 := ⟨n - 1, by omega⟩
  refine res_enter rfl d32 rfl ?_; simp only [c32]
  refine gg ?_
  refine i_call3 (by exact sel_of rfl) (by first | exact sel_of rfl | exact const_of) (by exact sel_of rfl) (w_cstep ht h256 hb hr (s := 4294967295) (by decide) hlen n (by omega)) ?_
  rintro _ _ ⟨rfl, rfl⟩
  refine i_com32 (by exact sel_of rfl) (crcS_lt hb l (by decide)) ?_
  refine gg ?_
  exact ⟨rfl, rfl⟩
/-- a packet's cells -/
def PkV (h : Heap) (p : Pk) (v : List Value) : Prop := ∃ (o : Option Addr) (c : Nat) (els : List (List Value)), v = [.int .u16 (p.from_ : Int), .int .u16 (p.to_ : Int), .int .u32 (p.tag : Int), .slice o p.l.length c] ∧ Row h 12 o p.l.length els.flatten ∧ ChE h p.l els ∧ p.l.length ≤ c
theorem ChE.keeps {h h' : Heap} {l : List Chk} {els : List (List Value)} (r : ChE h l els) (k : Keeps h h') : ChE h' l els := ⟨r.1, r.2.1, fun i x v hx hv => (r.2.2 i x v hx hv).keeps k⟩
theorem PkV.keeps {h h' : Heap} {p : Pk} {v : List Value} (r : PkV h p v) (k : Keeps h h') : PkV h' p v := by
  obtain ⟨o, c, els, e, h1, h2, h3⟩ := r
  exact ⟨o, c, els, e, h1.keeps k, h2.keeps k, h3⟩
theorem PkV.len {h : Heap} {p : Pk} {v : List Value} (r : PkV h p v) : v.length = 4 := by
  obtain ⟨o, c, els, e, _⟩ := r
  rw [e]; rfl
def PkQ (h : Heap) (t : List Nat) (p : Pk) (v : Value) (h' : Heap) : Prop := Keeps h h' ∧ ∃ o c, v = .tuple #[.slice o (encPk t p).1.length c, .int .i64 (((encPk t p).2 : Nat) : Int)] ∧ Row h' 1 o (encPk t p).1.length (u8s (encPk t p).1) ∧ (encPk t p).1.length ≤ c
theorem PkQ.bad {h h' : Heap} {t : List Nat} {p : Pk} (hb : badPk t p) (k : Keeps h h') : PkQ h t p (.tuple #[.slice none 0 0, .int .i64 1]) h' := by
  rw [PkQ, encPk, if_pos hb]; exact ⟨k, none, 0, rfl, Row.nil _ _, Nat.le_refl _⟩
theorem PkQ.big {h h' : Heap} {t : List Nat} {p : Pk} (hn : ¬badPk t p) (hb : bigPk p) (k : Keeps h h') : PkQ h t p (.tuple #[.slice none 0 0, .int .i64 10]) h' := by
  rw [PkQ, encPk, if_neg hn, if_pos hb]; exact ⟨k, none, 0, rfl, Row.nil _ _, Nat.le_refl _⟩
/-- octets with a checksum put in, so far -/
def setB (s : Nat) (B : List UInt8) : Nat → List UInt8
  | 0 => B
  | i + 1 => (setB s B i).set (8 + i) (UInt8.ofNat (s / 2 ^ (8 * i)))
theorem setB_len (s : Nat) (B : List UInt8) : ∀ i, (setB s B i).length = B.length
  | 0 => rfl
  | i + 1 => by rw [setB, List.length_set, setB_len s B i]
theorem setB_four (s : Nat) (X Y : List UInt8) (hX : X.length = 8) : setB s (X ++ [0, 0, 0, 0] ++ Y) 4 = X ++ le4 s ++ Y := by
  match X, hX with
  | [a, b, c, d, e, f, g, i], _ => simp [setB, le4]
theorem u8s_set (l : List UInt8) (i : Nat) (b : UInt8) : (u8s l).set i (.int .u8 ((b.toNat : Nat) : Int)) = u8s (l.set i b) := by
  rw [u8s_eq, u8s_eq, List.map_set]
end Go.Proofs.Ytdcllpjoejkpnaa

/-! Packets that are arguments. -/
set_option linter.unusedVariables false
namespace Go.Proofs.Ytdcllpjoejkpnaa
open Go Vm
abbrev PTpk : PT := .pair (.int .u16) (.pair (.int .u16) (.pair (.int .u32) (.pair (.slice PTc) .unit)))
theorem repV_pk {h : Heap} {u : Value} (r : RepV h PTpk u) : ∃ (p : Pk) (pv : List Value), u = .agg pv.toArray ∧ PkV h p pv ∧ (p.from_ < 65536 ∧ p.to_ < 65536 ∧ p.tag < 4294967296) ∧ ∀ x ∈ p.l, x.Ok := by
  obtain ⟨cs, rfl, r'⟩ := (show ∃ cs : List Value, u = .agg cs.toArray ∧ Rep h PTpk cs from r)
  obtain ⟨n1, _, rfl, w1, r2⟩ := rep_int r'
  obtain ⟨n2, _, rfl, w2, r3⟩ := rep_int r2
  obtain ⟨n3, _, rfl, w3, r4⟩ := rep_int r3
  obtain ⟨v4, _, rfl, x4, r5⟩ := rep_sl r4
  obtain rfl := rep_unit r5
  obtain ⟨m1, rfl, b1⟩ := wf_nat (.inr (.inl rfl)) w1
  obtain ⟨m2, rfl, b2⟩ := wf_nat (.inr (.inl rfl)) w2
  obtain ⟨m3, rfl, b3⟩ := wf_nat (.inr (.inr rfl)) w3
  obtain ⟨o, m, c, l, els, rfl, hr, hl, he, ho, hc⟩ := RepV.chunks x4
  subst hl
  exact ⟨⟨m1, m2, m3, l⟩, _, rfl, ⟨o, c, els, rfl, hr, he, hc⟩, ⟨b1, b2, b3⟩, ho⟩
end Go.Proofs.Ytdcllpjoejkpnaa

