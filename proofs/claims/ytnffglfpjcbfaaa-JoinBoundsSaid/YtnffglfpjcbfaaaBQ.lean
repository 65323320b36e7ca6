/- Part of a proof by an abstract run of the program's code: BQ. No condition. -/
import Derived.Test.YtnffglfpjcbfaaaBP
/-! Sorting, walked: the choice of a pivot. -/
set_option linter.unusedVariables false
namespace Go.Proofs.Ytnffglfpjcbfaaa
open Go Vm
/-- the count of swaps, whatever it is -/
def Sw (h0 h : Heap) (S : Nat) : Prop := h0.next ≤ S ∧ S < h.next ∧ ∃ c, h.get S = some (.cells 3 [.int .i64 c] (.own false))
theorem Sw.keeps {h0 h h' : Heap} {S : Nat} (w : Sw h0 h S) (k : Keeps h h') : Sw h0 h' S := by
  obtain ⟨a, b, c, hg⟩ := w
  exact ⟨a, Nat.lt_of_lt_of_le b k.next, c, (k.get _ b).trans hg⟩
section
variable {h0 h : Heap} {B n0 n : Nat} {g : FuncId} {cp : Array Value} {lt : El → El → Bool} {d : Array El} {s : Option Nat} {N C a b x y z hi r0 pv S : Nat}
theorem w_order2 (cc : Cp h0 B n0 g cp lt) (k : KeepsB B h0 h) (dd : DtS h B d) (w : Sw h0 h S) (hN : d.size = N) (hx : x < N) (hy : y < N) (hn : n0 + 1 ≤ n) :
    ResQ (callN Try.prog G0 n (.call 58 [.slice (some ⟨B, 0, s⟩) N C, .int .i64 (x : Int), .int .i64 (y : Int), .pointer (some ⟨S, 0, none⟩), .func (.func g) #[] cp]) h) (fun v h' => ∃ x' y' : Nat, v = .tuple #[.int .i64 (x' : Int), .int .i64 (y' : Int)] ∧ (x' = x ∨ x' = y) ∧ (y' = x ∨ y' = y) ∧ KeepsB B h0 h' ∧ DtS h' B d ∧ Sw h0 h' S) := by
  obtain ⟨n, rfl⟩ : ∃ m, n = m + 1 := ⟨n - 1, by omega⟩
  refine res_enter rfl d58 rfl ?_; simp only [c58]
  refine gg ?_
  refine i_idxD (y) (by exact sel_of rfl) (by exact sel_of rfl) (by omega) (by omega) ?_
  refine gg ?_
  refine i_ldD dd (by exact sel_of rfl) (by omega) ?_
  refine gg ?_
  refine i_idxD (x) (by exact sel_of rfl) (by exact sel_of rfl) (by omega) (by omega) ?_
  refine gg ?_
  refine i_ldD dd (by exact sel_of rfl) (by omega) ?_
  refine gg ?_
  refine s1_cons (det_dcall cc.det (by exact sel_of rfl)) ?_
  refine i_callD (by exact sel_of rfl) (by exact sel_of rfl) (by exact sel_of rfl) (cc.run _ k _ (by omega) _ _) ?_
  rintro _ h1c ⟨c1, rfl, hc1, kk⟩
  have k := k.trans (kk.but B)
  have dd := dd.keeps kk
  have w := w.keeps kk
  clear kk
  refine gg ?_
  refine out_ifc (by exact sel_of rfl) hc1 (fun hif => ?_) (fun hif => ?_)
  · refine gg ?_
    obtain ⟨w1, w2, c, hg⟩ := w
    refine i_load1 (v := .int .i64 c) (by exact sel_of rfl) ((load1_own hg).trans (by rfl)) ?_
    refine i_add (by exact sel_of rfl) (by exact const_of) ?_
    refine gg ?_
    refine i_store1 (u := ⟨S, 0, none⟩) (v := .int .i64 (wrap .i64 (c + 1))) (by exact sel_of rfl) (by rw [sel_of rfl]; rfl) hg (by show 0 < 1; decide) ?_
    refine gg ?_
    have hSB : S ≠ B := by have := cc.big; omega
    refine ⟨y, x, rfl, .inr rfl, .inl rfl, ⟨k.next, fun c hc hb => ?_⟩, ?_, ⟨w1, w2, _, by rw [Heap.get_put, if_pos rfl]; rfl⟩⟩
    · rw [Heap.get_put, if_neg (by show c ≠ S; omega)]; exact k.get c hc hb
    · obtain ⟨hB, e, op, r, hgd⟩ := dd
      exact ⟨hB, e, op, r, by rw [Heap.get_put, if_neg (by show B ≠ S; omega)]; exact hgd⟩
  · refine gg ?_
    exact ⟨x, y, rfl, .inl rfl, .inr rfl, k, dd, w⟩
theorem w_median (cc : Cp h0 B n0 g cp lt) (k : KeepsB B h0 h) (dd : DtS h B d) (w : Sw h0 h S) (hN : d.size = N) (hx : x < N) (hy : y < N) (hz : z < N) (hn : n0 + 2 ≤ n) :
    ResQ (callN Try.prog G0 n (.call 57 [.slice (some ⟨B, 0, s⟩) N C, .int .i64 (x : Int), .int .i64 (y : Int), .int .i64 (z : Int), .pointer (some ⟨S, 0, none⟩), .func (.func g) #[] cp]) h) (fun v h' => ∃ x' : Nat, v = .int .i64 (x' : Int) ∧ (x' = x ∨ x' = y ∨ x' = z) ∧ KeepsB B h0 h' ∧ DtS h' B d ∧ Sw h0 h' S) := by
  obtain ⟨n, rfl⟩ : ∃ m, n = m + 1 := ⟨n - 1, by omega⟩
  refine res_enter rfl d57 rfl ?_; simp only [c57]
  refine gg ?_
  refine i_call5 (by exact sel_of rfl) (by exact sel_of rfl) (by exact sel_of rfl) (by exact sel_of rfl) (by exact sel_of rfl) (w_order2 cc k dd w hN hx hy (by omega)) ?_
  rintro _ h1 ⟨x1, y1, rfl, hx1, hy1, k, dd, w⟩
  refine gg ?_
  refine i_call5 (by exact sel_of rfl) (by exact sel_of rfl) (by exact sel_of rfl) (by exact sel_of rfl) (by exact sel_of rfl) (w_order2 cc k dd w hN (x := y1) (y := z) (by omega) (by omega) (by omega)) ?_
  rintro _ h2 ⟨y2, z2, rfl, hy2, hz2, k, dd, w⟩
  refine gg ?_
  refine i_call5 (by exact sel_of rfl) (by exact sel_of rfl) (by exact sel_of rfl) (by exact sel_of rfl) (by exact sel_of rfl) (w_order2 cc k dd w hN (x := x1) (y := y2) (by omega) (by omega) (by omega)) ?_
  rintro _ h3 ⟨x3, y3, rfl, hx3, hy3, k, dd, w⟩
  refine gg ?_
  exact ⟨y3, rfl, by omega, k, dd, w⟩
theorem w_medadj (cc : Cp h0 B n0 g cp lt) (k : KeepsB B h0 h) (dd : DtS h B d) (w : Sw h0 h S) (hN : d.size = N) (h1 : 1 ≤ x) (hx : x + 1 < N) (hbig : N < 1000000) (hn : n0 + 3 ≤ n) :
    ResQ (callN Try.prog G0 n (.call 56 [.slice (some ⟨B, 0, s⟩) N C, .int .i64 (x : Int), .pointer (some ⟨S, 0, none⟩), .func (.func g) #[] cp]) h) (fun v h' => ∃ x' : Nat, v = .int .i64 (x' : Int) ∧ (x - 1 ≤ x' ∧ x' ≤ x + 1) ∧ KeepsB B h0 h' ∧ DtS h' B d ∧ Sw h0 h' S) := by
  obtain ⟨n, rfl⟩ : ∃ m, n = m + 1 := ⟨n - 1, by omega⟩
  refine res_enter rfl d56 rfl ?_; simp only [c56]
  refine gg ?_
  refine i_call6 (by exact sel_of rfl) (by exact sel_z rfl (by omega)) (by exact sel_of rfl) (by exact sel_z rfl (by omega)) (by exact sel_of rfl) (by exact sel_of rfl) (w_median cc k dd w hN (x := x - 1) (y := x) (z := x + 1) (by omega) (by omega) (by omega) (by omega)) ?_
  rintro _ h1 ⟨x', rfl, hx', k, dd, w⟩
  refine gg ?_
  exact ⟨x', rfl, by omega, k, dd, w⟩
set_option maxHeartbeats 1000000 in
theorem w_choose (cc : Cp h0 B n0 g cp lt) (k : KeepsB B h0 h) (dd : DtS h B d) (hN : d.size = N) (hab : a + 8 ≤ b) (hb : b ≤ N) (hbig : N < 1000000) (hn : n0 + 5 ≤ n) :
    ResQ (callN Try.prog G0 n (.call 46 [.slice (some ⟨B, 0, s⟩) N C, .int .i64 (a : Int), .int .i64 (b : Int), .func (.func g) #[] cp]) h) (fun v h' => ∃ x t : Nat, v = .tuple #[.int .i64 (x : Int), .int .i64 (t : Int)] ∧ a ≤ x ∧ x < b ∧ KeepsB B h0 h' ∧ DtS h' B d) := by
  obtain ⟨n, rfl⟩ : ∃ m, n = m + 1 := ⟨n - 1, by omega⟩
  refine res_enter rfl d46 rfl ?_; simp only [c46]
  refine gg ?_
  have k1 := Keeps.new h (.cells 3 [.int .i64 0] (.own false))
  have w : Sw h0 (h.new (.cells 3 [.int .i64 0] (.own false))) h.next := ⟨k.next, Nat.lt_succ_self _, 0, by rw [Heap.get_new, if_pos rfl]⟩
  have k := k.trans (k1.but B)
  have dd := dd.keeps k1
  generalize h.next = S at *
  generalize h.new (.cells 3 [.int .i64 0] (.own false)) = h at *
  clear k1
  have q := Nat.div_mul_le_self (b - a) 4
  generalize hq4 : (b - a) / 4 = q4 at *
  refine i_quo64 q4 (m := b - a) (q := 4) (by exact sel_of rfl) (by omega) (by exact const_of) (by decide) (by omega) hq4 ?_
  refine i_muln (q4 * 1) (by exact sel_of rfl) (by exact const_of) (by omega) (by omega) ?_
  refine gg ?_
  refine i_quo64 q4 (m := b - a) (q := 4) (by exact sel_of rfl) (by omega) (by exact const_of) (by decide) (by omega) hq4 ?_
  refine i_muln (q4 * 2) (by exact sel_of rfl) (by exact const_of) (by omega) (by omega) ?_
  refine gg ?_
  refine i_quo64 q4 (m := b - a) (q := 4) (by exact sel_of rfl) (by omega) (by exact const_of) (by decide) (by omega) hq4 ?_
  refine i_muln (q4 * 3) (by exact sel_of rfl) (by exact const_of) (by omega) (by omega) ?_
  refine gg ?_
  refine o_cutT (fun f h' => ∃ x y z : Nat, (KeepsB B h0 h' ∧ DtS h' B d ∧ Sw h0 h' S ∧ a ≤ x ∧ x < b ∧ a ≤ y ∧ y < b ∧ a ≤ z ∧ z < b) ∧ Sl [(12, .int .i64 (x : Int)), (13, .int .i64 (y : Int)), (14, .int .i64 (z : Int)), (11, .pointer (some ⟨S, 0, none⟩)), (0, .slice (some ⟨B, 0, s⟩) N C), (3, .func (.func g) #[] cp)] f) ?_ ?_
  · refine out_if (by exact sel_of rfl) (fun hif => ?_) (fun hif => ?_)
    · refine gg ?_
      refine i_call4 (by exact sel_of rfl) (by exact sel_z rfl (by omega)) (by exact sel_of rfl) (by exact sel_of rfl) (w_medadj cc k dd w hN (x := a + q4 * 1) (by omega) (by omega) (by omega) (by omega)) ?_
      rintro _ h1 ⟨x1, rfl, hx1, k, dd, w⟩
      refine gg ?_
      refine i_call4 (by exact sel_of rfl) (by exact sel_z rfl (by omega)) (by exact sel_of rfl) (by exact sel_of rfl) (w_medadj cc k dd w hN (x := a + q4 * 2) (by omega) (by omega) (by omega) (by omega)) ?_
      rintro _ h2 ⟨y1, rfl, hy1, k, dd, w⟩
      refine gg ?_
      refine i_call4 (by exact sel_of rfl) (by exact sel_z rfl (by omega)) (by exact sel_of rfl) (by exact sel_of rfl) (w_medadj cc k dd w hN (x := a + q4 * 3) (by omega) (by omega) (by omega) (by omega)) ?_
      rintro _ h3 ⟨z1, rfl, hz1, k, dd, w⟩
      refine gg ?_
      exact ⟨rfl, x1, y1, z1, ⟨k, dd, w, by omega, by omega, by omega, by omega, by omega, by omega⟩, by exact sel_of rfl, by exact sel_of rfl, by exact sel_of rfl, by exact sel_of rfl, by exact sel_of rfl, by exact sel_of rfl, trivial⟩
    · refine gg ?_
      exact ⟨rfl, a + q4 * 1, a + q4 * 2, a + q4 * 3, ⟨k, dd, w, by omega, by omega, by omega, by omega, by omega, by omega⟩, (sel_z rfl (by omega)), (sel_z rfl (by omega)), (sel_z rfl (by omega)), by exact sel_of rfl, by exact sel_of rfl, by exact sel_of rfl, trivial⟩
  clear k dd w
  rintro f h ⟨x, y, z, ⟨k, dd, w, hx1, hx2, hy1, hy2, hz1, hz2⟩, hs⟩
  obtain ⟨f0, rfl⟩ := hs.puts
  clear hs
  refine gg ?_
  refine i_call6 (by exact sel_of rfl) (by exact sel_of rfl) (by exact sel_of rfl) (by exact sel_of rfl) (by exact sel_of rfl) (by exact sel_of rfl) (w_median cc k dd w hN (x := x) (y := y) (z := z) (by omega) (by omega) (by omega) (by omega)) ?_
  rintro _ h1 ⟨x', rfl, hx', k, dd, w1, w2, c, hg⟩
  have hx1' : a ≤ x' := by omega
  have hx2' : x' < b := by omega
  refine gg ?_
  refine i_load1 (v := .int .i64 c) (by exact sel_of rfl) ((load1_own hg).trans (by rfl)) ?_
  refine gg ?_
  refine out_if (by exact sel_of rfl) (fun hif => ?_) (fun hif => ?_)
  · refine gg ?_
    exact ⟨x', 1, rfl, hx1', hx2', k, dd⟩
  · refine gg ?_
    refine out_if (by exact sel_of rfl) (fun hif => ?_) (fun hif => ?_)
    · refine gg ?_
      exact ⟨x', 2, rfl, hx1', hx2', k, dd⟩
    · refine gg ?_
      exact ⟨x', 0, rfl, hx1', hx2', k, dd⟩
end
end Go.Proofs.Ytnffglfpjcbfaaa

/-! Sorting, walked: patterns broken (whatever the numbers drawn are). -/
set_option linter.unusedVariables false
namespace Go.Proofs.Ytnffglfpjcbfaaa
open Go Vm
def lenT : List UInt8 := [0, 1, 2, 2, 3, 3, 3, 3, 4, 4, 4, 4, 4, 4, 4, 4, 5, 5, 5, 5, 5, 5, 5, 5, 5, 5, 5, 5, 5, 5, 5, 5, 6, 6, 6, 6, 6, 6, 6, 6, 6, 6, 6, 6, 6, 6, 6, 6, 6, 6, 6, 6, 6, 6, 6, 6, 6, 6, 6, 6, 6, 6, 6, 6, 7, 7, 7, 7, 7, 7, 7, 7, 7, 7, 7, 7, 7, 7, 7, 7, 7, 7, 7, 7, 7, 7, 7, 7, 7, 7, 7, 7, 7, 7, 7, 7, 7, 7, 7, 7, 7, 7, 7, 7, 7, 7, 7, 7, 7, 7, 7, 7, 7, 7, 7, 7, 7, 7, 7, 7, 7, 7, 7, 7, 7, 7, 7, 7, 8, 8, 8, 8, 8, 8, 8, 8, 8, 8, 8, 8, 8, 8, 8, 8, 8, 8, 8, 8, 8, 8, 8, 8, 8, 8, 8, 8, 8, 8, 8, 8, 8, 8, 8, 8, 8, 8, 8, 8, 8, 8, 8, 8, 8, 8, 8, 8, 8, 8, 8, 8, 8, 8, 8, 8, 8, 8, 8, 8, 8, 8, 8, 8, 8, 8, 8, 8, 8, 8, 8, 8, 8, 8, 8, 8, 8, 8, 8, 8, 8, 8, 8, 8, 8, 8, 8, 8, 8, 8, 8, 8, 8, 8, 8, 8, 8, 8, 8, 8, 8, 8, 8, 8, 8, 8, 8, 8, 8, 8, 8, 8, 8, 8, 8, 8, 8, 8, 8, 8, 8, 8, 8, 8, 8, 8, 8, 8]
noncomputable def lenOk (m : Nat) : Bool := match nth lenT m with | some b => Nat.ble b.toNat 8 && (Nat.blt m (2 ^ b.toNat) && (Nat.beq m 0 || Nat.ble (2 ^ b.toNat) (2 * m))) | none => false
theorem lenAll : (List.range 256).all lenOk = true := by kernel_rfl
theorem lenTab {m : Nat} (hm : m < 256) : ∃ b : UInt8, nth lenT m = some b ∧ b.toNat ≤ 8 ∧ m < 2 ^ b.toNat ∧ (m = 0 ∨ 2 ^ b.toNat ≤ 2 * m) := by
  have h := List.all_eq_true.1 lenAll m (List.mem_range.2 hm)
  unfold lenOk at h
  cases hb : nth lenT m with
  | none => rw [hb] at h; cases h
  | some b =>
    rw [hb] at h
    refine ⟨b, rfl, ?_⟩
    simp only [Bool.and_eq_true, Bool.or_eq_true, Nat.ble_eq, Nat.blt_eq] at h
    exact ⟨h.1, h.2.1, h.2.2.imp Nat.eq_of_beq_eq_true id⟩
section
variable {rec : Rec} {L : List (Nat × Value)} {f : Fr} {dt : Nat} {h : Heap} {K : Fr → Heap → Prop} {l : List ISem} {rd : Bool} {x y : Sel} {k j : IntKind} {z p : Int}
theorem i_indexS {s : ByteArray} {i : Nat} {b : UInt8} (hx : x.f (puts L f) = .string s) (hy : y.f (puts L f) = .int k (i : Int)) (hn : nth s.data.toList i = some b)
    (hq : ItQ (runItems rec l (puts ((dt, .int .u8 ((b.toNat : Nat) : Int)) :: L) f) h) K) : ItQ (runItems rec (iOp (put dt) (.v rd (oIndexS x y)) :: l) (puts L f) h) K := by
  refine i_v ?_ hq
  have : y.f (puts L f) = .int k (Int.ofNat i) := hy
  simp only [oIndexS, hx, this, hn]
  rfl
theorem i_shlA {i : Nat} (hx : x.f (puts L f) = .int k p) (hy : y.f (puts L f) = .int j (i : Int)) (hq : ∀ r, ItQ (runItems rec l (puts ((dt, .int k r) :: L) f) h) K) : ItQ (runItems rec (iOp (put dt) (.v rd (oSh fShl x y)) :: l) (puts L f) h) K :=
  i_v (by simp only [oSh, hx, hy]; rfl) (hq _)
theorem i_shrA {i : Nat} (hx : x.f (puts L f) = .int k p) (hy : y.f (puts L f) = .int j (i : Int)) (hq : ∀ r, ItQ (runItems rec l (puts ((dt, .int k r) :: L) f) h) K) : ItQ (runItems rec (iOp (put dt) (.v rd (oSh fShr x y)) :: l) (puts L f) h) K := by
  cases p with
  | ofNat p => exact i_v (by simp only [oSh, hx, hy]; rfl) (hq _)
  | negSucc p => exact i_v (by simp only [oSh, hx, hy]; rfl) (hq _)
theorem i_subU {p q : Nat} (hx : x.f (puts L f) = .int k (p : Int)) (hy : y.f (puts L f) = .int k (q : Int)) (h1 : q ≤ p) (h2 : p < lim k) (hq : ItQ (runItems rec l (puts ((dt, .int k ((p - q : Nat) : Int)) :: L) f) h) K) : ItQ (runItems rec (iOp (put dt) (.v rd (oInt2 fSub x y)) :: l) (puts L f) h) K := by
  refine i_v (int2w _ hx hy ?_) hq
  show some (Value.int k (wrap k ((p : Int) - (q : Int)))) = _
  rw [show (p : Int) - (q : Int) = ((p - q : Nat) : Int) by omega, wrap_nat (by omega)]
theorem i_maskU {q : Nat} (hx : x.f (puts L f) = .int .u64 p) (hy : y.f (puts L f) = .int .u64 (q : Int)) (hb : q < 18446744073709551616) (hq : ∀ r : Nat, r ≤ q → ItQ (runItems rec l (puts ((dt, .int .u64 (r : Int)) :: L) f) h) K) : ItQ (runItems rec (iOp (put dt) (.v rd (oInt2 fAnd x y)) :: l) (puts L f) h) K := by
  have hle : Nat.land (bitsOf .u64 p) (bitsOf .u64 (q : Int)) ≤ q := Nat.and_le_right
  refine i_v (int2w _ hx hy ?_) (hq (Nat.land (bitsOf .u64 p) (bitsOf .u64 (q : Int))) hle)
  show some (Value.int .u64 (wrap .u64 ((Nat.land (bitsOf .u64 p) (bitsOf .u64 (q : Int)) : Nat) : Int))) = _
  rw [wrap_nat (by show _ < 18446744073709551616; omega)]
end
section
variable {h0 h : Heap} {B n0 n : Nat} {g : FuncId} {cp : Array Value} {lt : El → El → Bool} {d : Array El} {s : Option Nat} {N C a b x y z hi r0 pv S m : Nat}
set_option maxRecDepth 8000 in
theorem w_len64 (hm : m < 256) (hn : 1 ≤ n) : ResQ (callN Try.prog G0 n (.call 52 [.int .u64 (m : Int)]) h) (fun v h' => ∃ b : Nat, v = .int .i64 (b : Int) ∧ b ≤ 8 ∧ m < 2 ^ b ∧ (m = 0 ∨ 2 ^ b ≤ 2 * m) ∧ h = h') := by
  obtain ⟨n, rfl⟩ : ∃ m, n = m + 1 := ⟨n - 1, by omega⟩
  refine res_enter rfl d52 rfl ?_; simp only [c52]
  refine gg ?_
  obtain ⟨b, hb, b1, b2, b3⟩ := lenTab hm
  refine i_indexS (i := m) (b := b) (by exact const_of) (by exact sel_z rfl (by omega)) hb ?_
  refine gg ?_
  exact ⟨b.toNat, by rw [Int.zero_add], b1, b2, b3, rfl⟩
theorem w_len (hm : m < 256) (hn : 2 ≤ n) : ResQ (callN Try.prog G0 n (.call 41 [.int .u64 (m : Int)]) h) (fun v h' => ∃ b : Nat, v = .int .i64 (b : Int) ∧ b ≤ 8 ∧ m < 2 ^ b ∧ (m = 0 ∨ 2 ^ b ≤ 2 * m) ∧ h = h') := by
  obtain ⟨n, rfl⟩ : ∃ m, n = m + 1 := ⟨n - 1, by omega⟩
  refine res_enter rfl d41 rfl ?_; simp only [c41]
  refine gg ?_
  refine i_call1 (by exact sel_of rfl) (w_len64 hm (by omega)) ?_
  rintro _ _ ⟨b, rfl, b1, b2, b3, rfl⟩
  refine gg ?_
  exact ⟨b, rfl, b1, b2, b3, rfl⟩
theorem w_pow (hm : m < 256) (h1 : 1 ≤ m) (hn : 3 ≤ n) : ResQ (callN Try.prog G0 n (.call 54 [.int .i64 (m : Int)]) h) (fun v h' => ∃ b : Nat, v = .int .u64 (b : Int) ∧ 1 ≤ b ∧ b ≤ 2 * m ∧ h = h') := by
  obtain ⟨n, rfl⟩ : ∃ m, n = m + 1 := ⟨n - 1, by omega⟩
  refine res_enter rfl d54 rfl ?_; simp only [c54]
  refine gg ?_
  refine i_call1 (by exact sel_of rfl) (w_len hm (by omega)) ?_
  rintro _ _ ⟨b, rfl, b1, b2, b3, rfl⟩
  have hp : 0 < 2 ^ b := Nat.pow_pos (by decide)
  refine i_shl (m := 1) (i := b) (2 ^ b) (by exact const_of) (by exact sel_of rfl) (by show b ≤ 64; omega) (by omega) (by show _ < 18446744073709551616; omega) ?_
  refine gg ?_
  exact ⟨2 ^ b, rfl, hp, by omega, rfl⟩
theorem w_next {X : Nat} (hg : ∃ c, h.get X = some (.cells 102 [.int .u64 c] (.own false))) (hn : 1 ≤ n) : ResQ (callN Try.prog G0 n (.call 55 [.pointer (some ⟨X, 0, none⟩)]) h) (fun v h' => (∃ c, v = .int .u64 c) ∧ (∃ c, h'.get X = some (.cells 102 [.int .u64 c] (.own false))) ∧ KeepsB X h h') := by
  obtain ⟨c, hg⟩ := hg
  obtain ⟨n, rfl⟩ : ∃ m, n = m + 1 := ⟨n - 1, by omega⟩
  refine res_enter rfl d55 rfl ?_; simp only [c55]
  refine gg ?_
  refine i_load1 (v := .int .u64 c) (by exact sel_of rfl) ((load1_own hg).trans (by rfl)) ?_
  refine gg ?_
  refine i_load1 (v := .int .u64 c) (by exact sel_of rfl) ((load1_own hg).trans (by rfl)) ?_
  refine i_shlA (i := 13) (by exact sel_of rfl) (by exact const_of) fun r => ?_
  refine i_xor (by exact sel_of rfl) (by exact sel_of rfl) ?_
  refine gg ?_
  refine i_stB (v := .int .u64 _) (by exact sel_of rfl) (by rw [sel_of rfl]; rfl) hg (by show 0 < 1; decide) fun h1 k1 n1 g1 => ?_
  refine gg ?_
  refine i_load1 (by exact sel_of rfl) ((load1_own g1).trans (by rfl)) ?_
  refine gg ?_
  refine i_load1 (by exact sel_of rfl) ((load1_own g1).trans (by rfl)) ?_
  refine i_shrA (i := 7) (by exact sel_of rfl) (by exact const_of) fun r => ?_
  refine i_xor (by exact sel_of rfl) (by exact sel_of rfl) ?_
  refine gg ?_
  refine i_stB (v := .int .u64 _) (by exact sel_of rfl) (by rw [sel_of rfl]; rfl) g1 (by show 0 < 1; decide) fun h2 k2 n2 g2 => ?_
  refine gg ?_
  refine i_load1 (by exact sel_of rfl) ((load1_own g2).trans (by rfl)) ?_
  refine gg ?_
  refine i_load1 (by exact sel_of rfl) ((load1_own g2).trans (by rfl)) ?_
  refine i_shlA (i := 17) (by exact sel_of rfl) (by exact const_of) fun r => ?_
  refine i_xor (by exact sel_of rfl) (by exact sel_of rfl) ?_
  refine gg ?_
  refine i_stB (v := .int .u64 _) (by exact sel_of rfl) (by rw [sel_of rfl]; rfl) g2 (by show 0 < 1; decide) fun h3 k3 n3 g3 => ?_
  refine gg ?_
  refine i_load1 (by exact sel_of rfl) ((load1_own g3).trans (by rfl)) ?_
  refine gg ?_
  exact ⟨⟨_, rfl⟩, ⟨_, g3⟩, (k1.trans k2).trans k3⟩
theorem KeepsB.other {h0 h h' : Heap} {B X : Nat} (k : KeepsB B h0 h) (k' : KeepsB X h h') (hX : h0.next ≤ X) : KeepsB B h0 h' :=
  ⟨Nat.le_trans k.next k'.next, fun c hc hb => (k'.get c (Nat.lt_of_lt_of_le hc k.next) (by omega)).trans (k.get c hc hb)⟩
theorem DtS.other {h h' : Heap} {B X : Nat} {d : Array El} (dd : DtS h B d) (k' : KeepsB X h h') (hX : B ≠ X) : DtS h' B d := by
  obtain ⟨hB, e, op, r, hg⟩ := dd
  exact ⟨Nat.lt_of_lt_of_le hB k'.next, e, op, r, (k'.get _ hB hX).trans hg⟩
set_option maxHeartbeats 1000000 in
theorem w_break (cc : Cp h0 B n0 g cp lt) (k : KeepsB B h0 h) (dd : DtS h B d) (hN : d.size = N) (hab : a + 8 ≤ b) (hb : b ≤ N) (hbig : N < 256) (hn : 10 ≤ n) :
    ResQ (callN Try.prog G0 n (.call 45 [.slice (some ⟨B, 0, s⟩) N C, .int .i64 (a : Int), .int .i64 (b : Int), .func (.func g) #[] cp]) h) (fun v h' => ∃ d', Sort.PermIn a b d d' ∧ KeepsB B h0 h' ∧ DtS h' B d') := by
  obtain ⟨n, rfl⟩ : ∃ m, n = m + 1 := ⟨n - 1, by omega⟩
  refine res_enter rfl d45 rfl ?_; simp only [c45]
  refine gg ?_
  refine i_cvm (b - a) (by exact sel_of rfl) (by omega) (by show _ < 18446744073709551616; omega) ?_
  refine gg ?_
  have k1 := Keeps.new h (.cells 102 [.int .u64 0] (.own false))
  have gX : (h.new (.cells 102 [.int .u64 0] (.own false))).get h.next = some (.cells 102 [.int .u64 0] (.own false)) := by rw [Heap.get_new, if_pos rfl]
  have hX : h0.next ≤ h.next := k.next
  have lX : h.next < (h.new (.cells 102 [.int .u64 0] (.own false))).next := Nat.lt_succ_self _
  have k := k.trans (k1.but B)
  have dd := dd.keeps k1
  generalize h.next = X at *
  generalize h.new (.cells 102 [.int .u64 0] (.own false)) = h at *
  clear k1
  have hXB : B ≠ X := by have := cc.big; omega
  refine i_stB (v := .int .u64 ((b - a : Nat) : Int)) (by exact sel_of rfl) (by rw [sel_of rfl]; rfl) gX (by show 0 < 1; decide) fun h1 k1 n1 g1 => ?_
  have k := KeepsB.other k k1 hX
  have dd := dd.other k1 hXB
  have lX : X < h1.next := by omega
  clear gX
  refine gg ?_
  refine i_call1 (by exact sel_z rfl (by omega)) (w_pow (m := b - a) (by omega) (by omega) (by omega)) ?_
  rintro _ _ ⟨md, rfl, hm1, hm2, rfl⟩
  have q := Nat.div_mul_le_self (b - a) 4
  generalize hq4 : (b - a) / 4 = q4 at *
  refine gg ?_
  refine i_quo64 q4 (m := b - a) (q := 4) (by exact sel_of rfl) (by omega) (by exact const_of) (by decide) (by omega) hq4 ?_
  refine i_muln (q4 * 2) (by exact sel_of rfl) (by exact const_of) (by omega) (by omega) ?_
  refine gg ?_
  refine o_while (fun m f h' => ∃ i d', (KeepsB B h0 h' ∧ DtS h' B d' ∧ (∃ c, h'.get X = some (.cells 102 [.int .u64 c] (.own false))) ∧ X < h'.next ∧ d'.size = N ∧ Sort.PermIn a b d d' ∧ a + q4 * 2 ≤ i + 1 ∧ a + q4 * 2 + 2 - i = m ∧ i ≤ a + q4 * 2 + 2) ∧ Sl [(11, .int .i64 (i : Int)), (8, .int .i64 ((b - a : Nat) : Int)), (9, .pointer (some ⟨X, 0, none⟩)), (10, .int .u64 (md : Int)), (0, .slice (some ⟨B, 0, s⟩) N C), (1, .int .i64 (a : Int))] f) 3 (by omega) ⟨a + q4 * 2 - 1, d, ⟨k, dd, ⟨_, g1⟩, lX, hN, Sort.permIn_refl _ _ _, by omega, by omega, by omega⟩, (sel_z rfl (by omega)), (sel_z rfl (by omega)), by exact sel_of rfl, by exact sel_of rfl, by exact sel_of rfl, by exact sel_of rfl, trivial⟩ ?_
  clear k dd g1 k1 n1 lX
  rintro m f h ⟨i, d1, ⟨k, dd, gX, lX, hN1, hp, hi1, hi2, hi3⟩, hs⟩
  obtain ⟨f0, rfl⟩ := hs.puts
  clear hs
  simp only [c45_0]
  refine gg ?_
  refine i_quo64 q4 (m := b - a) (q := 4) (by exact sel_of rfl) (by omega) (by exact const_of) (by decide) (by omega) hq4 ?_
  refine i_muln (q4 * 2) (by exact sel_of rfl) (by exact const_of) (by omega) (by omega) ?_
  refine gg ?_
  refine out_if (by exact sel_of rfl) (fun hif => ?_) (fun hif => ?_)
  · refine gg ?_
    refine i_call1 (by exact sel_of rfl) (w_next gX (by omega)) ?_
    rintro _ h2 ⟨⟨c, rfl⟩, gX, k2⟩
    have k := KeepsB.other k k2 hX
    have dd := dd.other k2 hXB
    have lX : X < h2.next := Nat.lt_of_lt_of_le lX k2.next
    refine gg ?_
    refine i_subU (p := md) (q := 1) (by exact sel_of rfl) (by exact const_of) (by omega) (by show _ < 18446744073709551616; omega) ?_
    refine i_maskU (q := md - 1) (by exact sel_of rfl) (by exact sel_of rfl) (by omega) fun r hr => ?_
    refine gg ?_
    refine o_cutT (fun f h' => ∃ o : Nat, (h2 = h' ∧ o < b - a) ∧ Sl [(12, .int .i64 (o : Int)), (11, .int .i64 (i : Int)), (8, .int .i64 ((b - a : Nat) : Int)), (9, .pointer (some ⟨X, 0, none⟩)), (10, .int .u64 (md : Int)), (0, .slice (some ⟨B, 0, s⟩) N C), (1, .int .i64 (a : Int))] f) ?_ ?_
    · refine gg ?_
      refine out_if (by exact sel_of rfl) (fun hif => ?_) (fun hif => ?_)
      · refine gg ?_
        exact ⟨rfl, r - (b - a), ⟨rfl, by omega⟩, (sel_z rfl (by omega)), by exact sel_of rfl, by exact sel_of rfl, by exact sel_of rfl, by exact sel_of rfl, by exact sel_of rfl, by exact sel_of rfl, trivial⟩
      · refine gg ?_
        exact ⟨rfl, r, ⟨rfl, by omega⟩, (sel_z rfl (by omega)), by exact sel_of rfl, by exact sel_of rfl, by exact sel_of rfl, by exact sel_of rfl, by exact sel_of rfl, by exact sel_of rfl, trivial⟩
    rintro f _ ⟨o, ⟨rfl, ho⟩, hs⟩
    obtain ⟨f0, rfl⟩ := hs.puts
    clear hs
    refine gg ?_
    refine i_idxD (a + o) (by exact sel_of rfl) (by exact sel_of rfl) (by omega) (by omega) ?_
    refine gg ?_
    refine i_ldD dd (by exact sel_of rfl) (by omega) ?_
    refine gg ?_
    refine i_idxD (i) (by exact sel_of rfl) (by exact sel_of rfl) (by omega) (by omega) ?_
    refine gg ?_
    refine i_ldD dd (by exact sel_of rfl) (by omega) ?_
    refine gg ?_
    refine i_idxD (i) (by exact sel_of rfl) (by exact sel_of rfl) (by omega) (by omega) ?_
    refine i_stD dd (by exact sel_of rfl) (by exact sel_of rfl) (by omega) fun h1s k1s d1s => ?_
    refine gg ?_
    refine i_idxD (a + o) (by exact sel_of rfl) (by exact sel_of rfl) (by omega) (by omega) ?_
    refine i_stD d1s (by exact sel_of rfl) (by exact sel_of rfl) (by rw [Array.size_setIfInBounds]; omega) fun h2s k2s d2s => ?_
    have k := (k.trans k1s).trans k2s
    have dd := d2s
    rw [swp_eq] at dd
    refine gg ?_
    refine rnd_n (a + q4 * 2 + 2 - (i + 1)) (by omega) ⟨i + 1, _, ⟨k, dd, ?_, ?_, by rw [Sort.size_swp]; exact hN1, Sort.permIn_trans _ _ _ _ _ hp (Sort.swp_permIn _ _ _ _ _ (by omega) (by omega) (by omega) (by omega) (by omega)), by omega, rfl, by omega⟩, (sel_z rfl (by omega)), by exact sel_of rfl, by exact sel_of rfl, by exact sel_of rfl, by exact sel_of rfl, by exact sel_of rfl, trivial⟩
    · obtain ⟨c, g⟩ := gX
      exact ⟨c, ((k1s.trans k2s).get X lX (by omega)).trans g⟩
    · exact Nat.lt_of_lt_of_le lX (k1s.trans k2s).next
  · refine gg ?_
    exact ⟨d1, hp, k, dd⟩
end
end Go.Proofs.Ytnffglfpjcbfaaa

/-! Sorting, walked: pdqsort: a sorted permutation. -/
set_option linter.unusedVariables false
namespace Go.Proofs.Ytnffglfpjcbfaaa
open Go Vm
theorem o_cutE {rec : Rec} {h : Heap} {n : Nat} {a : Fr} {Q : Ex → Fr → Heap → Prop} {x y : Vm.Sem} (Mid : Fr → Heap → Prop) (h1 : OutQ (x.f rec n a h) (fun e a h => (e = .normal ∧ Mid a h) ∨ (e ≠ .normal ∧ Q e a h))) (h2 : ∀ a h, Mid a h → OutQ (y.f rec n a h) Q) : OutQ (x.f rec n a h) (Then y rec n Q) :=
  h1.mono fun e a h hk => by
    rcases hk with ⟨rfl, hm⟩ | ⟨hne, hq⟩
    · exact h2 a h hm
    · cases e <;> first | exact absurd rfl hne | exact hq
section
variable {h0 : Heap} {B n0 : Nat} {g : FuncId} {cp : Array Value} {lt : El → El → Bool} {s : Option Nat} {N C : Nat}
set_option maxHeartbeats 4000000 in
theorem w_pdq (cc : Cp h0 B n0 g cp lt) (hw : Sort.SWO lt) (hbig : N < 256) : ∀ (len : Nat) {n a b lim : Nat} {d : Array El} {h : Heap}, b - a ≤ len → KeepsB B h0 h → DtS h B d → d.size = N → a ≤ b → b ≤ N → lim ≤ 100 → Sort.Below lt a b d → len + N + n0 + 20 ≤ n →
    ResQ (callN Try.prog G0 n (.call 40 [.slice (some ⟨B, 0, s⟩) N C, .int .i64 (a : Int), .int .i64 (b : Int), .int .i64 (lim : Int), .func (.func g) #[] cp]) h) (fun v h' => ∃ d', Sort.PermIn a b d d' ∧ Sort.SortedIn lt a b d' ∧ KeepsB B h0 h' ∧ DtS h' B d') := by
  intro len
  induction len using Nat.strongRecOn with | ind len ih => ?_
  intro n a b lim d h hlen k dd hN hab hb hl hB hn
  obtain ⟨n, rfl⟩ : ∃ m, n = m + 1 := ⟨n - 1, by omega⟩
  refine res_enter rfl d40 rfl ?_; simp only [c40]
  refine gg ?_
  refine o_while (fun m f h' => ∃ (a' b' lim' : Nat) (wb wp : Bool) (d' : Array El), (KeepsB B h0 h' ∧ DtS h' B d' ∧ d'.size = N ∧ a ≤ a' ∧ a' ≤ b' ∧ b' ≤ b ∧ b' - a' = m ∧ lim' ≤ 100 ∧ Sort.Below lt a' b' d' ∧ ∀ R, Sort.PermIn a' b' d' R → Sort.SortedIn lt a' b' R → Sort.PermIn a b d R ∧ Sort.SortedIn lt a b R) ∧ Sl [(10, .bool wb), (11, .bool wp), (3, .int .i64 (lim' : Int)), (0, .slice (some ⟨B, 0, s⟩) N C), (1, .int .i64 (a' : Int)), (2, .int .i64 (b' : Int)), (4, .func (.func g) #[] cp)] f) (b - a) (by omega) ⟨a, b, lim, true, true, d, ⟨k, dd, hN, Nat.le_refl _, hab, Nat.le_refl _, rfl, hl, hB, fun R h1 h2 => ⟨h1, h2⟩⟩, by exact sel_of rfl, by exact sel_of rfl, by exact sel_of rfl, by exact sel_of rfl, by exact sel_of rfl, by exact sel_of rfl, by exact sel_of rfl, trivial⟩ ?_
  clear k dd hB
  rintro m f h ⟨a1, b1, l1, wb, wp, d1, ⟨k, dd, hN1, haa, hab1, hbb, hm, hl1, hB, hfin⟩, hs⟩
  obtain ⟨f0, rfl⟩ := hs.puts
  clear hs
  simp only [c40_0]
  refine gg ?_
  refine out_if (by exact sel_of rfl) (fun hif => ?_) (fun hif => ?_)
  · refine gg ?_
    refine i_call4 (by exact sel_of rfl) (by exact sel_of rfl) (by exact sel_of rfl) (by exact sel_of rfl) (w_ins cc k dd hN1 (a := a1) (b := b1) hab1 (by omega) (by omega) (by omega)) ?_
    rintro _ h1 ⟨k, dd⟩
    refine gg ?_
    obtain ⟨p1, p2⟩ := Sort.insertionSort_holds hw d1 a1 b1 hab1 (by omega)
    obtain ⟨q1, q2⟩ := hfin _ p1 p2
    exact ⟨_, q1, q2, k, dd⟩
  refine gg ?_
  refine out_if (by exact sel_of rfl) (fun hif => ?_) (fun hif => ?_)
  · refine gg ?_
    refine i_call4 (by exact sel_of rfl) (by exact sel_of rfl) (by exact sel_of rfl) (by exact sel_of rfl) (w_heap cc k dd hN1 (a := a1) (b := b1) (by omega) (by omega) (by omega) (by omega)) ?_
    rintro _ h1 ⟨k, dd⟩
    refine gg ?_
    obtain ⟨p1, p2⟩ := Sort.heapSort_holds hw d1 a1 b1 hab1 (by omega)
    obtain ⟨q1, q2⟩ := hfin _ p1 p2
    exact ⟨_, q1, q2, k, dd⟩
  refine o_ex (then_n ?_)
  refine o_seq ?_
  refine o_cutT (fun f h' => ∃ (l2 : Nat) (d2 : Array El), (KeepsB B h0 h' ∧ DtS h' B d2 ∧ d2.size = N ∧ l2 ≤ 100 ∧ Sort.PermIn a1 b1 d1 d2) ∧ Sl [(12, .int .i64 ((b1 - a1 : Nat) : Int)), (10, .bool wb), (11, .bool wp), (3, .int .i64 (l2 : Int)), (0, .slice (some ⟨B, 0, s⟩) N C), (1, .int .i64 (a1 : Int)), (2, .int .i64 (b1 : Int)), (4, .func (.func g) #[] cp)] f) ?_ ?_
  · cases wb with
    | true =>
      refine gg ?_
      exact ⟨rfl, l1, d1, ⟨k, dd, hN1, hl1, Sort.permIn_refl _ _ _⟩, (sel_z rfl (by omega)), by exact sel_of rfl, by exact sel_of rfl, by exact sel_of rfl, by exact sel_of rfl, by exact sel_of rfl, by exact sel_of rfl, by exact sel_of rfl, trivial⟩
    | false =>
      refine gg ?_
      refine i_call4 (by exact sel_of rfl) (by exact sel_of rfl) (by exact sel_of rfl) (by exact sel_of rfl) (w_break cc k dd hN1 (a := a1) (b := b1) (by omega) (by omega) (by omega) (by omega)) ?_
      rintro _ h1 ⟨d2, p, k, dd⟩
      refine gg ?_
      exact ⟨rfl, l1 - 1, d2, ⟨k, dd, by rw [p.1]; exact hN1, by omega, p⟩, (sel_z rfl (by omega)), by exact sel_of rfl, by exact sel_of rfl, (sel_z rfl (by omega)), by exact sel_of rfl, by exact sel_of rfl, by exact sel_of rfl, by exact sel_of rfl, trivial⟩
  clear k dd
  rintro f h ⟨l2, d2, ⟨k, dd, hN2, hl2, p2⟩, hs⟩
  obtain ⟨f0, rfl⟩ := hs.puts
  clear hs
  have hB2 := hB.perm (by omega) p2
  refine gg ?_
  refine i_call4 (by exact sel_of rfl) (by exact sel_of rfl) (by exact sel_of rfl) (by exact sel_of rfl) (w_choose cc k dd hN2 (a := a1) (b := b1) (by omega) (by omega) (by omega) (by omega)) ?_
  rintro _ h1 ⟨x, t, rfl, hx1, hx2, k, dd⟩
  refine gg ?_
  refine o_cutT (fun f h' => ∃ (x t : Nat) (d3 : Array El), (KeepsB B h0 h' ∧ DtS h' B d3 ∧ d3.size = N ∧ a1 ≤ x ∧ x < b1 ∧ Sort.PermIn a1 b1 d1 d3) ∧ Sl [(13, .int .i64 (x : Int)), (14, .int .i64 (t : Int)), (12, .int .i64 ((b1 - a1 : Nat) : Int)), (10, .bool wb), (11, .bool wp), (3, .int .i64 (l2 : Int)), (0, .slice (some ⟨B, 0, s⟩) N C), (1, .int .i64 (a1 : Int)), (2, .int .i64 (b1 : Int)), (4, .func (.func g) #[] cp)] f) ?_ ?_
  · refine out_if (by exact sel_of rfl) (fun hif => ?_) (fun hif => ?_)
    · refine gg ?_
      refine i_call4 (by exact sel_of rfl) (by exact sel_of rfl) (by exact sel_of rfl) (by exact sel_of rfl) (w_rev cc k dd hN2 (a := a1) (b := b1) (by omega) (by omega) (by omega) (by omega)) ?_
      rintro _ h1 ⟨k, dd⟩
      refine gg ?_
      have p3 := Sort.reverseRange_holds d2 a1 b1 hab1 (by omega)
      exact ⟨rfl, b1 - 1 - (x - a1), 1, _, ⟨k, dd, by rw [p3.1]; exact hN2, by omega, by omega, Sort.permIn_trans _ _ _ _ _ p2 p3⟩, (sel_z rfl (by omega)), by exact sel_of rfl, by exact sel_of rfl, by exact sel_of rfl, by exact sel_of rfl, by exact sel_of rfl, by exact sel_of rfl, by exact sel_of rfl, by exact sel_of rfl, by exact sel_of rfl, trivial⟩
    · refine gg ?_
      exact ⟨rfl, x, t, d2, ⟨k, dd, hN2, hx1, hx2, p2⟩, by exact sel_of rfl, by exact sel_of rfl, by exact sel_of rfl, by exact sel_of rfl, by exact sel_of rfl, by exact sel_of rfl, by exact sel_of rfl, by exact sel_of rfl, by exact sel_of rfl, by exact sel_of rfl, trivial⟩
  clear k dd hB2 p2 hN2 hx1 hx2
  rintro f h ⟨x, t, d2, ⟨k, dd, hN2, hx1, hx2, p2⟩, hs⟩
  obtain ⟨f0, rfl⟩ := hs.puts
  clear hs
  have hB2 := hB.perm (by omega) p2
  refine o_seq ?_
  refine o_cutE (fun f h' => ∃ (d3 : Array El), (KeepsB B h0 h' ∧ DtS h' B d3 ∧ d3.size = N ∧ Sort.PermIn a1 b1 d1 d3) ∧ Sl [(13, .int .i64 (x : Int)), (12, .int .i64 ((b1 - a1 : Nat) : Int)), (10, .bool wb), (11, .bool wp), (3, .int .i64 (l2 : Int)), (0, .slice (some ⟨B, 0, s⟩) N C), (1, .int .i64 (a1 : Int)), (2, .int .i64 (b1 : Int)), (4, .func (.func g) #[] cp)] f) ?_ ?_
  · have pass : ∀ {f : Fr} {h : Heap}, Sl [(13, .int .i64 (x : Int)), (12, .int .i64 ((b1 - a1 : Nat) : Int)), (10, .bool wb), (11, .bool wp), (3, .int .i64 (l2 : Int)), (0, .slice (some ⟨B, 0, s⟩) N C), (1, .int .i64 (a1 : Int)), (2, .int .i64 (b1 : Int)), (4, .func (.func g) #[] cp)] f → True := fun _ => trivial
    cases wb with
    | false =>
      refine gg ?_
      exact .inl ⟨rfl, d2, ⟨k, dd, hN2, p2⟩, by exact sel_of rfl, by exact sel_of rfl, by exact sel_of rfl, by exact sel_of rfl, by exact sel_of rfl, by exact sel_of rfl, by exact sel_of rfl, by exact sel_of rfl, by exact sel_of rfl, trivial⟩
    | true =>
      cases wp with
      | false =>
        refine gg ?_
        exact .inl ⟨rfl, d2, ⟨k, dd, hN2, p2⟩, by exact sel_of rfl, by exact sel_of rfl, by exact sel_of rfl, by exact sel_of rfl, by exact sel_of rfl, by exact sel_of rfl, by exact sel_of rfl, by exact sel_of rfl, by exact sel_of rfl, trivial⟩
      | true =>
        refine gg ?_
        refine out_if (by exact sel_of rfl) (fun hif => ?_) (fun hif => ?_)
        · refine gg ?_
          refine i_call4 (by exact sel_of rfl) (by exact sel_of rfl) (by exact sel_of rfl) (by exact sel_of rfl) (w_partial cc k dd hN2 (a := a1) (b := b1) (by omega) (by omega) (by omega) (by omega)) ?_
          rintro _ h1 ⟨rfl, k, dd⟩
          obtain ⟨p3, p4⟩ := Sort.partialInsertionSort_holds hw d2 a1 b1 (by omega) (by omega) hB2
          cases hr : (Sort.partialInsertionSort lt d2 a1 b1).2 with
          | true =>
            refine gg ?_
            refine .inr ⟨by simp, ?_⟩
            refine gg ?_
            obtain ⟨q1, q2⟩ := hfin _ (Sort.permIn_trans _ _ _ _ _ p2 p3) (p4 hr)
            exact ⟨_, q1, q2, k, dd⟩
          | false =>
            refine gg ?_
            exact .inl ⟨rfl, _, ⟨k, dd, by rw [p3.1]; exact hN2, Sort.permIn_trans _ _ _ _ _ p2 p3⟩, by exact sel_of rfl, by exact sel_of rfl, by exact sel_of rfl, by exact sel_of rfl, by exact sel_of rfl, by exact sel_of rfl, by exact sel_of rfl, by exact sel_of rfl, by exact sel_of rfl, trivial⟩
        · refine gg ?_
          exact .inl ⟨rfl, d2, ⟨k, dd, hN2, p2⟩, by exact sel_of rfl, by exact sel_of rfl, by exact sel_of rfl, by exact sel_of rfl, by exact sel_of rfl, by exact sel_of rfl, by exact sel_of rfl, by exact sel_of rfl, by exact sel_of rfl, trivial⟩
  clear k dd hB2 p2 hN2
  rintro f h ⟨d2, ⟨k, dd, hN2, p2⟩, hs⟩
  obtain ⟨f0, rfl⟩ := hs.puts
  clear hs
  have hB2 := hB.perm (by omega) p2
  refine o_seq ?_
  refine o_cutE (fun f h' => (KeepsB B h0 h' ∧ DtS h' B d2) ∧ Sl [(13, .int .i64 (x : Int)), (12, .int .i64 ((b1 - a1 : Nat) : Int)), (10, .bool wb), (11, .bool wp), (3, .int .i64 (l2 : Int)), (0, .slice (some ⟨B, 0, s⟩) N C), (1, .int .i64 (a1 : Int)), (2, .int .i64 (b1 : Int)), (4, .func (.func g) #[] cp)] f) ?_ ?_
  · by_cases ha0 : 0 < a1
    · refine gg ?_
      refine i_idxD (a1 - 1) (by exact sel_of rfl) (by exact sel_of rfl) (by omega) (by omega) ?_
      refine gg ?_
      refine i_ldD dd (by exact sel_of rfl) (by omega) ?_
      refine gg ?_
      refine i_idxD (x) (by exact sel_of rfl) (by exact sel_of rfl) (by omega) (by omega) ?_
      refine gg ?_
      refine i_ldD dd (by exact sel_of rfl) (by omega) ?_
      refine gg ?_
      refine s1_cons (det_dgcall cc.det (by exact sel_of rfl)) ?_
      refine i_liveP (by exact sel_of rfl) (by omega) ?_
      refine i_callD (by exact sel_of rfl) (by exact sel_of rfl) (by exact sel_of rfl) (cc.run _ k _ (by omega) _ _) ?_
      rintro _ h1c ⟨c1, rfl, hc1, kk⟩
      have k := k.trans (kk.but B)
      have dd := dd.keeps kk
      clear kk
      refine gg ?_
      refine out_ifnc (by exact sel_of rfl) hc1 (fun hif => ?_) (fun hif => ?_)
      · refine gg ?_
        refine i_call5 (by exact sel_of rfl) (by exact sel_of rfl) (by exact sel_of rfl) (by exact sel_of rfl) (by exact sel_of rfl) (w_parteq cc k dd hN2 (a := a1) (b := b1) (pv := x) (by omega) (by omega) (by omega) (by omega) (by omega)) ?_
        rintro _ h1 ⟨rfl, k, dd⟩
        refine gg ?_
        refine .inr ⟨by simp, ?_⟩
        cases hx : Sort.partitionEqual lt d2 a1 b1 x with
        | mk mid d4 =>
          rw [hx] at dd
          obtain ⟨g1, g2, hs4, hB4, hf4⟩ := Sort.round_eq hw (Sort.partitionEqual_holds lt) ha0 hx1 hx2 (by omega) hB2 hif hx
          refine gg ?_
          refine rnd_n (b1 - mid) (by omega) ⟨mid, b1, l2, wb, wp, d4, ⟨k, dd, by omega, by omega, by omega, by omega, rfl, by omega, hB4, fun R r1 r2 => ?_⟩, by exact sel_of rfl, by exact sel_of rfl, by exact sel_of rfl, by exact sel_of rfl, by exact sel_of rfl, by exact sel_of rfl, by exact sel_of rfl, trivial⟩
          obtain ⟨q1, q2⟩ := hf4 R r1 r2
          exact hfin R (Sort.permIn_trans _ _ _ _ _ p2 q1) q2
      · refine gg ?_
        exact .inl ⟨rfl, ⟨k, dd⟩, by exact sel_of rfl, by exact sel_of rfl, by exact sel_of rfl, by exact sel_of rfl, by exact sel_of rfl, by exact sel_of rfl, by exact sel_of rfl, by exact sel_of rfl, by exact sel_of rfl, trivial⟩
    · refine gg ?_
      refine s1_cons (det_skipP (by exact sel_of rfl) (by omega)) ?_
      refine gg ?_
      exact .inl ⟨rfl, ⟨k, dd⟩, by exact sel_of rfl, by exact sel_of rfl, by exact sel_of rfl, by exact sel_of rfl, by exact sel_of rfl, by exact sel_of rfl, by exact sel_of rfl, by exact sel_of rfl, by exact sel_of rfl, trivial⟩
  clear k dd
  rintro f h ⟨⟨k, dd⟩, hs⟩
  obtain ⟨f0, rfl⟩ := hs.puts
  clear hs
  refine gg ?_
  refine i_call5 (by exact sel_of rfl) (by exact sel_of rfl) (by exact sel_of rfl) (by exact sel_of rfl) (by exact sel_of rfl) (w_part cc k dd hN2 (a := a1) (b := b1) (pv := x) (by omega) (by omega) (by omega) (by omega) (by omega)) ?_
  rintro _ h1 ⟨rfl, k, dd⟩
  cases hx : Sort.partition lt d2 a1 b1 x with
  | mk mid r =>
    obtain ⟨ap, d4⟩ := r
    rw [hx] at dd
    obtain ⟨g1, g2, hs4, hBa, hBr, hleft, hright⟩ := Sort.round_part hw (Sort.partition_holds lt) hx1 hx2 (by omega) hB2 hx
    simp only [] at dd
    refine gg ?_
    refine i_quo64 ((b1 - a1) / 8) (m := b1 - a1) (q := 8) (by exact sel_of rfl) rfl (by exact const_of) (by decide) (by omega) rfl ?_
    refine gg ?_
    refine out_if (by exact sel_of rfl) (fun hif => ?_) (fun hif => ?_)
    · refine gg ?_
      refine i_call5 (by exact sel_of rfl) (by exact sel_of rfl) (by exact sel_of rfl) (by exact sel_of rfl) (by exact sel_of rfl) (ih (mid - a1) (by omega) (a := a1) (b := mid) (lim := l2) (Nat.le_refl _) k dd (by omega) (by omega) (by omega) hl2 hBa (by omega)) ?_
      rintro _ h2 ⟨L, l1, l2', k, dd⟩
      obtain ⟨hBL, hf⟩ := hleft L l1 l2'
      refine gg ?_
      refine rnd_n (b1 - (mid + 1)) (by omega) ⟨mid + 1, b1, l2, _, ap, L, ⟨k, dd, by rw [l1.1]; omega, by omega, by omega, by omega, rfl, by omega, hBL, fun R r1 r2 => ?_⟩, by exact sel_of rfl, by exact sel_of rfl, by exact sel_of rfl, by exact sel_of rfl, (sel_z rfl (by omega)), by exact sel_of rfl, by exact sel_of rfl, trivial⟩
      obtain ⟨q1, q2⟩ := hf R r1 r2
      exact hfin R (Sort.permIn_trans _ _ _ _ _ p2 q1) q2
    · refine gg ?_
      refine i_call5 (by exact sel_of rfl) (by exact sel_z rfl (by omega)) (by exact sel_of rfl) (by exact sel_of rfl) (by exact sel_of rfl) (ih (b1 - (mid + 1)) (by omega) (a := mid + 1) (b := b1) (lim := l2) (Nat.le_refl _) k dd (by omega) (by omega) (by omega) hl2 hBr (by omega)) ?_
      rintro _ h2 ⟨L, l1, l2', k, dd⟩
      obtain ⟨hBL, hf⟩ := hright L l1 l2'
      refine gg ?_
      refine rnd_n (mid - a1) (by omega) ⟨a1, mid, l2, _, ap, L, ⟨k, dd, by rw [l1.1]; omega, by omega, by omega, by omega, rfl, by omega, hBL, fun R r1 r2 => ?_⟩, by exact sel_of rfl, by exact sel_of rfl, by exact sel_of rfl, by exact sel_of rfl, by exact sel_of rfl, by exact sel_of rfl, by exact sel_of rfl, trivial⟩
      obtain ⟨q1, q2⟩ := hf R r1 r2
      exact hfin R (Sort.permIn_trans _ _ _ _ _ p2 q1) q2
end
end Go.Proofs.Ytnffglfpjcbfaaa

