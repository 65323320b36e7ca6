/- Part of a proof by an abstract run of the program's code: RRdA. No condition. -/
import Derived.Test.YtdcllpjoejkpnaaRTlvA
import Derived.Test.YtdcllpjoejkpnaaRDecA
import Derived.Test.YtdcllpjoejkpnaaRLwC
import Derived.Test.YtdcllpjoejkpnaaROnlA
/-! Layer 1's reader again, with a floor beneath what it reads. -/
set_option linter.unusedVariables false
namespace Go.Proofs.Ytdcllpjoejkpnaa
open Go Vm
/-- a slice lies between two blocks -/
def BelF (F b : Nat) (o : Option Addr) : Prop := ∀ q, o = some q → F ≤ q.block ∧ q.block < b
theorem BelF.off {F b : Nat} {o : Option Addr} (h : BelF F b o) : Off b o := fun q e => Nat.ne_of_lt (h q e).2
theorem BelF.of {F b : Nat} {o o' : Option Addr} (ho : BelF F b o) (h : ∀ q', o' = some q' → ∃ q, o = some q ∧ q'.block = q.block) : BelF F b o' := fun q' e => by
  obtain ⟨q, e1, e2⟩ := h q' e
  rw [e2]; exact ho q e1
/-- a reader whose octets lie at or behind a block -/
def RdF (F : Nat) (h : Heap) (b : Nat) (l : List UInt8) : Prop := ∃ e o c, b < h.next ∧ h.get b = some (.cells e [.slice o l.length c] (.own false)) ∧ Row h 1 o l.length (u8s l) ∧ l.length ≤ c ∧ BelF F b o
theorem RdF.keeps {F : Nat} {h h' : Heap} {b : Nat} {l : List UInt8} (r : RdF F h b l) (k : Keeps h h') : RdF F h' b l := by
  obtain ⟨e, o, c, h1, h2, h3, h4, h5⟩ := r
  exact ⟨e, o, c, Nat.lt_of_lt_of_le h1 k.next, by rw [k.get b h1]; exact h2, h3.keeps k, h4, h5⟩
theorem RdF.low {F : Nat} {h h' : Heap} {b : Nat} {l : List UInt8} (r : RdF F h b l) (hn : h.next ≤ h'.next) (hb' : h'.get b = h.get b) (hg : ∀ d, F ≤ d → d < b → h'.get d = h.get d) : RdF F h' b l := by
  obtain ⟨e, o, c', hb, hg', hrow, hc', hbel⟩ := r
  exact ⟨e, o, c', Nat.lt_of_lt_of_le hb hn, hb'.trans hg', row_low hrow hn (fun q e => hg _ (hbel q e).1 (hbel q e).2), hc', hbel⟩
theorem w_takeF {F : Nat} {h : Heap} {b : Nat} {l : List UInt8} (hr : RdF F h b l) (k : Int) {t r : List UInt8} {en : Nat} (he : takeR l k = (t, r, en)) (n : Nat) (hn : 1 ≤ n) :
    ResQ (callN Try.prog G0 n (.call 68 [.pointer (some ⟨b, 0, none⟩), .int .i64 k]) h) (fun v h' => KeepsB b h h' ∧ h'.next = h.next ∧ RdF F h' b r ∧
      ∃ o', v = .tuple #[.slice o' t.length t.length, .int .i64 (en : Int)] ∧ Row h' 1 o' t.length (u8s t) ∧ Off b o') := by
  have hr0 := hr
  obtain ⟨e, o, c, hb, hg, hrow, hc, hbel⟩ := hr
  have hoff := hbel.off
  obtain ⟨n, rfl⟩ : ∃ m, n = m + 1 := ⟨n - 1, by omega⟩
  refine res_enter rfl d68 rfl ?_; simp only [c68]
  refine gg ?_
  by_cases h1 : k < 0
  · have e1 : takeR l k = ([], l, 1) := by rw [takeR, if_pos h1]
    rw [e1] at he
    cases he
    refine gg ?_
    exact ⟨KeepsB.refl _ _, rfl, hr0, none, rfl, Row.nil _ _, Off.none _⟩
  refine gg ?_
  refine i_load1 (by exact sel_of rfl) (load1_own hg) ?_
  refine gg ?_
  by_cases h2 : (l.length : Int) < k
  · have e1 : takeR l k = ([], l, 2) := by rw [takeR, if_neg h1, if_pos h2]
    rw [e1] at he
    cases he
    refine gg ?_
    exact ⟨KeepsB.refl _ _, rfl, hr0, none, rfl, Row.nil _ _, Off.none _⟩
  obtain ⟨k, rfl⟩ : ∃ j : Nat, k = (j : Int) := ⟨k.toNat, by omega⟩
  have e1 : takeR l k = (l.take k, l.drop k, 0) := by rw [takeR, if_neg h1, if_neg h2]; rfl
  rw [e1] at he
  cases he
  have hk : k ≤ l.length := by omega
  refine gg ?_
  refine i_load1 (by exact sel_of rfl) (load1_own hg) ?_
  refine gg ?_
  refine i_sl_cap (by exact sel_of rfl) hrow hc (by exact sel_of rfl) (by exact sel_of rfl) hk fun o1 hn1 hs1 r1 => ?_
  refine gg ?_
  refine i_load1 (by exact sel_of rfl) (load1_own hg) ?_
  refine gg ?_
  refine i_sl_lo (by exact sel_of rfl) hrow hc (by exact sel_of rfl) hk fun o2 hn2 r2 => ?_
  refine gg ?_
  refine i_store1 (v := .slice o2 (l.length - k) (c - k)) (by exact sel_of rfl) (by rw [sel_of rfl]; rfl) hg (Nat.lt_succ_self 0) ?_
  refine gg ?_
  have kb : KeepsB b h (h.put b (.cells e [.slice o2 (l.length - k) (c - k)] (.own false))) := ⟨Nat.le_refl _, fun d _ hd => by rw [Heap.get_put, if_neg hd]⟩
  have hl1 : (l.take k).length = k := by rw [List.length_take]; omega
  have hl2 : (l.drop k).length = l.length - k := by rw [List.length_drop]
  rw [Nat.mul_one, ← u8s_take] at r1
  rw [Nat.mul_one, ← u8s_drop] at r2
  refine ⟨kb, rfl, ⟨e, o2, c - k, hb, ?_, ?_, ?_, hbel.of hn2⟩, o1, ?_, ?_, hoff.of hn1⟩
  · rw [Heap.get_put, if_pos rfl, hl2]; rfl
  · rw [hl2]; exact r2.keepsB kb (hoff.of hn2)
  · rw [hl2]; omega
  · rw [hl1]; rfl
  · rw [hl1]; exact r1.keepsB kb (hoff.of hn1)
theorem w_leftF {F : Nat} {h : Heap} {b : Nat} {l : List UInt8} (hr : RdF F h b l) (n : Nat) (hn : 1 ≤ n) :
    ResQ (callN Try.prog G0 n (.call 78 [.pointer (some ⟨b, 0, none⟩)]) h) (fun v h' => v = .int .i64 (l.length : Int) ∧ h = h') := by
  obtain ⟨e, o, c, hb, hg, hrow, hc, hbel⟩ := hr
  have hoff := hbel.off
  obtain ⟨n, rfl⟩ : ∃ m, n = m + 1 := ⟨n - 1, by omega⟩
  refine res_enter rfl d78 rfl ?_; simp only [c78]
  refine gg ?_
  refine i_load1 (by exact sel_of rfl) (load1_own hg) ?_
  refine gg ?_
  exact ⟨rfl, rfl⟩
theorem w_get16F {F : Nat} {h : Heap} {b : Nat} {l : List UInt8} (hr : RdF F h b l) {x : Nat} {r : List UInt8} {en : Nat} (he : getR l 2 = (x, r, en)) (n : Nat) (hn : 2 ≤ n) :
    ResQ (callN Try.prog G0 n (.call 47 [.pointer (some ⟨b, 0, none⟩)]) h) (fun v h' => KeepsB b h h' ∧ h'.next = h.next ∧ RdF F h' b r ∧ v = .tuple #[.int .u16 (x : Int), .int .i64 (en : Int)]) := by
  have et := takeR_nat l 2
  rw [getR] at he
  obtain ⟨n, rfl⟩ : ∃ m, n = m + 1 := ⟨n - 1, by omega⟩
  refine res_enter rfl d47 rfl ?_; simp only [c47]
  refine gg ?_
  by_cases hl : l.length < 2
  · rw [if_pos hl] at et he
    cases he
    refine i_call2 (by first | exact sel_of rfl | exact const_of) (by first | exact sel_of rfl | exact const_of) (w_takeF hr 2 et n (by omega)) ?_
    rintro _ h1 ⟨kb, nx, r1, o1, rfl, row, off⟩
    refine gg ?_
    exact ⟨kb, nx, r1, rfl⟩
  · rw [if_neg hl] at et he
    cases he
    obtain ⟨x, y, hx⟩ := len_two (l := l.take 2) (by rw [List.length_take]; omega)
    rw [hx] at et ⊢
    have bx := x.toNat_lt
    have by_ := y.toNat_lt
    refine i_call2 (by first | exact sel_of rfl | exact const_of) (by first | exact sel_of rfl | exact const_of) (w_takeF hr 2 et n (by omega)) ?_
    rintro _ h1 ⟨kb, nx, r1, o1, rfl, row, off⟩
    refine gg ?_
    refine i_idx (by exact sel_of rfl) row (i := 0) (by first | exact sel_of rfl | exact const_of) (by simp) fun u hu => ?_
    subst hu
    refine i_byte x (by exact sel_of rfl) row rfl ?_
    refine gg ?_
    refine i_shl (x.toNat * 2 ^ 8) (by exact sel_of rfl) (by first | exact sel_of rfl | exact const_of) (by decide) rfl (by show _ < 65536; omega) ?_
    refine gg ?_
    refine i_idx (by exact sel_of rfl) row (i := 1) (by first | exact sel_of rfl | exact const_of) (by simp) fun u hu => ?_
    cases hu
    refine i_byte y (by exact sel_of rfl) row rfl ?_
    refine gg ?_
    refine i_orn 8 (x.toNat * 256 + y.toNat) (by exact sel_of rfl) (by exact sel_of rfl) (by omega) (by omega) (by omega) (by show _ < 65536; omega) ?_
    refine gg ?_
    refine ⟨kb, nx, r1, ?_⟩
    simp [num]
theorem w_get32F {F : Nat} {h : Heap} {b : Nat} {l : List UInt8} (hr : RdF F h b l) {x : Nat} {r : List UInt8} {en : Nat} (he : getR l 4 = (x, r, en)) (n : Nat) (hn : 2 ≤ n) :
    ResQ (callN Try.prog G0 n (.call 48 [.pointer (some ⟨b, 0, none⟩)]) h) (fun v h' => KeepsB b h h' ∧ h'.next = h.next ∧ RdF F h' b r ∧ v = .tuple #[.int .u32 (x : Int), .int .i64 (en : Int)]) := by
  have et := takeR_nat l 4
  rw [getR] at he
  obtain ⟨n, rfl⟩ : ∃ m, n = m + 1 := ⟨n - 1, by omega⟩
  refine res_enter rfl d48 rfl ?_; simp only [c48]
  refine gg ?_
  by_cases hl : l.length < 4
  · rw [if_pos hl] at et he
    cases he
    refine i_call2 (by first | exact sel_of rfl | exact const_of) (by first | exact sel_of rfl | exact const_of) (w_takeF hr 4 et n (by omega)) ?_
    rintro _ h1 ⟨kb, nx, r1, o1, rfl, row, off⟩
    refine gg ?_
    exact ⟨kb, nx, r1, rfl⟩
  · rw [if_neg hl] at et he
    cases he
    obtain ⟨x, y, z, w, hx⟩ := len_four (l := l.take 4) (by rw [List.length_take]; omega)
    rw [hx] at et ⊢
    have bx := x.toNat_lt
    have by_ := y.toNat_lt
    have bz := z.toNat_lt
    have bw := w.toNat_lt
    refine i_call2 (by first | exact sel_of rfl | exact const_of) (by first | exact sel_of rfl | exact const_of) (w_takeF hr 4 et n (by omega)) ?_
    rintro _ h1 ⟨kb, nx, r1, o1, rfl, row, off⟩
    refine gg ?_
    refine i_idx (by exact sel_of rfl) row (i := 0) (by first | exact sel_of rfl | exact const_of) (by simp) fun u hu => ?_
    subst hu
    refine i_byte x (by exact sel_of rfl) row rfl ?_
    refine gg ?_
    refine i_shl (x.toNat * 2 ^ 24) (by exact sel_of rfl) (by first | exact sel_of rfl | exact const_of) (by decide) rfl (by show _ < 4294967296; omega) ?_
    refine gg ?_
    refine i_idx (by exact sel_of rfl) row (i := 1) (by first | exact sel_of rfl | exact const_of) (by simp) fun u hu => ?_
    cases hu
    refine i_byte y (by exact sel_of rfl) row rfl ?_
    refine gg ?_
    refine i_shl (y.toNat * 2 ^ 16) (by exact sel_of rfl) (by first | exact sel_of rfl | exact const_of) (by decide) rfl (by show _ < 4294967296; omega) ?_
    refine i_orn 24 (x.toNat * 16777216 + y.toNat * 65536) (by exact sel_of rfl) (by exact sel_of rfl) (by omega) (by omega) (by omega) (by show _ < 4294967296; omega) ?_
    refine gg ?_
    refine i_idx (by exact sel_of rfl) row (i := 2) (by first | exact sel_of rfl | exact const_of) (by simp) fun u hu => ?_
    cases hu
    refine i_byte z (by exact sel_of rfl) row rfl ?_
    refine gg ?_
    refine i_shl (z.toNat * 2 ^ 8) (by exact sel_of rfl) (by first | exact sel_of rfl | exact const_of) (by decide) rfl (by show _ < 4294967296; omega) ?_
    refine i_orn 16 (x.toNat * 16777216 + y.toNat * 65536 + z.toNat * 256) (by exact sel_of rfl) (by exact sel_of rfl) (by omega) (by omega) (by omega) (by show _ < 4294967296; omega) ?_
    refine gg ?_
    refine i_idx (by exact sel_of rfl) row (i := 3) (by first | exact sel_of rfl | exact const_of) (by simp) fun u hu => ?_
    cases hu
    refine i_byte w (by exact sel_of rfl) row rfl ?_
    refine gg ?_
    refine i_orn 8 (x.toNat * 16777216 + y.toNat * 65536 + z.toNat * 256 + w.toNat) (by exact sel_of rfl) (by exact sel_of rfl) (by omega) (by omega) (by omega) (by show _ < 4294967296; omega) ?_
    refine gg ?_
    refine ⟨kb, nx, r1, ?_⟩
    have : num [x, y, z, w] = x.toNat * 16777216 + y.toNat * 65536 + z.toNat * 256 + w.toNat := by simp [num]; omega
    rw [this]
    rfl
theorem w_bytesF {F : Nat} {h : Heap} {b : Nat} {l : List UInt8} (hr : RdF F h b l) (hlen : l.length ≤ 1000000) (k : Int) {t r : List UInt8} {en : Nat} (he : takeR l k = (t, r, en)) (n : Nat) (hn : 2 ≤ n) :
    ResQ (callN Try.prog G0 n (.call 75 [.pointer (some ⟨b, 0, none⟩), .int .i64 k]) h) (fun v h' => KeepsB b h h' ∧ RdF F h' b r ∧
      ∃ o', v = .tuple #[.slice o' t.length t.length, .int .i64 (en : Int)] ∧ Ap h.next h' 5 1 o' t.length t.length (u8s t) ∧ ∀ q, o' = some q → h.next ≤ q.block) := by
  have ht : t.length ≤ 1000000 := by
    rw [takeR] at he
    split at he
    · cases he; exact Nat.zero_le _
    · split at he
      · cases he; exact Nat.zero_le _
      · cases he; rw [List.length_take]; omega
  obtain ⟨n, rfl⟩ : ∃ m, n = m + 1 := ⟨n - 1, by omega⟩
  refine res_enter rfl d75 rfl ?_; simp only [c75]
  refine gg ?_
  refine i_call2 (by first | exact sel_of rfl | exact const_of) (by first | exact sel_of rfl | exact const_of) (w_takeF hr k he n (by omega)) ?_
  rintro _ h1 ⟨kb, nx, r1, o1, rfl, row, off⟩
  refine gg ?_
  refine i_call1 (by first | exact sel_of rfl | exact const_of) (w_clone row ht n (by omega)) ?_
  rintro _ h2 ⟨k2, o2, rfl, a2, fr⟩
  refine gg ?_
  refine ⟨kb.trans (k2.but b), r1.keeps k2, o2, rfl, ?_, ?_⟩
  · rw [← nx]; exact a2
  · rw [← nx]; exact fr
theorem w_newF {h : Heap} {o : Option Addr} {m c : Nat} {l : List UInt8} (hr : Row h 1 o m (u8s l)) (hl : l.length ≤ 1000000) (n : Nat) (hn : 2 ≤ n) :
    ResQ (callN Try.prog G0 n (.call 46 [.slice o m c]) h) (fun v h' => Keeps h h' ∧ ∃ b, h.next ≤ b ∧ v = .pointer (some ⟨b, 0, none⟩) ∧ RdF h.next h' b l) := by
  obtain ⟨n, rfl⟩ : ∃ m, n = m + 1 := ⟨n - 1, by omega⟩
  refine res_enter rfl d46 rfl ?_; simp only [c46]
  refine gg ?_
  refine i_call1 (by first | exact sel_of rfl | exact const_of) (w_clone hr hl n (by omega)) ?_
  rintro _ h1 ⟨k1, o1, rfl, a1, fr⟩
  refine gg ?_
  refine ⟨k1.trans (Keeps.new _ _), h1.next, k1.next, rfl, ⟨100, o1, l.length, Nat.lt_succ_self _, ?_, a1.row.keeps (Keeps.new _ _), Nat.le_refl _, fun q e => ⟨fr q e, a1.row.bel (Nat.le_refl _) q e⟩⟩⟩
  rw [Heap.get_new, if_pos rfl]
  rfl
theorem w_rpadRF {F : Nat} {h : Heap} {b : Nat} {l : List UInt8} (hr : RdF F h b l) (k : Int) (hk : k ≤ 9223372036854775807) {r : List UInt8} {en : Nat} (he : padR l k = (r, en)) (n : Nat) (hn : 10 ≤ n) :
    ResQ (callN Try.prog G0 n (.call 77 [.pointer (some ⟨b, 0, none⟩), .int .i64 k]) h) (fun v h' => KeepsB b h h' ∧ h'.next = h.next ∧ RdF F h' b r ∧ v = .int .i64 (en : Int)) := by
  have hr0 := hr
  obtain ⟨e, o, c, hb, hg, hrow, hc, hbel⟩ := hr
  have hoff := hbel.off
  rw [padR] at he
  obtain ⟨n, rfl⟩ : ∃ m, n = m + 1 := ⟨n - 1, by omega⟩
  refine res_enter rfl d77 rfl ?_; simp only [c77]
  by_cases h1 : k < 0
  · rw [if_pos h1] at he
    cases he
    refine gg ?_
    exact ⟨KeepsB.refl _ _, rfl, hr0, rfl⟩
  rw [if_neg h1] at he
  obtain ⟨k, rfl⟩ : ∃ j : Nat, k = (j : Int) := ⟨k.toNat, by omega⟩
  rw [Int.toNat_natCast] at he
  refine gg ?_
  refine i_call1 (by exact sel_of rfl) (w_gap k (by omega) h n (by omega)) ?_
  rintro _ _ ⟨rfl, rfl⟩
  refine gg ?_
  refine i_load1 (by exact sel_of rfl) (load1_own hg) ?_
  by_cases h2 : l.length < (4 - k % 4) % 4
  · rw [if_pos h2] at he
    cases he
    refine gg ?_
    exact ⟨KeepsB.refl _ _, rfl, hr0, rfl⟩
  rw [if_neg h2] at he
  refine gg ?_
  refine i_load1 (by exact sel_of rfl) (load1_own hg) ?_
  refine gg ?_
  refine i_sl_hi (by exact sel_of rfl) hrow hc (by exact sel_of rfl) (by omega) fun r1 => ?_
  rw [Nat.mul_one, ← u8s_take] at r1
  refine i_call2 (by exact sel_of rfl) (by first | exact sel_of rfl | exact const_of) (w_contains r1 (by rw [List.length_take]; omega) n (by rw [List.length_take]; omega)) ?_
  rintro _ _ ⟨rfl, rfl⟩
  cases h3 : (l.take ((4 - k % 4) % 4)).any (· ≠ 0) with
  | true =>
    rw [if_pos h3] at he
    cases he
    refine gg ?_
    exact ⟨KeepsB.refl _ _, rfl, hr0, rfl⟩
  | false =>
    rw [if_neg (by rw [h3]; simp)] at he
    cases he
    refine gg ?_
    refine i_load1 (by exact sel_of rfl) (load1_own hg) ?_
    refine gg ?_
    refine i_sl_lo (by exact sel_of rfl) hrow hc (by exact sel_of rfl) (by omega) fun o2 hn2 r2 => ?_
    refine gg ?_
    refine i_store1 (v := .slice o2 (l.length - (4 - k % 4) % 4) (c - (4 - k % 4) % 4)) (by exact sel_of rfl) (by rw [sel_of rfl]; rfl) hg (Nat.lt_succ_self 0) ?_
    have kb : KeepsB b h (h.put b (.cells e [.slice o2 (l.length - (4 - k % 4) % 4) (c - (4 - k % 4) % 4)] (.own false))) := ⟨Nat.le_refl _, fun d _ hd => by rw [Heap.get_put, if_neg hd]⟩
    have hl2 : (l.drop ((4 - k % 4) % 4)).length = l.length - (4 - k % 4) % 4 := by rw [List.length_drop]
    rw [Nat.mul_one, ← u8s_drop] at r2
    refine gg ?_
    refine ⟨kb, rfl, ⟨e, o2, c - (4 - k % 4) % 4, hb, ?_, ?_, ?_, hbel.of hn2⟩, rfl⟩
    · rw [Heap.get_put, if_pos rfl, hl2]; rfl
    · rw [hl2]; exact r2.keepsB kb (hoff.of hn2)
    · rw [hl2]; omega
end Go.Proofs.Ytdcllpjoejkpnaa

/-! What reads a chunk's fields, walked: numbers, errors. -/
set_option linter.unusedVariables false
namespace Vm
open Go
/-- what was there is as it was, but for some blocks -/
structure KeepsP (p : Nat → Prop) (h h' : Heap) : Prop where
  next : h.next ≤ h'.next
  get : ∀ d, d < h.next → ¬p d → h'.get d = h.get d
theorem KeepsP.refl (p : Nat → Prop) (h : Heap) : KeepsP p h h := ⟨Nat.le_refl _, fun _ _ _ => rfl⟩
theorem KeepsP.trans {p : Nat → Prop} {h h' h'' : Heap} (k : KeepsP p h h') (k' : KeepsP p h' h'') : KeepsP p h h'' := ⟨Nat.le_trans k.next k'.next, fun d hd hp => (k'.get d (Nat.lt_of_lt_of_le hd k.next) hp).trans (k.get d hd hp)⟩
theorem KeepsP.mono {p q : Nat → Prop} {h h' : Heap} (k : KeepsP p h h') (hq : ∀ d, p d → q d) : KeepsP q h h' := ⟨k.next, fun d hd hp => k.get d hd fun hn => hp (hq d hn)⟩
theorem Keeps.toP {h h' : Heap} (k : Keeps h h') (p : Nat → Prop) : KeepsP p h h' := ⟨k.next, fun d hd _ => k.get d hd⟩
theorem KeepsB.toP {b : Nat} {h h' : Heap} (k : KeepsB b h h') {p : Nat → Prop} (hp : p b) : KeepsP p h h' := ⟨k.next, fun d hd hn => k.get d hd fun e => hn (by rw [e]; exact hp)⟩
theorem KeepsP.keeps {p : Nat → Prop} {h0 h h' : Heap} (k : KeepsP p h h') (k0 : Keeps h0 h) (hp : ∀ d, d < h0.next → ¬p d) : Keeps h0 h' := ⟨Nat.le_trans k0.next k.next, fun d hd => (k.get d (Nat.lt_of_lt_of_le hd k0.next) (hp d hd)).trans (k0.get d hd)⟩
end Vm
namespace Go.Proofs.Ytdcllpjoejkpnaa
open Go Vm
theorem _root_.Vm.KeepsP.row {p : Nat → Prop} {h h' : Heap} (k : KeepsP p h h') {sz n : Nat} {o : Option Addr} {cs : List Value} (r : Row h sz o n cs) (ho : ∀ q, o = some q → ¬p q.block) : Row h' sz o n cs :=
  row_low r k.next fun q e => by subst e; exact k.get _ r.2.1 (ho q rfl)
theorem _root_.Vm.KeepsP.ap {p : Nat → Prop} {h h' : Heap} (k : KeepsP p h h') {B e sz n c : Nat} {o : Option Addr} {cs : List Value} (a : Ap B h e sz o n c cs) (ho : ∀ q, o = some q → ¬p q.block) : Ap B h' e sz o n c cs := by
  obtain ⟨rfl, r, ha⟩ := a
  refine ⟨rfl, k.row r ho, fun q e' => ?_⟩
  rcases ha q e' with h1 | ⟨j, h1, h2, h3⟩
  · exact .inl h1
  · refine .inr ⟨j, h1, h2, ?_⟩
    subst e' h1
    rw [k.get j r.2.1 (ho _ rfl)]; exact h3
theorem rd_putNL {F : Nat} {h : Heap} {b c e : Nat} {cs cs' : List Value} {op : Bool} {l : List UInt8} (r : RdF F h b l) (hg : h.get c = some (.cells e cs (.own op))) (hv : ∀ v ∈ cs, ∀ n, v ≠ .int .u8 n) (hl : cs'.length = cs.length) (hbc : b ≠ c) : RdF F (h.put c (.cells e cs' (.own op))) b l := by
  obtain ⟨e', o, c', hb, hg', hrow, hc', hbel⟩ := r
  exact ⟨e', o, c', hb, by rw [Heap.get_put, if_neg hbc]; exact hg', row_putNL hrow hg hv hl, hc', hbel⟩
theorem sv_ptr (a : Addr) : sameV (.pointer (some a)) (.pointer (some a)) = true := by
  show (bif eqA a a then a.spot == a.spot else false) = true
  simp [eqA_self]
/-- a reader of fields: what is left, and its error -/
structure Rr (F : Nat) (h : Heap) (R b : Nat) (s : RS) : Prop where
  lt : R < h.next
  g : h.get R = some (.cells 106 [.pointer (some ⟨b, 0, none⟩), .int .i64 (s.2 : Int)] (.own false))
  rd : RdF F h b s.1
  ne : b ≠ R
theorem Rr.ltb {F : Nat} {h : Heap} {R b : Nat} {s : RS} (r : Rr F h R b s) : b < h.next := by obtain ⟨e, o, c, hb, _⟩ := r.rd; exact hb
theorem Rr.low {F : Nat} {h h' : Heap} {R b : Nat} {s : RS} (r : Rr F h R b s) {p : Nat → Prop} (k : KeepsP p h h') (hR : ¬p R) (hbb : ¬p b) (hb : ∀ d, F ≤ d → d < b → ¬p d) : Rr F h' R b s := by
  have hbl := r.ltb
  exact ⟨Nat.lt_of_lt_of_le r.lt k.next, (k.get R r.lt hR).trans r.g, r.rd.low k.next (k.get b hbl hbb) (fun d h1 h2 => k.get d (by omega) (hb d h1 h2)), r.ne⟩
theorem Rr.keeps {F : Nat} {h h' : Heap} {R b : Nat} {s : RS} (r : Rr F h R b s) (k : Keeps h h') : Rr F h' R b s := r.low (k.toP fun _ => False) (fun h => h) (fun h => h) (fun _ _ _ h => h)
theorem Rr.store {F : Nat} {h : Heap} {R b : Nat} {s : RS} (r : Rr F h R b s) (e : Nat) : Rr F (h.put R (.cells 106 [.pointer (some ⟨b, 0, none⟩), .int .i64 (e : Int)] (.own false))) R b (s.1, e) :=
  ⟨r.lt, by rw [Heap.get_put, if_pos rfl], rd_putNL r.rd r.g (fun v hv n => by simp only [List.mem_cons, List.not_mem_nil, or_false] at hv; rcases hv with rfl | rfl <;> (intro h; cases h)) rfl r.ne, r.ne⟩
def see (e : Nat) (s : RS) : RS := if s.2 = 0 then (s.1, e) else s
def SeeQ (F : Nat) (h : Heap) (R b : Nat) (s : RS) (v : Value) (h' : Heap) : Prop := KeepsB R h h' ∧ h'.next = h.next ∧ Rr F h' R b s ∧ v = .bool (decide (s.2 = 0))
theorem w_see {F : Nat} {h : Heap} {R b : Nat} {s : RS} (r : Rr F h R b s) (e : Nat) (n : Nat) (hn : 1 ≤ n) :
    ResQ (callN Try.prog G0 n (.call 97 [.pointer (some ⟨R, 0, none⟩), .int .i64 (e : Int)]) h) (SeeQ F h R b (see e s)) := by
  have g := r.g
  obtain ⟨n, rfl⟩ : ∃ m, n = m + 1 := ⟨n - 1, by omega⟩
  refine res_enter rfl d97 rfl ?_; simp only [c97]
  refine gg ?_; repeat (refine i_ldown (by exact sel_of rfl) (by assumption) (by rfl) ?_; refine gg ?_)
  by_cases hs : s.2 = 0
  · rw [decide_eq_true (p := ((s.2 : Nat) : Int) = 0) (by omega)]
    refine gg ?_; repeat (refine i_ldown (by exact sel_of rfl) (by assumption) (by rfl) ?_; refine gg ?_)
    refine i_store1 (u := ⟨R, 1, none⟩) (v := .int .i64 (e : Int)) (by exact sel_of rfl) (by rfl) g (by exact (by decide : 1 < 2)) ?_
    have r2 := r.store e
    have k2 : KeepsB R h (h.put R (.cells 106 [.pointer (some ⟨b, 0, none⟩), .int .i64 (e : Int)] (.own false))) := ⟨Nat.le_refl _, fun d _ hd => by rw [Heap.get_put, if_neg hd]⟩
    show ItQ (runItems _ _ _ (h.put R (.cells 106 [.pointer (some ⟨b, 0, none⟩), .int .i64 (e : Int)] (.own false)))) _
    have n2 : (h.put R (.cells 106 [.pointer (some ⟨b, 0, none⟩), .int .i64 (e : Int)] (.own false))).next = h.next := rfl
    generalize h.put R (.cells 106 [.pointer (some ⟨b, 0, none⟩), .int .i64 (e : Int)] (.own false)) = h2 at *
    have g2 := r2.g
    refine gg ?_; repeat (refine i_ldown (by exact sel_of rfl) (by assumption) (by rfl) ?_; refine gg ?_)
    have e1 : see e s = (s.1, e) := if_pos hs
    rw [e1]
    refine ⟨k2, n2, r2, congrArg Value.bool ?_⟩
    rw [decide_eq_decide]
    show ((e : Nat) : Int) = 0 ↔ e = 0
    omega
  · rw [decide_eq_false (p := ((s.2 : Nat) : Int) = 0) (by omega)]
    refine gg ?_; repeat (refine i_ldown (by exact sel_of rfl) (by assumption) (by rfl) ?_; refine gg ?_)
    have e1 : see e s = s := if_neg hs
    rw [e1]
    refine ⟨KeepsB.refl _ _, rfl, r, congrArg Value.bool ?_⟩
    rw [decide_eq_decide]
    omega
theorem w_need {F : Nat} {h : Heap} {R b : Nat} {s : RS} (r : Rr F h R b s) {φ : Prop} [Decidable φ] (e : Nat) (n : Nat) (hn : 2 ≤ n) :
    ResQ (callN Try.prog G0 n (.call 88 [.pointer (some ⟨R, 0, none⟩), .bool (decide φ), .int .i64 (e : Int)]) h) (SeeQ F h R b (need φ e s)) := by
  have e1 : need φ e s = if φ then see 0 s else see e s := by
    unfold need see
    by_cases h1 : φ <;> by_cases h2 : s.2 = 0 <;> simp [h1, h2]
    exact Prod.ext rfl h2
  rw [e1]
  obtain ⟨n, rfl⟩ : ∃ m, n = m + 1 := ⟨n - 1, by omega⟩
  refine res_enter rfl d88 rfl ?_; simp only [c88]
  refine gg ?_
  refine out_if (by exact sel_of rfl) (fun hif => ?_) (fun hif => ?_)
  · rw [if_pos hif]
    refine gg ?_
    refine i_call2 (by exact sel_of rfl) (by exact sel_of rfl) (w_see r 0 n (by omega)) ?_
    rintro v h1 ⟨k, nx, r1, rfl⟩
    refine gg ?_
    exact ⟨k, nx, r1, rfl⟩
  · rw [if_neg hif]
    refine gg ?_
    refine i_call2 (by exact sel_of rfl) (by exact sel_of rfl) (w_see r e n (by omega)) ?_
    rintro v h1 ⟨k, nx, r1, rfl⟩
    refine gg ?_
    exact ⟨k, nx, r1, rfl⟩
def P2 (R b : Nat) (d : Nat) : Prop := d = R ∨ d = b
def NumQ (F : Nat) (h : Heap) (R b : Nat) (k : IntKind) (x : Nat × RS) (v : Value) (h' : Heap) : Prop := KeepsP (P2 R b) h h' ∧ h'.next = h.next ∧ Rr F h' R b x.2 ∧ v = .int k (x.1 : Int)
theorem w_half {F : Nat} {h : Heap} {R b : Nat} {s : RS} (r : Rr F h R b s) (n : Nat) (hn : 5 ≤ n) :
    ResQ (callN Try.prog G0 n (.call 87 [.pointer (some ⟨R, 0, none⟩)]) h) (NumQ F h R b .u16 (rn 2 s)) := by
  have g := r.g
  obtain ⟨n, rfl⟩ : ∃ m, n = m + 1 := ⟨n - 1, by omega⟩
  refine res_enter rfl d87 rfl ?_; simp only [c87]
  refine gg ?_; repeat (refine i_ldown (by exact sel_of rfl) (by assumption) (by rfl) ?_; refine gg ?_)
  by_cases hs : s.2 = 0
  case neg =>
    rw [decide_eq_true (p := ((s.2 : Nat) : Int) ≠ 0) (by omega)]
    refine gg ?_; repeat (refine i_ldown (by exact sel_of rfl) (by assumption) (by rfl) ?_; refine gg ?_)
    rw [rn, if_neg hs]
    exact ⟨KeepsP.refl _ _, rfl, r, rfl⟩
  rw [decide_eq_false (p := ((s.2 : Nat) : Int) ≠ 0) (by omega)]
  refine gg ?_; repeat (refine i_ldown (by exact sel_of rfl) (by assumption) (by rfl) ?_; refine gg ?_)
  rcases hg : getR s.1 2 with ⟨x, l, en⟩
  refine i_call1 (by exact sel_of rfl) (w_get16F r.rd hg n (by omega)) ?_
  rintro _ h1 ⟨kb, nx, rd1, rfl⟩
  have r1 : Rr F h1 R b (l, 0) := ⟨by rw [nx]; exact r.lt, (kb.get R r.lt (fun e => r.ne e.symm)).trans (by rw [g, hs]), rd1, r.ne⟩
  refine gg ?_; repeat (refine i_ldown (by exact sel_of rfl) (by assumption) (by rfl) ?_; refine gg ?_)
  refine i_call2 (by exact sel_of rfl) (by exact sel_of rfl) (w_see r1 en n (by omega)) ?_
  rintro _ h2 ⟨k2, nx2, r2, rfl⟩
  refine gg ?_; repeat (refine i_ldown (by exact sel_of rfl) (by assumption) (by rfl) ?_; refine gg ?_)
  have e1 : rn 2 s = (x, (l, en)) := by rw [rn, if_pos hs, hg]
  rw [e1]
  exact ⟨(kb.toP (.inr rfl)).trans (k2.toP (.inl rfl)), nx2.trans nx, r2, rfl⟩
theorem w_number {F : Nat} {h : Heap} {R b : Nat} {s : RS} (r : Rr F h R b s) (n : Nat) (hn : 5 ≤ n) :
    ResQ (callN Try.prog G0 n (.call 89 [.pointer (some ⟨R, 0, none⟩)]) h) (NumQ F h R b .u32 (rn 4 s)) := by
  have g := r.g
  obtain ⟨n, rfl⟩ : ∃ m, n = m + 1 := ⟨n - 1, by omega⟩
  refine res_enter rfl d89 rfl ?_; simp only [c89]
  refine gg ?_; repeat (refine i_ldown (by exact sel_of rfl) (by assumption) (by rfl) ?_; refine gg ?_)
  by_cases hs : s.2 = 0
  case neg =>
    rw [decide_eq_true (p := ((s.2 : Nat) : Int) ≠ 0) (by omega)]
    refine gg ?_; repeat (refine i_ldown (by exact sel_of rfl) (by assumption) (by rfl) ?_; refine gg ?_)
    rw [rn, if_neg hs]
    exact ⟨KeepsP.refl _ _, rfl, r, rfl⟩
  rw [decide_eq_false (p := ((s.2 : Nat) : Int) ≠ 0) (by omega)]
  refine gg ?_; repeat (refine i_ldown (by exact sel_of rfl) (by assumption) (by rfl) ?_; refine gg ?_)
  rcases hg : getR s.1 4 with ⟨x, l, en⟩
  refine i_call1 (by exact sel_of rfl) (w_get32F r.rd hg n (by omega)) ?_
  rintro _ h1 ⟨kb, nx, rd1, rfl⟩
  have r1 : Rr F h1 R b (l, 0) := ⟨by rw [nx]; exact r.lt, (kb.get R r.lt (fun e => r.ne e.symm)).trans (by rw [g, hs]), rd1, r.ne⟩
  refine gg ?_; repeat (refine i_ldown (by exact sel_of rfl) (by assumption) (by rfl) ?_; refine gg ?_)
  refine i_call2 (by exact sel_of rfl) (by exact sel_of rfl) (w_see r1 en n (by omega)) ?_
  rintro _ h2 ⟨k2, nx2, r2, rfl⟩
  refine gg ?_; repeat (refine i_ldown (by exact sel_of rfl) (by assumption) (by rfl) ?_; refine gg ?_)
  have e1 : rn 4 s = (x, (l, en)) := by rw [rn, if_pos hs, hg]
  rw [e1]
  exact ⟨(kb.toP (.inr rfl)).trans (k2.toP (.inl rfl)), nx2.trans nx, r2, rfl⟩
theorem w_rest {F : Nat} {h : Heap} {R b : Nat} {s : RS} (r : Rr F h R b s) (hlen : s.1.length ≤ 1000000) (n : Nat) (hn : 5 ≤ n) :
    ResQ (callN Try.prog G0 n (.call 98 [.pointer (some ⟨R, 0, none⟩)]) h) (fun v h' => KeepsP (P2 R b) h h' ∧ Rr F h' R b ([], s.2) ∧ ∃ o, v = .slice o s.1.length s.1.length ∧ Row h' 1 o s.1.length (u8s s.1) ∧ ∀ q, o = some q → h.next ≤ q.block) := by
  have g := r.g
  obtain ⟨n, rfl⟩ : ∃ m, n = m + 1 := ⟨n - 1, by omega⟩
  refine res_enter rfl d98 rfl ?_; simp only [c98]
  refine gg ?_; repeat (refine i_ldown (by exact sel_of rfl) (by assumption) (by rfl) ?_; refine gg ?_)
  refine i_call1 (by exact sel_of rfl) (w_leftF r.rd n (by omega)) ?_
  rintro _ _ ⟨rfl, rfl⟩
  refine gg ?_; repeat (refine i_ldown (by exact sel_of rfl) (by assumption) (by rfl) ?_; refine gg ?_)
  have et : takeR s.1 (s.1.length : Int) = (s.1, [], 0) := by
    rw [takeR_nat, if_neg (by omega), List.take_length, List.drop_length]
  refine i_call2 (by exact sel_of rfl) (by exact sel_of rfl) (w_bytesF r.rd hlen _ et n (by omega)) ?_
  rintro _ h1 ⟨kb, rd1, o1, rfl, a1, fr⟩
  have g1 : h1.get R = _ := (kb.get R r.lt (fun e => r.ne e.symm)).trans g
  refine gg ?_; repeat (refine i_ldown (by exact sel_of rfl) (by assumption) (by rfl) ?_; refine gg ?_)
  refine ⟨chk_cons rfl (ldO (by exact sel_of rfl) g (by rfl)) (sv_ptr _) (fun m hm => by
    simp only [List.mem_cons, List.not_mem_nil, or_false] at hm
    rcases hm with rfl | rfl
    · exact ⟨_, _, rfl, ldO (by exact sel_of rfl) g (by rfl)⟩
    · exact ⟨_, _, rfl, ldO (by exact sel_of rfl) g (by rfl)⟩) chk_nil, ?_⟩
  refine gg ?_; repeat (refine i_ldown (by exact sel_of rfl) (by assumption) (by rfl) ?_; refine gg ?_)
  exact ⟨kb.toP (.inr rfl), ⟨Nat.lt_of_lt_of_le r.lt kb.next, g1, rd1, r.ne⟩, o1, rfl, a1.row, fr⟩
end Go.Proofs.Ytdcllpjoejkpnaa

/-! What reads a chunk's lists, walked. -/
set_option linter.unusedVariables false
namespace Go.Proofs.Ytdcllpjoejkpnaa
open Go Vm
def P3 (R b C : Nat) (d : Nat) : Prop := d = R ∨ d = b ∨ d = C
theorem P2.P3 {R b C d : Nat} (h : P2 R b d) : P3 R b C d := by rcases h with h | h; exact .inl h; exact .inr (.inl h)
/-- where a chunk that is read lies, with its reader -/
structure At (F : Nat) (h : Heap) (R b C : Nat) (v : List Value) : Prop where
  lt : C < h.next
  g : h.get C = some (.cells 33 v (.own false))
  len : v.length = 12
  nR : C ≠ R
  nb : b ≠ C
  nF : C < F
theorem At.keep {F : Nat} {h h' : Heap} {R b C : Nat} {v : List Value} (a : At F h R b C v) (k : KeepsP (P2 R b) h h') : At F h' R b C v :=
  ⟨Nat.lt_of_lt_of_le a.lt k.next, (k.get C a.lt (by have := a.nR; have := a.nb; unfold P2; omega)).trans a.g, a.len, a.nR, a.nb, a.nF⟩
theorem At.new {F : Nat} {h h' : Heap} {R b C : Nat} {v : List Value} (a : At F h R b C v) (k : Keeps h h') : At F h' R b C v :=
  ⟨Nat.lt_of_lt_of_le a.lt k.next, (k.get C a.lt).trans a.g, a.len, a.nR, a.nb, a.nF⟩
/-- a chunk's cell is set, behind what keeps all else -/
theorem At.set {F : Nat} {h h' : Heap} {R b C off : Nat} {v : List Value} {x : Value} (a : At F h R b C v) (k : KeepsB C h h') (hn : h'.next = h.next) (hg : h'.get C = some (.cells 33 (v.set off x) (.own false))) : At F h' R b C (v.set off x) :=
  ⟨by rw [hn]; exact a.lt, hg, by rw [List.length_set]; exact a.len, a.nR, a.nb, a.nF⟩
theorem Rr.keepC {F : Nat} {h h' : Heap} {R b C : Nat} {s : RS} (r : Rr F h R b s) (k : KeepsB C h h') (hR : C ≠ R) (hb : b ≠ C) (hF : C < F) : Rr F h' R b s :=
  r.low (k.toP (p := fun d => d = C) rfl) (fun e => hR e.symm) hb (fun d hd _ e => by omega)
set_option maxHeartbeats 2000000 in
/-- octets of a chunk -/
theorem w_data {F : Nat} {h : Heap} {R b C : Nat} {s : RS} {v : List Value} {k : Nat} (r : Rr F h R b s) (a : At F h R b C v) (h0 : v[0]? = some (.int .u8 (k : Int))) (h11 : v[11]? = some (.slice none 0 0)) (hlen : s.1.length ≤ 1000000) (n : Nat) (hn : 10 ≤ n) :
    ResQ (callN Try.prog G0 n (.call 90 [.pointer (some ⟨R, 0, none⟩), .pointer (some ⟨C, 0, none⟩)]) h) (fun _ h' => KeepsP (P3 R b C) h h' ∧ Rr F h' R b (rdDa k s).2 ∧
      ∃ o, At F h' R b C (v.set 11 (.slice o (rdDa k s).1.length (rdDa k s).1.length)) ∧ Row h' 1 o (rdDa k s).1.length (u8s (rdDa k s).1) ∧ ∀ q, o = some q → h.next ≤ q.block) := by
  have g := r.g
  have ga := a.g
  have same : v.set 11 (.slice none 0 0) = v := by
    refine List.ext_getElem? fun i => ?_
    rw [List.getElem?_set]
    split
    · rename_i hi; subst hi; rw [if_pos (by rw [a.len]; decide), h11]
    · rfl
  obtain ⟨n, rfl⟩ : ∃ m, n = m + 1 := ⟨n - 1, by omega⟩
  refine res_enter rfl d90 rfl ?_; simp only [c90]
  refine gg ?_; repeat (refine i_ldown (by exact sel_of rfl) (by assumption) (by rfl) ?_; refine gg ?_)
  refine i_call1 (by exact sel_of rfl) (w_leftF r.rd n (by omega)) ?_
  rintro _ _ ⟨rfl, rfl⟩
  refine gg ?_; repeat (refine i_ldown (by exact sel_of rfl) (by assumption) (by rfl) ?_; refine gg ?_)
  refine i_call3 (by exact sel_of rfl) (by exact sel_of rfl) (by first | exact sel_of rfl | exact const_of) (w_need (φ := (s.1.length : Int) ≤ 1200) r 10 n (by omega)) ?_
  rintro _ h1 ⟨k1, nx1, r1, rfl⟩
  have a1 : At F h1 R b C v := a.keep (k1.toP (.inl rfl))
  have hne : need ((s.1.length : Int) ≤ 1200) 10 s = if s.2 = 0 ∧ 1200 < s.1.length then (s.1, 10) else s := by
    unfold need
    by_cases h1 : s.2 = 0 <;> by_cases h2 : 1200 < s.1.length
    · rw [if_pos ⟨h1, by omega⟩, if_pos ⟨h1, h2⟩]
    · rw [if_neg (by omega), if_neg (by omega)]
    · rw [if_neg (by omega), if_neg (by omega)]
    · rw [if_neg (by omega), if_neg (by omega)]
  rw [hne] at r1 ⊢
  by_cases hs : s.2 = 0
  case neg =>
    rw [if_neg (fun e => hs e.1)] at r1 ⊢
    rw [decide_eq_false hs]
    refine gg ?_; repeat (refine i_ldown (by exact sel_of rfl) (by assumption) (by rfl) ?_; refine gg ?_)
    rw [rdDa, if_neg hs]
    exact ⟨k1.toP (.inl rfl), r1, none, by rw [show v.set 11 (.slice none ([] : List UInt8).length ([] : List UInt8).length) = v from same]; exact a1, Row.nil _ _, fun q e => by cases e⟩
  by_cases hl : 1200 < s.1.length
  · rw [if_pos ⟨hs, hl⟩] at r1 ⊢
    rw [decide_eq_false (show ¬((s.1, 10) : RS).2 = 0 from fun e => by cases e)]
    refine gg ?_; repeat (refine i_ldown (by exact sel_of rfl) (by assumption) (by rfl) ?_; refine gg ?_)
    rw [rdDa, if_pos hs, if_pos hl]
    exact ⟨k1.toP (.inl rfl), r1, none, by rw [show v.set 11 (.slice none ([] : List UInt8).length ([] : List UInt8).length) = v from same]; exact a1, Row.nil _ _, fun q e => by cases e⟩
  rw [if_neg (fun e => hl e.2)] at r1 ⊢
  rw [decide_eq_true hs]
  have g1 := r1.g
  have ga1 := a1.g
  refine gg ?_; repeat (refine i_ldown (by exact sel_of rfl) (by assumption) (by rfl) ?_; refine gg ?_)
  refine i_ldown (by exact sel_of rfl) ga1 h0 ?_
  refine gg ?_; repeat (refine i_ldown (by exact sel_of rfl) (by assumption) (by rfl) ?_; refine gg ?_)
  by_cases hk : k = 0
  case' pos =>
    rw [decide_eq_false (p := ((k : Nat) : Int) ≠ 0) (by omega)]
    refine gg ?_; repeat (refine i_ldown (by exact sel_of rfl) (by assumption) (by rfl) ?_; refine gg ?_)
    refine i_call1 (by exact sel_of rfl) (w_leftF r1.rd n (by omega)) ?_
    rintro _ _ ⟨rfl, rfl⟩
    refine gg ?_; repeat (refine i_ldown (by exact sel_of rfl) (by assumption) (by rfl) ?_; refine gg ?_)
    refine i_call3 (by exact sel_of rfl) (by exact sel_of rfl) (by first | exact sel_of rfl | exact const_of) (w_need (φ := (0 : Int) < (s.1.length : Int)) r1 3 n (by omega)) ?_
  case' neg =>
    rw [decide_eq_true (p := ((k : Nat) : Int) ≠ 0) (by omega)]
    refine gg ?_; repeat (refine i_ldown (by exact sel_of rfl) (by assumption) (by rfl) ?_; refine gg ?_)
    refine i_call3 (by exact sel_of rfl) (by exact sel_of rfl) (by first | exact sel_of rfl | exact const_of) (w_need (φ := (True : Prop)) r1 3 n (by omega)) ?_
  all_goals
    rintro _ h2 ⟨k2, nx2, r2, rfl⟩
    have a2 : At F h2 R b C v := a1.keep (k2.toP (.inl rfl))
    have k12 : KeepsP (P3 R b C) h h2 := (k1.toP (.inl rfl)).trans (k2.toP (.inl rfl))
  case pos =>
    by_cases hz : s.1 = []
    · have e2 : need ((0 : Int) < (s.1.length : Int)) 3 s = (s.1, 3) := by
        unfold need; rw [if_pos ⟨hs, by rw [hz]; decide⟩]
      rw [e2] at r2 ⊢
      rw [decide_eq_false (show ¬((s.1, 3) : RS).2 = 0 from fun e => by cases e)]
      refine gg ?_; repeat (refine i_ldown (by exact sel_of rfl) (by assumption) (by rfl) ?_; refine gg ?_)
      rw [rdDa, if_pos hs, if_neg hl, if_pos ⟨hk, hz⟩]
      exact ⟨k12, r2, none, by rw [show v.set 11 (.slice none ([] : List UInt8).length ([] : List UInt8).length) = v from same]; exact a2, Row.nil _ _, fun q e => by cases e⟩
    have hpos : 0 < s.1.length := List.length_pos_iff.2 hz
    have e2 : need ((0 : Int) < (s.1.length : Int)) 3 s = s := by
      unfold need; rw [if_neg (by omega)]
    rw [e2] at r2 ⊢
    rw [decide_eq_true hs]
    refine gg ?_; repeat (refine i_ldown (by exact sel_of rfl) (by assumption) (by rfl) ?_; refine gg ?_)
    refine i_call1 (by exact sel_of rfl) (w_rest r2 hlen n (by omega)) ?_
    rintro _ h3 ⟨k3, r3, o, rfl, row, fr⟩
    have a3 := a2.keep k3
    refine gg ?_; repeat (refine i_ldown (by exact sel_of rfl) (by assumption) (by rfl) ?_; refine gg ?_)
    refine i_stB (by exact sel_of rfl) (by rfl) a3.g (by rw [a3.len]; exact (by decide : 11 < 12)) fun h4 kb4 nx4 g4 => ?_
    refine gg ?_; repeat (refine i_ldown (by exact sel_of rfl) (by assumption) (by rfl) ?_; refine gg ?_)
    rw [rdDa, if_pos hs, if_neg hl, if_neg (fun e => hz e.2)]
    rw [hs] at r3
    have hC := a3.lt
    have : ∀ q, o = some q → h.next ≤ q.block := fun q e => by have := fr q e; omega
    exact ⟨k12.trans ((k3.mono fun d => P2.P3).trans (kb4.toP (.inr (.inr rfl)))), r3.keepC kb4 a.nR a.nb a.nF, o, a3.set kb4 nx4 g4, (kb4.toP (p := fun d => d = C) rfl).row row (fun q e he => by have := this q e; have := a.lt; omega), this⟩
  case neg =>
    have e2 : need (True : Prop) 3 s = s := need_ok _ _ trivial
    rw [e2] at r2 ⊢
    rw [decide_eq_true hs]
    refine gg ?_; repeat (refine i_ldown (by exact sel_of rfl) (by assumption) (by rfl) ?_; refine gg ?_)
    refine i_call1 (by exact sel_of rfl) (w_rest r2 hlen n (by omega)) ?_
    rintro _ h3 ⟨k3, r3, o, rfl, row, fr⟩
    have a3 := a2.keep k3
    refine gg ?_; repeat (refine i_ldown (by exact sel_of rfl) (by assumption) (by rfl) ?_; refine gg ?_)
    refine i_stB (by exact sel_of rfl) (by rfl) a3.g (by rw [a3.len]; exact (by decide : 11 < 12)) fun h4 kb4 nx4 g4 => ?_
    refine gg ?_; repeat (refine i_ldown (by exact sel_of rfl) (by assumption) (by rfl) ?_; refine gg ?_)
    rw [rdDa, if_pos hs, if_neg hl, if_neg (fun e => hk e.1)]
    rw [hs] at r3
    have : ∀ q, o = some q → h.next ≤ q.block := fun q e => by have := fr q e; omega
    exact ⟨k12.trans ((k3.mono fun d => P2.P3).trans (kb4.toP (.inr (.inr rfl)))), r3.keepC kb4 a.nR a.nb a.nF, o, a3.set kb4 nx4 g4, (kb4.toP (p := fun d => d = C) rfl).row row (fun q e he => by have := this q e; have := a.lt; omega), this⟩
end Go.Proofs.Ytdcllpjoejkpnaa

