/- Part of a proof by an abstract run of the program's code: UTlvA. No condition. -/
import Derived.Test.YtdcllpjoejkpnaaUOct
import Derived.Test.YtdcllpjoejkpnaaPar
/-! Layer 1's reader, walked in the abstract run. -/
set_option linter.unusedVariables false
namespace Vm
open Go
/-- what was there is as it was, but for one block -/
structure KeepsB (b : Nat) (h h' : Heap) : Prop where
  next : h.next ≤ h'.next
  get : ∀ c, c < h.next → c ≠ b → h'.get c = h.get c
theorem Keeps.but {h h' : Heap} (k : Keeps h h') (b : Nat) : KeepsB b h h' := ⟨k.next, fun c hc _ => k.get c hc⟩
theorem KeepsB.refl (b : Nat) (h : Heap) : KeepsB b h h := ⟨Nat.le_refl _, fun _ _ _ => rfl⟩
theorem KeepsB.trans {b : Nat} {h h' h'' : Heap} (k : KeepsB b h h') (k' : KeepsB b h' h'') : KeepsB b h h'' := ⟨Nat.le_trans k.next k'.next, fun c hc hb => (k'.get c (Nat.lt_of_lt_of_le hc k.next) hb).trans (k.get c hc hb)⟩
theorem KeepsB.new {b : Nat} {h0 h h' : Heap} (k : KeepsB b h h') (hb : h0.next ≤ b) (k0 : Keeps h0 h) : Keeps h0 h' := ⟨Nat.le_trans k0.next k.next, fun c hc => (k.get c (Nat.lt_of_lt_of_le hc k0.next) (by omega)).trans (k0.get c hc)⟩
/-- a row lies elsewhere -/
def Off (b : Nat) (o : Option Addr) : Prop := ∀ q, o = some q → q.block ≠ b
theorem Off.none (b : Nat) : Off b none := fun q e => by cases e
theorem Row.keepsB {h h' : Heap} {sz n b : Nat} {o : Option Addr} {cs : List Value} (r : Row h sz o n cs) (k : KeepsB b h h') (ho : Off b o) : Row h' sz o n cs := by
  obtain ⟨h1, h2⟩ := r
  refine ⟨h1, ?_⟩
  cases o with
  | none => exact h2
  | some q =>
    refine ⟨Nat.lt_of_lt_of_le h2.1 k.next, h2.2.1, ?_⟩
    have := h2.2.2
    unfold loadN at this ⊢
    rw [k.get _ h2.1 (ho q rfl)]
    exact this
theorem Off.of {b : Nat} {o o' : Option Addr} (ho : Off b o) (h : ∀ q', o' = some q' → ∃ q, o = some q ∧ q'.block = q.block) : Off b o' := fun q' e => by
  obtain ⟨q, h1, h2⟩ := h q' e
  rw [h2]; exact ho q h1
theorem Row.off {h : Heap} {sz n : Nat} {o : Option Addr} {cs : List Value} (r : Row h sz o n cs) {b : Nat} (hb : h.next ≤ b) : Off b o := fun q e => by
  subst e
  have := r.2.1
  omega
/-- a reader: what is left in it -/
def Bel (b : Nat) (o : Option Addr) : Prop := ∀ q, o = some q → q.block < b
theorem Bel.off {b : Nat} {o : Option Addr} (h : Bel b o) : Off b o := fun q e => Nat.ne_of_lt (h q e)
theorem Bel.of {b : Nat} {o o' : Option Addr} (ho : Bel b o) (h : ∀ q', o' = some q' → ∃ q, o = some q ∧ q'.block = q.block) : Bel b o' := fun q' e => by
  obtain ⟨q, e1, e2⟩ := h q' e
  rw [e2]; exact ho q e1
theorem Row.bel {h : Heap} {sz n : Nat} {o : Option Addr} {cs : List Value} (r : Row h sz o n cs) {b : Nat} (hb : h.next ≤ b) : Bel b o := fun q e => by
  subst e; exact Nat.lt_of_lt_of_le r.2.1 hb
def Rd (h : Heap) (b : Nat) (l : List UInt8) : Prop := ∃ e o c, b < h.next ∧ h.get b = some (.cells e [.slice o l.length c] (.own false)) ∧ Row h 1 o l.length (u8s l) ∧ l.length ≤ c ∧ Bel b o
theorem Rd.keeps {h h' : Heap} {b : Nat} {l : List UInt8} (r : Rd h b l) (k : Keeps h h') : Rd h' b l := by
  obtain ⟨e, o, c, h1, h2, h3, h4, h5⟩ := r
  exact ⟨e, o, c, Nat.lt_of_lt_of_le h1 k.next, by rw [k.get b h1]; exact h2, h3.keeps k, h4, h5⟩
theorem load1_own {h : Heap} {b e off : Nat} {cs : List Value} {op : Bool} {s : Option Nat} (hg : h.get b = some (.cells e cs (.own op))) : load1 h.get ⟨b, off, s⟩ = cs[off]? := load1_of (q := ⟨b, off, s⟩) hg (by simp)
/-- a number's octets, the greatest first -/
def num (l : List UInt8) : Nat := l.foldl (fun a b => a * 256 + b.toNat) 0
theorem u8s_get (l : List UInt8) (i : Nat) : (u8s l)[i]? = (l[i]?).map fun b => Value.int .u8 ((b.toNat : Nat) : Int) := by rw [u8s_eq, List.getElem?_map]
theorem u8s_take (l : List UInt8) (k : Nat) : u8s (l.take k) = (u8s l).take k := by rw [u8s_eq, u8s_eq, List.map_take]
theorem u8s_drop (l : List UInt8) (k : Nat) : u8s (l.drop k) = (u8s l).drop k := by rw [u8s_eq, u8s_eq, List.map_drop]
/-- an octet is read -/
theorem i_byte {rec : Rec} {L : List (Nat × Value)} {f : Fr} {dt : Nat} {h : Heap} {K : Fr → Heap → Prop} {rd : Bool} {x : Sel} {ls : List ISem} {m i : Nat} {l : List UInt8} {u : Addr} {s : Option Nat} (b : UInt8) (hx : x.f (puts L f) = .pointer (some ⟨u.block, u.off + i, s⟩)) (hr : Row h 1 (some u) m (u8s l)) (hi : l[i]? = some b)
    (hq : ItQ (runItems rec ls (puts ((dt, (.int .u8 ((b.toNat : Nat) : Int))) :: L) f) h) K) : ItQ (runItems rec (iOp (put dt) (.v rd (oLoad1 x)) :: ls) (puts L f) h) K := by
  have hm : l.length = m := by simpa [u8s_length] using hr.1
  refine i_load1 hx ?_ hq
  rw [hr.cell (by have := (List.getElem?_eq_some_iff.1 hi).1; omega), u8s_get, hi]; rfl
end Vm
namespace Go.Proofs.Ytdcllpjoejkpnaa
open Go Vm
theorem w_clone {h : Heap} {o : Option Addr} {m c : Nat} {l : List UInt8} (hr : Row h 1 o m (u8s l)) (hl : l.length ≤ 1000000) (n : Nat) (hn : 1 ≤ n) :
    ResQ (callN Try.prog G0 n (.call 66 [.slice o m c]) h) (fun v h' => Keeps h h' ∧ ∃ o', v = .slice o' l.length l.length ∧ Ap h.next h' 5 1 o' l.length l.length (u8s l) ∧ ∀ q, o' = some q → h.next ≤ q.block) := by
  have hm : l.length = m := by simpa [u8s_length] using hr.1
  subst hm
  obtain ⟨n, rfl⟩ : ∃ m, n = m + 1 := ⟨n - 1, by omega⟩
  refine res_enter rfl d66 rfl ?_; simp only [c66]
  cases o with
  | none =>
    have h0 : l.length = 0 := hr.2
    have : l = [] := List.length_eq_zero_iff.1 h0
    subst this
    refine gg ?_
    exact ⟨Keeps.refl _, none, rfl, Ap.nil _ _ _ _, fun q e => by cases e⟩
  | some u =>
    refine gg ?_
    have k1 : Keeps h (h.new (.cells 5 [] (.own false))) := Keeps.new h _
    refine i_app (o := some ⟨h.next, 0, none⟩) (cs := []) k1 (by decide) (by exact sel_of rfl) ⟨rfl, Row.new (by simp) rfl (.inl rfl), fun q e => .inl (by cases e; rfl)⟩ ((hr.keeps k1).src (c := c)) (by rw [u8s_length, Nat.mul_one]) (by omega) (Nat.zero_add _) (List.nil_append _) fun o1 h1 k2 a1 fr => ?_
    refine gg ?_
    refine ⟨k2, o1, rfl, a1, fun q e => ?_⟩
    rcases fr with rfl | fr
    · cases e; exact Nat.le_refl _
    · exact fr q e
/-- what take gives: octets, what is left, an error's number -/
def takeR (l : List UInt8) (n : Int) : List UInt8 × List UInt8 × Nat := if n < 0 then ([], l, 1) else if (l.length : Int) < n then ([], l, 2) else (l.take n.toNat, l.drop n.toNat, 0)
theorem w_take {h : Heap} {b : Nat} {l : List UInt8} (hr : Rd h b l) (k : Int) {t r : List UInt8} {en : Nat} (he : takeR l k = (t, r, en)) (n : Nat) (hn : 1 ≤ n) :
    ResQ (callN Try.prog G0 n (.call 68 [.pointer (some ⟨b, 0, none⟩), .int .i64 k]) h) (fun v h' => KeepsB b h h' ∧ h'.next = h.next ∧ Rd h' b r ∧
      ∃ o', v = .tuple #[.slice o' t.length t.length, .int .i64 (en : Int)] ∧ Row h' 1 o' t.length (u8s t) ∧ Off b o') := by
  have hr0 := hr
  obtain ⟨e, o, c, hb, hg, hrow, hc, hbel⟩ := hr
  have hoff := hbel.off
  obtain ⟨n, rfl⟩ : ∃ m, n = m + 1 := ⟨n - 1, by omega⟩
  refine res_enter rfl d68 rfl ?_; simp only [c68]
  refine gg ?_
  by_cases h1 : k < 0
  · have e1 : takeR l k = ([], l, 1) := by rw [takeR, if_pos h1]
    rw [e1] at he
    cases he
    refine gg ?_
    exact ⟨KeepsB.refl _ _, rfl, hr0, none, rfl, Row.nil _ _, Off.none _⟩
  refine gg ?_
  refine i_load1 (by exact sel_of rfl) (load1_own hg) ?_
  refine gg ?_
  by_cases h2 : (l.length : Int) < k
  · have e1 : takeR l k = ([], l, 2) := by rw [takeR, if_neg h1, if_pos h2]
    rw [e1] at he
    cases he
    refine gg ?_
    exact ⟨KeepsB.refl _ _, rfl, hr0, none, rfl, Row.nil _ _, Off.none _⟩
  obtain ⟨k, rfl⟩ : ∃ j : Nat, k = (j : Int) := ⟨k.toNat, by omega⟩
  have e1 : takeR l k = (l.take k, l.drop k, 0) := by rw [takeR, if_neg h1, if_neg h2]; rfl
  rw [e1] at he
  cases he
  have hk : k ≤ l.length := by omega
  refine gg ?_
  refine i_load1 (by exact sel_of rfl) (load1_own hg) ?_
  refine gg ?_
  refine i_sl_cap (by exact sel_of rfl) hrow hc (by exact sel_of rfl) (by exact sel_of rfl) hk fun o1 hn1 hs1 r1 => ?_
  refine gg ?_
  refine i_load1 (by exact sel_of rfl) (load1_own hg) ?_
  refine gg ?_
  refine i_sl_lo (by exact sel_of rfl) hrow hc (by exact sel_of rfl) hk fun o2 hn2 r2 => ?_
  refine gg ?_
  refine i_store1 (v := .slice o2 (l.length - k) (c - k)) (by exact sel_of rfl) (by rw [sel_of rfl]; rfl) hg (Nat.lt_succ_self 0) ?_
  refine gg ?_
  have kb : KeepsB b h (h.put b (.cells e [.slice o2 (l.length - k) (c - k)] (.own false))) := ⟨Nat.le_refl _, fun d _ hd => by rw [Heap.get_put, if_neg hd]⟩
  have hl1 : (l.take k).length = k := by rw [List.length_take]; omega
  have hl2 : (l.drop k).length = l.length - k := by rw [List.length_drop]
  rw [Nat.mul_one, ← u8s_take] at r1
  rw [Nat.mul_one, ← u8s_drop] at r2
  refine ⟨kb, rfl, ⟨e, o2, c - k, hb, ?_, ?_, ?_, hbel.of hn2⟩, o1, ?_, ?_, hoff.of hn1⟩
  · rw [Heap.get_put, if_pos rfl, hl2]; rfl
  · rw [hl2]; exact r2.keepsB kb (hoff.of hn2)
  · rw [hl2]; omega
  · rw [hl1]; rfl
  · rw [hl1]; exact r1.keepsB kb (hoff.of hn1)
theorem w_left {h : Heap} {b : Nat} {l : List UInt8} (hr : Rd h b l) (n : Nat) (hn : 1 ≤ n) :
    ResQ (callN Try.prog G0 n (.call 78 [.pointer (some ⟨b, 0, none⟩)]) h) (fun v h' => v = .int .i64 (l.length : Int) ∧ h = h') := by
  obtain ⟨e, o, c, hb, hg, hrow, hc, hbel⟩ := hr
  have hoff := hbel.off
  obtain ⟨n, rfl⟩ : ∃ m, n = m + 1 := ⟨n - 1, by omega⟩
  refine res_enter rfl d78 rfl ?_; simp only [c78]
  refine gg ?_
  refine i_load1 (by exact sel_of rfl) (load1_own hg) ?_
  refine gg ?_
  exact ⟨rfl, rfl⟩
theorem num_snoc (l : List UInt8) (b : UInt8) : num (l ++ [b]) = num l * 256 + b.toNat := by simp [num, List.foldl_append]
/-- a number of so many octets, what is left, and an error's number -/
def getR (l : List UInt8) (k : Nat) : Nat × List UInt8 × Nat := if l.length < k then (0, l, 2) else (num (l.take k), l.drop k, 0)
theorem takeR_nat (l : List UInt8) (k : Nat) : takeR l (k : Int) = if l.length < k then ([], l, 2) else (l.take k, l.drop k, 0) := by
  rw [takeR, if_neg (by omega)]
  by_cases h : l.length < k
  · rw [if_pos (by omega), if_pos h]
  · rw [if_neg (by omega), if_neg h]; rfl
theorem len_two {l : List UInt8} (h : l.length = 2) : ∃ x y, l = [x, y] := by
  match l, h with
  | [x, y], _ => exact ⟨x, y, rfl⟩
theorem len_four {l : List UInt8} (h : l.length = 4) : ∃ x y z w, l = [x, y, z, w] := by
  match l, h with
  | [x, y, z, w], _ => exact ⟨x, y, z, w, rfl⟩
theorem w_get16 {h : Heap} {b : Nat} {l : List UInt8} (hr : Rd h b l) {x : Nat} {r : List UInt8} {en : Nat} (he : getR l 2 = (x, r, en)) (n : Nat) (hn : 2 ≤ n) :
    ResQ (callN Try.prog G0 n (.call 47 [.pointer (some ⟨b, 0, none⟩)]) h) (fun v h' => KeepsB b h h' ∧ h'.next = h.next ∧ Rd h' b r ∧ v = .tuple #[.int .u16 (x : Int), .int .i64 (en : Int)]) := by
  have et := takeR_nat l 2
  rw [getR] at he
  obtain ⟨n, rfl⟩ : ∃ m, n = m + 1 := ⟨n - 1, by omega⟩
  refine res_enter rfl d47 rfl ?_; simp only [c47]
  refine gg ?_
  by_cases hl : l.length < 2
  · rw [if_pos hl] at et he
    cases he
    refine i_call2 (by first | exact sel_of rfl | exact const_of) (by first | exact sel_of rfl | exact const_of) (w_take hr 2 et n (by omega)) ?_
    rintro _ h1 ⟨kb, nx, r1, o1, rfl, row, off⟩
    refine gg ?_
    exact ⟨kb, nx, r1, rfl⟩
  · rw [if_neg hl] at et he
    cases he
    obtain ⟨x, y, hx⟩ := len_two (l := l.take 2) (by rw [List.length_take]; omega)
    rw [hx] at et ⊢
    have bx := x.toNat_lt
    have by_ := y.toNat_lt
    refine i_call2 (by first | exact sel_of rfl | exact const_of) (by first | exact sel_of rfl | exact const_of) (w_take hr 2 et n (by omega)) ?_
    rintro _ h1 ⟨kb, nx, r1, o1, rfl, row, off⟩
    refine gg ?_
    refine i_idx (by exact sel_of rfl) row (i := 0) (by first | exact sel_of rfl | exact const_of) (by simp) fun u hu => ?_
    subst hu
    refine i_byte x (by exact sel_of rfl) row rfl ?_
    refine gg ?_
    refine i_shl (x.toNat * 2 ^ 8) (by exact sel_of rfl) (by first | exact sel_of rfl | exact const_of) (by decide) rfl (by show _ < 65536; omega) ?_
    refine gg ?_
    refine i_idx (by exact sel_of rfl) row (i := 1) (by first | exact sel_of rfl | exact const_of) (by simp) fun u hu => ?_
    cases hu
    refine i_byte y (by exact sel_of rfl) row rfl ?_
    refine gg ?_
    refine i_orn 8 (x.toNat * 256 + y.toNat) (by exact sel_of rfl) (by exact sel_of rfl) (by omega) (by omega) (by omega) (by show _ < 65536; omega) ?_
    refine gg ?_
    refine ⟨kb, nx, r1, ?_⟩
    simp [num]
theorem w_get32 {h : Heap} {b : Nat} {l : List UInt8} (hr : Rd h b l) {x : Nat} {r : List UInt8} {en : Nat} (he : getR l 4 = (x, r, en)) (n : Nat) (hn : 2 ≤ n) :
    ResQ (callN Try.prog G0 n (.call 48 [.pointer (some ⟨b, 0, none⟩)]) h) (fun v h' => KeepsB b h h' ∧ h'.next = h.next ∧ Rd h' b r ∧ v = .tuple #[.int .u32 (x : Int), .int .i64 (en : Int)]) := by
  have et := takeR_nat l 4
  rw [getR] at he
  obtain ⟨n, rfl⟩ : ∃ m, n = m + 1 := ⟨n - 1, by omega⟩
  refine res_enter rfl d48 rfl ?_; simp only [c48]
  refine gg ?_
  by_cases hl : l.length < 4
  · rw [if_pos hl] at et he
    cases he
    refine i_call2 (by first | exact sel_of rfl | exact const_of) (by first | exact sel_of rfl | exact const_of) (w_take hr 4 et n (by omega)) ?_
    rintro _ h1 ⟨kb, nx, r1, o1, rfl, row, off⟩
    refine gg ?_
    exact ⟨kb, nx, r1, rfl⟩
  · rw [if_neg hl] at et he
    cases he
    obtain ⟨x, y, z, w, hx⟩ := len_four (l := l.take 4) (by rw [List.length_take]; omega)
    rw [hx] at et ⊢
    have bx := x.toNat_lt
    have by_ := y.toNat_lt
    have bz := z.toNat_lt
    have bw := w.toNat_lt
    refine i_call2 (by first | exact sel_of rfl | exact const_of) (by first | exact sel_of rfl | exact const_of) (w_take hr 4 et n (by omega)) ?_
    rintro _ h1 ⟨kb, nx, r1, o1, rfl, row, off⟩
    refine gg ?_
    refine i_idx (by exact sel_of rfl) row (i := 0) (by first | exact sel_of rfl | exact const_of) (by simp) fun u hu => ?_
    subst hu
    refine i_byte x (by exact sel_of rfl) row rfl ?_
    refine gg ?_
    refine i_shl (x.toNat * 2 ^ 24) (by exact sel_of rfl) (by first | exact sel_of rfl | exact const_of) (by decide) rfl (by show _ < 4294967296; omega) ?_
    refine gg ?_
    refine i_idx (by exact sel_of rfl) row (i := 1) (by first | exact sel_of rfl | exact const_of) (by simp) fun u hu => ?_
    cases hu
    refine i_byte y (by exact sel_of rfl) row rfl ?_
    refine gg ?_
    refine i_shl (y.toNat * 2 ^ 16) (by exact sel_of rfl) (by first | exact sel_of rfl | exact const_of) (by decide) rfl (by show _ < 4294967296; omega) ?_
    refine i_orn 24 (x.toNat * 16777216 + y.toNat * 65536) (by exact sel_of rfl) (by exact sel_of rfl) (by omega) (by omega) (by omega) (by show _ < 4294967296; omega) ?_
    refine gg ?_
    refine i_idx (by exact sel_of rfl) row (i := 2) (by first | exact sel_of rfl | exact const_of) (by simp) fun u hu => ?_
    cases hu
    refine i_byte z (by exact sel_of rfl) row rfl ?_
    refine gg ?_
    refine i_shl (z.toNat * 2 ^ 8) (by exact sel_of rfl) (by first | exact sel_of rfl | exact const_of) (by decide) rfl (by show _ < 4294967296; omega) ?_
    refine i_orn 16 (x.toNat * 16777216 + y.toNat * 65536 + z.toNat * 256) (by exact sel_of rfl) (by exact sel_of rfl) (by omega) (by omega) (by omega) (by show _ < 4294967296; omega) ?_
    refine gg ?_
    refine i_idx (by exact sel_of rfl) row (i := 3) (by first | exact sel_of rfl | exact const_of) (by simp) fun u hu => ?_
    cases hu
    refine i_byte w (by exact sel_of rfl) row rfl ?_
    refine gg ?_
    refine i_orn 8 (x.toNat * 16777216 + y.toNat * 65536 + z.toNat * 256 + w.toNat) (by exact sel_of rfl) (by exact sel_of rfl) (by omega) (by omega) (by omega) (by show _ < 4294967296; omega) ?_
    refine gg ?_
    refine ⟨kb, nx, r1, ?_⟩
    have : num [x, y, z, w] = x.toNat * 16777216 + y.toNat * 65536 + z.toNat * 256 + w.toNat := by simp [num]; omega
    rw [this]
    rfl
theorem w_bytes {h : Heap} {b : Nat} {l : List UInt8} (hr : Rd h b l) (hlen : l.length ≤ 1000000) (k : Int) {t r : List UInt8} {en : Nat} (he : takeR l k = (t, r, en)) (n : Nat) (hn : 2 ≤ n) :
    ResQ (callN Try.prog G0 n (.call 75 [.pointer (some ⟨b, 0, none⟩), .int .i64 k]) h) (fun v h' => KeepsB b h h' ∧ Rd h' b r ∧
      ∃ o', v = .tuple #[.slice o' t.length t.length, .int .i64 (en : Int)] ∧ Ap h.next h' 5 1 o' t.length t.length (u8s t) ∧ ∀ q, o' = some q → h.next ≤ q.block) := by
  have ht : t.length ≤ 1000000 := by
    rw [takeR] at he
    split at he
    · cases he; exact Nat.zero_le _
    · split at he
      · cases he; exact Nat.zero_le _
      · cases he; rw [List.length_take]; omega
  obtain ⟨n, rfl⟩ : ∃ m, n = m + 1 := ⟨n - 1, by omega⟩
  refine res_enter rfl d75 rfl ?_; simp only [c75]
  refine gg ?_
  refine i_call2 (by first | exact sel_of rfl | exact const_of) (by first | exact sel_of rfl | exact const_of) (w_take hr k he n (by omega)) ?_
  rintro _ h1 ⟨kb, nx, r1, o1, rfl, row, off⟩
  refine gg ?_
  refine i_call1 (by first | exact sel_of rfl | exact const_of) (w_clone row ht n (by omega)) ?_
  rintro _ h2 ⟨k2, o2, rfl, a2, fr⟩
  refine gg ?_
  refine ⟨kb.trans (k2.but b), r1.keeps k2, o2, rfl, ?_, ?_⟩
  · rw [← nx]; exact a2
  · rw [← nx]; exact fr
theorem w_new {h : Heap} {o : Option Addr} {m c : Nat} {l : List UInt8} (hr : Row h 1 o m (u8s l)) (hl : l.length ≤ 1000000) (n : Nat) (hn : 2 ≤ n) :
    ResQ (callN Try.prog G0 n (.call 46 [.slice o m c]) h) (fun v h' => Keeps h h' ∧ ∃ b, h.next ≤ b ∧ v = .pointer (some ⟨b, 0, none⟩) ∧ Rd h' b l) := by
  obtain ⟨n, rfl⟩ : ∃ m, n = m + 1 := ⟨n - 1, by omega⟩
  refine res_enter rfl d46 rfl ?_; simp only [c46]
  refine gg ?_
  refine i_call1 (by first | exact sel_of rfl | exact const_of) (w_clone hr hl n (by omega)) ?_
  rintro _ h1 ⟨k1, o1, rfl, a1, fr⟩
  refine gg ?_
  refine ⟨k1.trans (Keeps.new _ _), h1.next, k1.next, rfl, ⟨100, o1, l.length, Nat.lt_succ_self _, ?_, a1.row.keeps (Keeps.new _ _), Nat.le_refl _, a1.row.bel (Nat.le_refl _)⟩⟩
  rw [Heap.get_new, if_pos rfl]
  rfl
theorem w_nz (x : UInt8) (h : Heap) (n : Nat) (hn : 1 ≤ n) : ResQ (callN Try.prog G0 n (.call 95 [.int .u8 ((x.toNat : Nat) : Int)]) h) (fun v h' => v = .bool (decide (x ≠ 0)) ∧ h = h') := by
  obtain ⟨n, rfl⟩ : ∃ m, n = m + 1 := ⟨n - 1, by omega⟩
  refine res_enter rfl d95 rfl ?_; simp only [c95]
  refine gg ?_
  refine ⟨?_, rfl⟩
  rw [show decide (((x.toNat : Nat) : Int) ≠ 0) = decide (x ≠ 0) from ?_]
  rw [Bool.eq_iff_iff]
  simp [← UInt8.toNat_inj]
/-- the first one that is not zero -/
theorem w_idx {h : Heap} {o : Option Addr} {m c : Nat} {l : List UInt8} (hr : Row h 1 o m (u8s l)) (hlen : l.length ≤ 1000000) (n : Nat) (hn : 2 + l.length ≤ n) :
    ResQ (callN Try.prog G0 n (.call 100 [.slice o m c, .func (.func 95) #[] #[]]) h) (fun v h' => (∃ r : Int, v = .int .i64 r ∧ (decide (0 ≤ r)) = l.any (· ≠ 0)) ∧ h = h') := by
  have hm : l.length = m := by simpa [u8s_length] using hr.1
  subst hm
  obtain ⟨n, rfl⟩ : ∃ m, n = m + 1 := ⟨n - 1, by omega⟩
  refine res_enter rfl d100 rfl ?_; simp only [c100]
  refine gg ?_
  refine o_while (fun j f h' => Sl [(7, .int .i64 (l.length : Int)), (8, .int .i64 ((l.length - j : Nat) : Int)), (0, .slice o l.length c), (1, .func (.func 95) #[] #[])] f ∧ h = h' ∧ j ≤ l.length ∧ l.any (· ≠ 0) = (l.drop (l.length - j)).any (· ≠ 0)) l.length (by omega) ?_ ?_
  · refine ⟨⟨sel_of rfl, (sel_of rfl).trans ?_, sel_of rfl, sel_of rfl, trivial⟩, rfl, Nat.le_refl _, by simp⟩
    simp
  rintro j f h' ⟨hs, rfl, hj, he⟩
  obtain ⟨f0, rfl⟩ := hs.puts
  simp only [c100_0]
  refine gg ?_
  refine out_if (by exact sel_of rfl) (fun hif => ?_) (fun hif => ?_)
  · refine gg ?_
    obtain ⟨x, hx⟩ : ∃ x, l[l.length - j]? = some x := ⟨_, List.getElem?_eq_getElem (by omega)⟩
    refine i_idx (by exact sel_of rfl) hr (i := l.length - j) (by first | exact sel_of rfl | exact const_of) (by omega) fun u hu => ?_
    subst hu
    rw [Nat.mul_one]
    refine i_byte x (by exact sel_of rfl) hr hx ?_
    refine i_callv1 (by exact sel_of rfl) (by exact sel_of rfl) (w_nz x h n (by omega)) ?_
    rintro _ _ ⟨rfl, rfl⟩
    have hd : l.drop (l.length - j) = x :: l.drop (l.length - (j - 1)) := by
      obtain ⟨hlt, hg⟩ := List.getElem?_eq_some_iff.1 hx
      rw [List.drop_eq_getElem_cons hlt, hg]
      congr 2
      omega
    rw [hd] at he
    refine gg ?_
    refine out_if (by exact sel_of rfl) (fun hif => ?_) (fun hif => ?_)
    · refine gg ?_
      refine ⟨⟨_, rfl, ?_⟩, rfl⟩
      rw [he]
      simp [hif]
    · refine gg ?_
      refine rnd_n (j - 1) (by omega) ⟨⟨sel_of rfl, (sel_of rfl).trans ?_, sel_of rfl, sel_of rfl, trivial⟩, rfl, by omega, ?_⟩
      · congr 1; omega
      · rw [he, List.any_cons]
        simp [hif]
  · refine gg ?_
    refine ⟨⟨-1, rfl, ?_⟩, rfl⟩
    have : j = 0 := by omega
    subst this
    rw [he]
    simp
theorem w_contains {h : Heap} {o : Option Addr} {m c : Nat} {l : List UInt8} (hr : Row h 1 o m (u8s l)) (hlen : l.length ≤ 1000000) (n : Nat) (hn : 3 + l.length ≤ n) :
    ResQ (callN Try.prog G0 n (.call 94 [.slice o m c, .func (.func 95) #[] #[]]) h) (fun v h' => v = .bool (l.any (· ≠ 0)) ∧ h = h') := by
  obtain ⟨n, rfl⟩ : ∃ m, n = m + 1 := ⟨n - 1, by omega⟩
  refine res_enter rfl d94 rfl ?_; simp only [c94]
  refine gg ?_
  refine i_call2 (by exact sel_of rfl) (by exact sel_of rfl) (w_idx hr hlen n (by omega)) ?_
  rintro _ _ ⟨⟨r, rfl, hr'⟩, rfl⟩
  refine gg ?_
  exact ⟨congrArg Value.bool hr', rfl⟩
/-- what Pad leaves, and an error's number -/
def padR (l : List UInt8) (k : Int) : List UInt8 × Nat :=
  if k < 0 then (l, 1) else if l.length < (4 - k.toNat % 4) % 4 then (l, 2) else if (l.take ((4 - k.toNat % 4) % 4)).any (· ≠ 0) then (l, 3) else (l.drop ((4 - k.toNat % 4) % 4), 0)
theorem w_rpadR {h : Heap} {b : Nat} {l : List UInt8} (hr : Rd h b l) (k : Int) (hk : k ≤ 9223372036854775807) {r : List UInt8} {en : Nat} (he : padR l k = (r, en)) (n : Nat) (hn : 10 ≤ n) :
    ResQ (callN Try.prog G0 n (.call 77 [.pointer (some ⟨b, 0, none⟩), .int .i64 k]) h) (fun v h' => KeepsB b h h' ∧ h'.next = h.next ∧ Rd h' b r ∧ v = .int .i64 (en : Int)) := by
  have hr0 := hr
  obtain ⟨e, o, c, hb, hg, hrow, hc, hbel⟩ := hr
  have hoff := hbel.off
  rw [padR] at he
  obtain ⟨n, rfl⟩ : ∃ m, n = m + 1 := ⟨n - 1, by omega⟩
  refine res_enter rfl d77 rfl ?_; simp only [c77]
  by_cases h1 : k < 0
  · rw [if_pos h1] at he
    cases he
    refine gg ?_
    exact ⟨KeepsB.refl _ _, rfl, hr0, rfl⟩
  rw [if_neg h1] at he
  obtain ⟨k, rfl⟩ : ∃ j : Nat, k = (j : Int) := ⟨k.toNat, by omega⟩
  rw [Int.toNat_natCast] at he
  refine gg ?_
  refine i_call1 (by exact sel_of rfl) (w_gap k (by omega) h n (by omega)) ?_
  rintro _ _ ⟨rfl, rfl⟩
  refine gg ?_
  refine i_load1 (by exact sel_of rfl) (load1_own hg) ?_
  by_cases h2 : l.length < (4 - k % 4) % 4
  · rw [if_pos h2] at he
    cases he
    refine gg ?_
    exact ⟨KeepsB.refl _ _, rfl, hr0, rfl⟩
  rw [if_neg h2] at he
  refine gg ?_
  refine i_load1 (by exact sel_of rfl) (load1_own hg) ?_
  refine gg ?_
  refine i_sl_hi (by exact sel_of rfl) hrow hc (by exact sel_of rfl) (by omega) fun r1 => ?_
  rw [Nat.mul_one, ← u8s_take] at r1
  refine i_call2 (by exact sel_of rfl) (by first | exact sel_of rfl | exact const_of) (w_contains r1 (by rw [List.length_take]; omega) n (by rw [List.length_take]; omega)) ?_
  rintro _ _ ⟨rfl, rfl⟩
  cases h3 : (l.take ((4 - k % 4) % 4)).any (· ≠ 0) with
  | true =>
    rw [if_pos h3] at he
    cases he
    refine gg ?_
    exact ⟨KeepsB.refl _ _, rfl, hr0, rfl⟩
  | false =>
    rw [if_neg (by rw [h3]; simp)] at he
    cases he
    refine gg ?_
    refine i_load1 (by exact sel_of rfl) (load1_own hg) ?_
    refine gg ?_
    refine i_sl_lo (by exact sel_of rfl) hrow hc (by exact sel_of rfl) (by omega) fun o2 hn2 r2 => ?_
    refine gg ?_
    refine i_store1 (v := .slice o2 (l.length - (4 - k % 4) % 4) (c - (4 - k % 4) % 4)) (by exact sel_of rfl) (by rw [sel_of rfl]; rfl) hg (Nat.lt_succ_self 0) ?_
    have kb : KeepsB b h (h.put b (.cells e [.slice o2 (l.length - (4 - k % 4) % 4) (c - (4 - k % 4) % 4)] (.own false))) := ⟨Nat.le_refl _, fun d _ hd => by rw [Heap.get_put, if_neg hd]⟩
    have hl2 : (l.drop ((4 - k % 4) % 4)).length = l.length - (4 - k % 4) % 4 := by rw [List.length_drop]
    rw [Nat.mul_one, ← u8s_drop] at r2
    refine gg ?_
    refine ⟨kb, rfl, ⟨e, o2, c - (4 - k % 4) % 4, hb, ?_, ?_, ?_, hbel.of hn2⟩, rfl⟩
    · rw [Heap.get_put, if_pos rfl, hl2]; rfl
    · rw [hl2]; exact r2.keepsB kb (hoff.of hn2)
    · rw [hl2]; omega
end Go.Proofs.Ytdcllpjoejkpnaa

/-! The reference's readings, walked in the abstract run. -/
set_option linter.unusedVariables false
namespace Go.Proofs.Ytdcllpjoejkpnaa
open Go Vm
theorem num_lt : ∀ (l : List UInt8), num l < 256 ^ l.length := by
  intro l
  rw [← List.reverse_reverse l]
  induction l.reverse with
  | nil => simp [num]
  | cons b l ih =>
    rw [List.reverse_cons, num_snoc, List.length_append, List.length_singleton, Nat.pow_succ]
    have := b.toNat_lt
    omega
end Go.Proofs.Ytdcllpjoejkpnaa

/-! Layer 6: what reads parameters, walked. -/
set_option linter.unusedVariables false
namespace Go.Proofs.Ytdcllpjoejkpnaa
open Go Vm
/-- the closure of Find: has a parameter the kind that stands in a cell? -/
theorem w_idxP {h : Heap} {o : Option Addr} {m c : Nat} {l : List Prm} {cs : List Value} (hr : Row h 2 o m cs) (hp : PrL h l cs) (hl : l.length = m) (hbig : l.length ≤ 1000000) {g : FuncId} {cp : Array Value} {P : Prm → Bool}
    (n : Nat) (hcall : ∀ h' x y p, Keeps h h' → Pr h' p x y → ∀ n, 1 ≤ n → ResQ (callN Try.prog G0 n (.call g (.agg #[x, y] :: cp.toList)) h') (fun v h'' => v = .bool (P p) ∧ Keeps h' h'')) (hn : 3 + l.length ≤ n) :
    ResQ (callN Try.prog G0 n (.call 96 [.slice o m c, .func (.func g) #[] cp]) h) (fun v h' => v = .int .i64 (idxP P l 0) ∧ Keeps h h') := by
  subst hl
  obtain ⟨n, rfl⟩ : ∃ m, n = m + 1 := ⟨n - 1, by omega⟩
  refine res_enter rfl d96 rfl ?_; simp only [c96]
  refine gg ?_
  refine o_up l.length (fun i f h' => Sl [(8, .int .i64 (i : Int)), (7, .int .i64 (l.length : Int)), (0, .slice o l.length c), (1, .func (.func g) #[] cp)] f ∧ Keeps h h' ∧ idxP P l 0 = idxP P (l.drop i) i) (by omega) ?_ ?_
  · exact ⟨⟨sel_of rfl, sel_of rfl, sel_of rfl, sel_of rfl, trivial⟩, Keeps.refl h, rfl⟩
  rintro i f h' hi ⟨hs, k1, hfi⟩
  obtain ⟨f0, rfl⟩ := hs.puts
  simp only [c96_0]
  refine gg ?_
  refine out_if (by exact sel_of rfl) (fun hif => ?_) (fun hif => ?_)
  · obtain ⟨p, hpi⟩ : ∃ p, l[i]? = some p := ⟨_, List.getElem?_eq_getElem (by omega)⟩
    obtain ⟨x, y, e1, hxy⟩ := (hp.keeps k1).pair hpi
    rw [drop_cons hpi, idxP] at hfi
    refine gg ?_
    refine i_idx (by exact sel_of rfl) (hr.keeps k1) (i := i) (by exact sel_of rfl) (by omega) fun u hu => ?_
    subst hu
    refine i_loadN (v := [x, y]) (by exact sel_of rfl) (by rw [← e1]; exact (hr.keeps k1).cells (by omega) (some 0)) ?_
    refine i_callc1 (by exact sel_of rfl) (by exact sel_of rfl) (hcall h' x y p k1 hxy n (by omega)) ?_
    rintro _ h2 ⟨rfl, k2⟩
    cases hk : P p with
    | true =>
      rw [if_pos hk] at hfi
      refine gg ?_
      exact ⟨congrArg (Value.int .i64) hfi.symm, k1.trans k2⟩
    | false =>
      rw [if_neg (by rw [hk]; simp)] at hfi
      refine gg ?_
      exact rnd_up (by omega) ⟨⟨sel_of rfl, sel_of rfl, sel_of rfl, sel_of rfl, trivial⟩, k1.trans k2, hfi⟩
  · refine gg ?_
    refine ⟨congrArg (Value.int .i64) ?_, k1⟩
    rw [hfi, List.drop_eq_nil_of_le (by omega)]; rfl
theorem w_longP (h : Heap) (x y : Value) (p : Prm) (hp : Pr h p x y) (n : Nat) (hn : 1 ≤ n) :
    ResQ (callN Try.prog G0 n (.call 80 [.agg #[x, y]]) h) (fun v h' => v = .bool (decide (1200 < p.2.length)) ∧ Keeps h h') := by
  obtain ⟨rfl, hlt, o1, m1, c1, rfl, hrow, hc1⟩ := hp
  have hlen : p.2.length = m1 := by simpa [u8s_length] using hrow.1
  obtain ⟨n, rfl⟩ : ∃ m, n = m + 1 := ⟨n - 1, by omega⟩
  refine res_enter rfl d80 rfl ?_; simp only [c80]
  refine gg ?_
  refine i_load1 (v := .slice o1 m1 c1) (by exact sel_of rfl) (by rw [load1_new (by simp)]; rfl) ?_
  refine gg ?_
  refine ⟨?_, Keeps.new _ _⟩
  congr 1
  rw [decide_eq_decide]; omega
theorem w_hasLong {h : Heap} {o : Option Addr} {m c : Nat} {l : List Prm} {cs : List Value} (hr : Row h 2 o m cs) (hp : PrL h l cs) (hl : l.length = m) (hbig : l.length ≤ 1000000) (n : Nat) (hn : 4 + l.length ≤ n) :
    ResQ (callN Try.prog G0 n (.call 79 [.slice o m c, .func (.func 80) #[] #[]]) h) (fun v h' => v = .bool (l.any fun p => decide (1200 < p.2.length)) ∧ Keeps h h') := by
  obtain ⟨n, rfl⟩ : ∃ m, n = m + 1 := ⟨n - 1, by omega⟩
  refine res_enter rfl d79 rfl ?_; simp only [c79]
  refine gg ?_
  refine i_call2 (by exact sel_of rfl) (by exact sel_of rfl) (w_idxP (P := fun p => decide (1200 < p.2.length)) (cp := #[]) hr hp hl hbig n (fun h' x y p k2 hxy n hn => w_longP h' x y p hxy n hn) (by omega)) ?_
  rintro _ h2 ⟨rfl, k2⟩
  refine gg ?_
  exact ⟨congrArg Value.bool (idxP_any _ l 0), k2⟩
end Go.Proofs.Ytdcllpjoejkpnaa

