/- Part of a proof by an abstract run of the program's code: UPbL. No condition. -/
import Derived.Test.YtdcllpjoejkpnaaUPsL
/-! The law PacketBursts, walked. -/
set_option linter.unusedVariables false
namespace Go.Proofs.Ytdcllpjoejkpnaa
open Go Vm
/-- an octet of a number -/
def byN (b i : Nat) : UInt8 := UInt8.ofNat (b / 2 ^ (8 * i))
/-- four octets from k on turned, so far -/
def xorB (A : List UInt8) (k b : Nat) : Nat → List UInt8
  | 0 => A
  | i + 1 => (xorB A k b i).set (k + i) (((xorB A k b i)[k + i]?).getD 0 ^^^ byN b i)
theorem xorB_len (A : List UInt8) (k b : Nat) : ∀ i, (xorB A k b i).length = A.length
  | 0 => rfl
  | i + 1 => by rw [xorB, List.length_set, xorB_len A k b i]
theorem xorB_four (p q : List UInt8) (a b c d : UInt8) (y : Nat) : xorB (p ++ [a, b, c, d] ++ q) p.length y 4 = p ++ [a ^^^ byN y 0, b ^^^ byN y 1, c ^^^ byN y 2, d ^^^ byN y 3] ++ q := by
  have g : ∀ (i : Nat) (z : List UInt8) (u : UInt8), z[i]? = some u → ∀ v, (p ++ z ++ q).set (p.length + i) v = p ++ z.set i v ++ q ∧ (p ++ z ++ q)[p.length + i]? = some u := by
    intro i z u hz v
    have hi : i < z.length := (List.getElem?_eq_some_iff.1 hz).1
    constructor
    · rw [List.append_assoc, List.set_append_right _ _ (by omega), show p.length + i - p.length = i by omega, List.set_append_left _ _ hi, List.append_assoc]
    · rw [List.append_assoc, List.getElem?_append_right (by omega), show p.length + i - p.length = i by omega, List.getElem?_append_left hi, hz]
  have e0 := g 0 [a, b, c, d] a rfl (a ^^^ byN y 0)
  have e1 := g 1 [a ^^^ byN y 0, b, c, d] b rfl (b ^^^ byN y 1)
  have e2 := g 2 [a ^^^ byN y 0, b ^^^ byN y 1, c, d] c rfl (c ^^^ byN y 2)
  have e3 := g 3 [a ^^^ byN y 0, b ^^^ byN y 1, c ^^^ byN y 2, d] d rfl (d ^^^ byN y 3)
  have x1 : xorB (p ++ [a, b, c, d] ++ q) p.length y 1 = p ++ [a ^^^ byN y 0, b, c, d] ++ q := by
    show (p ++ [a, b, c, d] ++ q).set _ (((p ++ [a, b, c, d] ++ q)[p.length + 0]?).getD 0 ^^^ _) = _
    rw [e0.2]; exact e0.1
  have x2 : xorB (p ++ [a, b, c, d] ++ q) p.length y 2 = p ++ [a ^^^ byN y 0, b ^^^ byN y 1, c, d] ++ q := by
    rw [xorB, x1, e1.2]; exact e1.1
  have x3 : xorB (p ++ [a, b, c, d] ++ q) p.length y 3 = p ++ [a ^^^ byN y 0, b ^^^ byN y 1, c ^^^ byN y 2, d] ++ q := by
    rw [xorB, x2, e2.2]; exact e2.1
  rw [xorB, x3, e3.2]; exact e3.1
theorem cut4 (L : List UInt8) (k : Nat) (h : k + 4 ≤ L.length) : ∃ p a b c d q, L = p ++ [a, b, c, d] ++ q ∧ p.length = k := by
  have h2 := List.take_append_drop k L
  have h3 : (L.drop k).length = L.length - k := List.length_drop
  match hd : L.drop k, h3 with
  | a :: b :: c :: d :: q, _ =>
    refine ⟨L.take k, a, b, c, d, q, ?_, by rw [List.length_take]; omega⟩
    rw [hd] at h2
    rw [List.append_assoc]
    exact h2.symm
  | [], h3 => simp at h3; omega
  | [_], h3 => simp at h3; omega
  | [_, _], h3 => simp at h3; omega
  | [_, _, _], h3 => simp at h3; omega
theorem by_some {y : Nat} (hy : y < 4294967296) (h0 : y ≠ 0) {a b c d : UInt8} (h : [a ^^^ byN y 0, b ^^^ byN y 1, c ^^^ byN y 2, d ^^^ byN y 3] = [a, b, c, d]) : False := by
  have z : ∀ {u v : UInt8}, u ^^^ v = u → v.toNat = 0 := fun {u v} e => by
    have := congrArg UInt8.toNat e
    rw [UInt8.toNat_xor] at this
    have h2 : u.toNat ^^^ (u.toNat ^^^ v.toNat) = u.toNat ^^^ u.toNat := by rw [this]
    rw [← Nat.xor_assoc, Nat.xor_self, Nat.zero_xor] at h2
    exact h2
  simp only [List.cons.injEq, and_true] at h
  have z0 := z h.1
  have z1 := z h.2.1
  have z2 := z h.2.2.1
  have z3 := z h.2.2.2
  rw [byN, ofNat_mod256] at z0 z1 z2 z3
  omega
theorem xor_take {l : List UInt8} {a b : List UInt8} (h : l = a) : l ++ b = a ++ b := by rw [h]
/-- WHEREVER THE BURST LIES, the checksum does not fit -/
theorem burst_bad {X E : List UInt8} {k y : Nat} (hX : X.length = 8) (hk : k + 4 ≤ 12 + E.length) (hp : k ≤ 4 ∨ k = 8 ∨ 12 ≤ k) (hy : y < 4294967296) (h0 : y ≠ 0) :
    ∃ X' c0 c1 c2 c3 E', xorB (X ++ le4 (crcC crcTab (X ++ [0, 0, 0, 0] ++ E)) ++ E) k y 4 = X' ++ [c0, c1, c2, c3] ++ E' ∧ X'.length = 8 ∧ E'.length = E.length ∧ [c0, c1, c2, c3] ≠ le4 (crcC crcTab (X' ++ [0, 0, 0, 0] ++ E')) := by
  rcases hp with hp | rfl | hp
  · obtain ⟨p, a, b, c, d, q, rfl, hl⟩ := cut4 X k (by omega)
    subst hl
    generalize hS : crcC crcTab (p ++ [a, b, c, d] ++ q ++ [0, 0, 0, 0] ++ E) = S
    refine ⟨p ++ [a ^^^ byN y 0, b ^^^ byN y 1, c ^^^ byN y 2, d ^^^ byN y 3] ++ q, UInt8.ofNat S, UInt8.ofNat (S / 2 ^ 8), UInt8.ofNat (S / 2 ^ 16), UInt8.ofNat (S / 2 ^ 24), E, ?_, ?_, rfl, fun e => ?_⟩
    · have := xorB_four p (q ++ le4 S ++ E) a b c d y
      rw [show p ++ [a, b, c, d] ++ q ++ le4 S ++ E = p ++ [a, b, c, d] ++ (q ++ le4 S ++ E) by simp only [List.append_assoc], this]
      simp only [List.append_assoc]
      rfl
    · simpa using hX
    · have e1 := le4_inj (by rw [← hS]; exact crcC_lt crcTab_lt _) (crcC_lt crcTab_lt _) (show le4 S = _ from e)
      rw [← hS] at e1
      rw [show p ++ [a, b, c, d] ++ q ++ [0, 0, 0, 0] ++ E = p ++ [a, b, c, d] ++ (q ++ [0, 0, 0, 0] ++ E) by simp only [List.append_assoc],
        show p ++ [a ^^^ byN y 0, b ^^^ byN y 1, c ^^^ byN y 2, d ^^^ byN y 3] ++ q ++ [0, 0, 0, 0] ++ E = p ++ [a ^^^ byN y 0, b ^^^ byN y 1, c ^^^ byN y 2, d ^^^ byN y 3] ++ (q ++ [0, 0, 0, 0] ++ E) by simp only [List.append_assoc]] at e1
      exact by_some hy h0 (crc_burst rfl rfl e1).symm
  · generalize hS : crcC crcTab (X ++ [0, 0, 0, 0] ++ E) = S
    refine ⟨X, UInt8.ofNat S ^^^ byN y 0, UInt8.ofNat (S / 2 ^ 8) ^^^ byN y 1, UInt8.ofNat (S / 2 ^ 16) ^^^ byN y 2, UInt8.ofNat (S / 2 ^ 24) ^^^ byN y 3, E, ?_, hX, rfl, fun e => ?_⟩
    · have := xorB_four X E (UInt8.ofNat S) (UInt8.ofNat (S / 2 ^ 8)) (UInt8.ofNat (S / 2 ^ 16)) (UInt8.ofNat (S / 2 ^ 24)) y
      rw [hX] at this
      exact this
    · rw [hS] at e
      exact by_some hy h0 e
  · obtain ⟨p, a, b, c, d, q, rfl, hl⟩ := cut4 E (k - 12) (by omega)
    have hk' : k = 12 + p.length := by omega
    subst hk'
    generalize hS : crcC crcTab (X ++ [0, 0, 0, 0] ++ (p ++ [a, b, c, d] ++ q)) = S
    have l4 : (le4 S).length = 4 := rfl
    refine ⟨X, UInt8.ofNat S, UInt8.ofNat (S / 2 ^ 8), UInt8.ofNat (S / 2 ^ 16), UInt8.ofNat (S / 2 ^ 24), p ++ [a ^^^ byN y 0, b ^^^ byN y 1, c ^^^ byN y 2, d ^^^ byN y 3] ++ q, ?_, hX, by simp, fun e => ?_⟩
    · have := xorB_four (X ++ le4 S ++ p) q a b c d y
      rw [show (X ++ le4 S ++ p).length = 12 + p.length by simp only [List.length_append]; omega] at this
      rw [show X ++ le4 S ++ (p ++ [a, b, c, d] ++ q) = X ++ le4 S ++ p ++ [a, b, c, d] ++ q by simp only [List.append_assoc], this]
      simp only [List.append_assoc]
      rfl
    · have e1 := le4_inj (by rw [← hS]; exact crcC_lt crcTab_lt _) (crcC_lt crcTab_lt _) (show le4 S = _ from e)
      rw [← hS] at e1
      rw [show X ++ [0, 0, 0, 0] ++ (p ++ [a, b, c, d] ++ q) = X ++ [0, 0, 0, 0] ++ p ++ [a, b, c, d] ++ q by simp only [List.append_assoc],
        show X ++ [0, 0, 0, 0] ++ (p ++ [a ^^^ byN y 0, b ^^^ byN y 1, c ^^^ byN y 2, d ^^^ byN y 3] ++ q) = X ++ [0, 0, 0, 0] ++ p ++ [a ^^^ byN y 0, b ^^^ byN y 1, c ^^^ byN y 2, d ^^^ byN y 3] ++ q by simp only [List.append_assoc]] at e1
      exact by_some hy h0 (crc_burst rfl rfl e1).symm
end Go.Proofs.Ytdcllpjoejkpnaa

/-! The law PacketBursts, walked. -/
set_option linter.unusedVariables false
namespace Go.Proofs.Ytdcllpjoejkpnaa
open Go Vm
theorem and16 (p : Int) : ∃ m : Nat, m < 65536 ∧ wrap .i64 (.ofNat (Nat.land (bitsOf .i64 p) (bitsOf .i64 65535))) = (m : Int) := by
  have h : Nat.land (bitsOf .i64 p) (bitsOf .i64 65535) < 2 ^ 16 := Nat.and_lt_two_pow _ (show bitsOf .i64 65535 < 2 ^ 16 by decide)
  exact ⟨_, by omega, wrap_lt (by show _ < 9223372036854775808; omega)⟩
set_option maxHeartbeats 4000000 in
theorem w_lbursts {h : Heap} {p : Pk} {pv : List Value} (hpv : PkV h p pv) (hb : p.from_ < 65536 ∧ p.to_ < 65536 ∧ p.tag < 4294967296) {at_ : Int} {y : Nat} (hy : y < 4294967296) (n : Nat) (hn : 103000 ≤ n) :
    ResQ (callN Try.prog G0 n (.call 6 [.agg pv.toArray, .int .i64 at_, .int .u32 (y : Int)]) h) (fun u h' => u = .bool true) := by
  have hpv0 := hpv
  have lp := hpv.len
  obtain ⟨n, rfl⟩ : ∃ m, n = m + 1 := ⟨n - 1, by omega⟩
  refine res_enter rfl d6 rfl ?_; simp only [c6]
  obtain ⟨g1, k1, n1⟩ := box_one h (.cells 27 pv.toArray.toList (.own false))
  refine o_cut (fun a h' => h' = (h.new (.cells 27 pv.toArray.toList (.own false))) ∧ Sl [(3, .pointer (some ⟨h.next, 0, none⟩)), (1, .int .i64 at_), (2, .int .u32 (y : Int))] a) ?_ ?_
  · refine gg ?_
    exact ⟨rfl, rfl, sel_of rfl, sel_of rfl, sel_of rfl, trivial⟩
  rintro a h1 ⟨hh, hs⟩
  rw [← hh] at g1 k1 n1
  clear hh
  obtain ⟨f0, rfl⟩ := hs.puts
  have b1 : h.next < h1.next := by omega
  have hq : PkV h1 p pv := hpv.keeps k1
  obtain ⟨ol, cl, els, rfl, rl, el, hcl⟩ := hpv
  refine gg ?_
  refine i_call0 (w_awake h1 n (by omega)) ?_
  rintro _ _ ⟨rfl, rfl⟩
  refine gg ?_; repeat (refine i_ldown (by exact sel_of rfl) (by assumption) (by rfl) ?_; refine gg ?_)
  refine i_call1 (by exact sel_of rfl) (w_pfew (rl.keeps k1) (el.keeps k1) n (by omega)) ?_
  rintro _ h2 ⟨rfl, k2⟩
  by_cases hf : fewL p.l
  case neg =>
    rw [decide_eq_false hf]
    refine gg ?_; repeat (refine i_ldown (by exact sel_of rfl) (by assumption) (by rfl) ?_; refine gg ?_)
    rfl
  rw [decide_eq_true hf]
  have d1 := (k2.get _ b1).trans g1
  have b2 := Nat.lt_of_lt_of_le b1 k2.next
  refine gg ?_; repeat (refine i_ldown (by exact sel_of rfl) (by assumption) (by rfl) ?_; refine gg ?_)
  by_cases hy0 : y = 0
  · subst hy0
    refine gg ?_
    rfl
  rw [decide_eq_false (p := ((y : Nat) : Int) = 0) (by omega)]
  refine gg ?_
  refine i_call0 (w_tableX n (by omega)) ?_
  rintro _ h3 ⟨k3, ot, rfl, rt⟩
  have d2 := (k3.get _ b2).trans d1
  have b3 := Nat.lt_of_lt_of_le b2 k3.next
  have hbt := crcTab_lt
  have h256 := crcTab_len
  have hbb := fun {X E : List UInt8} {k : Nat} => @burst_bad X E k y
  generalize hT : crcTab = T at *
  refine gg ?_
  refine i_loadN (by exact sel_of rfl) (loadN_all (by assumption) (by first | rfl | assumption)) ?_
  refine gg ?_
  refine i_call2 (by exact sel_of rfl) (by exact sel_of rfl) (w_pencodeX rt hbt (hq.keeps (k2.trans k3)) hf.1 n (by omega)) ?_
  rintro _ h4 ⟨⟨k4, o4, c4, rfl, r4, hc4⟩, hX⟩
  have k34 := k4
  clear d1 d2 k1 k2 k3 k4 g1 rl el hpv0
  by_cases hbad : badPk T p
  · have e1 : encPk T p = ([], 1) := by rw [encPk, if_pos hbad]
    rw [e1]
    refine gg ?_
    rfl
  by_cases hbig : bigPk p
  · have e1 : encPk T p = ([], 10) := by rw [encPk, if_neg hbad, if_pos hbig]
    rw [e1]
    refine gg ?_
    rfl
  have e1 : encPk T p = (hdr p ++ le4 (sumPk T p) ++ encs p.l, 0) := by rw [encPk, if_neg hbad, if_neg hbig]
  obtain ⟨b, hb1, hb2, hb3, hb4⟩ := hX (by rw [e1])
  obtain ⟨hl0, hsh⟩ := goodPk_shaped hbad
  have hge := encs_four hl0 hsh
  have hlt : (encs p.l).length ≤ 1188 := by
    have : ¬(1200 < 12 + (encs p.l).length) := fun h => hbig (.inr h)
    omega
  rw [hb3]
  rw [e1] at hb4 ⊢
  have hX : (hdr p).length = 8 := by simp [hdr, down_length]
  have hA : (hdr p ++ le4 (sumPk T p) ++ encs p.l).length = 12 + (encs p.l).length := by
    simp only [List.length_append, hX, show (le4 (sumPk T p)).length = 4 from rfl]
  have hbb' := fun k => @hbb (hdr p) (encs p.l) k hX
  have hbb2 : ∀ k, k + 4 ≤ 12 + (encs p.l).length → (k ≤ 4 ∨ k = 8 ∨ 12 ≤ k) → ∃ X' c0 c1 c2 c3 E', xorB (hdr p ++ le4 (sumPk T p) ++ encs p.l) k y 4 = X' ++ [c0, c1, c2, c3] ++ E' ∧ X'.length = 8 ∧ E'.length = (encs p.l).length ∧ [c0, c1, c2, c3] ≠ le4 (crcC T (X' ++ [0, 0, 0, 0] ++ E')) := fun k h1 h2 => hbb' k h1 h2 hy hy0
  clear hbb hbb' e1 hb3 hq r4 hc4
  generalize (encs p.l).length = m at *
  generalize hdr p ++ le4 (sumPk T p) ++ encs p.l = A at *
  simp only [hA]
  obtain ⟨K, hK1, hK2⟩ := and16 at_
  refine gg ?_
  refine i_and (by exact sel_of rfl) (by first | exact sel_of rfl | exact const_of) ?_
  rw [hK2]
  refine gg ?_
  refine i_remn (K % (m + 9)) (p := K) (q := m + 9) (by exact sel_of rfl) (by rw [show ((m + 9 : Nat) : Int) = ((12 + m : Nat) : Int) - 3 by omega]; exact sel_of rfl) (by omega) rfl ?_
  have hk : K % (m + 9) < m + 9 := Nat.mod_lt _ (by omega)
  generalize K % (m + 9) = k at *
  refine gg ?_
  refine i_cut 11 (fun a h' => h4 = h' ∧ ∃ g : Bool, Sl [(63, .bool g), (7, .bool true), (8, .slice ot T.length T.length), (9, .slice (some ⟨b, 0, some 1⟩) (12 + m) (12 + m)), (11, .int .i64 (k : Int)), (2, .int .u32 (y : Int))] a ∧ (g = false → k ≤ 4 ∨ k = 8 ∨ 12 ≤ k)) ?_ ?_
  · simp only [List.take_succ_cons, List.take_zero]
    by_cases h1 : k ≤ 4
    · rw [decide_eq_false (p := (4 : Int) < ((k : Nat) : Int)) (by omega)]
      refine gg ?_
      rw [decide_eq_false (p := (8 : Int) < ((k : Nat) : Int)) (by omega)]
      refine gg ?_
      exact ⟨rfl, false, ⟨sel_of rfl, sel_of rfl, sel_of rfl, sel_of rfl, sel_of rfl, sel_of rfl, trivial⟩, fun _ => .inl h1⟩
    rw [decide_eq_true (p := (4 : Int) < ((k : Nat) : Int)) (by omega)]
    refine gg ?_
    by_cases h2 : k < 8
    · rw [decide_eq_true (p := ((k : Nat) : Int) < (8 : Int)) (by omega)]
      refine gg ?_
      exact ⟨rfl, true, ⟨sel_of rfl, sel_of rfl, sel_of rfl, sel_of rfl, sel_of rfl, sel_of rfl, trivial⟩, fun e => by cases e⟩
    rw [decide_eq_false (p := ((k : Nat) : Int) < (8 : Int)) (by omega)]
    refine gg ?_
    by_cases h3 : 8 < k
    · rw [decide_eq_true (p := (8 : Int) < ((k : Nat) : Int)) (by omega)]
      refine gg ?_
      exact ⟨rfl, _, ⟨sel_of rfl, sel_of rfl, sel_of rfl, sel_of rfl, sel_of rfl, sel_of rfl, trivial⟩, fun e => .inr (.inr (by have := of_decide_eq_false e; omega))⟩
    · rw [decide_eq_false (p := (8 : Int) < ((k : Nat) : Int)) (by omega)]
      refine gg ?_
      exact ⟨rfl, false, ⟨sel_of rfl, sel_of rfl, sel_of rfl, sel_of rfl, sel_of rfl, sel_of rfl, trivial⟩, fun _ => .inr (.inl (by omega))⟩
  simp only [List.drop_succ_cons, List.drop_zero]
  rintro a5 _ ⟨rfl, g, hs5, hg⟩
  obtain ⟨f5, rfl⟩ := hs5.puts
  clear hs5 hs
  cases g with
  | true =>
    refine gg ?_
    rfl
  | false =>
  obtain ⟨X', c0, c1, c2, c3, E', hE, hX', hE', hne⟩ := hbb2 k (by omega) (hg rfl)
  refine gg ?_
  refine o_up 4 (fun i f h'' => Sl [(12, .int .i64 (i : Int)), (7, .bool true), (8, .slice ot T.length T.length), (9, .slice (some ⟨b, 0, some 1⟩) (12 + m) (12 + m)), (11, .int .i64 (k : Int)), (2, .int .u32 (y : Int))] f ∧ Keeps h3 h'' ∧ b < h''.next ∧ h''.get b = some (.cells 5 (u8s (xorB A k y i)) (.own true))) (by omega) ?_ ?_
  · exact ⟨⟨sel_of rfl, sel_of rfl, sel_of rfl, sel_of rfl, sel_of rfl, sel_of rfl, trivial⟩, k34, hb2, hb4⟩
  rintro i f h'' hi ⟨hs, kz, hbz, hgz⟩
  obtain ⟨f6, rfl⟩ := hs.puts
  have hsl := xorB_len A k y i
  rw [hA] at hsl
  have rz : Row h'' 1 (some ⟨b, 0, some 1⟩) (12 + m) (u8s (xorB A k y i)) := by
    have := rowB hbz hgz
    rw [hsl] at this
    exact this
  simp only [c6_0]
  refine gg ?_
  refine out_if (by exact sel_of rfl) (fun hif => ?_) (fun hif => ?_)
  · obtain ⟨x, hx⟩ : ∃ x, (xorB A k y i)[k + i]? = some x := ⟨_, List.getElem?_eq_getElem (by omega)⟩
    have hst : xorB A k y (i + 1) = (xorB A k y i).set (k + i) (x ^^^ byN y i) := by rw [xorB, hx]; rfl
    refine gg ?_
    refine i_idx (m := 12 + m) (by exact sel_of rfl) rz (i := k + i) (by exact sel_of rfl) (by omega) fun u hu => ?_
    cases hu
    refine i_load1 (v := .int .u8 ((x.toNat : Nat) : Int)) (by exact sel_of rfl) (by rw [rz.cell (by omega), Nat.mul_one, u8s_get, hx]; rfl) ?_
    refine gg ?_
    refine i_v (v := .int .i64 ((8 * i : Nat) : Int)) (int2w _ (by first | exact sel_of rfl | exact const_of) (by exact sel_of rfl) (by
      show some (Value.int .i64 (wrap .i64 (8 * (i : Int)))) = _
      rw [wrap_i64 (by omega) (by omega)]; rfl)) ?_
    refine gg ?_
    refine i_shr (m := y) (i := 8 * i) (by exact sel_of rfl) (by exact sel_of rfl) (by show 8 * i ≤ 32; omega) ?_
    refine gg ?_
    refine i_xorn 8 (m := x.toNat) (q := (byN y i).toNat) (by exact sel_of rfl) (by exact sel_of rfl) rfl (UInt8.toNat_lt _) (UInt8.toNat_lt _) ?_
    rw [← UInt8.toNat_xor]
    refine i_idx (m := 12 + m) (by exact sel_of rfl) rz (i := k + i) (by exact sel_of rfl) (by omega) fun u hu => ?_
    cases hu
    refine i_store1 (u := ⟨b, 0 + (k + i) * 1, some 0⟩) (v := .int .u8 (((x ^^^ byN y i).toNat : Nat) : Int)) (by exact sel_of rfl) (by rfl) hgz (by show 0 + (k + i) * 1 < _; rw [u8s_length, hsl]; omega) ?_
    refine gg ?_
    refine rnd_up (by omega) ⟨⟨sel_of rfl, sel_of rfl, sel_of rfl, sel_of rfl, sel_of rfl, sel_of rfl, trivial⟩, kz.put hb1 _, hbz, ?_⟩
    rw [Heap.get_put, if_pos rfl]
    show some (Blk.cells _ ((u8s (xorB A k y i)).set (0 + (k + i) * 1) _) _) = _
    rw [u8s_set, hst, Nat.zero_add, Nat.mul_one]
  · obtain rfl : i = 4 := by omega
    rw [hE] at rz
    have lE : (X' ++ [c0, c1, c2, c3] ++ E').length = 12 + m := by simp only [List.length_append, hX', hE', List.length_cons, List.length_nil]
    have hd := w_pdecodeU (h := h'') (ct := T.length) (c := 12 + m) (rt.keeps kz) h256 hbt hX' hne (o := some ⟨b, 0, some 1⟩) (by rw [lE]; exact rz) (by omega) (by omega) n (by omega)
    rw [lE] at hd
    refine gg ?_
    refine i_call2 (by exact sel_of rfl) (by exact sel_of rfl) hd ?_
    rintro _ h8 ⟨k8, rfl⟩
    refine gg ?_
    refine i_storeF (vs := [.int .u16 0, .int .u16 0, .int .u32 0, .slice none 0 0]) (Keeps.new h8 _) (Nat.le_refl _) (by exact sel_of rfl) (by rfl) (by rw [Heap.get_new, if_pos rfl]) rfl rfl (Nat.lt_succ_self _) fun h9 k9 g9 x9 => ?_
    refine gg ?_
    rfl
end Go.Proofs.Ytdcllpjoejkpnaa

