/- Part of a proof by an abstract run of the program's code: UEncB. No condition. -/
import Derived.Test.YtdcllpjoejkpnaaUChkA
import Derived.Test.YtdcllpjoejkpnaaUSamA
import Derived.Test.YtdcllpjoejkpnaaUFldA
/-! Whether a chunk is shaped, and its octets, walked. -/
set_option linter.unusedVariables false
namespace Go.Proofs.Ytdcllpjoejkpnaa
open Go Vm
theorem fld_if {α : Type} {φ : Prop} [Decidable φ] {x z : α} : (φ ∨ x = z) ↔ x = if φ then x else z := by
  by_cases h : φ
  · simp [h]
  · simp [h]
theorem shaped_iff (c : Chk) : c.shaped ↔ ((c.bl.length ≤ 64 ∧ c.du.length ≤ 64 ∧ c.sk.length ≤ 64 ∧ c.da.length ≤ 1200) ∧ (c.k = 0 → c.da ≠ [])) ∧ (encR c.pa).2 = 0 ∧ c = onlyC c := by
  constructor
  · rintro ⟨⟨s1, s2, s3, s4, s5⟩, ⟨s6, s7, s8, s9⟩, s10, s11, s12, s13, s14, s15⟩
    refine ⟨⟨⟨s11, s12, s13, s14⟩, s15⟩, s10, Chk.ext' rfl rfl (fld_if.1 s1) (fld_if.1 s2) (fld_if.1 s3) (fld_if.1 s4) (fld_if.1 s5) (fld_if.1 (s6.imp id And.left)) (fld_if.1 (s6.imp id And.right)) (fld_if.1 s7) (fld_if.1 s8) (fld_if.1 s9)⟩
  · rintro ⟨⟨⟨s11, s12, s13, s14⟩, s15⟩, s10, e⟩
    refine ⟨⟨fld_if.2 (congrArg Chk.a e), fld_if.2 (congrArg Chk.b e), fld_if.2 (congrArg Chk.o e), fld_if.2 (congrArg Chk.i e), fld_if.2 (congrArg Chk.p e)⟩, ⟨?_, fld_if.2 (congrArg Chk.sk e), fld_if.2 (congrArg Chk.pa e), fld_if.2 (congrArg Chk.da e)⟩, s10, s11, s12, s13, s14, s15⟩
    have h1 : 67 ∈ lets c.k ∨ c.bl = [] := fld_if.2 (congrArg Chk.bl e)
    have h2 : 67 ∈ lets c.k ∨ c.du = [] := fld_if.2 (congrArg Chk.du e)
    rcases h1 with h1 | h1
    · exact .inl h1
    rcases h2 with h2 | h2
    · exact .inl h2
    exact .inr ⟨h1, h2⟩
/-- too many parameters -/
theorem w_encBig {h : Heap} {o : Option Addr} {m c : Nat} {l : List Prm} (hl : l.length = m) (h32 : 32 < l.length) (n : Nat) (hn' : 200 ≤ n) :
    ResQ (callN Try.prog G0 n (.call 69 [.slice o m c]) h) (EncQ h l) := by
  subst hl
  obtain ⟨n, rfl⟩ : ∃ m, n = m + 1 := ⟨n - 1, by omega⟩
  refine res_enter rfl d69 rfl ?_; simp only [c69]
  refine gg ?_
  exact EncQ.bad (Keeps.refl h) (.inl h32)
/-- parameters, however many -/
theorem w_encH {h : Heap} {o : Option Addr} {m c : Nat} {l : List Prm} {cs : List Value} (hr : Row h 2 o m cs) (hp : PrL h l cs) (hl : l.length = m) (n : Nat) (hn' : 200 ≤ n) :
    ResQ (callN Try.prog G0 n (.call 69 [.slice o m c]) h) (EncQ h l) := by
  by_cases h32 : 32 < l.length
  · exact w_encBig hl h32 n hn'
  · exact w_encG hr hp hl (by omega) n (by omega) (by omega)
set_option maxHeartbeats 4000000 in
theorem w_shapedG {h : Heap} {c : Chk} {v : List Value} (hv : ChV h c v) (n : Nat) (hn : 100400 ≤ n) :
    ResQ (callN Try.prog G0 n (.call 51 [.agg v.toArray]) h) (fun u h' => u = .bool (decide c.shaped) ∧ Keeps h h') := by
  have hv0 := hv
  obtain ⟨n, rfl⟩ : ∃ m, n = m + 1 := ⟨n - 1, by omega⟩
  refine res_enter rfl d51 rfl ?_; simp only [c51]
  obtain ⟨a1, k1, n1⟩ := box_one h (.cells 33 v.toArray.toList (.own false))
  refine o_cut (fun a h' => h' = (h.new (.cells 33 v.toArray.toList (.own false))) ∧ Sl [(1, .pointer (some ⟨h.next, 0, none⟩))] a) ?_ ?_
  · refine gg ?_
    exact ⟨rfl, rfl, sel_of rfl, trivial⟩
  rintro a h1 ⟨hh, hs⟩
  rw [← hh] at a1 k1 n1
  clear hh
  have hv1 := hv0.keeps k1
  have lv := hv0.len
  obtain ⟨o1, c1, o2, c2, o3, c3, o4, c4, o5, c5, ps, rfl, r1, r2, r3, ⟨r4, p4⟩, r5, ⟨b1, b2, b3, b4, b5⟩, hk256, hf256⟩ := hv
  obtain ⟨f0, rfl⟩ := hs.puts
  have x1 : h.next < h1.next := by omega
  refine gg ?_; repeat (refine i_ldown (by exact sel_of rfl) (by assumption) (by rfl) ?_; refine gg ?_)
  by_cases e1 : c.bl.length ≤ 64
  case neg =>
    rw [decide_eq_false (p := ((c.bl.length : Nat) : Int) ≤ 64) (by omega)]
    refine gg ?_; repeat (refine i_ldown (by exact sel_of rfl) (by assumption) (by rfl) ?_; refine gg ?_)
    exact ⟨(bool_false (fun hs => e1 ((shaped_iff c).1 hs).1.1.1)).symm, k1⟩
  rw [decide_eq_true (p := ((c.bl.length : Nat) : Int) ≤ 64) (by omega)]
  refine gg ?_; repeat (refine i_ldown (by exact sel_of rfl) (by assumption) (by rfl) ?_; refine gg ?_)
  by_cases e2 : c.du.length ≤ 64
  case neg =>
    rw [decide_eq_false (p := ((c.du.length : Nat) : Int) ≤ 64) (by omega)]
    refine gg ?_; repeat (refine i_ldown (by exact sel_of rfl) (by assumption) (by rfl) ?_; refine gg ?_)
    exact ⟨(bool_false (fun hs => e2 ((shaped_iff c).1 hs).1.1.2.1)).symm, k1⟩
  rw [decide_eq_true (p := ((c.du.length : Nat) : Int) ≤ 64) (by omega)]
  refine gg ?_; repeat (refine i_ldown (by exact sel_of rfl) (by assumption) (by rfl) ?_; refine gg ?_)
  by_cases e3 : c.sk.length ≤ 64
  case neg =>
    rw [decide_eq_false (p := ((c.sk.length : Nat) : Int) ≤ 64) (by omega)]
    refine gg ?_; repeat (refine i_ldown (by exact sel_of rfl) (by assumption) (by rfl) ?_; refine gg ?_)
    exact ⟨(bool_false (fun hs => e3 ((shaped_iff c).1 hs).1.1.2.2.1)).symm, k1⟩
  rw [decide_eq_true (p := ((c.sk.length : Nat) : Int) ≤ 64) (by omega)]
  refine gg ?_; repeat (refine i_ldown (by exact sel_of rfl) (by assumption) (by rfl) ?_; refine gg ?_)
  by_cases e4 : c.da.length ≤ 1200
  case neg =>
    rw [decide_eq_false (p := ((c.da.length : Nat) : Int) ≤ 1200) (by omega)]
    refine gg ?_; repeat (refine i_ldown (by exact sel_of rfl) (by assumption) (by rfl) ?_; refine gg ?_)
    exact ⟨(bool_false (fun hs => e4 ((shaped_iff c).1 hs).1.1.2.2.2)).symm, k1⟩
  rw [decide_eq_true (p := ((c.da.length : Nat) : Int) ≤ 1200) (by omega)]
  refine gg ?_; repeat (refine i_ldown (by exact sel_of rfl) (by assumption) (by rfl) ?_; refine gg ?_)
  by_cases hkd : c.k = 0 ∧ c.da.length = 0
  · obtain ⟨hk, hd⟩ := hkd
    rw [decide_eq_true (p := ((c.k : Nat) : Int) = 0) (by omega)]
    refine gg ?_; repeat (refine i_ldown (by exact sel_of rfl) (by assumption) (by rfl) ?_; refine gg ?_)
    exact ⟨(bool_false (fun hs => ((shaped_iff c).1 hs).1.2 hk (List.length_eq_zero_iff.1 hd))).symm, k1⟩
  have hkd' : c.k = 0 → c.da ≠ [] := fun h1 h2 => hkd ⟨h1, by rw [h2]; rfl⟩
  by_cases hk : c.k = 0
  case' pos =>
    rw [decide_eq_true (p := ((c.k : Nat) : Int) = 0) (by omega)]
    refine gg ?_; repeat (refine i_ldown (by exact sel_of rfl) (by assumption) (by rfl) ?_; refine gg ?_)
    rw [decide_eq_false (p := ((c.da.length : Nat) : Int) = 0) (by omega)]
    refine gg ?_; repeat (refine i_ldown (by exact sel_of rfl) (by assumption) (by rfl) ?_; refine gg ?_)
  case' neg =>
    rw [decide_eq_false (p := ((c.k : Nat) : Int) = 0) (by omega)]
    refine gg ?_; repeat (refine i_ldown (by exact sel_of rfl) (by assumption) (by rfl) ?_; refine gg ?_)
  all_goals
    refine i_call1 (by exact sel_of rfl) (w_encH (r4.keeps k1) (p4.keeps k1) rfl n (by omega)) ?_
    rintro _ h2 ⟨k2, oE, cE, rfl, rowE, hcE⟩
    have a2 := (k2.get _ x1).trans a1
    have x2 := Nat.lt_of_lt_of_le x1 k2.next
    have hv2 := hv1.keeps k2
    refine gg ?_; repeat (refine i_ldown (by exact sel_of rfl) (by assumption) (by rfl) ?_; refine gg ?_)
    by_cases he : (encR c.pa).2 = 0
    case neg =>
      rw [decide_eq_false (p := (((encR c.pa).2 : Nat) : Int) = 0) (by omega)]
      refine gg ?_; repeat (refine i_ldown (by exact sel_of rfl) (by assumption) (by rfl) ?_; refine gg ?_)
      refine ⟨chk_skip rfl (by exact sel_of rfl) rfl chk_nil, ?_⟩
      refine gg ?_
      exact ⟨(bool_false (fun hs => he ((shaped_iff c).1 hs).2.1)).symm, k1.trans k2⟩
    rw [decide_eq_true (p := (((encR c.pa).2 : Nat) : Int) = 0) (by omega)]
    obtain ⟨_, hp32, hp12⟩ := encR_ok he
    refine gg ?_; repeat (refine i_ldown (by exact sel_of rfl) (by assumption) (by rfl) ?_; refine gg ?_)
    refine i_loadN (by exact sel_of rfl) (loadN_all (by assumption) (by first | rfl | assumption)) ?_
    refine gg ?_
    refine i_loadN (by exact sel_of rfl) (loadN_all (by assumption) (by first | rfl | assumption)) ?_
    refine gg ?_
    refine i_call1 (by exact sel_of rfl) (w_only hv2 n (by omega)) ?_
    rintro _ h3 ⟨k3, w, rfl, hw⟩
    have a3 := (k3.get _ x2).trans a2
    have hv3 := hv2.keeps k3
    refine gg ?_
    refine i_call2 (by exact sel_of rfl) (by exact sel_of rfl) (w_csame hv3 hw ⟨by omega, by omega, by omega, by omega, by omega, fun p hp => by have := hp12 p hp; omega⟩ n (by omega)) ?_
    rintro _ h4 ⟨rfl, k4⟩
    refine gg ?_
    refine ⟨chk_live rfl (ldN (by exact sel_of rfl) (loadN_all (by assumption) (by first | rfl | assumption))) (by exact hv0.sv) (fun m hm => by
      simp only [List.mem_cons, List.not_mem_nil, or_false] at hm
      rcases hm with rfl | rfl <;> exact ⟨_, _, rfl, ldN (by exact sel_of rfl) (loadN_all (by assumption) (by first | rfl | assumption))⟩) chk_nil, ?_⟩
    refine gg ?_
    refine ⟨congrArg Value.bool ?_, k1.trans (k2.trans (k3.trans k4))⟩
    rw [decide_eq_decide, shaped_iff]
    exact ⟨fun e => ⟨⟨⟨e1, e2, e3, e4⟩, hkd'⟩, he, e⟩, fun e => e.2.2⟩
theorem w_shaped {h : Heap} {c : Chk} {v : List Value} (hv : ChV h c v) (hp : c.pa.length ≤ 100000) (n : Nat) (hn : 100400 ≤ n) :
    ResQ (callN Try.prog G0 n (.call 51 [.agg v.toArray]) h) (fun u h' => u = .bool (decide c.shaped) ∧ Keeps h h') := w_shapedG hv n hn
def EncCQ (h : Heap) (c : Chk) (v : Value) (h' : Heap) : Prop := Keeps h h' ∧ ∃ o cp, v = .tuple #[.slice o (encC c).1.length cp, .int .i64 (((encC c).2 : Nat) : Int)] ∧ Row h' 1 o (encC c).1.length (u8s (encC c).1) ∧ (encC c).1.length ≤ cp
set_option maxHeartbeats 2000000 in
theorem w_cencodeG {h : Heap} {c : Chk} {v : List Value} (hv : ChV h c v) (n : Nat) (hn : 100500 ≤ n) :
    ResQ (callN Try.prog G0 n (.call 31 [.agg v.toArray]) h) (EncCQ h c) := by
  have hv0 := hv
  obtain ⟨n, rfl⟩ : ∃ m, n = m + 1 := ⟨n - 1, by omega⟩
  refine res_enter rfl d31 rfl ?_; simp only [c31]
  obtain ⟨a1, k1, n1⟩ := box_one h (.cells 33 v.toArray.toList (.own false))
  refine o_cut (fun a h' => h' = (h.new (.cells 33 v.toArray.toList (.own false))) ∧ Sl [(1, .pointer (some ⟨h.next, 0, none⟩))] a) ?_ ?_
  · refine gg ?_
    exact ⟨rfl, rfl, sel_of rfl, trivial⟩
  rintro a h1 ⟨hh, hs⟩
  rw [← hh] at a1 k1 n1
  clear hh
  have hv1 := hv0.keeps k1
  have lv := hv0.len
  obtain ⟨o1, c1, o2, c2, o3, c3, o4, c4, o5, c5, ps, rfl, r1, r2, r3, ⟨r4, p4⟩, r5, ⟨b1, b2, b3, b4, b5⟩, hk256, hf256⟩ := hv
  obtain ⟨f0, rfl⟩ := hs.puts
  have x1 : h.next < h1.next := by omega
  refine gg ?_; repeat (refine i_ldown (by exact sel_of rfl) (by assumption) (by rfl) ?_; refine gg ?_)
  refine i_loadN (by exact sel_of rfl) (loadN_all (by assumption) (by first | rfl | assumption)) ?_
  refine gg ?_
  refine i_call1 (by exact sel_of rfl) (w_shapedG hv1 n (by omega)) ?_
  rintro _ h2 ⟨rfl, k2⟩
  by_cases hsh : c.shaped
  case neg =>
    rw [decide_eq_false hsh]
    refine gg ?_; repeat (refine i_ldown (by exact sel_of rfl) (by assumption) (by rfl) ?_; refine gg ?_)
    rw [EncCQ, encC, if_neg hsh]
    exact ⟨k1.trans k2, none, 0, rfl, Row.nil _ _, Nat.le_refl _⟩
  rw [decide_eq_true hsh]
  have a2 := (k2.get _ x1).trans a1
  have x2 := Nat.lt_of_lt_of_le x1 k2.next
  have hF := fieldsC_len hsh
  refine gg ?_; repeat (refine i_ldown (by exact sel_of rfl) (by assumption) (by rfl) ?_; refine gg ?_)
  refine i_loadN (by exact sel_of rfl) (loadN_all (by assumption) (by first | rfl | assumption)) ?_
  refine gg ?_
  refine i_call1 (by exact sel_of rfl) (w_fields (hv1.keeps k2) hsh n (by omega)) ?_
  rintro _ h3 ⟨k3, oF, cF, rfl, rowF, hcF⟩
  have a3 := (k3.get _ x2).trans a2
  refine gg ?_; repeat (refine i_ldown (by exact sel_of rfl) (by assumption) (by rfl) ?_; refine gg ?_)
  have k4 : Keeps h3 (h3.new (.cells 5 [.int .u8 (c.k : Int), .int .u8 (c.fl : Int)] (.own false))) := Keeps.new h3 _
  have row : Row (h3.new (.cells 5 [.int .u8 (c.k : Int), .int .u8 (c.fl : Int)] (.own false))) 1 (some ⟨h3.next, 0, none⟩) 2 (u8s [UInt8.ofNat c.k, UInt8.ofNat c.fl]) := by
    have e : ([.int .u8 (c.k : Int), .int .u8 (c.fl : Int)] : List Value) = u8s [UInt8.ofNat c.k, UInt8.ofNat c.fl] := by
      rw [u8s_eq]
      simp only [List.map_cons, List.map_nil, UInt8.toNat_ofNat', Nat.mod_eq_of_lt hk256, Nat.mod_eq_of_lt hf256]
    rw [← e]
    exact Row.new (by simp) rfl (.inl rfl)
  refine i_call2 (by exact sel_of rfl) (by exact sel_of rfl) (w_put16 row (4 + (fieldsC c).length) (by simp) n (by omega)) ?_
  rintro _ h5 ⟨k5, o6, rfl, a6⟩
  refine gg ?_
  have kk := k4.trans k5
  refine i_app (t := (bodyC c).length) (es := u8s (bodyC c)) (k1.trans (k2.trans (k3.trans kk))) (by decide) (by exact sel_of rfl) (a6.mono (by have := k1.next; have := k2.next; have := k3.next; have := k4.next; omega)) ((rowF.keeps kk).src8) (by rw [u8s_length, Nat.mul_one]) (by first | omega | (simp [down_length]; omega) | (rw [bodyC_len]; omega)) (by simp only [bodyC, List.length_append]) (by simp only [bodyC, u8s_append]) fun o7 h7 k7 a7 _ => ?_
  refine gg ?_
  refine i_call1 (by exact sel_of rfl) (w_pad a7.row (by rw [bodyC_len]; omega) n (by omega)) ?_
  rintro _ h8 ⟨k8, o8, rfl, a8⟩
  refine gg ?_
  rw [EncCQ, encC, if_pos hsh]
  exact ⟨k7.trans k8, o8, _, rfl, a8.row, Nat.le_refl _⟩
theorem w_cencode {h : Heap} {c : Chk} {v : List Value} (hv : ChV h c v) (hp : c.pa.length ≤ 100000) (n : Nat) (hn : 100500 ≤ n) :
    ResQ (callN Try.prog G0 n (.call 31 [.agg v.toArray]) h) (EncCQ h c) := w_cencodeG hv n hn
end Go.Proofs.Ytdcllpjoejkpnaa

