/- Part of a proof by an abstract run of the program's code: QPbL. No condition. -/
import Derived.Test.YtdcllpjoejkpnaaQPkB
import Derived.Test.YtdcllpjoejkpnaaQPkD
import Derived.Test.YtdcllpjoejkpnaaQPkS
/-! The law PacketBack, walked. -/
set_option linter.unusedVariables false
namespace Go.Proofs.Ytdcllpjoejkpnaa
open Go Vm
theorem encs_mod : ∀ (l : List Chk), (∀ x ∈ l, x.shaped) → (encs l).length % 4 = 0
  | [], _ => rfl
  | x :: l, h => by
    obtain ⟨e3, e4, e5⟩ := encC_len (h x (by simp))
    have := encs_mod l (fun y hy => h y (by simp [hy]))
    rw [show encs (x :: l) = (encC x).1 ++ encs l from rfl, List.length_append]
    omega
theorem encPk_len {t : List Nat} {p : Pk} (hg : ¬badPk t p ∧ ¬bigPk p) : (encPk t p).1.length ≤ 1200 ∧ (encPk t p).1.length % 4 = 0 := by
  have hsh : ∀ x ∈ p.l, x.shaped := fun x hx => Classical.byContradiction fun e => hg.1 (.inr (.inr (.inr (by
    rw [List.any_eq_true]; exact ⟨x, hx, by simp [e]⟩))))
  have h12 : 12 + (encs p.l).length ≤ 1200 := Nat.le_of_not_lt fun e => hg.2 (.inr e)
  have hm := encs_mod p.l hsh
  have hX : (hdr p).length = 8 := by simp [hdr, down_length]
  have hl4 : (le4 (sumPk t p)).length = 4 := rfl
  rw [encPk, if_neg hg.1, if_neg hg.2]
  show (hdr p ++ le4 (sumPk t p) ++ encs p.l).length ≤ 1200 ∧ (hdr p ++ le4 (sumPk t p) ++ encs p.l).length % 4 = 0
  simp only [List.length_append, hX, hl4]
  omega
set_option maxHeartbeats 4000000 in
theorem w_lpback {h : Heap} {p : Pk} {pv : List Value} (hpv : PkV h p pv) (hb : p.from_ < 65536 ∧ p.to_ < 65536 ∧ p.tag < 4294967296) (hok : ∀ x ∈ p.l, x.Ok) (n : Nat) (hn : 103000 ≤ n) :
    ResQ (callN Try.prog G0 n (.call 5 [.agg pv.toArray]) h) (fun u h' => u = .bool true) := by
  have hpv0 := hpv
  have lp := hpv.len
  obtain ⟨n, rfl⟩ : ∃ m, n = m + 1 := ⟨n - 1, by omega⟩
  refine res_enter rfl d5 rfl ?_; simp only [c5]
  obtain ⟨g1, k1, n1⟩ := box_one h (.cells 27 pv.toArray.toList (.own false))
  refine o_cut (fun a h' => h' = (h.new (.cells 27 pv.toArray.toList (.own false))) ∧ Sl [(1, .pointer (some ⟨h.next, 0, none⟩))] a) ?_ ?_
  · refine gg ?_
    exact ⟨rfl, rfl, sel_of rfl, trivial⟩
  rintro a h1 ⟨hh, hs⟩
  rw [← hh] at g1 k1 n1
  clear hh
  obtain ⟨f0, rfl⟩ := hs.puts
  have b1 : h.next < h1.next := by omega
  have hq : PkV h1 p pv := hpv.keeps k1
  obtain ⟨ol, cl, els, rfl, rl, el, hcl⟩ := hpv
  refine gg ?_
  refine i_call0 (w_awake h1 n (by omega)) ?_
  rintro _ _ ⟨rfl, rfl⟩
  refine gg ?_; repeat (refine i_ldown (by exact sel_of rfl) (by assumption) (by rfl) ?_; refine gg ?_)
  refine i_call1 (by exact sel_of rfl) (w_pfew (rl.keeps k1) (el.keeps k1) n (by omega)) ?_
  rintro _ h2 ⟨rfl, k2⟩
  by_cases hf : fewL p.l
  case neg =>
    rw [decide_eq_false hf]
    refine gg ?_
    rfl
  rw [decide_eq_true hf]
  have d1 := (k2.get _ b1).trans g1
  have b2 := Nat.lt_of_lt_of_le b1 k2.next
  refine gg ?_
  refine i_call0 (w_table n (by omega)) ?_
  rintro _ h3 ⟨k3, ot, t, rfl, h256, rt, hbt⟩
  have d2 := (k3.get _ b2).trans d1
  have b3 := Nat.lt_of_lt_of_le b2 k3.next
  refine gg ?_
  refine i_loadN (by exact sel_of rfl) (loadN_all (by assumption) (by first | rfl | assumption)) ?_
  refine gg ?_
  have hq3 := hq.keeps (k2.trans k3)
  refine i_call2 (by exact sel_of rfl) (by exact sel_of rfl) (w_pencode rt hbt hq3 hf.1 n (by omega)) ?_
  rintro _ h4 ⟨k4, o4, c4, rfl, r4, hc4⟩
  have d3 := (k4.get _ b3).trans d2
  have b4 := Nat.lt_of_lt_of_le b3 k4.next
  by_cases hbad : badPk t p
  · have e1 : encPk t p = ([], 1) := by rw [encPk, if_pos hbad]
    rw [e1]
    refine gg ?_
    rfl
  by_cases hbig : bigPk p
  · have e1 : encPk t p = ([], 10) := by rw [encPk, if_neg hbad, if_pos hbig]
    rw [e1]
    refine gg ?_
    rfl
  have he2 : (encPk t p).2 = 0 := by rw [encPk, if_neg hbad, if_neg hbig]
  obtain ⟨l1, l2⟩ := encPk_len ⟨hbad, hbig⟩
  rw [he2]
  refine gg ?_
  refine i_call2 (by exact sel_of rfl) (by exact sel_of rfl) (w_pdecode (rt.keeps k4) hbt ⟨⟨hbad, hbig⟩, hb, hok⟩ r4 hc4 n (by omega)) ?_
  rintro _ h5 ⟨k5, qv, rfl, hqv⟩
  have lqv := hqv.len
  have d4 := (k5.get _ b4).trans d3
  have b5 := Nat.lt_of_lt_of_le b4 k5.next
  refine gg ?_
  refine i_storeF (Keeps.new h5 _) (Nat.le_refl _) (by exact sel_of rfl) (by rfl) (by rw [Heap.get_new, if_pos rfl]) lqv rfl (Nat.lt_succ_self _) fun h6 k6 g6 x6 => ?_
  have d5 := (k6.get _ b5).trans d4
  have hv6 : PkV h6 p _ := hq3.keeps (k4.trans (k5.trans k6))
  have hw6 := hqv.keeps k6
  clear rl el rt r4 hqv hq hq3 k1 k2 k3 k4 k5 g1 d1 d2 d3 d4 hbad hbig
  generalize (encPk t p).1.length = N at *
  refine gg ?_
  refine i_loadN (by exact sel_of rfl) (loadN_all (by assumption) (by first | rfl | assumption)) ?_
  refine gg ?_
  refine i_loadN (by exact sel_of rfl) (loadN_all (by assumption) (by first | rfl | assumption)) ?_
  refine gg ?_
  refine i_call2 (by exact sel_of rfl) (by exact sel_of rfl) (w_psame hv6 hw6 hf n (by omega)) ?_
  rintro _ h7 ⟨rfl, k7⟩
  clear hv6 hw6 hpv0 hok d5 g6 hcl hc4
  refine gg ?_
  refine i_remn 0 (p := N) (q := 4) (by exact sel_of rfl) (by first | exact sel_of rfl | exact const_of) (by decide) l2 ?_
  refine gg ?_
  rfl
end Go.Proofs.Ytdcllpjoejkpnaa

