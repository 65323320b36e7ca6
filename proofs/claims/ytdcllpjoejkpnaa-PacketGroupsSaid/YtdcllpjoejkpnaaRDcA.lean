/- Part of a proof by an abstract run of the program's code: RDcA. No condition. -/
import Derived.Test.YtdcllpjoejkpnaaRChkA
import Derived.Test.YtdcllpjoejkpnaaRRdC
import Derived.Test.YtdcllpjoejkpnaaRLwB
/-! chunk.Decode, walked. -/
set_option linter.unusedVariables false
namespace Go.Proofs.Ytdcllpjoejkpnaa
open Go Vm
def DecCQ (h : Heap) (l : List UInt8) (u : Value) (h' : Heap) : Prop := Keeps h h' ∧ ∃ v, u = .tuple #[.agg v.toArray, .int .i64 (((decC l).2.1 : Nat) : Int), .int .i64 (((decC l).2.2 : Nat) : Int)] ∧ ChV h' (decC l).1 v
theorem need_len (φ : Prop) [Decidable φ] (e : Nat) (s : RS) : (need φ e s).1 = s.1 := by unfold need; split <;> rfl
theorem headC_len (l : List UInt8) : (headC l).2.2.1.length ≤ l.length := by
  have e : (headC l).2.2.1 = (rn 2 (rn 2 (l, 0)).2).2.1 := by
    unfold headC
    dsimp only
    rw [need_len, need_len]
  rw [e]
  have h1 := rn_len 2 (rn 2 (l, 0)).2
  have h2 := rn_len 2 (l, 0)
  exact Nat.le_trans h1 h2
theorem headC_ok {l : List UInt8} (h : (headC l).2.2.2 = 0) : 4 ≤ (headC l).2.1 ∧ (headC l).2.1 ≤ 4 + (headC l).2.2.1.length := by
  obtain ⟨a1, a2, a3⟩ := need_inv (by decide) h
  obtain ⟨b1, b2, b3⟩ := need_inv (by decide) a1
  refine ⟨b2, ?_⟩
  have e : (headC l).2.2.1 = (need (4 ≤ (rn 2 (rn 2 (l, 0)).2).1) 3 (rn 2 (rn 2 (l, 0)).2).2).1 := by
    unfold headC
    dsimp only
    rw [need_len]
  rw [e]; exact a2
theorem zero_chv (h : Heap) : ChV h Chk.zero [.int .u8 0, .int .u8 0, .int .u32 0, .int .u32 0, .int .u16 0, .int .u16 0, .int .u32 0, .slice none 0 0, .slice none 0 0, .slice none 0 0, .slice none 0 0, .slice none 0 0] := ⟨none, 0, none, 0, none, 0, none, 0, none, 0, [], rfl, Row.nil _ _, Row.nil _ _, Row.nil _ _, ⟨Row.nil _ _, trivial⟩, Row.nil _ _, ⟨Nat.le_refl _, Nat.le_refl _, Nat.le_refl _, Nat.le_refl _, Nat.le_refl _⟩, by decide, by decide⟩
/-- and what it points to lies behind all that was there -/
def DecCN (h : Heap) (l : List UInt8) (u : Value) (h' : Heap) : Prop := Keeps h h' ∧ ∃ v, u = .tuple #[.agg v.toArray, .int .i64 (((decC l).2.1 : Nat) : Int), .int .i64 (((decC l).2.2 : Nat) : Int)] ∧ ChVN h.next h' (decC l).1 v
theorem ChVN.mono {N N' : Nat} {h : Heap} {c : Chk} {v : List Value} (r : ChVN N h c v) (hN : N' ≤ N) : ChVN N' h c v := by
  obtain ⟨o1, c1, o2, c2, o3, c3, o4, c4, o5, c5, ps, e, r1, r2, r3, r4, r5, b, hk, hf, n1, n2, n3, n4, n5, n6⟩ := r
  exact ⟨o1, c1, o2, c2, o3, c3, o4, c4, o5, c5, ps, e, r1, r2, r3, r4, r5, b, hk, hf, fun q e => Nat.le_trans hN (n1 q e), fun q e => Nat.le_trans hN (n2 q e), fun q e => Nat.le_trans hN (n3 q e), fun q e => Nat.le_trans hN (n4 q e), fun q e => Nat.le_trans hN (n5 q e), fun q m c hm => Nat.le_trans hN (n6 q m c hm)⟩
theorem zero_chvN (N : Nat) (h : Heap) : ChVN N h Chk.zero [.int .u8 0, .int .u8 0, .int .u32 0, .int .u32 0, .int .u16 0, .int .u16 0, .int .u32 0, .slice none 0 0, .slice none 0 0, .slice none 0 0, .slice none 0 0, .slice none 0 0] := ⟨none, 0, none, 0, none, 0, none, 0, none, 0, [], rfl, Row.nil _ _, Row.nil _ _, Row.nil _ _, ⟨Row.nil _ _, trivial⟩, Row.nil _ _, ⟨Nat.le_refl _, Nat.le_refl _, Nat.le_refl _, Nat.le_refl _, Nat.le_refl _⟩, by decide, by decide, (fun q e => by cases e), (fun q e => by cases e), (fun q e => by cases e), (fun q e => by cases e), (fun q e => by cases e), fun q m c hm => by cases hm⟩
set_option maxHeartbeats 8000000 in
theorem w_cdecodeN {h : Heap} {o : Option Addr} {m c : Nat} {l : List UInt8} (hr : Row h 1 o m (u8s l)) (hlen : l.length ≤ 1000000) (n : Nat) (hn : 300 ≤ n) :
    ResQ (callN Try.prog G0 n (.call 67 [.slice o m c]) h) (DecCN h l) := by
  have hm : l.length = m := by simpa [u8s_length] using hr.1
  subst hm
  obtain ⟨n, rfl⟩ : ∃ m, n = m + 1 := ⟨n - 1, by omega⟩
  refine res_enter rfl d67 rfl ?_; simp only [c67]
  obtain ⟨g0, gC, k1, n1⟩ := box_two h (.cells 33 [.int .u8 0, .int .u8 0, .int .u32 0, .int .u32 0, .int .u16 0, .int .u16 0, .int .u32 0, .slice none 0 0, .slice none 0 0, .slice none 0 0, .slice none 0 0, .slice none 0 0] (.own false)) (.cells 33 [.int .u8 0, .int .u8 0, .int .u32 0, .int .u32 0, .int .u16 0, .int .u16 0, .int .u32 0, .slice none 0 0, .slice none 0 0, .slice none 0 0, .slice none 0 0, .slice none 0 0] (.own false))
  refine gg ?_
  generalize ((h.new (.cells 33 [.int .u8 0, .int .u8 0, .int .u32 0, .int .u32 0, .int .u16 0, .int .u16 0, .int .u32 0, .slice none 0 0, .slice none 0 0, .slice none 0 0, .slice none 0 0, .slice none 0 0] (.own false))).new (.cells 33 [.int .u8 0, .int .u8 0, .int .u32 0, .int .u32 0, .int .u16 0, .int .u16 0, .int .u32 0, .slice none 0 0, .slice none 0 0, .slice none 0 0, .slice none 0 0, .slice none 0 0] (.own false))) = h1 at *
  refine i_call1 (by exact sel_of rfl) (w_newF (hr.keeps k1) hlen n (by omega)) ?_
  rintro _ h2 ⟨k2, b1, hb1, rfl, rd2⟩
  have hb1n : b1 < h2.next := by obtain ⟨e, o, c, hb, _⟩ := rd2; exact hb
  have n2 := k2.next
  refine gg ?_
  obtain ⟨gR, k3, n3⟩ := box_one h2 (.cells 106 [.pointer (some ⟨b1, 0, none⟩), .int .i64 0] (.own false))
  show ItQ (runItems _ _ _ (h2.new (.cells 106 [.pointer (some ⟨b1, 0, none⟩), .int .i64 0] (.own false)))) _
  generalize (h2.new (.cells 106 [.pointer (some ⟨b1, 0, none⟩), .int .i64 0] (.own false))) = h3 at *
  have g03 : h3.get h.next = some (.cells 33 [.int .u8 0, .int .u8 0, .int .u32 0, .int .u32 0, .int .u16 0, .int .u16 0, .int .u32 0, .slice none 0 0, .slice none 0 0, .slice none 0 0, .slice none 0 0, .slice none 0 0] (.own false)) := (k3.get _ (by omega)).trans ((k2.get _ (by omega)).trans g0)
  have r3 : Rr h1.next h3 h2.next b1 (l, 0) := ⟨by omega, gR, rd2.keeps k3, by omega⟩
  have a3 : At h1.next h3 h2.next b1 (h.next + 1) [.int .u8 0, .int .u8 0, .int .u32 0, .int .u32 0, .int .u16 0, .int .u16 0, .int .u32 0, .slice none 0 0, .slice none 0 0, .slice none 0 0, .slice none 0 0, .slice none 0 0] := ⟨by omega, (k3.get _ (by omega)).trans ((k2.get _ (by omega)).trans gC), rfl, by omega, by omega, by omega⟩
  have kk3 : Keeps h h3 := k1.trans (k2.trans k3)
  clear g0 gC
  refine i_call2 (by exact sel_of rfl) (by exact sel_of rfl) (w_whole r3 a3 n (by omega)) ?_
  rintro _ h4 ⟨rfl, k4, nx4, r4, a4⟩
  have kk4 : Keeps h h4 := k4.keeps kk3 (fun d hd hp => by unfold P3 at hp; omega)
  have g04 := (k4.get h.next (by omega) (by unfold P3; omega)).trans g03
  have gr4 := r4.g
  have hh := headC_len l
  have hml := rn_lt2 (rn 2 (l, 0)).2
  have hn65 : (headC l).2.1 < 65536 := hml
  refine gg ?_; repeat (refine i_ldown (by exact sel_of rfl) (by assumption) (by rfl) ?_; refine gg ?_)
  by_cases he : (headC l).2.2.2 = 0
  case neg =>
    rw [decide_eq_true (p := (((headC l).2.2.2 : Nat) : Int) ≠ 0) (by omega)]
    refine gg ?_; repeat (refine i_ldown (by exact sel_of rfl) (by assumption) (by rfl) ?_; refine gg ?_)
    refine i_stA (vs := [.int .u8 0, .int .u8 0, .int .u32 0, .int .u32 0, .int .u16 0, .int .u16 0, .int .u32 0, .slice none 0 0, .slice none 0 0, .slice none 0 0, .slice none 0 0, .slice none 0 0]) (by exact sel_of rfl) (by rfl) g04 rfl rfl fun h5 kb5 nx5 g05 => ?_
    have gr5 := (kb5.get _ (by omega) (by omega)).trans gr4
    refine gg ?_; repeat (refine i_ldown (by exact sel_of rfl) (by assumption) (by rfl) ?_; refine gg ?_)
    refine ⟨chk_cons rfl (ldO (by exact sel_of rfl) gr4 (by rfl)) (sv_int _ _) (fun m hm => by
      simp only [List.mem_cons, List.not_mem_nil, or_false] at hm
      rcases hm with rfl | rfl
      · exact ⟨_, _, rfl, ldO (by exact sel_of rfl) gr4 (by rfl)⟩
      · exact ⟨_, _, rfl, ldO (by exact sel_of rfl) gr5 (by rfl)⟩) chk_nil, ?_⟩
    refine gg ?_; repeat (refine i_ldown (by exact sel_of rfl) (by assumption) (by rfl) ?_; refine gg ?_)
    refine finA3 (by exact sel_of rfl) (loadN_all g05 rfl) (by exact sel_of rfl) (by exact sel_of rfl) ?_
    rw [DecCN, decC, if_pos he]
    exact ⟨KeepsB.new kb5 (Nat.le_refl _) kk4, _, rfl, zero_chvN _ _⟩
  rw [decide_eq_false (p := (((headC l).2.2.2 : Nat) : Int) ≠ 0) (by omega)]
  obtain ⟨hn4, hnl⟩ := headC_ok he
  refine gg ?_; repeat (refine i_ldown (by exact sel_of rfl) (by assumption) (by rfl) ?_; refine gg ?_)
  have et : takeR (headC l).2.2.1 ((((headC l).2.1 : Nat) : Int) - 4) = ((headC l).2.2.1.take ((headC l).2.1 - 4), (headC l).2.2.1.drop ((headC l).2.1 - 4), 0) := by
    rw [show (((headC l).2.1 : Nat) : Int) - 4 = (((headC l).2.1 - 4 : Nat) : Int) by omega, takeR_nat, if_neg (by omega)]
  refine i_call2 (by exact sel_of rfl) (by exact sel_of rfl) (w_bytesF r4.rd (by omega) _ et n (by omega)) ?_
  rintro _ h5 ⟨kb5, rd5, o5, rfl, ap5, fr5⟩
  have n5 := kb5.next
  have kk5 : Keeps h h5 := KeepsB.new kb5 (by omega) kk4
  have g05 := (kb5.get h.next (by omega) (by omega)).trans g04
  have gC5 := (kb5.get (h.next + 1) (by omega) (by omega)).trans a4.g
  have gr5 := (kb5.get h2.next (by omega) (by omega)).trans gr4
  refine gg ?_; repeat (refine i_ldown (by exact sel_of rfl) (by assumption) (by rfl) ?_; refine gg ?_)
  refine i_call1 (by exact sel_of rfl) (w_newF ap5.row (by rw [List.length_take]; omega) n (by omega)) ?_
  rintro _ h6 ⟨k6, b2, hb2, rfl, rd6⟩
  have hb2n : b2 < h6.next := by obtain ⟨e, o, c, hb, _⟩ := rd6; exact hb
  have n6 := k6.next
  refine gg ?_
  obtain ⟨gR7, k7, n7⟩ := box_one h6 (.cells 106 [.pointer (some ⟨b2, 0, none⟩), .int .i64 0] (.own false))
  show ItQ (runItems _ _ _ (h6.new (.cells 106 [.pointer (some ⟨b2, 0, none⟩), .int .i64 0] (.own false)))) _
  generalize (h6.new (.cells 106 [.pointer (some ⟨b2, 0, none⟩), .int .i64 0] (.own false))) = h7 at *
  have k67 := k6.trans k7
  have kk7 : Keeps h h7 := kk5.trans k67
  have g07 := (k67.get h.next (by omega)).trans g05
  have gr7 := (k67.get h2.next (by omega)).trans gr5
  have rd7 := rd5.keeps k67
  have r7 : Rr h5.next h7 h6.next b2 ((headC l).2.2.1.take ((headC l).2.1 - 4), 0) := ⟨by omega, gR7, rd6.keeps k7, by omega⟩
  have a7 : At h5.next h7 h6.next b2 (h.next + 1) _ := ⟨by omega, (k67.get _ (by omega)).trans gC5, rfl, by omega, by omega, by omega⟩
  have hx65 := rn_lt2 (l, 0)
  have hx : (headC l).1 < 65536 := hx65
  refine i_call2 (by exact sel_of rfl) (by exact sel_of rfl) (w_read (by omega) (by omega) r7 a7 (by rw [List.length_take]; omega) n (by omega)) ?_
  rintro _ h8 ⟨k8, r8, v', a8, cv8⟩
  have n8 := k8.next
  have eo : readC { Chk.zero with k := (headC l).1 / 256, fl := (headC l).1 % 256 } ((headC l).2.2.1.take ((headC l).2.1 - 4), 0) = ownC l := rfl
  rw [eo] at r8 cv8
  have kk8 : Keeps h h8 := k8.keeps kk7 (fun d hd hp => by unfold P3 at hp; omega)
  have g08 := (k8.get h.next (by omega) (by unfold P3; omega)).trans g07
  have gq8 := r8.g
  refine gg ?_; repeat (refine i_ldown (by exact sel_of rfl) (by assumption) (by rfl) ?_; refine gg ?_)
  by_cases he2 : (ownC l).2.2 = 0
  case neg =>
    rw [decide_eq_true (p := (((ownC l).2.2 : Nat) : Int) ≠ 0) (by omega)]
    refine gg ?_; repeat (refine i_ldown (by exact sel_of rfl) (by assumption) (by rfl) ?_; refine gg ?_)
    refine i_stA (vs := [.int .u8 0, .int .u8 0, .int .u32 0, .int .u32 0, .int .u16 0, .int .u16 0, .int .u32 0, .slice none 0 0, .slice none 0 0, .slice none 0 0, .slice none 0 0, .slice none 0 0]) (by exact sel_of rfl) (by rfl) g08 rfl rfl fun h9 kb9 nx9 g09 => ?_
    have gq9 := (kb9.get _ (by omega) (by omega)).trans gq8
    refine gg ?_; repeat (refine i_ldown (by exact sel_of rfl) (by assumption) (by rfl) ?_; refine gg ?_)
    refine ⟨chk_cons rfl (ldO (by exact sel_of rfl) gq8 (by rfl)) (sv_int _ _) (fun m hm => by
      simp only [List.mem_cons, List.not_mem_nil, or_false] at hm
      rcases hm with rfl | rfl
      · exact ⟨_, _, rfl, ldO (by exact sel_of rfl) gq8 (by rfl)⟩
      · exact ⟨_, _, rfl, ldO (by exact sel_of rfl) gq9 (by rfl)⟩) chk_nil, ?_⟩
    refine gg ?_; repeat (refine i_ldown (by exact sel_of rfl) (by assumption) (by rfl) ?_; refine gg ?_)
    refine finA3 (by exact sel_of rfl) (loadN_all g09 rfl) (by exact sel_of rfl) (by exact sel_of rfl) ?_
    rw [DecCN, decC, if_neg (fun hn => hn he), if_pos he2]
    exact ⟨KeepsB.new kb9 (Nat.le_refl _) kk8, _, rfl, zero_chvN _ _⟩
  rw [decide_eq_false (p := (((ownC l).2.2 : Nat) : Int) ≠ 0) (by omega)]
  have gr8 := (k8.get h2.next (by omega) (by unfold P3; omega)).trans gr7
  have rd8 : RdF h1.next h8 b1 ((headC l).2.2.1.drop ((headC l).2.1 - 4)) := rd7.low k8.next (k8.get b1 (by omega) (by unfold P3; omega)) (fun d h1 h2 => k8.get d (by omega) (by unfold P3; omega))
  refine gg ?_; repeat (refine i_ldown (by exact sel_of rfl) (by assumption) (by rfl) ?_; refine gg ?_)
  have er : padR ((headC l).2.2.1.drop ((headC l).2.1 - 4)) (((headC l).2.1 : Nat) : Int) = restC l := rfl
  refine i_call2 (by exact sel_of rfl) (by exact sel_of rfl) (w_rpadRF (r := (restC l).1) (en := (restC l).2) rd8 (((headC l).2.1 : Nat) : Int) (by omega) er n (by omega)) ?_
  rintro _ h9 ⟨kb9, nx9, rd9, rfl⟩
  have kk9 : Keeps h h9 := KeepsB.new kb9 (by omega) kk8
  have g09 := (kb9.get h.next (by omega) (by omega)).trans g08
  have gC9 := (kb9.get (h.next + 1) (by omega) (by omega)).trans a8.g
  have gr9 := (kb9.get h2.next (by omega) (by omega)).trans gr8
  have lv := a8.len
  have cv9 := cv8.low (kb9.toP (p := fun d => d = b1) rfl) (fun d hd he => by omega)
  refine gg ?_; repeat (refine i_ldown (by exact sel_of rfl) (by assumption) (by rfl) ?_; refine gg ?_)
  by_cases he3 : (restC l).2 = 0
  case neg =>
    rw [decide_eq_true (p := (((restC l).2 : Nat) : Int) ≠ 0) (by omega)]
    refine gg ?_; repeat (refine i_ldown (by exact sel_of rfl) (by assumption) (by rfl) ?_; refine gg ?_)
    refine i_stA (vs := [.int .u8 0, .int .u8 0, .int .u32 0, .int .u32 0, .int .u16 0, .int .u16 0, .int .u32 0, .slice none 0 0, .slice none 0 0, .slice none 0 0, .slice none 0 0, .slice none 0 0]) (by exact sel_of rfl) (by rfl) g09 rfl rfl fun h10 kb10 nx10 g10 => ?_
    refine gg ?_; repeat (refine i_ldown (by exact sel_of rfl) (by assumption) (by rfl) ?_; refine gg ?_)
    refine finA3 (by exact sel_of rfl) (loadN_all g10 rfl) (by exact sel_of rfl) (by exact sel_of rfl) ?_
    rw [DecCN, decC, if_neg (fun hn => hn he), if_neg (fun hn => hn he2), if_pos he3]
    exact ⟨KeepsB.new kb10 (Nat.le_refl _) kk9, _, rfl, zero_chvN _ _⟩
  rw [decide_eq_false (p := (((restC l).2 : Nat) : Int) ≠ 0) (by omega)]
  have hrl : (restC l).1.length ≤ l.length := by
    have := padR_len ((headC l).2.2.1.drop ((headC l).2.1 - 4)) (((headC l).2.1 : Nat) : Int)
    rw [er, List.length_drop] at this
    omega
  refine gg ?_; repeat (refine i_ldown (by exact sel_of rfl) (by assumption) (by rfl) ?_; refine gg ?_)
  refine i_loadN (by exact sel_of rfl) (loadN_all gC9 lv) ?_
  refine gg ?_; repeat (refine i_ldown (by exact sel_of rfl) (by assumption) (by rfl) ?_; refine gg ?_)
  refine i_call1 (by exact sel_of rfl) (w_leftF rd9 n (by omega)) ?_
  rintro _ _ ⟨rfl, rfl⟩
  refine gg ?_; repeat (refine i_ldown (by exact sel_of rfl) (by assumption) (by rfl) ?_; refine gg ?_)
  refine i_stA (vs := v') (by exact sel_of rfl) (by rfl) g09 lv rfl fun h10 kb10 nx10 g10 => ?_
  refine gg ?_; repeat (refine i_ldown (by exact sel_of rfl) (by assumption) (by rfl) ?_; refine gg ?_)
  refine ⟨chk_cons rfl (ldN (by exact sel_of rfl) (loadN_all gC9 lv)) (by exact cv9.chv.sv) (fun m hm => by
    simp only [List.mem_cons, List.not_mem_nil, or_false] at hm
    rcases hm with rfl | rfl
    · exact ⟨_, _, rfl, ldN (by exact sel_of rfl) (loadN_all gC9 lv)⟩
    · exact ⟨_, _, rfl, ldN (by exact sel_of rfl) (loadN_all gC9 lv)⟩) chk_nil, ?_⟩
  refine gg ?_; repeat (refine i_ldown (by exact sel_of rfl) (by assumption) (by rfl) ?_; refine gg ?_)
  refine finA3 (by exact sel_of rfl) (loadN_all g10 lv) (by exact sel_of rfl) (by exact sel_of rfl) ?_
  rw [DecCN, decC, if_neg (fun hn => hn he), if_neg (fun hn => hn he2), if_neg (fun hn => hn he3)]
  refine ⟨KeepsB.new kb10 (Nat.le_refl _) kk9, v', ?_, (cv9.low (kb10.toP (p := fun d => d = h.next) rfl) (fun d hd he => by omega)).mono (by omega)⟩
  rw [show ((l.length : Nat) : Int) - (((restC l).1.length : Nat) : Int) = ((l.length - (restC l).1.length : Nat) : Int) by omega]
  rfl
theorem w_cdecode {h : Heap} {o : Option Addr} {m c : Nat} {l : List UInt8} (hr : Row h 1 o m (u8s l)) (hlen : l.length ≤ 1000000) (n : Nat) (hn : 300 ≤ n) :
    ResQ (callN Try.prog G0 n (.call 67 [.slice o m c]) h) (DecCQ h l) :=
  (w_cdecodeN hr hlen n hn).mono fun u h' ⟨k, v, e, cv⟩ => ⟨k, v, e, cv.chv⟩
end Go.Proofs.Ytdcllpjoejkpnaa

