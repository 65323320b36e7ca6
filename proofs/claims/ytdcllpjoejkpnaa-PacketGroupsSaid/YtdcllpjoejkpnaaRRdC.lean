/- Part of a proof by an abstract run of the program's code: RRdC. No condition. -/
import Derived.Test.YtdcllpjoejkpnaaRRdB
/-! What reads the fields of a kind, walked. -/
set_option linter.unusedVariables false
namespace Go.Proofs.Ytdcllpjoejkpnaa
open Go Vm
/-- a chunk's cells; what they point to lies at or behind a block -/
def ChVN (N : Nat) (h : Heap) (c : Chk) (v : List Value) : Prop := ∃ (o1 : Option Addr) (c1 : Nat) (o2 : Option Addr) (c2 : Nat) (o3 : Option Addr) (c3 : Nat) (o4 : Option Addr) (c4 : Nat) (o5 : Option Addr) (c5 : Nat) (ps : List Value),
  v = [.int .u8 (c.k : Int), .int .u8 (c.fl : Int), .int .u32 (c.a : Int), .int .u32 (c.b : Int), .int .u16 (c.o : Int), .int .u16 (c.i : Int), .int .u32 (c.p : Int), .slice o1 c.bl.length c1, .slice o2 c.du.length c2, .slice o3 c.sk.length c3, .slice o4 c.pa.length c4, .slice o5 c.da.length c5] ∧
  Row h 2 o1 c.bl.length (pr16 c.bl) ∧ Row h 1 o2 c.du.length (n32 c.du) ∧ Row h 2 o3 c.sk.length (pr16 c.sk) ∧ (Row h 2 o4 c.pa.length ps ∧ PrL h c.pa ps) ∧ Row h 1 o5 c.da.length (u8s c.da) ∧ (c.bl.length ≤ c1 ∧ c.du.length ≤ c2 ∧ c.sk.length ≤ c3 ∧ c.pa.length ≤ c4 ∧ c.da.length ≤ c5) ∧ c.k < 256 ∧ c.fl < 256 ∧
  ((∀ q, o1 = some q → N ≤ q.block) ∧ (∀ q, o2 = some q → N ≤ q.block) ∧ (∀ q, o3 = some q → N ≤ q.block) ∧ (∀ q, o4 = some q → N ≤ q.block) ∧ (∀ q, o5 = some q → N ≤ q.block) ∧ ∀ q m c, Value.slice (some q) m c ∈ ps → N ≤ q.block)
theorem ChVN.chv {N : Nat} {h : Heap} {c : Chk} {v : List Value} (r : ChVN N h c v) : ChV h c v := by
  obtain ⟨o1, c1, o2, c2, o3, c3, o4, c4, o5, c5, ps, e, r1, r2, r3, r4, r5, b, hk, hf, _⟩ := r
  exact ⟨o1, c1, o2, c2, o3, c3, o4, c4, o5, c5, ps, e, r1, r2, r3, r4, r5, b, hk, hf⟩
theorem ChVN.low {N : Nat} {h h' : Heap} {c : Chk} {v : List Value} (r : ChVN N h c v) {p : Nat → Prop} (k : KeepsP p h h') (hp : ∀ d, N ≤ d → ¬p d) : ChVN N h' c v := by
  obtain ⟨o1, c1, o2, c2, o3, c3, o4, c4, o5, c5, ps, e, r1, r2, r3, ⟨r4, p4⟩, r5, b, hk, hf, n1, n2, n3, n4, n5, n6⟩ := r
  exact ⟨o1, c1, o2, c2, o3, c3, o4, c4, o5, c5, ps, e, k.row r1 (fun q e => hp _ (n1 q e)), k.row r2 (fun q e => hp _ (n2 q e)), k.row r3 (fun q e => hp _ (n3 q e)), ⟨k.row r4 (fun q e => hp _ (n4 q e)), prl_low k.next p4 (fun q m c hm hlt => k.get _ hlt (hp _ (n6 q m c hm)))⟩, k.row r5 (fun q e => hp _ (n5 q e)), b, hk, hf, n1, n2, n3, n4, n5, n6⟩
theorem rn_len (w : Nat) (s : RS) : (rn w s).2.1.length ≤ s.1.length := by
  unfold rn
  split
  · unfold getR
    split
    · exact Nat.le_refl _
    · rw [List.length_drop]; omega
  · exact Nat.le_refl _
theorem need_congr {φ ψ : Prop} [Decidable φ] [Decidable ψ] {e : Nat} {s : RS} (h : φ ↔ ψ) : need φ e s = need ψ e s := by
  unfold need
  by_cases h1 : s.2 = 0 ∧ ¬φ
  · rw [if_pos h1, if_pos ⟨h1.1, fun hn => h1.2 (h.2 hn)⟩]
  · rw [if_neg h1, if_neg (fun e => h1 ⟨e.1, fun hn => e.2 (h.1 hn)⟩)]
set_option maxHeartbeats 16000000 in
theorem w_read {F : Nat} {h : Heap} {R b C k fl : Nat} {s : RS} (hk256 : k < 256) (hf256 : fl < 256) (r : Rr F h R b s) (a : At F h R b C [.int .u8 (k : Int), .int .u8 (fl : Int), .int .u32 0, .int .u32 0, .int .u16 0, .int .u16 0, .int .u32 0, .slice none 0 0, .slice none 0 0, .slice none 0 0, .slice none 0 0, .slice none 0 0]) (hlen : s.1.length ≤ 1000000) (n : Nat) (hn : 200 ≤ n) :
    ResQ (callN Try.prog G0 n (.call 76 [.pointer (some ⟨R, 0, none⟩), .pointer (some ⟨C, 0, none⟩)]) h) (fun _ h' => KeepsP (P3 R b C) h h' ∧ Rr F h' R b (readC { Chk.zero with k := k, fl := fl } s).2 ∧
      ∃ v', At F h' R b C v' ∧ ChVN h.next h' (readC { Chk.zero with k := k, fl := fl } s).1 v') := by
  have hR := r.lt
  have hC := a.lt
  have hbC := a.nb
  have hbn := r.ltb
  obtain ⟨n, rfl⟩ : ∃ m, n = m + 1 := ⟨n - 1, by omega⟩
  refine res_enter rfl d76 rfl ?_; simp only [c76]
  refine o_cut (fun a' h' => KeepsP (P3 R b C) h h' ∧ Rr F h' R b (readAll (lets k) ({ Chk.zero with k := k, fl := fl }, s)).2 ∧ Sl [(0, .pointer (some ⟨R, 0, none⟩)), (1, .pointer (some ⟨C, 0, none⟩))] a' ∧ ∃ v', At F h' R b C v' ∧ ChVN h.next h' (readAll (lets k) ({ Chk.zero with k := k, fl := fl }, s)).1 v') ?_ ?_
  · rcases kinds_cases k with hk | hk | hk | hk | hk | hk | hk | hk | hk | hk | hk | hk | hk | hk | hk
    · have hl : lets k = [65, 79, 73, 80, 68] := by rw [hk]; rfl
      have ga := a.g
      rw [hk] at ga
      refine gg ?_; repeat (refine i_ldown (by exact sel_of rfl) (by assumption) (by rfl) ?_; refine gg ?_)
      refine i_call1 (by exact sel_of rfl) (w_number r n (by omega)) ?_
      rintro _ h1 ⟨k1, nx1, r1, rfl⟩
      have a1 := a.keep k1
      refine gg ?_
      refine i_call1 (by exact sel_of rfl) (w_half r1 n (by omega)) ?_
      rintro _ h2 ⟨k2, nx2, r2, rfl⟩
      have a2 := a1.keep k2
      refine gg ?_
      refine i_call1 (by exact sel_of rfl) (w_half r2 n (by omega)) ?_
      rintro _ h3 ⟨k3, nx3, r3, rfl⟩
      have a3 := a2.keep k3
      refine gg ?_
      refine i_call1 (by exact sel_of rfl) (w_number r3 n (by omega)) ?_
      rintro _ h4 ⟨k4, nx4, r4, rfl⟩
      have a4 := a3.keep k4
      refine gg ?_
      refine i_stB (by exact sel_of rfl) (by rfl) a4.g (by exact (by decide : 2 < 12)) fun h5 kb5 nx5 g5 => ?_
      have a5 := a4.set kb5 nx5 g5
      have r5 := r4.keepC kb5 a.nR a.nb a.nF
      refine gg ?_
      refine i_stB (by exact sel_of rfl) (by rfl) a5.g (by exact (by decide : 4 < 12)) fun h6 kb6 nx6 g6 => ?_
      have a6 := a5.set kb6 nx6 g6
      have r6 := r5.keepC kb6 a.nR a.nb a.nF
      refine gg ?_
      refine i_stB (by exact sel_of rfl) (by rfl) a6.g (by exact (by decide : 5 < 12)) fun h7 kb7 nx7 g7 => ?_
      have a7 := a6.set kb7 nx7 g7
      have r7 := r6.keepC kb7 a.nR a.nb a.nF
      refine gg ?_
      refine i_stB (by exact sel_of rfl) (by rfl) a7.g (by exact (by decide : 6 < 12)) fun h8 kb8 nx8 g8 => ?_
      have a8 := a7.set kb8 nx8 g8
      have r8 := r7.keepC kb8 a.nR a.nb a.nF
      refine gg ?_
      refine i_call2 (by exact sel_of rfl) (by exact sel_of rfl) (w_data (k := k) r8 a8 rfl rfl (by have := rn_len 4 s; have := rn_len 2 (rn 4 s).2; have := rn_len 2 (rn 2 (rn 4 s).2).2; have := rn_len 4 (rn 2 (rn 2 (rn 4 s).2).2).2; omega) n (by omega)) ?_
      rintro _ h20 ⟨k20, r20, o5, a20, row5, fr5⟩
      refine gg ?_
      have e : readAll (lets k) ({ Chk.zero with k := k, fl := fl }, s) = ((⟨k, fl, (rn 4 s).1, 0, (rn 2 (rn 4 s).2).1, (rn 2 (rn 2 (rn 4 s).2).2).1, (rn 4 (rn 2 (rn 2 (rn 4 s).2).2).2).1, [], [], [], [], (rdDa k (rn 4 (rn 2 (rn 2 (rn 4 s).2).2).2).2).1⟩ : Chk), (rdDa k (rn 4 (rn 2 (rn 2 (rn 4 s).2).2).2).2).2) := by
        rw [hl]
        simp only [readAll, List.foldl_cons, List.foldl_nil, readL, Nat.reduceEqDiff, if_true, if_false, Chk.zero]
      rw [e]
      exact ⟨rfl, (((((((((k1.mono fun d => P2.P3 (C := C))).trans (k2.mono fun d => P2.P3 (C := C))).trans (k3.mono fun d => P2.P3 (C := C))).trans (k4.mono fun d => P2.P3 (C := C))).trans (kb5.toP (p := P3 R b C) (.inr (.inr rfl)))).trans (kb6.toP (p := P3 R b C) (.inr (.inr rfl)))).trans (kb7.toP (p := P3 R b C) (.inr (.inr rfl)))).trans (kb8.toP (p := P3 R b C) (.inr (.inr rfl)))).trans k20, r20, ⟨sel_of rfl, sel_of rfl, trivial⟩, _, a20, none, 0, none, 0, none, 0, none, 0, o5, _, [], rfl, Row.nil _ _, Row.nil _ _, Row.nil _ _, ⟨Row.nil _ _, trivial⟩, row5, ⟨Nat.le_refl _, Nat.le_refl _, Nat.le_refl _, Nat.le_refl _, Nat.le_refl _⟩, hk256, hf256, (fun q e => by cases e), (fun q e => by cases e), (fun q e => by cases e), (fun q e => by cases e), (fun q e => by have := fr5 q e; omega), (fun q m c hm => by cases hm)⟩
    · have hl : lets k = [65, 66, 79, 73, 80, 84] := by rw [hk]; rfl
      have ga := a.g
      rw [hk] at ga
      refine gg ?_; repeat (refine i_ldown (by exact sel_of rfl) (by assumption) (by rfl) ?_; refine gg ?_)
      refine i_call1 (by exact sel_of rfl) (w_number r n (by omega)) ?_
      rintro _ h1 ⟨k1, nx1, r1, rfl⟩
      have a1 := a.keep k1
      refine gg ?_
      refine i_call1 (by exact sel_of rfl) (w_number r1 n (by omega)) ?_
      rintro _ h2 ⟨k2, nx2, r2, rfl⟩
      have a2 := a1.keep k2
      refine gg ?_
      refine i_call1 (by exact sel_of rfl) (w_half r2 n (by omega)) ?_
      rintro _ h3 ⟨k3, nx3, r3, rfl⟩
      have a3 := a2.keep k3
      refine gg ?_
      refine i_call1 (by exact sel_of rfl) (w_half r3 n (by omega)) ?_
      rintro _ h4 ⟨k4, nx4, r4, rfl⟩
      have a4 := a3.keep k4
      refine gg ?_
      refine i_call1 (by exact sel_of rfl) (w_number r4 n (by omega)) ?_
      rintro _ h5 ⟨k5, nx5, r5, rfl⟩
      have a5 := a4.keep k5
      refine gg ?_
      refine i_stB (by exact sel_of rfl) (by rfl) a5.g (by exact (by decide : 2 < 12)) fun h6 kb6 nx6 g6 => ?_
      have a6 := a5.set kb6 nx6 g6
      have r6 := r5.keepC kb6 a.nR a.nb a.nF
      refine gg ?_
      refine i_stB (by exact sel_of rfl) (by rfl) a6.g (by exact (by decide : 3 < 12)) fun h7 kb7 nx7 g7 => ?_
      have a7 := a6.set kb7 nx7 g7
      have r7 := r6.keepC kb7 a.nR a.nb a.nF
      refine gg ?_
      refine i_stB (by exact sel_of rfl) (by rfl) a7.g (by exact (by decide : 4 < 12)) fun h8 kb8 nx8 g8 => ?_
      have a8 := a7.set kb8 nx8 g8
      have r8 := r7.keepC kb8 a.nR a.nb a.nF
      refine gg ?_
      refine i_stB (by exact sel_of rfl) (by rfl) a8.g (by exact (by decide : 5 < 12)) fun h9 kb9 nx9 g9 => ?_
      have a9 := a8.set kb9 nx9 g9
      have r9 := r8.keepC kb9 a.nR a.nb a.nF
      refine gg ?_
      refine i_stB (by exact sel_of rfl) (by rfl) a9.g (by exact (by decide : 6 < 12)) fun h10 kb10 nx10 g10 => ?_
      have a10 := a9.set kb10 nx10 g10
      have r10 := r9.keepC kb10 a.nR a.nb a.nF
      refine gg ?_
      refine i_call2 (by exact sel_of rfl) (by exact sel_of rfl) (w_params r10 a10 rfl (by have := rn_len 4 s; have := rn_len 4 (rn 4 s).2; have := rn_len 2 (rn 4 (rn 4 s).2).2; have := rn_len 2 (rn 2 (rn 4 (rn 4 s).2).2).2; have := rn_len 4 (rn 2 (rn 2 (rn 4 (rn 4 s).2).2).2).2; omega) n (by omega)) ?_
      rintro _ h20 ⟨k20, r20, o4, c4, ps, a20, ⟨row4, prl4⟩, hc4, fr4, frp⟩
      refine gg ?_
      have e : readAll (lets k) ({ Chk.zero with k := k, fl := fl }, s) = ((⟨k, fl, (rn 4 s).1, (rn 4 (rn 4 s).2).1, (rn 2 (rn 4 (rn 4 s).2).2).1, (rn 2 (rn 2 (rn 4 (rn 4 s).2).2).2).1, (rn 4 (rn 2 (rn 2 (rn 4 (rn 4 s).2).2).2).2).1, [], [], [], (rdPa (rn 4 (rn 2 (rn 2 (rn 4 (rn 4 s).2).2).2).2).2).1, []⟩ : Chk), (rdPa (rn 4 (rn 2 (rn 2 (rn 4 (rn 4 s).2).2).2).2).2).2) := by
        rw [hl]
        simp only [readAll, List.foldl_cons, List.foldl_nil, readL, Nat.reduceEqDiff, if_true, if_false, Chk.zero]
      rw [e]
      exact ⟨rfl, (((((((((((k1.mono fun d => P2.P3 (C := C))).trans (k2.mono fun d => P2.P3 (C := C))).trans (k3.mono fun d => P2.P3 (C := C))).trans (k4.mono fun d => P2.P3 (C := C))).trans (k5.mono fun d => P2.P3 (C := C))).trans (kb6.toP (p := P3 R b C) (.inr (.inr rfl)))).trans (kb7.toP (p := P3 R b C) (.inr (.inr rfl)))).trans (kb8.toP (p := P3 R b C) (.inr (.inr rfl)))).trans (kb9.toP (p := P3 R b C) (.inr (.inr rfl)))).trans (kb10.toP (p := P3 R b C) (.inr (.inr rfl)))).trans k20, r20, ⟨sel_of rfl, sel_of rfl, trivial⟩, _, a20, none, 0, none, 0, none, 0, o4, c4, none, 0, ps, rfl, Row.nil _ _, Row.nil _ _, Row.nil _ _, ⟨row4, prl4⟩, Row.nil _ _, ⟨Nat.le_refl _, Nat.le_refl _, Nat.le_refl _, hc4, Nat.le_refl _⟩, hk256, hf256, (fun q e => by cases e), (fun q e => by cases e), (fun q e => by cases e), (fun q e => by have := fr4 q e; omega), (fun q e => by cases e), (fun q m c hm => by have := frp q m c hm; omega)⟩
    · have hl : lets k = [65, 66, 79, 73, 80, 84] := by rw [hk]; rfl
      have ga := a.g
      rw [hk] at ga
      refine gg ?_; repeat (refine i_ldown (by exact sel_of rfl) (by assumption) (by rfl) ?_; refine gg ?_)
      refine i_call1 (by exact sel_of rfl) (w_number r n (by omega)) ?_
      rintro _ h1 ⟨k1, nx1, r1, rfl⟩
      have a1 := a.keep k1
      refine gg ?_
      refine i_call1 (by exact sel_of rfl) (w_number r1 n (by omega)) ?_
      rintro _ h2 ⟨k2, nx2, r2, rfl⟩
      have a2 := a1.keep k2
      refine gg ?_
      refine i_call1 (by exact sel_of rfl) (w_half r2 n (by omega)) ?_
      rintro _ h3 ⟨k3, nx3, r3, rfl⟩
      have a3 := a2.keep k3
      refine gg ?_
      refine i_call1 (by exact sel_of rfl) (w_half r3 n (by omega)) ?_
      rintro _ h4 ⟨k4, nx4, r4, rfl⟩
      have a4 := a3.keep k4
      refine gg ?_
      refine i_call1 (by exact sel_of rfl) (w_number r4 n (by omega)) ?_
      rintro _ h5 ⟨k5, nx5, r5, rfl⟩
      have a5 := a4.keep k5
      refine gg ?_
      refine i_stB (by exact sel_of rfl) (by rfl) a5.g (by exact (by decide : 2 < 12)) fun h6 kb6 nx6 g6 => ?_
      have a6 := a5.set kb6 nx6 g6
      have r6 := r5.keepC kb6 a.nR a.nb a.nF
      refine gg ?_
      refine i_stB (by exact sel_of rfl) (by rfl) a6.g (by exact (by decide : 3 < 12)) fun h7 kb7 nx7 g7 => ?_
      have a7 := a6.set kb7 nx7 g7
      have r7 := r6.keepC kb7 a.nR a.nb a.nF
      refine gg ?_
      refine i_stB (by exact sel_of rfl) (by rfl) a7.g (by exact (by decide : 4 < 12)) fun h8 kb8 nx8 g8 => ?_
      have a8 := a7.set kb8 nx8 g8
      have r8 := r7.keepC kb8 a.nR a.nb a.nF
      refine gg ?_
      refine i_stB (by exact sel_of rfl) (by rfl) a8.g (by exact (by decide : 5 < 12)) fun h9 kb9 nx9 g9 => ?_
      have a9 := a8.set kb9 nx9 g9
      have r9 := r8.keepC kb9 a.nR a.nb a.nF
      refine gg ?_
      refine i_stB (by exact sel_of rfl) (by rfl) a9.g (by exact (by decide : 6 < 12)) fun h10 kb10 nx10 g10 => ?_
      have a10 := a9.set kb10 nx10 g10
      have r10 := r9.keepC kb10 a.nR a.nb a.nF
      refine gg ?_
      refine i_call2 (by exact sel_of rfl) (by exact sel_of rfl) (w_params r10 a10 rfl (by have := rn_len 4 s; have := rn_len 4 (rn 4 s).2; have := rn_len 2 (rn 4 (rn 4 s).2).2; have := rn_len 2 (rn 2 (rn 4 (rn 4 s).2).2).2; have := rn_len 4 (rn 2 (rn 2 (rn 4 (rn 4 s).2).2).2).2; omega) n (by omega)) ?_
      rintro _ h20 ⟨k20, r20, o4, c4, ps, a20, ⟨row4, prl4⟩, hc4, fr4, frp⟩
      refine gg ?_
      have e : readAll (lets k) ({ Chk.zero with k := k, fl := fl }, s) = ((⟨k, fl, (rn 4 s).1, (rn 4 (rn 4 s).2).1, (rn 2 (rn 4 (rn 4 s).2).2).1, (rn 2 (rn 2 (rn 4 (rn 4 s).2).2).2).1, (rn 4 (rn 2 (rn 2 (rn 4 (rn 4 s).2).2).2).2).1, [], [], [], (rdPa (rn 4 (rn 2 (rn 2 (rn 4 (rn 4 s).2).2).2).2).2).1, []⟩ : Chk), (rdPa (rn 4 (rn 2 (rn 2 (rn 4 (rn 4 s).2).2).2).2).2).2) := by
        rw [hl]
        simp only [readAll, List.foldl_cons, List.foldl_nil, readL, Nat.reduceEqDiff, if_true, if_false, Chk.zero]
      rw [e]
      exact ⟨rfl, (((((((((((k1.mono fun d => P2.P3 (C := C))).trans (k2.mono fun d => P2.P3 (C := C))).trans (k3.mono fun d => P2.P3 (C := C))).trans (k4.mono fun d => P2.P3 (C := C))).trans (k5.mono fun d => P2.P3 (C := C))).trans (kb6.toP (p := P3 R b C) (.inr (.inr rfl)))).trans (kb7.toP (p := P3 R b C) (.inr (.inr rfl)))).trans (kb8.toP (p := P3 R b C) (.inr (.inr rfl)))).trans (kb9.toP (p := P3 R b C) (.inr (.inr rfl)))).trans (kb10.toP (p := P3 R b C) (.inr (.inr rfl)))).trans k20, r20, ⟨sel_of rfl, sel_of rfl, trivial⟩, _, a20, none, 0, none, 0, none, 0, o4, c4, none, 0, ps, rfl, Row.nil _ _, Row.nil _ _, Row.nil _ _, ⟨row4, prl4⟩, Row.nil _ _, ⟨Nat.le_refl _, Nat.le_refl _, Nat.le_refl _, hc4, Nat.le_refl _⟩, hk256, hf256, (fun q e => by cases e), (fun q e => by cases e), (fun q e => by cases e), (fun q e => by have := fr4 q e; omega), (fun q e => by cases e), (fun q m c hm => by have := frp q m c hm; omega)⟩
    · have hl : lets k = [84] := by rw [hk]; rfl
      have ga := a.g
      rw [hk] at ga
      refine gg ?_; repeat (refine i_ldown (by exact sel_of rfl) (by assumption) (by rfl) ?_; refine gg ?_)
      refine i_call2 (by exact sel_of rfl) (by exact sel_of rfl) (w_params r a rfl (by omega) n (by omega)) ?_
      rintro _ h20 ⟨k20, r20, o4, c4, ps, a20, ⟨row4, prl4⟩, hc4, fr4, frp⟩
      refine gg ?_
      have e : readAll (lets k) ({ Chk.zero with k := k, fl := fl }, s) = ((⟨k, fl, 0, 0, 0, 0, 0, [], [], [], (rdPa s).1, []⟩ : Chk), (rdPa s).2) := by
        rw [hl]
        simp only [readAll, List.foldl_cons, List.foldl_nil, readL, Nat.reduceEqDiff, if_true, if_false, Chk.zero]
      rw [e]
      exact ⟨rfl, k20, r20, ⟨sel_of rfl, sel_of rfl, trivial⟩, _, a20, none, 0, none, 0, none, 0, o4, c4, none, 0, ps, rfl, Row.nil _ _, Row.nil _ _, Row.nil _ _, ⟨row4, prl4⟩, Row.nil _ _, ⟨Nat.le_refl _, Nat.le_refl _, Nat.le_refl _, hc4, Nat.le_refl _⟩, hk256, hf256, (fun q e => by cases e), (fun q e => by cases e), (fun q e => by cases e), (fun q e => by have := fr4 q e; omega), (fun q e => by cases e), (fun q m c hm => by have := frp q m c hm; omega)⟩
    · have hl : lets k = [84] := by rw [hk]; rfl
      have ga := a.g
      rw [hk] at ga
      refine gg ?_; repeat (refine i_ldown (by exact sel_of rfl) (by assumption) (by rfl) ?_; refine gg ?_)
      refine i_call2 (by exact sel_of rfl) (by exact sel_of rfl) (w_params r a rfl (by omega) n (by omega)) ?_
      rintro _ h20 ⟨k20, r20, o4, c4, ps, a20, ⟨row4, prl4⟩, hc4, fr4, frp⟩
      refine gg ?_
      have e : readAll (lets k) ({ Chk.zero with k := k, fl := fl }, s) = ((⟨k, fl, 0, 0, 0, 0, 0, [], [], [], (rdPa s).1, []⟩ : Chk), (rdPa s).2) := by
        rw [hl]
        simp only [readAll, List.foldl_cons, List.foldl_nil, readL, Nat.reduceEqDiff, if_true, if_false, Chk.zero]
      rw [e]
      exact ⟨rfl, k20, r20, ⟨sel_of rfl, sel_of rfl, trivial⟩, _, a20, none, 0, none, 0, none, 0, o4, c4, none, 0, ps, rfl, Row.nil _ _, Row.nil _ _, Row.nil _ _, ⟨row4, prl4⟩, Row.nil _ _, ⟨Nat.le_refl _, Nat.le_refl _, Nat.le_refl _, hc4, Nat.le_refl _⟩, hk256, hf256, (fun q e => by cases e), (fun q e => by cases e), (fun q e => by cases e), (fun q e => by have := fr4 q e; omega), (fun q e => by cases e), (fun q m c hm => by have := frp q m c hm; omega)⟩
    · have hl : lets k = [84] := by rw [hk]; rfl
      have ga := a.g
      rw [hk] at ga
      refine gg ?_; repeat (refine i_ldown (by exact sel_of rfl) (by assumption) (by rfl) ?_; refine gg ?_)
      refine i_call2 (by exact sel_of rfl) (by exact sel_of rfl) (w_params r a rfl (by omega) n (by omega)) ?_
      rintro _ h20 ⟨k20, r20, o4, c4, ps, a20, ⟨row4, prl4⟩, hc4, fr4, frp⟩
      refine gg ?_
      have e : readAll (lets k) ({ Chk.zero with k := k, fl := fl }, s) = ((⟨k, fl, 0, 0, 0, 0, 0, [], [], [], (rdPa s).1, []⟩ : Chk), (rdPa s).2) := by
        rw [hl]
        simp only [readAll, List.foldl_cons, List.foldl_nil, readL, Nat.reduceEqDiff, if_true, if_false, Chk.zero]
      rw [e]
      exact ⟨rfl, k20, r20, ⟨sel_of rfl, sel_of rfl, trivial⟩, _, a20, none, 0, none, 0, none, 0, o4, c4, none, 0, ps, rfl, Row.nil _ _, Row.nil _ _, Row.nil _ _, ⟨row4, prl4⟩, Row.nil _ _, ⟨Nat.le_refl _, Nat.le_refl _, Nat.le_refl _, hc4, Nat.le_refl _⟩, hk256, hf256, (fun q e => by cases e), (fun q e => by cases e), (fun q e => by cases e), (fun q e => by have := fr4 q e; omega), (fun q e => by cases e), (fun q m c hm => by have := frp q m c hm; omega)⟩
    · have hl : lets k = [84] := by rw [hk]; rfl
      have ga := a.g
      rw [hk] at ga
      refine gg ?_; repeat (refine i_ldown (by exact sel_of rfl) (by assumption) (by rfl) ?_; refine gg ?_)
      refine i_call2 (by exact sel_of rfl) (by exact sel_of rfl) (w_params r a rfl (by omega) n (by omega)) ?_
      rintro _ h20 ⟨k20, r20, o4, c4, ps, a20, ⟨row4, prl4⟩, hc4, fr4, frp⟩
      refine gg ?_
      have e : readAll (lets k) ({ Chk.zero with k := k, fl := fl }, s) = ((⟨k, fl, 0, 0, 0, 0, 0, [], [], [], (rdPa s).1, []⟩ : Chk), (rdPa s).2) := by
        rw [hl]
        simp only [readAll, List.foldl_cons, List.foldl_nil, readL, Nat.reduceEqDiff, if_true, if_false, Chk.zero]
      rw [e]
      exact ⟨rfl, k20, r20, ⟨sel_of rfl, sel_of rfl, trivial⟩, _, a20, none, 0, none, 0, none, 0, o4, c4, none, 0, ps, rfl, Row.nil _ _, Row.nil _ _, Row.nil _ _, ⟨row4, prl4⟩, Row.nil _ _, ⟨Nat.le_refl _, Nat.le_refl _, Nat.le_refl _, hc4, Nat.le_refl _⟩, hk256, hf256, (fun q e => by cases e), (fun q e => by cases e), (fun q e => by cases e), (fun q e => by have := fr4 q e; omega), (fun q e => by cases e), (fun q m c hm => by have := frp q m c hm; omega)⟩
    · have hl : lets k = [84] := by rw [hk]; rfl
      have ga := a.g
      rw [hk] at ga
      refine gg ?_; repeat (refine i_ldown (by exact sel_of rfl) (by assumption) (by rfl) ?_; refine gg ?_)
      refine i_call2 (by exact sel_of rfl) (by exact sel_of rfl) (w_params r a rfl (by omega) n (by omega)) ?_
      rintro _ h20 ⟨k20, r20, o4, c4, ps, a20, ⟨row4, prl4⟩, hc4, fr4, frp⟩
      refine gg ?_
      have e : readAll (lets k) ({ Chk.zero with k := k, fl := fl }, s) = ((⟨k, fl, 0, 0, 0, 0, 0, [], [], [], (rdPa s).1, []⟩ : Chk), (rdPa s).2) := by
        rw [hl]
        simp only [readAll, List.foldl_cons, List.foldl_nil, readL, Nat.reduceEqDiff, if_true, if_false, Chk.zero]
      rw [e]
      exact ⟨rfl, k20, r20, ⟨sel_of rfl, sel_of rfl, trivial⟩, _, a20, none, 0, none, 0, none, 0, o4, c4, none, 0, ps, rfl, Row.nil _ _, Row.nil _ _, Row.nil _ _, ⟨row4, prl4⟩, Row.nil _ _, ⟨Nat.le_refl _, Nat.le_refl _, Nat.le_refl _, hc4, Nat.le_refl _⟩, hk256, hf256, (fun q e => by cases e), (fun q e => by cases e), (fun q e => by cases e), (fun q e => by have := fr4 q e; omega), (fun q e => by cases e), (fun q m c hm => by have := frp q m c hm; omega)⟩
    · have hl : lets k = [65, 66, 67] := by rw [hk]; rfl
      have ga := a.g
      rw [hk] at ga
      refine gg ?_; repeat (refine i_ldown (by exact sel_of rfl) (by assumption) (by rfl) ?_; refine gg ?_)
      refine i_call1 (by exact sel_of rfl) (w_number r n (by omega)) ?_
      rintro _ h1 ⟨k1, nx1, r1, rfl⟩
      have a1 := a.keep k1
      refine gg ?_
      refine i_call1 (by exact sel_of rfl) (w_number r1 n (by omega)) ?_
      rintro _ h2 ⟨k2, nx2, r2, rfl⟩
      have a2 := a1.keep k2
      refine gg ?_
      refine i_stB (by exact sel_of rfl) (by rfl) a2.g (by exact (by decide : 2 < 12)) fun h3 kb3 nx3 g3 => ?_
      have a3 := a2.set kb3 nx3 g3
      have r3 := r2.keepC kb3 a.nR a.nb a.nF
      refine gg ?_
      refine i_stB (by exact sel_of rfl) (by rfl) a3.g (by exact (by decide : 3 < 12)) fun h4 kb4 nx4 g4 => ?_
      have a4 := a3.set kb4 nx4 g4
      have r4 := r3.keepC kb4 a.nR a.nb a.nF
      refine gg ?_
      refine i_call2 (by exact sel_of rfl) (by exact sel_of rfl) (w_rsack r4 a4 rfl rfl n (by omega)) ?_
      rintro _ h20 ⟨k20, r20, o1, o2, a20, row1, row2, fr1, fr2⟩
      refine gg ?_
      have e : readAll (lets k) ({ Chk.zero with k := k, fl := fl }, s) = ((⟨k, fl, (rn 4 s).1, (rn 4 (rn 4 s).2).1, 0, 0, 0, (rdSa (rn 4 (rn 4 s).2).2).1.1, (rdSa (rn 4 (rn 4 s).2).2).1.2, [], [], []⟩ : Chk), (rdSa (rn 4 (rn 4 s).2).2).2) := by
        rw [hl]
        simp only [readAll, List.foldl_cons, List.foldl_nil, readL, Nat.reduceEqDiff, if_true, if_false, Chk.zero]
      rw [e]
      exact ⟨rfl, (((((k1.mono fun d => P2.P3 (C := C))).trans (k2.mono fun d => P2.P3 (C := C))).trans (kb3.toP (p := P3 R b C) (.inr (.inr rfl)))).trans (kb4.toP (p := P3 R b C) (.inr (.inr rfl)))).trans k20, r20, ⟨sel_of rfl, sel_of rfl, trivial⟩, _, a20, o1, _, o2, _, none, 0, none, 0, none, 0, [], rfl, row1, row2, Row.nil _ _, ⟨Row.nil _ _, trivial⟩, Row.nil _ _, ⟨Nat.le_refl _, Nat.le_refl _, Nat.le_refl _, Nat.le_refl _, Nat.le_refl _⟩, hk256, hf256, (fun q e => by have := fr1 q e; omega), (fun q e => by have := fr2 q e; omega), (fun q e => by cases e), (fun q e => by cases e), (fun q e => by cases e), (fun q m c hm => by cases hm)⟩
    · have hl : lets k = [65] := by rw [hk]; rfl
      have ga := a.g
      rw [hk] at ga
      refine gg ?_; repeat (refine i_ldown (by exact sel_of rfl) (by assumption) (by rfl) ?_; refine gg ?_)
      refine i_call1 (by exact sel_of rfl) (w_number r n (by omega)) ?_
      rintro _ h1 ⟨k1, nx1, r1, rfl⟩
      have a1 := a.keep k1
      refine gg ?_
      refine i_stB (by exact sel_of rfl) (by rfl) a1.g (by exact (by decide : 2 < 12)) fun h2 kb2 nx2 g2 => ?_
      have a2 := a1.set kb2 nx2 g2
      have r2 := r1.keepC kb2 a.nR a.nb a.nF
      refine gg ?_
      have e : readAll (lets k) ({ Chk.zero with k := k, fl := fl }, s) = ((⟨k, fl, (rn 4 s).1, 0, 0, 0, 0, [], [], [], [], []⟩ : Chk), (rn 4 s).2) := by
        rw [hl]
        simp only [readAll, List.foldl_cons, List.foldl_nil, readL, Nat.reduceEqDiff, if_true, if_false, Chk.zero]
      rw [e]
      exact ⟨rfl, ((k1.mono fun d => P2.P3 (C := C))).trans (kb2.toP (p := P3 R b C) (.inr (.inr rfl))), r2, ⟨sel_of rfl, sel_of rfl, trivial⟩, _, a2, none, 0, none, 0, none, 0, none, 0, none, 0, [], rfl, Row.nil _ _, Row.nil _ _, Row.nil _ _, ⟨Row.nil _ _, trivial⟩, Row.nil _ _, ⟨Nat.le_refl _, Nat.le_refl _, Nat.le_refl _, Nat.le_refl _, Nat.le_refl _⟩, hk256, hf256, (fun q e => by cases e), (fun q e => by cases e), (fun q e => by cases e), (fun q e => by cases e), (fun q e => by cases e), (fun q m c hm => by cases hm)⟩
    · have hl : lets k = [] := by rw [hk]; rfl
      have ga := a.g
      rw [hk] at ga
      refine gg ?_; repeat (refine i_ldown (by exact sel_of rfl) (by assumption) (by rfl) ?_; refine gg ?_)
      have e : readAll (lets k) ({ Chk.zero with k := k, fl := fl }, s) = ((⟨k, fl, 0, 0, 0, 0, 0, [], [], [], [], []⟩ : Chk), s) := by
        rw [hl]
        simp only [readAll, List.foldl_nil, readL, Chk.zero]
      rw [e]
      exact ⟨rfl, KeepsP.refl _ _, r, ⟨sel_of rfl, sel_of rfl, trivial⟩, _, a, none, 0, none, 0, none, 0, none, 0, none, 0, [], rfl, Row.nil _ _, Row.nil _ _, Row.nil _ _, ⟨Row.nil _ _, trivial⟩, Row.nil _ _, ⟨Nat.le_refl _, Nat.le_refl _, Nat.le_refl _, Nat.le_refl _, Nat.le_refl _⟩, hk256, hf256, (fun q e => by cases e), (fun q e => by cases e), (fun q e => by cases e), (fun q e => by cases e), (fun q e => by cases e), (fun q m c hm => by cases hm)⟩
    · have hl : lets k = [] := by rw [hk]; rfl
      have ga := a.g
      rw [hk] at ga
      refine gg ?_; repeat (refine i_ldown (by exact sel_of rfl) (by assumption) (by rfl) ?_; refine gg ?_)
      have e : readAll (lets k) ({ Chk.zero with k := k, fl := fl }, s) = ((⟨k, fl, 0, 0, 0, 0, 0, [], [], [], [], []⟩ : Chk), s) := by
        rw [hl]
        simp only [readAll, List.foldl_nil, readL, Chk.zero]
      rw [e]
      exact ⟨rfl, KeepsP.refl _ _, r, ⟨sel_of rfl, sel_of rfl, trivial⟩, _, a, none, 0, none, 0, none, 0, none, 0, none, 0, [], rfl, Row.nil _ _, Row.nil _ _, Row.nil _ _, ⟨Row.nil _ _, trivial⟩, Row.nil _ _, ⟨Nat.le_refl _, Nat.le_refl _, Nat.le_refl _, Nat.le_refl _, Nat.le_refl _⟩, hk256, hf256, (fun q e => by cases e), (fun q e => by cases e), (fun q e => by cases e), (fun q e => by cases e), (fun q e => by cases e), (fun q m c hm => by cases hm)⟩
    · have hl : lets k = [] := by rw [hk]; rfl
      have ga := a.g
      rw [hk] at ga
      refine gg ?_; repeat (refine i_ldown (by exact sel_of rfl) (by assumption) (by rfl) ?_; refine gg ?_)
      have e : readAll (lets k) ({ Chk.zero with k := k, fl := fl }, s) = ((⟨k, fl, 0, 0, 0, 0, 0, [], [], [], [], []⟩ : Chk), s) := by
        rw [hl]
        simp only [readAll, List.foldl_nil, readL, Chk.zero]
      rw [e]
      exact ⟨rfl, KeepsP.refl _ _, r, ⟨sel_of rfl, sel_of rfl, trivial⟩, _, a, none, 0, none, 0, none, 0, none, 0, none, 0, [], rfl, Row.nil _ _, Row.nil _ _, Row.nil _ _, ⟨Row.nil _ _, trivial⟩, Row.nil _ _, ⟨Nat.le_refl _, Nat.le_refl _, Nat.le_refl _, Nat.le_refl _, Nat.le_refl _⟩, hk256, hf256, (fun q e => by cases e), (fun q e => by cases e), (fun q e => by cases e), (fun q e => by cases e), (fun q e => by cases e), (fun q m c hm => by cases hm)⟩
    · have hl : lets k = [65, 83] := by rw [hk]; rfl
      have ga := a.g
      rw [hk] at ga
      refine gg ?_; repeat (refine i_ldown (by exact sel_of rfl) (by assumption) (by rfl) ?_; refine gg ?_)
      refine i_call1 (by exact sel_of rfl) (w_number r n (by omega)) ?_
      rintro _ h1 ⟨k1, nx1, r1, rfl⟩
      have a1 := a.keep k1
      refine gg ?_
      refine i_stB (by exact sel_of rfl) (by rfl) a1.g (by exact (by decide : 2 < 12)) fun h2 kb2 nx2 g2 => ?_
      have a2 := a1.set kb2 nx2 g2
      have r2 := r1.keepC kb2 a.nR a.nb a.nF
      refine gg ?_
      refine i_call2 (by exact sel_of rfl) (by exact sel_of rfl) (w_skips r2 a2 rfl n (by omega)) ?_
      rintro _ h20 ⟨k20, r20, o3, a20, row3, fr3⟩
      refine gg ?_
      have e : readAll (lets k) ({ Chk.zero with k := k, fl := fl }, s) = ((⟨k, fl, (rn 4 s).1, 0, 0, 0, 0, [], [], (rdSk 64 (rn 4 s).2).1, [], []⟩ : Chk), (rdSk 64 (rn 4 s).2).2) := by
        rw [hl]
        simp only [readAll, List.foldl_cons, List.foldl_nil, readL, Nat.reduceEqDiff, if_true, if_false, Chk.zero]
      rw [e]
      exact ⟨rfl, (((k1.mono fun d => P2.P3 (C := C))).trans (kb2.toP (p := P3 R b C) (.inr (.inr rfl)))).trans k20, r20, ⟨sel_of rfl, sel_of rfl, trivial⟩, _, a20, none, 0, none, 0, o3, _, none, 0, none, 0, [], rfl, Row.nil _ _, Row.nil _ _, row3, ⟨Row.nil _ _, trivial⟩, Row.nil _ _, ⟨Nat.le_refl _, Nat.le_refl _, Nat.le_refl _, Nat.le_refl _, Nat.le_refl _⟩, hk256, hf256, (fun q e => by cases e), (fun q e => by cases e), (fun q e => by have := fr3 q e; omega), (fun q e => by cases e), (fun q e => by cases e), (fun q m c hm => by cases hm)⟩
    · have hl : lets k = [68] := by unfold lets; simp only [hk, if_false, or_self]
      have ga := a.g
      refine gg ?_; repeat (refine i_ldown (by exact sel_of rfl) (by assumption) (by rfl) ?_; refine gg ?_)
      refine i_call2 (by exact sel_of rfl) (by exact sel_of rfl) (w_data (k := k) r a rfl rfl (by omega) n (by omega)) ?_
      rintro _ h20 ⟨k20, r20, o5, a20, row5, fr5⟩
      refine gg ?_
      have e : readAll (lets k) ({ Chk.zero with k := k, fl := fl }, s) = ((⟨k, fl, 0, 0, 0, 0, 0, [], [], [], [], (rdDa k s).1⟩ : Chk), (rdDa k s).2) := by
        rw [hl]
        simp only [readAll, List.foldl_cons, List.foldl_nil, readL, Nat.reduceEqDiff, if_false, Chk.zero]
      rw [e]
      exact ⟨rfl, k20, r20, ⟨sel_of rfl, sel_of rfl, trivial⟩, _, a20, none, 0, none, 0, none, 0, none, 0, o5, _, [], rfl, Row.nil _ _, Row.nil _ _, Row.nil _ _, ⟨Row.nil _ _, trivial⟩, row5, ⟨Nat.le_refl _, Nat.le_refl _, Nat.le_refl _, Nat.le_refl _, Nat.le_refl _⟩, hk256, hf256, (fun q e => by cases e), (fun q e => by cases e), (fun q e => by cases e), (fun q e => by cases e), (fun q e => by have := fr5 q e; omega), (fun q m c hm => by cases hm)⟩
  rintro a' h1 ⟨k1, r1, hs, v', a1, cv⟩
  obtain ⟨f0, rfl⟩ := hs.puts
  have g1 := r1.g
  have n1 := k1.next
  refine gg ?_; repeat (refine i_ldown (by exact sel_of rfl) (by assumption) (by rfl) ?_; refine gg ?_)
  refine i_call1 (by exact sel_of rfl) (w_leftF r1.rd n (by omega)) ?_
  rintro _ _ ⟨rfl, rfl⟩
  refine gg ?_; repeat (refine i_ldown (by exact sel_of rfl) (by assumption) (by rfl) ?_; refine gg ?_)
  refine i_call3 (by exact sel_of rfl) (by exact sel_of rfl) (by first | exact sel_of rfl | exact const_of) (w_need (φ := (((readAll (lets k) ({ Chk.zero with k := k, fl := fl }, s)).2.1.length : Nat) : Int) = 0) r1 3 n (by omega)) ?_
  rintro _ h2 ⟨k2, nx2, r2, rfl⟩
  refine gg ?_; repeat (refine i_ldown (by exact sel_of rfl) (by assumption) (by rfl) ?_; refine gg ?_)
  rw [need_congr (ψ := (readAll (lets k) ({ Chk.zero with k := k, fl := fl }, s)).2.1 = []) (by rw [← List.length_eq_zero_iff]; omega)] at r2
  have k2' : KeepsP (P2 R b) h1 h2 := k2.toP (.inl rfl)
  exact ⟨k1.trans (k2'.mono fun d => P2.P3), r2, v', a1.keep k2', cv.low k2' (fun d hd he => by unfold P2 at he; omega)⟩
set_option maxHeartbeats 2000000 in
theorem w_whole {F : Nat} {h : Heap} {R b C : Nat} {l : List UInt8} (r : Rr F h R b (l, 0)) (a : At F h R b C [.int .u8 0, .int .u8 0, .int .u32 0, .int .u32 0, .int .u16 0, .int .u16 0, .int .u32 0, .slice none 0 0, .slice none 0 0, .slice none 0 0, .slice none 0 0, .slice none 0 0]) (n : Nat) (hn : 100 ≤ n) :
    ResQ (callN Try.prog G0 n (.call 74 [.pointer (some ⟨R, 0, none⟩), .pointer (some ⟨C, 0, none⟩)]) h) (fun u h' => u = .int .i64 (((headC l).2.1 : Nat) : Int) ∧ KeepsP (P3 R b C) h h' ∧ h'.next = h.next ∧ Rr F h' R b (headC l).2.2 ∧ At F h' R b C [.int .u8 (((headC l).1 / 256 : Nat) : Int), .int .u8 (((headC l).1 % 256 : Nat) : Int), .int .u32 0, .int .u32 0, .int .u16 0, .int .u16 0, .int .u32 0, .slice none 0 0, .slice none 0 0, .slice none 0 0, .slice none 0 0, .slice none 0 0]) := by
  have hxl := rn_lt2 (l, 0)
  have hml := rn_lt2 (rn 2 (l, 0)).2
  obtain ⟨n, rfl⟩ : ∃ m, n = m + 1 := ⟨n - 1, by omega⟩
  refine res_enter rfl d74 rfl ?_; simp only [c74]
  refine gg ?_
  refine i_call1 (by exact sel_of rfl) (w_half r n (by omega)) ?_
  rintro _ h1 ⟨k1, nx1, r1, rfl⟩
  have a1 := a.keep k1
  refine gg ?_
  refine i_stB (v := .int .u8 (((rn 2 (l, 0)).1 / 256 : Nat) : Int)) (by exact sel_of rfl) (by rfl) a1.g (by exact (by decide : 0 < 12)) fun h2 kb2 nx2 g2 => ?_
  have a2 := a1.set kb2 nx2 g2
  have r2 := r1.keepC kb2 a.nR a.nb a.nF
  refine gg ?_
  refine i_stB (v := .int .u8 ((((UInt8.ofNat (rn 2 (l, 0)).1).toNat : Nat)) : Int)) (by exact sel_of rfl) (by rfl) a2.g (by exact (by decide : 1 < 12)) fun h3 kb3 nx3 g3 => ?_
  have a3 := a2.set kb3 nx3 g3
  have r3 := r2.keepC kb3 a.nR a.nb a.nF
  refine gg ?_
  refine i_call1 (by exact sel_of rfl) (w_half r3 n (by omega)) ?_
  rintro _ h4 ⟨k4, nx4, r4, rfl⟩
  have a4 := a3.keep k4
  refine gg ?_
  refine i_call3 (by exact sel_of rfl) (by exact sel_of rfl) (by first | exact sel_of rfl | exact const_of) (w_need (φ := (4 : Int) ≤ (((rn 2 (rn 2 (l, 0)).2).1 : Nat) : Int)) r4 3 n (by omega)) ?_
  rintro _ h5 ⟨k5, nx5, r5, rfl⟩
  have a5 := a4.keep (k5.toP (p := P2 R b) (.inl rfl))
  rw [need_congr (ψ := 4 ≤ (rn 2 (rn 2 (l, 0)).2).1) (by omega)] at r5
  have g5 := r5.g
  refine gg ?_; repeat (refine i_ldown (by exact sel_of rfl) (by assumption) (by rfl) ?_; refine gg ?_)
  refine i_call1 (by exact sel_of rfl) (w_leftF r5.rd n (by omega)) ?_
  rintro _ _ ⟨rfl, rfl⟩
  refine gg ?_; repeat (refine i_ldown (by exact sel_of rfl) (by assumption) (by rfl) ?_; refine gg ?_)
  refine i_call3 (by exact sel_of rfl) (by exact sel_of rfl) (by first | exact sel_of rfl | exact const_of) (w_need (φ := (((rn 2 (rn 2 (l, 0)).2).1 : Nat) : Int) - 4 ≤ (((need (4 ≤ (rn 2 (rn 2 (l, 0)).2).1) 3 (rn 2 (rn 2 (l, 0)).2).2).1.length : Nat) : Int)) r5 2 n (by omega)) ?_
  rintro _ h6 ⟨k6, nx6, r6, rfl⟩
  have a6 := a5.keep (k6.toP (p := P2 R b) (.inl rfl))
  rw [need_congr (ψ := (rn 2 (rn 2 (l, 0)).2).1 ≤ 4 + (need (4 ≤ (rn 2 (rn 2 (l, 0)).2).1) 3 (rn 2 (rn 2 (l, 0)).2).2).1.length) (by omega)] at r6
  refine gg ?_; repeat (refine i_ldown (by exact sel_of rfl) (by assumption) (by rfl) ?_; refine gg ?_)
  refine ⟨rfl, ((((k1.mono fun d => P2.P3 (C := C)).trans (kb2.toP (.inr (.inr rfl)))).trans (kb3.toP (.inr (.inr rfl)))).trans (k4.mono fun d => P2.P3)).trans ((k5.toP (.inl rfl)).trans (k6.toP (.inl rfl))), by omega, r6, ?_⟩
  have ex : (headC l).1 = (rn 2 (l, 0)).1 := rfl
  have e8 : (UInt8.ofNat (rn 2 (l, 0)).1).toNat = (headC l).1 % 256 := by rw [UInt8.toNat_ofNat', ex]
  rw [e8] at a6
  exact a6
end Go.Proofs.Ytdcllpjoejkpnaa

