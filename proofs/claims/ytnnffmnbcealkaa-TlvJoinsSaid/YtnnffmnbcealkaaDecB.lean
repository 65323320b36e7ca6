/- Part of a proof by an abstract run of the program's code: DecB. No condition. -/
import Derived.Test.YtnnffmnbcealkaaActA
import Derived.Test.YtnnffmnbcealkaaDecA
/-! The document's answer for Decode, walked. -/
set_option linter.unusedVariables false
namespace Go.Proofs.Ytnnffmnbcealkaa
open Go Vm
theorem row_putNL {h : Heap} {c e m : Nat} {cs cs' : List Value} {op : Bool} {o : Option Addr} {l : List UInt8} (r : Row h 1 o m (u8s l)) (hg : h.get c = some (.cells e cs (.own op))) (hv : ∀ v ∈ cs, ∀ n, v ≠ .int .u8 n) (hl : cs'.length = cs.length) : Row (h.put c (.cells e cs' (.own op))) 1 o m (u8s l) := by
  cases o with
  | none => exact Row.top r (fun q e => by cases e) _
  | some q =>
    by_cases hb : q.block = c
    · obtain ⟨h1, h2, h3, h4⟩ := r
      obtain ⟨e', l', st, g, hst, hlen, hcs⟩ := loadN_dead h4
      rw [hb, hg] at g
      cases g
      have hm : l = [] := by
        cases l with
        | nil => rfl
        | cons x l =>
          have : Value.int .u8 ((x.toNat : Nat) : Int) ∈ (cs.drop q.off).take (m * 1) := by rw [← hcs, u8s_eq]; simp
          exact absurd rfl (hv _ (List.mem_of_mem_drop (List.mem_of_mem_take this)) _)
      subst hm
      have hm0 : m = 0 := by have := h1; rw [u8s_eq] at this; simpa using this.symm
      subst hm0
      refine ⟨h1, h2, h3, ?_⟩
      rw [loadN_of (q := q) (e := e) (l := cs') (st := .own op) (by rw [hb, Heap.get_put, if_pos rfl]) (by simp) (by rw [hl]; exact hlen), hcs]
      simp
    · exact Row.top r (fun q' e => by cases e; exact hb) _
def From (o' o : Option Addr) : Prop := ∀ q, o' = some q → ∃ p, o = some p ∧ q.block = p.block
theorem From.trans {o o' o'' : Option Addr} (f : From o'' o') (g : From o' o) : From o'' o := fun q e => by
  obtain ⟨p, e1, e2⟩ := f q e
  obtain ⟨p', e3, e4⟩ := g p e1
  exact ⟨p', e3, e2.trans e4⟩
theorem From.none (o : Option Addr) : From none o := fun q e => by cases e
theorem w_rbytes2 {h : Heap} {o : Option Addr} {m c : Nat} {l : List UInt8} (hr : Row h 1 o m (u8s l)) (hc : m ≤ c) (k : Int) {t r : List UInt8} {en : Nat} (he : takeR l k = (t, r, en)) (n : Nat) (hn : 1 ≤ n) :
    ResQ (callN Try.prog G0 n (.call 41 [.slice o m c, .int .i64 k]) h) (fun v h' => h = h' ∧ ∃ o1 c1 o2 c2, v = .tuple #[.slice o1 t.length c1, .slice o2 r.length c2, .int .i64 (en : Int)] ∧ Row h 1 o1 t.length (u8s t) ∧ t.length ≤ c1 ∧ Row h 1 o2 r.length (u8s r) ∧ r.length ≤ c2 ∧ From o2 o ∧ From o1 o) := by
  have hm : l.length = m := by simpa [u8s_length] using hr.1
  subst hm
  rw [takeR] at he
  obtain ⟨n, rfl⟩ : ∃ m, n = m + 1 := ⟨n - 1, by omega⟩
  refine res_enter rfl d41 rfl ?_; simp only [c41]
  refine gg ?_
  by_cases h1 : k < 0
  · rw [if_pos h1] at he
    cases he
    refine gg ?_
    exact ⟨rfl, none, 0, o, c, rfl, Row.nil _ _, Nat.le_refl _, hr, hc, fun q e => ⟨q, e, rfl⟩, fun q e => by cases e⟩
  rw [if_neg h1] at he
  by_cases h2 : (l.length : Int) < k
  · rw [if_pos h2] at he
    cases he
    refine gg ?_
    exact ⟨rfl, none, 0, o, c, rfl, Row.nil _ _, Nat.le_refl _, hr, hc, fun q e => ⟨q, e, rfl⟩, fun q e => by cases e⟩
  rw [if_neg h2] at he
  cases he
  obtain ⟨k, rfl⟩ : ∃ j : Nat, k = (j : Int) := ⟨k.toNat, by omega⟩
  rw [Int.toNat_natCast]
  refine gg ?_
  refine i_sl_hi (by exact sel_of rfl) hr hc (by exact sel_of rfl) (by omega) fun r1 => ?_
  refine gg ?_
  refine i_sl_lo (by exact sel_of rfl) hr hc (by exact sel_of rfl) (by omega) fun o2 hn2 r2 => ?_
  rw [Nat.mul_one, ← u8s_take] at r1
  rw [Nat.mul_one, ← u8s_drop] at r2
  refine gg ?_
  refine ⟨rfl, o, c, o2, c - k, ?_, ?_, ?_, ?_, ?_, hn2, fun q e => ⟨q, e, rfl⟩⟩
  · rw [List.length_take, List.length_drop, Nat.min_eq_left (by omega)]; rfl
  · rw [List.length_take, Nat.min_eq_left (by omega)]; exact r1
  · rw [List.length_take]; omega
  · rw [List.length_drop]; exact r2
  · rw [List.length_drop]; omega
def RoneQ (h : Heap) (oi : Option Addr) (l : List UInt8) (v : Value) (h' : Heap) : Prop :=
  Keeps h h' ∧ ∃ (p : Prm) (o : Option Addr) (c : Nat) (r : List UInt8) (o2 : Option Addr) (c2 : Nat), v = .tuple #[.agg #[.int .u16 (p.1 : Int), .slice o p.2.length c], .slice o2 r.length c2, .int .i64 ((oneE l).1 : Int)] ∧ Pr h' p (.int .u16 (p.1 : Int)) (.slice o p.2.length c) ∧ Row h' 1 o2 r.length (u8s r) ∧ r.length ≤ c2 ∧ ((oneE l).1 = 0 → p = (oneE l).2.1 ∧ r = (oneE l).2.2) ∧ From o oi ∧ From o2 oi
theorem RoneQ.mk {h h1 : Heap} {e c c2 : Nat} {l r : List UInt8} {p : Prm} {o o2 oi : Option Addr} {vs : List Value} (k1 : Keeps h h1) (g1 : h1.get h.next = some (.cells 44 [.int .u16 0, .slice none 0 0] (.own false))) (hp : p.1 < 65536) (row : Row h1 1 o p.2.length (u8s p.2)) (hc : p.2.length ≤ c) (row2 : Row h1 1 o2 r.length (u8s r)) (hc2 : r.length ≤ c2) (hvs : vs.length = 2) (f1 : From o oi) (f2 : From o2 oi) (he : (oneE l).1 = e) (hok : e = 0 → p = (oneE l).2.1 ∧ r = (oneE l).2.2) :
    RoneQ h oi l (.tuple #[.agg #[.int .u16 (p.1 : Int), .slice o p.2.length c], .slice o2 r.length c2, .int .i64 (e : Int)]) (h1.put h.next (.cells 44 vs (.own false))) := by
  subst he
  have hno : ∀ v ∈ [Value.int .u16 0, Value.slice none 0 0], ∀ n, v ≠ Value.int .u8 n := by
    intro v hv n e
    simp only [List.mem_cons, List.not_mem_nil, or_false] at hv
    rcases hv with rfl | rfl <;> cases e
  exact ⟨k1.put (Nat.le_refl _) _, p, o, c, r, o2, c2, rfl, ⟨rfl, hp, o, _, c, rfl, row_putNL row g1 hno hvs, hc⟩, row_putNL row2 g1 hno hvs, hc2, hok, f1, f2⟩
set_option maxHeartbeats 1000000 in
theorem w_rone {h : Heap} {o : Option Addr} {m c : Nat} {l : List UInt8} (hr : Row h 1 o m (u8s l)) (hc : m ≤ c) (hlen : l.length ≤ 1000000) (n : Nat) (hn : 30 ≤ n) :
    ResQ (callN Try.prog G0 n (.call 33 [.slice o m c]) h) (RoneQ h o l) := by
  obtain ⟨n, rfl⟩ : ∃ m, n = m + 1 := ⟨n - 1, by omega⟩
  refine res_enter rfl d33 rfl ?_; simp only [c33]
  refine gg ?_
  have k1 : Keeps h (h.new (.cells 44 [.int .u16 0, .slice none 0 0] (.own false))) := Keeps.new h _
  have g1 : (h.new (.cells 44 [.int .u16 0, .slice none 0 0] (.own false))).get h.next = some (.cells 44 [.int .u16 0, .slice none 0 0] (.own false)) := by rw [Heap.get_new, if_pos rfl]
  have r1 := hr.keeps k1
  generalize h.new (.cells 44 [.int .u16 0, .slice none 0 0] (.own false)) = h1 at *
  by_cases hl2 : l.length < 2
  · have eg : getR l 2 = (0, l, 2) := by rw [getR, if_pos hl2]
    refine i_call2 (by exact sel_of rfl) (by first | exact sel_of rfl | exact const_of) (w_rget r1 hc 2 (by omega) eg n (by omega)) ?_
    rintro _ _ ⟨rfl, o2, c2, rfl, r2, hc2, f2⟩
    refine gg ?_
    refine i_storeP (vs := [.int .u16 0, .slice none 0 0]) (by exact sel_of rfl) (by rfl) g1 rfl rfl ?_
    refine gg ?_
    refine finA3 (by exact sel_of rfl) (loadN_put rfl) (by exact sel_of rfl) (by exact sel_of rfl) ?_
    have he : oneE l = (2, (0, []), l) := by rw [oneE, if_pos hl2]
    exact RoneQ.mk (p := (0, [])) (r := []) k1 g1 (by decide) (Row.nil _ _) (Nat.le_refl _) (Row.nil _ _) (Nat.le_refl _) rfl (From.none _) (From.none _) (by rw [he]) (fun e => by cases e)
  have eg : getR l 2 = (num (l.take 2), l.drop 2, 0) := by rw [getR, if_neg hl2]
  have hn1 := num_two l
  refine i_call2 (by exact sel_of rfl) (by first | exact sel_of rfl | exact const_of) (w_rget r1 hc 2 (by omega) eg n (by omega)) ?_
  rintro _ _ ⟨rfl, o2, c2, rfl, r2, hc2, f2⟩
  refine gg ?_
  by_cases hl4 : l.length < 4
  · have eg2 : getR (l.drop 2) 2 = (0, l.drop 2, 2) := by rw [getR, if_pos (by rw [List.length_drop]; omega)]
    refine i_call2 (by exact sel_of rfl) (by first | exact sel_of rfl | exact const_of) (w_rget r2 hc2 2 (by omega) eg2 n (by omega)) ?_
    rintro _ _ ⟨rfl, o3, c3, rfl, r3, hc3, f3⟩
    refine gg ?_
    refine i_storeP (vs := [.int .u16 0, .slice none 0 0]) (by exact sel_of rfl) (by rfl) g1 rfl rfl ?_
    refine gg ?_
    refine finA3 (by exact sel_of rfl) (loadN_put rfl) (by exact sel_of rfl) (by exact sel_of rfl) ?_
    have he : oneE l = (2, (0, []), l) := by rw [oneE, if_neg hl2, if_pos hl4]
    exact RoneQ.mk (p := (0, [])) (r := []) k1 g1 (by decide) (Row.nil _ _) (Nat.le_refl _) (Row.nil _ _) (Nat.le_refl _) rfl (From.none _) (From.none _) (by rw [he]) (fun e => by cases e)
  have eg2 : getR (l.drop 2) 2 = (num ((l.drop 2).take 2), l.drop 4, 0) := by rw [getR, if_neg (by rw [List.length_drop]; omega), List.drop_drop]
  have hn2 := num_two (l.drop 2)
  refine i_call2 (by exact sel_of rfl) (by first | exact sel_of rfl | exact const_of) (w_rget r2 hc2 2 (by omega) eg2 n (by omega)) ?_
  rintro _ _ ⟨rfl, o3, c3, rfl, r3, hc3, f3⟩
  have he : oneE l = ((valE (num ((l.drop 2).take 2)) (l.drop 4)).1, (num (l.take 2), (valE (num ((l.drop 2).take 2)) (l.drop 4)).2.1), (valE (num ((l.drop 2).take 2)) (l.drop 4)).2.2) := by rw [oneE, if_neg hl2, if_neg hl4]
  generalize num ((l.drop 2).take 2) = k at *
  have hl4' : (l.drop 4).length ≤ 1000000 := by rw [List.length_drop]; omega
  generalize l.drop 4 = l4 at *
  rw [valE] at he
  refine gg ?_
  by_cases h4 : k < 4
  · rw [if_pos h4] at he
    refine gg ?_
    refine i_storeP (vs := [.int .u16 0, .slice none 0 0]) (by exact sel_of rfl) (by rfl) g1 rfl rfl ?_
    refine gg ?_
    refine finA3 (by exact sel_of rfl) (loadN_put rfl) (by exact sel_of rfl) (by exact sel_of rfl) ?_
    exact RoneQ.mk (p := (0, [])) (r := []) (e := 3) k1 g1 (by decide) (Row.nil _ _) (Nat.le_refl _) (Row.nil _ _) (Nat.le_refl _) rfl (From.none _) (From.none _) (by rw [he]) (fun e => by cases e)
  rw [if_neg h4] at he
  by_cases h5 : 1204 < k
  · rw [if_pos h5] at he
    refine gg ?_
    refine i_storeP (vs := [.int .u16 0, .slice none 0 0]) (by exact sel_of rfl) (by rfl) g1 rfl rfl ?_
    refine gg ?_
    refine finA3 (by exact sel_of rfl) (loadN_put rfl) (by exact sel_of rfl) (by exact sel_of rfl) ?_
    exact RoneQ.mk (p := (0, [])) (r := []) (e := 10) k1 g1 (by decide) (Row.nil _ _) (Nat.le_refl _) (Row.nil _ _) (Nat.le_refl _) rfl (From.none _) (From.none _) (by rw [he]) (fun e => by cases e)
  rw [if_neg h5] at he
  refine gg ?_
  have et := takeR_nat l4 (k - 4)
  rw [show (((k - 4 : Nat)) : Int) = (k : Int) - 4 by omega] at et
  by_cases hs : l4.length < k - 4
  · rw [if_pos hs] at he et
    refine i_call2 (by exact sel_of rfl) (by exact sel_of rfl) (w_rbytes2 r3 hc3 _ et n (by omega)) ?_
    rintro _ _ ⟨rfl, o5, c5, o6, c6, rfl, r5, hc5, r6, hc6, f6, f5⟩
    refine gg ?_
    refine i_storeP (vs := [.int .u16 0, .slice none 0 0]) (by exact sel_of rfl) (by rfl) g1 rfl rfl ?_
    refine gg ?_
    refine finA3 (by exact sel_of rfl) (loadN_put rfl) (by exact sel_of rfl) (by exact sel_of rfl) ?_
    exact RoneQ.mk (p := (0, [])) (r := []) (e := 2) k1 g1 (by decide) (Row.nil _ _) (Nat.le_refl _) (Row.nil _ _) (Nat.le_refl _) rfl (From.none _) (From.none _) (by rw [he]) (fun e => by cases e)
  · rw [if_neg hs] at he et
    refine i_call2 (by exact sel_of rfl) (by exact sel_of rfl) (w_rbytes2 r3 hc3 _ et n (by omega)) ?_
    rintro _ _ ⟨rfl, o5, c5, o6, c6, rfl, r5, hc5, r6, hc6, f6, f5⟩
    refine gg ?_
    rcases ep : padR (l4.drop (k - 4)) (k : Int) with ⟨r9, e9⟩
    rw [ep] at he
    refine i_call2 (by exact sel_of rfl) (by exact sel_of rfl) (w_unpad r6 hc6 (k : Int) (by omega) ep n (by omega)) ?_
    rintro _ _ ⟨rfl, o7, c7, rfl, r7, hc7, f7⟩
    refine gg ?_
    refine i_storeP (vs := [.int .u16 (num (l.take 2) : Int), .slice o5 (l4.take (k - 4)).length c5]) (by exact sel_of rfl) (by rfl) g1 rfl rfl ?_
    refine gg ?_
    refine finA3 (by exact sel_of rfl) (loadN_put rfl) (by exact sel_of rfl) (by exact sel_of rfl) ?_
    exact RoneQ.mk (p := (num (l.take 2), l4.take (k - 4))) k1 g1 hn1 r5 hc5 r7 hc7 rfl (f5.trans (From.trans f3 f2)) (From.trans f7 (f6.trans (From.trans f3 f2))) (by rw [he]) (fun _ => by rw [he]; exact ⟨rfl, rfl⟩)
set_option maxHeartbeats 1000000 in
theorem w_rdecode {h : Heap} {o : Option Addr} {m c : Nat} {l : List UInt8} (hr : Row h 1 o m (u8s l)) (hc : m ≤ c) (hlen : l.length ≤ 1000000) (n : Nat) (hn : 100 ≤ n) :
    ResQ (callN Try.prog G0 n (.call 18 [.slice o m c]) h) (DecQ h l) := by
  have hm : l.length = m := by simpa [u8s_length] using hr.1
  subst hm
  obtain ⟨n, rfl⟩ : ∃ m, n = m + 1 := ⟨n - 1, by omega⟩
  refine res_enter rfl d18 rfl ?_; simp only [c18]
  refine gg ?_
  refine o_up 32 (fun i f h' => ∃ acc r o1 c1 o4 cs, Sl [(0, .slice o1 (r : List UInt8).length c1), (4, .slice o4 (acc : List Prm).length acc.length)] f ∧ acc.length = i ∧ Keeps h h' ∧ From o1 o ∧ Row h' 1 o1 r.length (u8s r) ∧ r.length ≤ c1 ∧ Ap h.next h' 44 2 o4 acc.length acc.length cs ∧ PrL h' acc cs ∧ (∀ q m c, Value.slice (some q) m c ∈ cs → q.block < h.next) ∧ (∀ q, o4 = some q → q.spot ≠ none) ∧ Split l acc r ∧ r.length ≤ 1000000) (by omega) ?_ ?_
  · exact ⟨[], l, o, c, none, [], ⟨sel_of rfl, sel_of rfl, trivial⟩, rfl, Keeps.refl h, fun q e => ⟨q, e, rfl⟩, hr, hc, Ap.nil _ _ _ _, trivial, fun q m c hm => by simp at hm, (fun q e => by cases e), Split.init l, hlen⟩
  rintro i f h' hi ⟨acc, r, o1, c1, o4, cs, hs, rfl, k, f1, row, hc1, ap, prl, vlow, spot, sp, hrl⟩
  obtain ⟨f0, rfl⟩ := hs.puts
  have olow : ∀ q, o1 = some q → q.block < h.next := fun q e => by
    obtain ⟨p, e1, e2⟩ := f1 q e
    subst e1
    rw [e2]; exact hr.2.1
  simp only [c18_0]
  refine gg ?_
  by_cases hre : r = []
  · subst hre
    refine gg ?_
    have e := sp.done
    rw [DecQ, e]
    exact ⟨k, o4, _, cs, rfl, ap.row, prl, Nat.le_refl _⟩
  have hpos : 0 < r.length := List.length_pos_iff.2 hre
  refine gg ?_
  by_cases h32 : acc.length = 32
  · refine gg ?_
    have e := sp.large hre h32
    rw [DecQ, e]
    exact ⟨k, none, 0, [], rfl, Row.nil _ _, trivial, Nat.le_refl _⟩
  refine gg ?_
  refine i_call1 (by exact sel_of rfl) (w_rone row hc1 hrl n (by omega)) ?_
  rintro _ h2 ⟨k2, p, ov, cv, r2, o2, c2, rfl, pr2, row2, hc2, ok2, fv, fo⟩
  refine gg ?_
  have k3 : Keeps h2 ((h2.new (.cells 44 [.int .u16 0, .slice none 0 0] (.own false))).put h2.next (.cells 44 [.int .u16 (p.1 : Int), .slice ov p.2.length cv] (.own false))) := (Keeps.new _ _).put (Nat.le_refl _) _
  have g3 : ((h2.new (.cells 44 [.int .u16 0, .slice none 0 0] (.own false))).put h2.next (.cells 44 [.int .u16 (p.1 : Int), .slice ov p.2.length cv] (.own false))).get h2.next = some (.cells 44 [.int .u16 (p.1 : Int), .slice ov p.2.length cv] (.own false)) := by rw [Heap.get_put, if_pos rfl]
  refine i_storeP (b := h2.next) (s := none) (vs := [.int .u16 (p.1 : Int), .slice ov p.2.length cv]) (by exact sel_of rfl) (by rfl) (by rw [Heap.get_new, if_pos rfl]) rfl rfl ?_
  generalize ((h2.new (.cells 44 [.int .u16 0, .slice none 0 0] (.own false))).put h2.next (.cells 44 [.int .u16 (p.1 : Int), .slice ov p.2.length cv] (.own false))) = h3 at *
  refine gg ?_
  by_cases he : (oneE r).1 = 0
  · obtain ⟨rfl, rfl⟩ := ok2 he
    refine gg ?_
    refine i_loadN (u := ⟨h2.next, 0, none⟩) (v := [.int .u16 ((oneE r).2.1.1 : Int), .slice ov (oneE r).2.1.2.length cv]) (by exact sel_of rfl) (by rw [loadN_of (q := ⟨h2.next, 0, none⟩) g3 (by simp) (by simp)]; rfl) ?_
    refine i_bslice (cs := [.int .u16 ((oneE r).2.1.1 : Int), .slice ov (oneE r).2.1.2.length cv]) (by rfl) ?_
    have k4 : Keeps h3 (h3.new (.cells 44 [.int .u16 ((oneE r).2.1.1 : Int), .slice ov (oneE r).2.1.2.length cv] (.own false))) := Keeps.new _ _
    have src4 : srcCells (h3.new (.cells 44 [.int .u16 ((oneE r).2.1.1 : Int), .slice ov (oneE r).2.1.2.length cv] (.own false))).get 2 (.slice (some ⟨h3.next, 0, none⟩) 1 1) = some (1, [.int .u16 ((oneE r).2.1.1 : Int), .slice ov (oneE r).2.1.2.length cv]) := (Row.new (by simp) rfl (.inl rfl)).src (c := 1)
    generalize (h3.new (.cells 44 [.int .u16 ((oneE r).2.1.1 : Int), .slice ov (oneE r).2.1.2.length cv] (.own false))) = h4 at *
    have kk : Keeps h h4 := k.trans (k2.trans (k3.trans k4))
    have nk := kk.next
    have k24 : Keeps h2 h4 := k3.trans k4
    refine i_appF (B := h.next) (m := 1) (t := acc.length + 1) (es := cs ++ [.int .u16 ((oneE r).2.1.1 : Int), .slice ov (oneE r).2.1.2.length cv]) (by decide) nk (by exact sel_of rfl) (ap.keeps (k2.trans k24)) src4 rfl (by omega) rfl rfl fun h5 n5 k5 a5 => ?_
    have low : ∀ d, d < h.next → h5.get d = h4.get d := fun d hd => k5 d (by omega) (fun q e => by
      rcases ap.2.2 q e with e | ⟨k', e2, e3, _⟩
      · exact .inr e
      · left; rw [e2]; show d ≠ k'; omega)
    have vov : ∀ q, ov = some q → q.block < h.next := fun q e => by
      obtain ⟨p', e1, e2⟩ := fv q e
      have := olow p' e1
      omega
    have vo2 : ∀ q, o2 = some q → q.block < h.next := fun q e => by
      obtain ⟨p', e1, e2⟩ := fo q e
      have := olow p' e1
      omega
    have prl4 := prl_snoc (pr2.keeps k24) (prl.keeps (k2.trans k24))
    have vl : ∀ q m c, Value.slice (some q) m c ∈ cs ++ [.int .u16 ((oneE r).2.1.1 : Int), .slice ov (oneE r).2.1.2.length cv] → q.block < h.next := fun q m c hm => by
      rw [List.mem_append] at hm
      rcases hm with hm | hm
      · exact vlow q m c hm
      · simp only [List.mem_cons, List.not_mem_nil, or_false] at hm
        rcases hm with hm | hm
        · cases hm
        · cases hm; exact vov q rfl
    have e1 : (acc ++ [(oneE r).2.1]).length = acc.length + 1 := by simp
    refine gg ?_
    refine rnd_up (by omega) ⟨acc ++ [(oneE r).2.1], (oneE r).2.2, o2, c2, some ⟨h4.next, 0, some 2⟩, cs ++ [.int .u16 ((oneE r).2.1.1 : Int), .slice ov (oneE r).2.1.2.length cv], ⟨sel_of rfl, by rw [e1]; exact sel_of rfl, trivial⟩, e1, ⟨by omega, fun d hd => (low d hd).trans (kk.get d hd)⟩, fo.trans f1, row_low (row2.keeps k24) (by omega) (fun q e => low _ (vo2 q e)), hc2, by rw [e1]; exact a5, prl_low (by omega) prl4 (fun q m c hm _ => low _ (vl q m c hm)), vl, (fun q e => by cases e; simp), sp.step hre (by omega) he, Nat.le_trans (oneE_len r) hrl⟩
  · refine gg ?_
    have e := sp.bad hre (by omega) he
    rw [DecQ, e]
    exact ⟨k.trans (k2.trans k3), none, 0, [], rfl, Row.nil _ _, trivial, Nat.le_refl _⟩
end Go.Proofs.Ytnnffmnbcealkaa

/-! Same, and TlvDecodes. -/
set_option linter.unusedVariables false
namespace Go.Proofs.Ytnnffmnbcealkaa
open Go Vm
theorem i_nets {rec : Rec} {L : List (Nat × Value)} {f : Fr} {dt : Nat} {h : Heap} {K : Fr → Heap → Prop} {rd : Bool} {x y : Sel} {l : List ISem} {s : List UInt8} (hx : x.f (puts L f) = .string ⟨s.toArray⟩) (hy : y.f (puts L f) = .string ⟨s.toArray⟩) (hq : ItQ (runItems rec l (puts ((dt, (.bool false)) :: L) f) h) K) : ItQ (runItems rec (iOp (put dt) (.v rd (oNe (.one 2) x y)) :: l) (puts L f) h) K := i_v (by
  simp only [oNe, hx, hy]
  show some (Value.bool (!eqB s s)) = _
  rw [eqB_eq]
  simp) hq
set_option maxHeartbeats 1000000 in
theorem w_rsame {h : Heap} {o o' : Option Addr} {c c' : Nat} {l : List Prm} {cs cs' : List Value} (hr : Row h 2 o l.length cs) (hp : PrL h l cs) (hr' : Row h 2 o' l.length cs') (hp' : PrL h l cs') (hbig : l.length ≤ 100000) (n : Nat) (hn : 3 + l.length ≤ n) :
    ResQ (callN Try.prog G0 n (.call 19 [.slice o l.length c, .slice o' l.length c']) h) (fun v h' => v = .bool true ∧ h = h') := by
  obtain ⟨n, rfl⟩ : ∃ m, n = m + 1 := ⟨n - 1, by omega⟩
  refine res_enter rfl d19 rfl ?_; simp only [c19]
  refine gg ?_
  refine o_up l.length (fun i f h' => Sl [(5, .int .i64 (i : Int)), (0, .slice o l.length c), (1, .slice o' l.length c')] f ∧ h = h') (by omega) ?_ ?_
  · exact ⟨⟨sel_of rfl, sel_of rfl, sel_of rfl, trivial⟩, rfl⟩
  rintro i f h' hi ⟨hs, rfl⟩
  obtain ⟨f0, rfl⟩ := hs.puts
  simp only [c19_0]
  refine gg ?_
  refine out_if (by exact sel_of rfl) (fun hif => ?_) (fun hif => ?_)
  · obtain ⟨p, hpi⟩ : ∃ p, l[i]? = some p := ⟨_, List.getElem?_eq_getElem (by omega)⟩
    obtain ⟨x, y, e1, e2, rfl, hx', o1, m1, c1, rfl, hrow, hc1⟩ := hp.at hpi
    obtain ⟨x, y, e1', e2', rfl, _, o1', m1', c1', rfl, hrow', hc1'⟩ := hp'.at hpi
    refine gg ?_
    refine i_idx (by exact sel_of rfl) hr (i := i) (by exact sel_of rfl) (by omega) fun u hu => ?_
    subst hu
    refine gg ?_
    refine i_load1 (v := .int .u16 (p.1 : Int)) (by exact sel_of rfl) (by rw [← e1, ← hr.cell (by omega)]; rfl) ?_
    refine gg ?_
    refine i_idx (by exact sel_of rfl) hr' (i := i) (by exact sel_of rfl) (by omega) fun u' hu => ?_
    subst hu
    refine gg ?_
    refine i_load1 (v := .int .u16 (p.1 : Int)) (by exact sel_of rfl) (by rw [← e1', ← hr'.cell (by omega)]; rfl) ?_
    refine gg ?_
    refine i_idx (by exact sel_of rfl) hr (i := i) (by exact sel_of rfl) (by omega) fun u2 hu => ?_
    cases hu
    refine gg ?_
    refine i_load1 (v := .slice o1 m1 c1) (by exact sel_of rfl) (by rw [← e2, ← hr.cell (by omega)]; rfl) ?_
    refine i_liveN (by exact sel_of rfl) (by omega) (i_v (hrow.str (by exact sel_of rfl)) ?_)
    refine gg ?_
    refine i_idx (by exact sel_of rfl) hr' (i := i) (by exact sel_of rfl) (by omega) fun u2 hu => ?_
    cases hu
    refine gg ?_
    refine i_load1 (v := .slice o1' m1' c1') (by exact sel_of rfl) (by rw [← e2', ← hr'.cell (by omega)]; rfl) ?_
    refine i_liveN (by exact sel_of rfl) (by omega) (i_v (hrow'.str (by exact sel_of rfl)) ?_)
    refine i_liveN (by exact sel_of rfl) (by omega) (i_nets (by exact sel_of rfl) (by exact sel_of rfl) ?_)
    refine gg ?_
    exact rnd_up (by omega) ⟨⟨sel_of rfl, sel_of rfl, sel_of rfl, trivial⟩, rfl⟩
  · refine gg ?_
    exact ⟨rfl, rfl⟩
theorem decA_len : ∀ (j : Nat) (l : List UInt8), (decA j l).2.length ≤ j
  | 0, l => by unfold decA; split <;> simp
  | j + 1, l => by
    have := decA_len j (oneE l).2.2
    unfold decA
    split
    · simp
    · split
      · simp
      · split
        · simp
        · simp; omega
theorem decL_len (l : List UInt8) : (decL l).2.length ≤ 32 := decA_len 32 l
theorem w_decodes {h : Heap} {o : Option Addr} {m c : Nat} {l : List UInt8} (hr : Row h 1 o m (u8s l)) (hc : m ≤ c) (n : Nat) (hn : 300 ≤ n) :
    ResQ (callN Try.prog G0 n (.call 4 [.slice o m c]) h) (fun v h' => v = .bool true) := by
  have hm : l.length = m := by simpa [u8s_length] using hr.1
  subst hm
  obtain ⟨n, rfl⟩ : ∃ m, n = m + 1 := ⟨n - 1, by omega⟩
  refine res_enter rfl d4 rfl ?_; simp only [c4]
  refine gg ?_
  refine i_call0 (w_awake h n (by omega)) ?_
  rintro _ _ ⟨rfl, rfl⟩
  refine gg ?_
  refine out_if (by exact sel_of rfl) (fun hif => ?_) (fun hif => ?_)
  · refine gg ?_
    rfl
  refine gg ?_
  refine i_call1 (by exact sel_of rfl) (w_decode hr (by omega) n (by omega)) ?_
  rintro _ h1 ⟨k1, o1, c1, cs1, rfl, r1, p1, hc1⟩
  refine gg ?_
  refine i_call1 (by exact sel_of rfl) (w_rdecode (hr.keeps k1) hc (by omega) n (by omega)) ?_
  rintro _ h2 ⟨k2, o2, c2, cs2, rfl, r2, p2, hc2⟩
  refine gg ?_
  refine i_call2 (by exact sel_of rfl) (by exact sel_of rfl) (w_rsame (r1.keeps k2) (p1.keeps k2) r2 p2 (by have := decL_len l; omega) n (by have := decL_len l; omega)) ?_
  rintro _ _ ⟨rfl, rfl⟩
  refine gg ?_
  rfl
end Go.Proofs.Ytnnffmnbcealkaa

