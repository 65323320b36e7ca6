/- Part of a proof by an abstract run of the program's code: UDecB. No condition. -/
import Derived.Test.YtdcllpjoejkpnaaUActA
import Derived.Test.YtdcllpjoejkpnaaUDecC
/-! The document's answer for Decode, walked. -/
set_option linter.unusedVariables false
namespace Go.Proofs.Ytdcllpjoejkpnaa
open Go Vm
theorem row_putNL {h : Heap} {c e m : Nat} {cs cs' : List Value} {op : Bool} {o : Option Addr} {l : List UInt8} (r : Row h 1 o m (u8s l)) (hg : h.get c = some (.cells e cs (.own op))) (hv : ∀ v ∈ cs, ∀ n, v ≠ .int .u8 n) (hl : cs'.length = cs.length) : Row (h.put c (.cells e cs' (.own op))) 1 o m (u8s l) := by
  cases o with
  | none => exact Row.top r (fun q e => by cases e) _
  | some q =>
    by_cases hb : q.block = c
    · obtain ⟨h1, h2, h3, h4⟩ := r
      obtain ⟨e', l', st, g, hst, hlen, hcs⟩ := loadN_dead h4
      rw [hb, hg] at g
      cases g
      have hm : l = [] := by
        cases l with
        | nil => rfl
        | cons x l =>
          have : Value.int .u8 ((x.toNat : Nat) : Int) ∈ (cs.drop q.off).take (m * 1) := by rw [← hcs, u8s_eq]; simp
          exact absurd rfl (hv _ (List.mem_of_mem_drop (List.mem_of_mem_take this)) _)
      subst hm
      have hm0 : m = 0 := by have := h1; rw [u8s_eq] at this; simpa using this.symm
      subst hm0
      refine ⟨h1, h2, h3, ?_⟩
      rw [loadN_of (q := q) (e := e) (l := cs') (st := .own op) (by rw [hb, Heap.get_put, if_pos rfl]) (by simp) (by rw [hl]; exact hlen), hcs]
      simp
    · exact Row.top r (fun q' e => by cases e; exact hb) _
def From (o' o : Option Addr) : Prop := ∀ q, o' = some q → ∃ p, o = some p ∧ q.block = p.block
theorem From.trans {o o' o'' : Option Addr} (f : From o'' o') (g : From o' o) : From o'' o := fun q e => by
  obtain ⟨p, e1, e2⟩ := f q e
  obtain ⟨p', e3, e4⟩ := g p e1
  exact ⟨p', e3, e2.trans e4⟩
theorem From.none (o : Option Addr) : From none o := fun q e => by cases e
def RoneQ (h : Heap) (oi : Option Addr) (l : List UInt8) (v : Value) (h' : Heap) : Prop :=
  Keeps h h' ∧ ∃ (p : Prm) (o : Option Addr) (c : Nat) (r : List UInt8) (o2 : Option Addr) (c2 : Nat), v = .tuple #[.agg #[.int .u16 (p.1 : Int), .slice o p.2.length c], .slice o2 r.length c2, .int .i64 ((oneE l).1 : Int)] ∧ Pr h' p (.int .u16 (p.1 : Int)) (.slice o p.2.length c) ∧ Row h' 1 o2 r.length (u8s r) ∧ r.length ≤ c2 ∧ ((oneE l).1 = 0 → p = (oneE l).2.1 ∧ r = (oneE l).2.2) ∧ From o oi ∧ From o2 oi
theorem RoneQ.mk {h h1 : Heap} {e c c2 : Nat} {l r : List UInt8} {p : Prm} {o o2 oi : Option Addr} {vs : List Value} (k1 : Keeps h h1) (g1 : h1.get h.next = some (.cells 58 [.int .u16 0, .slice none 0 0] (.own false))) (hp : p.1 < 65536) (row : Row h1 1 o p.2.length (u8s p.2)) (hc : p.2.length ≤ c) (row2 : Row h1 1 o2 r.length (u8s r)) (hc2 : r.length ≤ c2) (hvs : vs.length = 2) (f1 : From o oi) (f2 : From o2 oi) (he : (oneE l).1 = e) (hok : e = 0 → p = (oneE l).2.1 ∧ r = (oneE l).2.2) :
    RoneQ h oi l (.tuple #[.agg #[.int .u16 (p.1 : Int), .slice o p.2.length c], .slice o2 r.length c2, .int .i64 (e : Int)]) (h1.put h.next (.cells 58 vs (.own false))) := by
  subst he
  have hno : ∀ v ∈ [Value.int .u16 0, Value.slice none 0 0], ∀ n, v ≠ Value.int .u8 n := by
    intro v hv n e
    simp only [List.mem_cons, List.not_mem_nil, or_false] at hv
    rcases hv with rfl | rfl <;> cases e
  exact ⟨k1.put (Nat.le_refl _) _, p, o, c, r, o2, c2, rfl, ⟨rfl, hp, o, _, c, rfl, row_putNL row g1 hno hvs, hc⟩, row_putNL row2 g1 hno hvs, hc2, hok, f1, f2⟩
end Go.Proofs.Ytdcllpjoejkpnaa

/-! Same, and TlvDecodes. -/
set_option linter.unusedVariables false
namespace Go.Proofs.Ytdcllpjoejkpnaa
open Go Vm
theorem i_nets {rec : Rec} {L : List (Nat × Value)} {f : Fr} {dt : Nat} {h : Heap} {K : Fr → Heap → Prop} {rd : Bool} {x y : Sel} {l : List ISem} {s : List UInt8} (hx : x.f (puts L f) = .string ⟨s.toArray⟩) (hy : y.f (puts L f) = .string ⟨s.toArray⟩) (hq : ItQ (runItems rec l (puts ((dt, (.bool false)) :: L) f) h) K) : ItQ (runItems rec (iOp (put dt) (.v rd (oNe (.one 2) x y)) :: l) (puts L f) h) K := i_v (by
  simp only [oNe, hx, hy]
  show some (Value.bool (!eqB s s)) = _
  rw [eqB_eq]
  simp) hq
set_option maxHeartbeats 1000000 in
theorem w_rsame {h : Heap} {o o' : Option Addr} {c c' : Nat} {l : List Prm} {cs cs' : List Value} (hr : Row h 2 o l.length cs) (hp : PrL h l cs) (hr' : Row h 2 o' l.length cs') (hp' : PrL h l cs') (hbig : l.length ≤ 100000) (n : Nat) (hn : 3 + l.length ≤ n) :
    ResQ (callN Try.prog G0 n (.call 64 [.slice o l.length c, .slice o' l.length c']) h) (fun v h' => v = .bool true ∧ h = h') := by
  obtain ⟨n, rfl⟩ : ∃ m, n = m + 1 := ⟨n - 1, by omega⟩
  refine res_enter rfl d64 rfl ?_; simp only [c64]
  refine gg ?_
  refine o_up l.length (fun i f h' => Sl [(5, .int .i64 (i : Int)), (0, .slice o l.length c), (1, .slice o' l.length c')] f ∧ h = h') (by omega) ?_ ?_
  · exact ⟨⟨sel_of rfl, sel_of rfl, sel_of rfl, trivial⟩, rfl⟩
  rintro i f h' hi ⟨hs, rfl⟩
  obtain ⟨f0, rfl⟩ := hs.puts
  simp only [c64_0]
  refine gg ?_
  refine out_if (by exact sel_of rfl) (fun hif => ?_) (fun hif => ?_)
  · obtain ⟨p, hpi⟩ : ∃ p, l[i]? = some p := ⟨_, List.getElem?_eq_getElem (by omega)⟩
    obtain ⟨x, y, e1, e2, rfl, hx', o1, m1, c1, rfl, hrow, hc1⟩ := hp.at hpi
    obtain ⟨x, y, e1', e2', rfl, _, o1', m1', c1', rfl, hrow', hc1'⟩ := hp'.at hpi
    refine gg ?_
    refine i_idx (by exact sel_of rfl) hr (i := i) (by exact sel_of rfl) (by omega) fun u hu => ?_
    subst hu
    refine gg ?_
    refine i_load1 (v := .int .u16 (p.1 : Int)) (by exact sel_of rfl) (by rw [← e1, ← hr.cell (by omega)]; rfl) ?_
    refine gg ?_
    refine i_idx (by exact sel_of rfl) hr' (i := i) (by exact sel_of rfl) (by omega) fun u' hu => ?_
    subst hu
    refine gg ?_
    refine i_load1 (v := .int .u16 (p.1 : Int)) (by exact sel_of rfl) (by rw [← e1', ← hr'.cell (by omega)]; rfl) ?_
    refine gg ?_
    refine i_idx (by exact sel_of rfl) hr (i := i) (by exact sel_of rfl) (by omega) fun u2 hu => ?_
    cases hu
    refine gg ?_
    refine i_load1 (v := .slice o1 m1 c1) (by exact sel_of rfl) (by rw [← e2, ← hr.cell (by omega)]; rfl) ?_
    refine i_liveN (by exact sel_of rfl) (by omega) (i_v (hrow.str (by exact sel_of rfl)) ?_)
    refine gg ?_
    refine i_idx (by exact sel_of rfl) hr' (i := i) (by exact sel_of rfl) (by omega) fun u2 hu => ?_
    cases hu
    refine gg ?_
    refine i_load1 (v := .slice o1' m1' c1') (by exact sel_of rfl) (by rw [← e2', ← hr'.cell (by omega)]; rfl) ?_
    refine i_liveN (by exact sel_of rfl) (by omega) (i_v (hrow'.str (by exact sel_of rfl)) ?_)
    refine i_liveN (by exact sel_of rfl) (by omega) (i_nets (by exact sel_of rfl) (by exact sel_of rfl) ?_)
    refine gg ?_
    exact rnd_up (by omega) ⟨⟨sel_of rfl, sel_of rfl, sel_of rfl, trivial⟩, rfl⟩
  · refine gg ?_
    exact ⟨rfl, rfl⟩
theorem decA_len : ∀ (j : Nat) (l : List UInt8), (decA j l).2.length ≤ j
  | 0, l => by unfold decA; split <;> simp
  | j + 1, l => by
    have := decA_len j (oneE l).2.2
    unfold decA
    split
    · simp
    · split
      · simp
      · split
        · simp
        · simp; omega
theorem decL_len (l : List UInt8) : (decL l).2.length ≤ 32 := decA_len 32 l
end Go.Proofs.Ytdcllpjoejkpnaa

