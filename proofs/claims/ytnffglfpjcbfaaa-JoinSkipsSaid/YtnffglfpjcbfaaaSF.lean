/- Part of a proof by an abstract run of the program's code: SF. No condition. -/
import Derived.Test.YtnffglfpjcbfaaaSE
/-! The law JoinSkips, walked. -/
set_option linter.unusedVariables false
namespace Go.Proofs.Ytnffglfpjcbfaaa
open Go Vm
/-- the a-th message -/
def mS (a : Nat) : Mg := ⟨0, false, 0, [UInt8.ofNat a]⟩
def cS (tsn a : Nat) : Ck := ⟨3, (tsn + a) % 4294967296, 0, a, 0, [UInt8.ofNat a], 0, .slice none 0 0, .slice none 0 0, .slice none 0 0, .slice none 0 0⟩
def stS (a m : Nat) : List ((Nat × Nat) × Mg) := (List.range' a m).map fun b => ((0, b), mS b)
theorem mts_S : ∀ l : List Nat, mts (l.map mS) = l.length
  | [] => rfl
  | a :: l => by
    have := mts_S l
    simp only [mts, List.map_cons, List.sum_cons, List.length_cons] at this ⊢
    rw [this]
    show 1 + _ = _
    omega
theorem stS_look (a m i : Nat) (h : i < a ∨ a + m ≤ i) : lookS (stS a m) (0, i) = none := by
  apply List.find?_eq_none.2
  rintro ⟨k, v⟩ hp
  obtain ⟨b, hb, e⟩ := List.mem_map.1 hp
  cases e
  simp only [beq_iff_eq]
  intro e
  have : b = i := (Prod.mk.inj e).2
  have := List.mem_range'_1.1 hb
  omega
theorem stS_snoc (a m : Nat) : stS a (m + 1) = stS a m ++ [((0, a + m), mS (a + m))] := by
  unfold stS
  rw [List.range'_concat, List.map_append]
  simp
theorem tel_all : ∀ (m a : Nat) (rd : List Mg), a + m < 65536 → Tel 0 [] (a + m) (rd ++ (List.range' a m).map mS) m (stS a m) a rd
  | 0, a, rd, h => by
    rw [show (List.range' a 0).map mS = [] from rfl, List.append_nil]
    exact .done rfl
  | m + 1, a, rd, h => by
    have e : stS a (m + 1) = ((0, a), mS a) :: stS (a + 1) m := by
      unfold stS
      rw [List.range'_succ]
      rfl
    have ih := tel_all m (a + 1) (rd ++ [mS a]) (by omega)
    rw [List.range'_succ, List.map_cons, e, show a + (m + 1) = a + 1 + m by omega]
    refine .step (p := ((0, a), mS a)) (by simp [lookS]) ?_
    rw [show (a + 1) % 65536 = a + 1 by omega, show delS (0, a) (((0, a), mS a) :: stS (a + 1) m) = stS (a + 1) m by simp [delS]]
    simpa using ih
theorem cS_wf {tsn a : Nat} (ha : a < 65536) : (cS tsn a).wf := ⟨by show 3 < 256; decide, Nat.mod_lt _ (by decide), by show 0 < 65536; decide, ha, by show 0 < 4294967296; decide⟩
theorem cS_whole (tsn a : Nat) : whole (cS tsn a) [] = mS a := by simp [whole, cS, mS, dts]
section
variable {hA h h' : Heap} {N : Nat} {ro ro' : Option Addr}
theorem Pres.far (p : Pres N h ro h' ro') (hN : hA.next ≤ N) (k : Keeps hA h) (of : ∀ r, ro = some r → N + 4 ≤ r.block) : Keeps hA h' :=
  ⟨Nat.le_trans k.next p.next, fun d hd => (p.get d (Nat.lt_of_lt_of_le hd k.next) (.inl (by omega)) (fun r e => by have := of r e; omega)).trans (k.get d hd)⟩
end
section
variable {h : Heap} {n : Nat} {N : Nat} {st : List ((Nat × Nat) × Mg)} {rd : List Mg} {held : Nat} {ro : Option Addr}
/-- one message, of one chunk, in order -/
theorem w_addS {tsn a x : Nat} (j : Jn h N [x] [] st rd held ro) (ha : a < 100) (hxa : x ≤ a) (hz : lookS st (0, a) = none) (hh : held ≤ 100) (hrd : rd.length ≤ 100) {o : Option Addr} {cap : Nat} (hrow : Row h 1 o 1 (u8s [UInt8.ofNat a])) {st' : List ((Nat × Nat) × Mg)} {x' : Nat} {rd' : List Mg} {d : Nat} (t : Tel 0 st' x' rd' d (st ++ [((0, a), mS a)]) x rd) (hd : d ≤ 100) (hn : 200 ≤ n) :
    ResQ (callN Try.prog G0 n (.call 11 [.pointer (some ⟨N + 3, 0, none⟩), .agg (ckv (cS tsn a) o cap).toArray]) h) (fun v h' => v = .int .i64 0 ∧ ∃ ro', Jn h' N [x'] [] st' rd' (held + 1) ro' ∧ Pres N h ro h' ro') := by
  have hA : prev ((cS tsn a).A) ≠ (cS tsn a).A + 4294967296 := by unfold prev; omega
  refine w_add j (cS_wf (by omega)) (by simp [cS]) hrow (by show 0 < 1; decide) rfl (by show held + 1 ≤ 65536; omega) (r := some [cS tsn a]) (by omega) (fun m h' v e j' hv => ?_) (S := fun h' ro' => Jn h' N [x'] [] st' rd' (held + 1) ro') (fun e => by cases e) (fun l e => ?_)
  · have := w_runF j' hv (cS_wf (by omega)) (m := 0) (.here (by show 3 &&& 2 = 2; decide)) (cS_wf (by omega)) (m' := 0) (.here (by show 3 &&& 1 = 1; decide)) (by omega) (n := m) (by omega)
    exact this
  · cases e
    refine ⟨cS tsn a, [], rfl, fun c hc => by rw [List.mem_singleton.1 hc]; exact ⟨cS_wf (by omega), by simp [cS]⟩, trivial, by show 3 &&& 2 = 2; decide, fun c hc => by cases hc; show 3 &&& 1 = 1; decide, by show 1 ≤ 1000000; decide, by show 0 ≤ 100000; decide, by show 0 + 7 ≤ n; omega, fun m h' v e j' hv => ?_⟩
    rw [show delAll [cS tsn a] ([] ++ [((cS tsn a).A, cS tsn a)]) = [] by simp [delAll, delK]] at j'
    rw [cS_whole] at hv
    refine ResQ.mono (w_keepO (ssn := a) j' hv rfl hz (x := x) rfl (by omega) (by omega) (by omega) (mm := d) t (by omega) (by omega)) ?_
    rintro v h'' ⟨ro', j'', p⟩
    exact ⟨ro', j'', p⟩
theorem w_awake (h : Heap) (n : Nat) (hn : 1 ≤ n) : ResQ (callN Try.prog G0 n (.call 8 []) h) (fun v h' => v = .bool true ∧ h = h') := by
  obtain ⟨m, rfl⟩ : ∃ m, n = m + 1 := ⟨n - 1, by omega⟩
  exact .mk (.bool true) h (by rw [callN_call]; rfl) ⟨rfl, rfl⟩
set_option maxHeartbeats 4000000 in
theorem w_lskips {tsn : Nat} {nn at_ : Int} (ht : tsn < 4294967296) (hn : 1000 ≤ n) :
    ResQ (callN Try.prog G0 n (.call 5 [.int .u32 (tsn : Int), .int .i64 nn, .int .i64 at_]) h) (fun u h' => u = .bool true) := by
  obtain ⟨n, rfl⟩ : ∃ m, n = m + 1 := ⟨n - 1, by omega⟩
  refine res_enter rfl d5 rfl ?_; simp only [c5]
  refine gg ?_
  refine i_call0 (w_awake _ n (by omega)) ?_
  rintro _ _ ⟨rfl, rfl⟩
  refine gg ?_
  refine i_mask (q := 31) (by exact sel_of rfl) (by rfl) (by decide) fun w1 hw1 => ?_
  refine gg ?_
  obtain ⟨k, hk⟩ : ∃ k, k = 2 + w1 := ⟨_, rfl⟩
  rw [show (2 : Int) + (w1 : Int) = (k : Int) by omega]
  refine i_mask (q := 65535) (by exact sel_of rfl) (by rfl) (by decide) fun w2 hw2 => ?_
  refine gg ?_
  obtain ⟨gone, hg⟩ : ∃ g, w2 % k = g := ⟨_, rfl⟩
  have hgk : gone < k := by rw [← hg]; exact Nat.mod_lt _ (by omega)
  have hk33 : k ≤ 33 := by omega
  refine i_remn gone (by exact sel_of rfl) (by exact sel_of rfl) (by omega) hg ?_
  refine gg ?_
  refine i_call1 (by rfl) (w_new (k := 1) (by decide) (by decide) (by omega)) ?_
  rintro _ h1 ⟨rfl, k1, j1⟩
  refine gg ?_
  have j1 : Jn h1 h.next [0] [] [] [] 0 none := j1
  refine o_up k (fun i f h' => (∃ ro, Jn h' h.next [min i gone] [] (stS (gone + 1) (i - (gone + 1))) ((List.range (min i gone)).map mS) (if i ≤ gone then i else i - 1) ro ∧ Keeps h h') ∧ Sl [(11, .int .i64 ((i : Nat) : Int)), (7, .bool true), (8, .int .i64 (k : Int)), (9, .int .i64 (gone : Int)), (10, .pointer (some ⟨h.next + 3, 0, none⟩)), (0, .int .u32 (tsn : Int))] f) (by omega) ?_ ?_
  · refine ⟨⟨none, ?_, k1⟩, sel_of rfl, sel_of rfl, sel_of rfl, sel_of rfl, sel_of rfl, sel_of rfl, trivial⟩
    rw [if_pos (Nat.zero_le _), Nat.zero_min, Nat.zero_sub]
    exact j1
  clear j1 k1
  rintro i f h' hi ⟨⟨ro, j, kA⟩, hs⟩
  obtain ⟨f0, rfl⟩ := hs.puts
  clear hs
  simp only [c5_0]
  refine gg ?_
  refine out_if (by exact sel_of rfl) (fun hif => ?_) (fun hif => ?_)
  · have hi' : i < k := by omega
    refine gg ?_
    by_cases hig : i = gone
    · rw [decide_eq_false (p := ((i : Nat) : Int) ≠ ((gone : Nat) : Int)) (by simp [hig])]
      refine gg ?_
      refine rnd_up hi' ⟨⟨ro, ?_, kA⟩, sel_of rfl, sel_of rfl, sel_of rfl, sel_of rfl, sel_of rfl, sel_of rfl, trivial⟩
      subst hig
      rw [if_pos (Nat.le_refl _), Nat.min_self, show i - (i + 1) = 0 by omega] at j
      rw [if_neg (by omega), show min (i + 1) i = i by omega, Nat.sub_self]
      exact j
    · rw [decide_eq_true (p := ((i : Nat) : Int) ≠ ((gone : Nat) : Int)) (by omega)]
      refine gg ?_
      refine i_addW (by exact sel_of rfl) (by exact sel_of rfl) (add32 tsn i) ?_
      refine gg ?_
      refine i_call5 (v2 := .int .u16 ((0 : Nat) : Int)) (v4 := .int .u8 ((3 : Nat) : Int)) (by exact sel_of rfl) (by rfl) (by exact sel_of rfl) (by rfl) (by exact sel_of rfl) (w_piece (by omega)) ?_
      rintro _ h2 ⟨rfl, k2, r2⟩
      refine gg ?_
      have hrow : Row h2 1 (some ⟨h'.next + 1, 0, none⟩) 1 (u8s [UInt8.ofNat i]) := by
        have e : u8s [UInt8.ofNat i] = [.int .u8 (i : Int)] := by
          rw [u8s_eq]
          show [Value.int .u8 (((UInt8.ofNat i).toNat : Nat) : Int)] = _
          rw [UInt8.toNat_ofNat', show i % 2 ^ 8 = i by omega]
        rw [e]; exact r2
      have hrdl : ((List.range (min i gone)).map mS).length ≤ 100 := by simp; omega
      have hheld : (if i ≤ gone then i else i - 1) ≤ 100 := by split <;> omega
      have hz : lookS (stS (gone + 1) (i - (gone + 1))) (0, i) = none := stS_look _ _ _ (by omega)
      rcases Nat.lt_or_ge i gone with hlt | hge
      · have e0 : i - (gone + 1) = 0 := by omega
        have e1 : min i gone = i := by omega
        rw [e0, e1, if_pos (by omega)] at j
        rw [e0] at hz
        have t := tel_all 1 i ((List.range i).map mS) (by omega)
        refine i_call2 (by exact sel_of rfl) (by exact sel_of rfl) (w_addS (tsn := tsn) (a := i) (x := i) (j.keeps k2) (by omega) (Nat.le_refl _) hz (by omega) (by simp; omega) hrow (st' := []) (x' := i + 1) (rd' := (List.range (i + 1)).map mS) (d := 1) (by rw [List.range_succ, List.map_append]; exact t) (by omega) (by omega)) ?_
        rintro _ h3 ⟨rfl, ro3, j3, p3⟩
        refine gg ?_
        refine rnd_up hi' ⟨⟨ro3, ?_, p3.far (Nat.le_refl _) (kA.trans k2) j.ofr⟩, sel_of rfl, sel_of rfl, sel_of rfl, sel_of rfl, sel_of rfl, sel_of rfl, trivial⟩
        rw [show i + 1 - (gone + 1) = 0 by omega, show min (i + 1) gone = i + 1 by omega, if_pos (by omega)]
        exact j3
      · have e1 : min i gone = gone := by omega
        rw [e1, if_neg (by omega)] at j
        have hz2 : lookS (stS (gone + 1) (i - (gone + 1)) ++ [((0, i), mS i)]) (0, gone) = none := by
          have e2 : (0, i) = ((0 : Nat), gone + 1 + (i - (gone + 1))) := by rw [show gone + 1 + (i - (gone + 1)) = i by omega]
          have e3 : mS i = mS (gone + 1 + (i - (gone + 1))) := by rw [show gone + 1 + (i - (gone + 1)) = i by omega]
          rw [e2, e3, ← stS_snoc]
          exact stS_look _ _ _ (by omega)
        refine i_call2 (by exact sel_of rfl) (by exact sel_of rfl) (w_addS (tsn := tsn) (a := i) (x := gone) (j.keeps k2) (by omega) (by omega) hz (by omega) (by simp; omega) hrow (d := 0) (Tel.done hz2) (by omega) (by omega)) ?_
        rintro _ h3 ⟨rfl, ro3, j3, p3⟩
        refine gg ?_
        refine rnd_up hi' ⟨⟨ro3, ?_, p3.far (Nat.le_refl _) (kA.trans k2) j.ofr⟩, sel_of rfl, sel_of rfl, sel_of rfl, sel_of rfl, sel_of rfl, sel_of rfl, trivial⟩
        have e2 : stS (gone + 1) (i + 1 - (gone + 1)) = stS (gone + 1) (i - (gone + 1)) ++ [((0, i), mS i)] := by
          rw [show i + 1 - (gone + 1) = (i - (gone + 1)) + 1 by omega, stS_snoc, show gone + 1 + (i - (gone + 1)) = i by omega]
        rw [e2, show min (i + 1) gone = gone by omega, if_neg (by omega), show i + 1 - 1 = i - 1 + 1 by omega]
        exact j3
  · have hik : i = k := by omega
    subst hik
    rw [show min i gone = gone by omega, if_neg (by omega)] at j
    refine gg ?_
    refine i_call1 (by exact sel_of rfl) (w_take j (by rw [mts_S]; simp; omega) (by omega) (by simp; omega) (by simp; omega)) ?_
    rintro _ h2 ⟨rfl, j2, p2, _⟩
    have k2 : Keeps h h2 := p2.far (Nat.le_refl _) kA (fun r e => by cases e)
    rw [mts_S, List.length_range, List.length_map, List.length_range] at *
    refine gg ?_
    obtain ⟨m, hm⟩ : ∃ m, m = i - (gone + 1) := ⟨_, rfl⟩
    rw [← hm, show i - 1 - gone = m by omega] at j2
    refine i_addW (by exact sel_of rfl) (by exact sel_of rfl) (add32 tsn gone) ?_
    refine gg ?_
    refine i_bslice (cs := [.int .u16 ((0 : Nat) : Int), .int .u16 (gone : Int)]) (by rfl) ?_
    have k3 : Keeps h2 (h2.new (.cells 51 [.int .u16 ((0 : Nat) : Int), .int .u16 (gone : Int)] (.own false))) := Keeps.new h2 _
    have r3 : Row (h2.new (.cells 51 [.int .u16 ((0 : Nat) : Int), .int .u16 (gone : Int)] (.own false))) 2 (some ⟨h2.next, 0, none⟩) 1 [.int .u16 ((0 : Nat) : Int), .int .u16 (gone : Int)] := Row.new (by simp) rfl (.inl rfl)
    generalize h2.new (.cells 51 [.int .u16 ((0 : Nat) : Int), .int .u16 (gone : Int)] (.own false)) = h3 at *
    have t := tel_all m (gone + 1) [] (by omega)
    rw [List.nil_append, show gone + 1 = (gone + 1) % 65536 by omega] at t
    have hst : ∀ p ∈ stS (gone + 1) m, p.1.1 = 0 ∧ p.1.2 < 65536 ∧ p.1.2 ≠ gone := by
      intro p hp
      obtain ⟨b, hb, e⟩ := List.mem_map.1 hp
      subst e
      have := List.mem_range'_1.1 hb
      exact ⟨rfl, by show b < 65536; omega, by show b ≠ gone; omega⟩
    rw [show (gone + 1) % 65536 = gone + 1 by omega] at t
    refine i_call3 (by exact sel_of rfl) (by exact sel_of rfl) (by exact sel_of rfl) (w_forward (j2.keeps k3) r3 (by omega) hst (by rw [show (gone + 1) % 65536 = gone + 1 by omega]; exact t) (by simp; omega) (by simp [stS]; omega)) ?_
    rintro _ h4 ⟨ro4, j4, p4⟩
    have k4 : Keeps h h4 := p4.far (Nat.le_refl _) (k2.trans k3) (fun r e => by cases e)
    refine gg ?_
    refine i_call1 (by exact sel_of rfl) (w_take j4 (by rw [mts_S]; simp) (by omega) (by simp; omega) (by simp; omega)) ?_
    rintro _ h5 ⟨rfl, j5, p5, cs5, r5, hrd5⟩
    rw [mts_S, List.length_range', Nat.sub_self, List.length_map, List.length_range'] at *
    refine gg ?_
    refine o_up m (fun b f h' => h5 = h' ∧ Sl [(14, .int .i64 ((b : Nat) : Int)), (13, .slice ro4 m m), (9, .int .i64 (gone : Int)), (7, .bool true), (10, .pointer (some ⟨h.next + 3, 0, none⟩))] f) (by omega) ⟨rfl, sel_of rfl, sel_of rfl, sel_of rfl, sel_of rfl, sel_of rfl, trivial⟩ ?_
    rintro b f _ hb ⟨rfl, hs⟩
    obtain ⟨f0, rfl⟩ := hs.puts
    clear hs
    simp only [c5_1]
    refine gg ?_
    refine out_if (by exact sel_of rfl) (fun hif => ?_) (fun hif => ?_)
    · have hb' : b < m := by omega
      obtain ⟨u, rfl⟩ : ∃ u, ro4 = some u := by
        cases ro4 with
        | none => exact absurd (show m = 0 from r5.2) (by omega)
        | some u => exact ⟨u, rfl⟩
      have hel : ((List.range' (gone + 1) m).map mS)[b]? = some (mS (gone + 1 + b)) := by
        rw [List.getElem?_map, List.getElem?_range' (by omega)]
        simp
      obtain ⟨v, ⟨od, cd, rfl, dd⟩, hv⟩ := hrd5.at hel
      have hcell : cs5[b * 4 + 3]? = some (.slice od 1 cd) := by
        have := congrArg (fun l : List Value => l[3]?) hv
        simpa [List.getElem?_take, List.getElem?_drop, mgv, mS] using this
      have hd1 : Row h5 1 od 1 (u8s [UInt8.ofNat (gone + 1 + b)]) := dd.1
      obtain ⟨ud, rfl⟩ : ∃ u, od = some u := by
        cases od with
        | none => exact absurd (show 1 = 0 from hd1.2) (by decide)
        | some u => exact ⟨u, rfl⟩
      have e8 : u8s [UInt8.ofNat (gone + 1 + b)] = [.int .u8 ((gone + 1 + b : Nat) : Int)] := by
        rw [u8s_eq]
        show [Value.int .u8 (((UInt8.ofNat (gone + 1 + b)).toNat : Nat) : Int)] = _
        rw [UInt8.toNat_ofNat', show (gone + 1 + b) % 2 ^ 8 = gone + 1 + b by omega]
      refine gg ?_
      refine i_idx (i := b) (by exact sel_of rfl) r5 (by exact sel_of rfl) hb' fun q hq => ?_
      cases hq
      refine gg ?_
      refine i_load1 (v := .slice (some ud) 1 cd) (by exact sel_of rfl) (by rw [Nat.add_assoc]; exact (r5.cell (i := b * 4 + 3) (by omega) _).trans hcell) ?_
      refine gg ?_
      refine i_idx (i := b) (by exact sel_of rfl) r5 (by exact sel_of rfl) hb' fun q hq => ?_
      cases hq
      refine gg ?_
      refine i_load1 (v := .slice (some ud) 1 cd) (by exact sel_of rfl) (by rw [Nat.add_assoc]; exact (r5.cell (i := b * 4 + 3) (by omega) _).trans hcell) ?_
      refine gg ?_
      refine i_idx (i := 0) (by exact sel_of rfl) hd1 (by rfl) (by decide) fun q hq => ?_
      cases hq
      refine gg ?_
      refine i_load1 (v := .int .u8 ((gone + 1 + b : Nat) : Int)) (by exact sel_of rfl) ((hd1.cell (i := 0 * 1) (by decide) _).trans (by rw [e8]; rfl)) ?_
      refine gg ?_
      rw [decide_eq_false (p := ((gone + 1 + b : Nat) : Int) ≠ ((gone + 1 + b : Nat) : Int)) (by simp)]
      refine gg ?_
      exact rnd_up hb' ⟨rfl, sel_of rfl, sel_of rfl, sel_of rfl, sel_of rfl, sel_of rfl, trivial⟩
    · have hbm : b = m := by omega
      subst hbm
      refine gg ?_
      refine i_call1 (by exact sel_of rfl) (w_held j5 (by omega)) ?_
      rintro _ _ ⟨rfl, rfl⟩
      refine gg ?_
      rfl
end
end Go.Proofs.Ytnffglfpjcbfaaa

