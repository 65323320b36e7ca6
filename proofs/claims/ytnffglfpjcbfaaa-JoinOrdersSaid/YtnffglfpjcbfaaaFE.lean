/- Part of a proof by an abstract run of the program's code: FE. No condition. -/
import Derived.Test.YtnffglfpjcbfaaaFD
/-! bollardref13.Split, walked. -/
set_option linter.unusedVariables false
namespace Go.Proofs.Ytnffglfpjcbfaaa
open Go Vm
/-- a message's chunks: what is left, how many went before -/
def cutF (str pp ssn tsn most : Nat) (un : Bool) : Nat → Nat → List UInt8 → List Ck
  | 0, _, _ => []
  | k + 1, i, b => if b = [] then [] else
    (⟨(if i = 0 then 2 else 0) + (if b.length ≤ most then 1 else 0) + (if un then 4 else 0), (tsn + i) % 4294967296, str, ssn, pp, b.take most, 0, .slice none 0 0, .slice none 0 0, .slice none 0 0, .slice none 0 0⟩ : Ck) :: cutF str pp ssn tsn most un k (i + 1) (b.drop most)
def cuts (m : Mg) (tsn ssn most : Nat) : List Ck := cutF m.str m.pp (if m.un then 0 else ssn) tsn most m.un m.dt.length 0 m.dt
/-- chunks whose data lie as they are -/
def CkA (h : Heap) (P : Nat → Prop) (c : Ck) (v : List Value) : Prop := ∃ o cap, v = ckv c o cap ∧ Row h 1 o c.dt.length (u8s c.dt) ∧ ∀ q, o = some q → P q.block
def CkS (h : Heap) (P : Nat → Prop) : List Value → List Ck → Prop
  | cs, [] => cs = []
  | cs, c :: l => ∃ v cs', cs = v ++ cs' ∧ CkA h P c v ∧ CkS h P cs' l
theorem i_minN {rec : Rec} {L : List (Nat × Value)} {f : Fr} {dt : Nat} {h : Heap} {K : Fr → Heap → Prop} {rd : Bool} {x y : Sel} {l : List ISem} {k k' : IntKind} {p q t : Nat} (hx : x.f (puts L f) = .int k (p : Int)) (hy : y.f (puts L f) = .int k' (q : Int)) (e : min p q = t) (hq : ItQ (runItems rec l (puts ((dt, (.int k (t : Int))) :: L) f) h) K) : ItQ (runItems rec (iOp (put dt) (.v rd (oBest true x [y])) :: l) (puts L f) h) K := i_v (by
  show best true [y.f (puts L f)] (x.f (puts L f)) = _
  rw [hx, hy]
  show some (Value.int k (Bool.rec (p : Int) (q : Int) (ltI q p))) = _
  rw [ltI_eq]
  subst e
  by_cases h : (q : Int) < (p : Int)
  · rw [decide_eq_true h]
    show some (Value.int k (q : Int)) = _
    rw [show min p q = q by omega]
  · rw [decide_eq_false h]
    show some (Value.int k (p : Int)) = _
    rw [show min p q = p by omega]) hq
theorem CkS.keeps {h h' : Heap} {P : Nat → Prop} (k : Keeps h h') : ∀ {l : List Ck} {cs : List Value}, CkS h P cs l → CkS h' P cs l
  | [], _, x => x
  | _ :: _, _, ⟨v, cs', e, ⟨o, cap, e', r, p⟩, x⟩ => ⟨v, cs', e, ⟨o, cap, e', r.keeps k, p⟩, CkS.keeps k x⟩
theorem CkS.snoc {h : Heap} {P : Nat → Prop} {c : Ck} {v : List Value} (hv : CkA h P c v) : ∀ {l : List Ck} {cs : List Value}, CkS h P cs l → CkS h P (cs ++ v) (l ++ [c])
  | [], _, e => ⟨v, [], by rw [show _ = _ from e]; simp, hv, rfl⟩
  | _ :: _, _, ⟨w, cs', e, x, r⟩ => ⟨w, cs' ++ v, by rw [e, List.append_assoc], x, CkS.snoc hv r⟩
theorem Row.back {h h' : Heap} {sz n : Nat} {o : Option Addr} {cs : List Value} (r : Row h' sz o n cs) (k : Keeps h h') (hb : ∀ q, o = some q → q.block < h.next) : Row h sz o n cs := by
  obtain ⟨h1, h2⟩ := r
  refine ⟨h1, ?_⟩
  cases o with
  | none => exact h2
  | some q =>
    have hq := hb q rfl
    refine ⟨hq, h2.2.1, ?_⟩
    rw [← h2.2.2]
    simp only [loadN, k.get _ hq]
theorem Row.low {h : Heap} {sz n : Nat} {o : Option Addr} {cs : List Value} (r : Row h sz o n cs) : ∀ q, o = some q → q.block < h.next := fun q e => by subst e; exact r.2.1
theorem add8 {a b : Nat} (h : a + b < 256) : wrap .u8 ((a : Int) + (b : Int)) = ((a + b : Nat) : Int) := by
  rw [show (a : Int) + (b : Int) = ((a + b : Nat) : Int) by omega]
  exact wrap_lt (by show _ < 256; exact h)
theorem cutF_fuel {str pp ssn tsn most : Nat} {un : Bool} (h1 : 1 ≤ most) : ∀ (k k' i : Nat) (b : List UInt8), b.length ≤ k → b.length ≤ k' → cutF str pp ssn tsn most un k i b = cutF str pp ssn tsn most un k' i b
  | 0, k', i, b, h, h' => by
    have : b = [] := List.length_eq_zero_iff.1 (by omega)
    subst this
    cases k' <;> simp [cutF]
  | k + 1, 0, i, b, h, h' => by
    have : b = [] := List.length_eq_zero_iff.1 (by omega)
    subst this
    simp [cutF]
  | k + 1, k' + 1, i, b, h, h' => by
    by_cases hb : b = []
    · simp [cutF, hb]
    · have : b.length ≠ 0 := fun e => hb (List.length_eq_zero_iff.1 e)
      simp only [cutF, if_neg hb]
      rw [cutF_fuel h1 k k' (i + 1) (b.drop most) (by rw [List.length_drop]; omega) (by rw [List.length_drop]; omega)]
/-- a new chunk's cells -/
def ce (A str sn pp : Nat) (ob : Option Addr) (t cb F : Nat) : List Value := [.int .u8 ((0 : Nat) : Int), .int .u8 (F : Int), .int .u32 (A : Int), .int .u32 ((0 : Nat) : Int), .int .u16 (str : Int), .int .u16 (sn : Int), .int .u32 (pp : Int), .slice none 0 0, .slice none 0 0, .slice none 0 0, .slice none 0 0, .slice ob t cb]
section
variable {h : Heap} {n : Nat}
set_option maxHeartbeats 2000000 in
theorem w_rsplit {h0 : Heap} (k0 : Keeps h0 h) (P : Nat → Prop) {m : Mg} {o : Option Addr} {cap tsn ssn most : Nat} (hr : Row h0 1 o m.dt.length (u8s m.dt)) (hP : ∀ q, o = some q → P q.block) (hcap : m.dt.length ≤ cap) (hd : m.dt ≠ []) (hbig : m.dt.length ≤ 1000) (h1 : 1 ≤ most) (h2 : most ≤ 1172) (ht : tsn < 4294967296) (hs : ssn < 65536) (hn : m.dt.length + 2 ≤ n) :
    ResQ (callN Try.prog G0 n (.call 9 [.agg (mgv m o cap).toArray, .int .u32 (tsn : Int), .int .u16 (ssn : Int), .int .i64 (most : Int)]) h) (fun v h' => ∃ q cs, v = .tuple #[.slice (some q) (cuts m tsn ssn most).length (cuts m tsn ssn most).length, .int .i64 0] ∧ Keeps h h' ∧ Ap h.next h' 42 12 (some q) (cuts m tsn ssn most).length (cuts m tsn ssn most).length cs ∧ h.next ≤ q.block ∧ CkS h0 P cs (cuts m tsn ssn most)) := by
  have hdl : m.dt.length ≠ 0 := fun e => hd (List.length_eq_zero_iff.1 e)
  obtain ⟨n, rfl⟩ : ∃ m, n = m + 1 := ⟨n - 1, by omega⟩
  refine res_enter rfl d9 rfl ?_; simp only [c9]
  refine o_cut (fun f h1 => (Keeps h h1 ∧ h.next < h1.next ∧ h1.get h.next = some (.cells 30 (mgv m o cap) (.own false))) ∧ Sl [(4, .pointer (some ⟨h.next, 0, none⟩)), (1, .int .u32 (tsn : Int)), (2, .int .u16 (ssn : Int)), (3, .int .i64 (most : Int))] f) ?_ ?_
  · refine gg ?_
    exact ⟨rfl, ⟨Keeps.new h _, Nat.lt_succ_self _, by rw [Heap.get_new, if_pos rfl]⟩, sel_of rfl, sel_of rfl, sel_of rfl, sel_of rfl, trivial⟩
  rintro f1 h1' ⟨⟨k1, lt1, g1⟩, hs'⟩
  obtain ⟨f0, rfl⟩ := hs'.puts
  clear hs'
  refine o_cut (fun f h2 => h2 = h1' ∧ Sl [(4, .pointer (some ⟨h.next, 0, none⟩)), (1, .int .u32 (tsn : Int)), (2, .int .u16 (ssn : Int)), (3, .int .i64 (most : Int))] f) ?_ ?_
  · refine gg ?_; repeat (refine i_ldown (by exact sel_of rfl) (by assumption) (by rfl) ?_; refine gg ?_)
    exact ⟨rfl, rfl, sel_of rfl, sel_of rfl, sel_of rfl, sel_of rfl, trivial⟩
  rintro f2 h2' ⟨e2, hs'⟩
  subst e2
  obtain ⟨f0, rfl⟩ := hs'.puts
  clear hs'
  refine o_cut (fun f h3 => h3 = h2' ∧ Sl [(4, .pointer (some ⟨h.next, 0, none⟩)), (1, .int .u32 (tsn : Int)), (2, .int .u16 (ssn : Int)), (3, .int .i64 (most : Int))] f) ?_ ?_
  · refine gg ?_; repeat (refine i_ldown (by exact sel_of rfl) (by assumption) (by rfl) ?_; refine gg ?_)
    exact ⟨rfl, rfl, sel_of rfl, sel_of rfl, sel_of rfl, sel_of rfl, trivial⟩
  rintro f3 h3' ⟨e3, hs'⟩
  subst e3
  obtain ⟨f0, rfl⟩ := hs'.puts
  clear hs'
  obtain ⟨sn, hsn⟩ : ∃ sn, sn = if m.un then 0 else ssn := ⟨_, rfl⟩
  refine o_cut (fun f h4 => h4 = h3' ∧ Sl [(4, .pointer (some ⟨h.next, 0, none⟩)), (1, .int .u32 (tsn : Int)), (2, .int .u16 (sn : Int)), (3, .int .i64 (most : Int))] f) ?_ ?_
  · refine gg ?_; repeat (refine i_ldown (by exact sel_of rfl) (by assumption) (by rfl) ?_; refine gg ?_)
    cases hu : m.un with
    | true =>
      rw [hu] at hsn
      have : sn = 0 := hsn
      subst this
      refine gg ?_; repeat (refine i_ldown (by exact sel_of rfl) (by assumption) (by rfl) ?_; refine gg ?_)
      exact ⟨rfl, rfl, sel_of rfl, sel_of rfl, sel_of rfl, sel_of rfl, trivial⟩
    | false =>
      rw [hu] at hsn
      have : sn = ssn := hsn
      subst this
      refine gg ?_; repeat (refine i_ldown (by exact sel_of rfl) (by assumption) (by rfl) ?_; refine gg ?_)
      exact ⟨rfl, rfl, sel_of rfl, sel_of rfl, sel_of rfl, sel_of rfl, trivial⟩
  rintro f4 h4' ⟨e4, hs'⟩
  subst e4
  obtain ⟨f0, rfl⟩ := hs'.puts
  clear hs'
  refine gg ?_; repeat (refine i_ldown (by exact sel_of rfl) (by assumption) (by rfl) ?_; refine gg ?_)
  refine o_while (fun k f h' => ∃ (i : Nat) (b : List UInt8) (ob : Option Addr) (cb : Nat) (acc : List Ck) (cs : List Value) (o10 : Option Addr), (Keeps h h' ∧ Ap h.next h' 42 12 o10 acc.length acc.length cs ∧ (∀ q, o10 = some q → h.next ≤ q.block) ∧ CkS h0 P cs acc ∧ h'.get h.next = some (.cells 30 (mgv m o cap) (.own false)) ∧ h.next < h'.next ∧ Off h.next o10) ∧ (b.length = k ∧ (Row h0 1 ob b.length (u8s b) ∧ ∀ q, ob = some q → P q.block) ∧ b.length ≤ cb ∧ acc ++ cutF m.str m.pp sn tsn most m.un k i b = cuts m tsn ssn most ∧ acc.length = i ∧ i + k ≤ 1000) ∧ Sl [(11, .slice ob b.length cb), (10, .slice o10 acc.length acc.length), (4, .pointer (some ⟨h.next, 0, none⟩)), (1, .int .u32 (tsn : Int)), (2, .int .u16 (sn : Int)), (3, .int .i64 (most : Int))] f) m.dt.length (by omega)
    ⟨0, m.dt, o, cap, [], [], none, ⟨k1, Ap.nil _ _ _ _, (fun q e => by cases e), rfl, g1, lt1, Off.none _⟩, ⟨rfl, ⟨hr, hP⟩, hcap, by rw [hsn]; rfl, rfl, by omega⟩, sel_of rfl, sel_of rfl, sel_of rfl, sel_of rfl, sel_of rfl, sel_of rfl, trivial⟩ ?_
  clear k1 g1 lt1
  rintro k f h' ⟨i, b, ob, cb, acc, cs, o10, ⟨kk, ap, flo, hcs, g, lt, off⟩, ⟨hbk, ⟨hrb, hPb⟩, hcb, hacc, hai, hik⟩, hs'⟩
  obtain ⟨f0, rfl⟩ := hs'.puts
  clear hs'
  simp only [c9_0]
  refine gg ?_
  by_cases hb0 : b = []
  · subst hb0
    rw [decide_eq_false (p := (0 : Int) < ((([] : List UInt8).length : Nat) : Int)) (by simp)]
    refine gg ?_
    have e0 : cutF m.str m.pp sn tsn most m.un k i [] = [] := by cases k <;> simp [cutF]
    rw [e0, List.append_nil] at hacc
    have hne : cuts m tsn ssn most ≠ [] := by
      unfold cuts
      cases hl : m.dt.length with
      | zero => exact absurd hl hdl
      | succ z => simp [cutF, hd]
    rw [← hacc] at hne ⊢
    obtain ⟨q, rfl⟩ : ∃ q, o10 = some q := by
      cases o10 with
      | none => exact absurd (List.length_eq_zero_iff.1 ap.row.2) hne
      | some q => exact ⟨q, rfl⟩
    exact ⟨q, cs, rfl, kk, ap, flo q rfl, hcs⟩
  · have hbl : b.length ≠ 0 := fun e => hb0 (List.length_eq_zero_iff.1 e)
    rw [decide_eq_true (p := (0 : Int) < ((b.length : Nat) : Int)) (by omega)]
    refine gg ?_
    obtain ⟨t, ht0⟩ : ∃ t, min most b.length = t := ⟨_, rfl⟩
    refine i_minN (by exact sel_of rfl) (by exact sel_of rfl) ht0 ?_
    refine gg ?_; repeat (refine i_ldown (by exact sel_of rfl) (by assumption) (by rfl) ?_; refine gg ?_)
    refine i_addW (by exact sel_of rfl) (by exact sel_of rfl) (add32 tsn acc.length) ?_
    refine gg ?_; repeat (refine i_ldown (by exact sel_of rfl) (by assumption) (by rfl) ?_; refine gg ?_)
    refine i_sl_hi (by exact sel_of rfl) (hrb.keeps (k0.trans kk)) hcb (i := t) (by exact sel_of rfl) (by omega) fun hrt => ?_
    refine gg ?_
    obtain ⟨A, hA⟩ : ∃ A, (tsn + acc.length) % 4294967296 = A := ⟨_, rfl⟩
    rw [hA]
    refine i_storeF (vs := ce A m.str sn m.pp ob t cb 0) (Keeps.new h' _) (Nat.le_refl _) (by exact sel_of rfl) (by rw [sel_of rfl]; rfl) (by rw [Heap.get_new, if_pos rfl]) rfl rfl (Nat.lt_succ_self _) fun h1' k1 g1 lt1 => ?_
    refine i_nil (then_n ?_)
    obtain ⟨F1, hF1⟩ : ∃ F1, F1 = if acc.length = 0 then 2 else 0 := ⟨_, rfl⟩
    refine o_cut (fun f h2 => (Keeps h' h2 ∧ h'.next < h2.next ∧ h2.get h'.next = some (.cells 42 (ce A m.str sn m.pp ob t cb F1) (.own false))) ∧ Sl [(13, .pointer (some ⟨h'.next, 0, none⟩)), (12, .int .i64 (t : Int)), (11, .slice ob b.length cb), (10, .slice o10 acc.length acc.length), (4, .pointer (some ⟨h.next, 0, none⟩)), (1, .int .u32 (tsn : Int)), (2, .int .u16 (sn : Int)), (3, .int .i64 (most : Int))] f) ?_ ?_
    · refine gg ?_
      by_cases hz : acc.length = 0
      · rw [if_pos hz] at hF1
        rw [decide_eq_true (p := ((acc.length : Nat) : Int) = 0) (by omega)]
        refine gg ?_
        refine i_load1 (v := .int .u8 ((0 : Nat) : Int)) (by exact sel_of rfl) ((load1_own g1).trans (by rfl)) ?_
        refine gg ?_
        refine i_addW (r := ((F1 : Nat) : Int)) (by exact sel_of rfl) (by rfl) (by rw [hF1]; exact add8 (a := 0) (b := 2) (by decide)) ?_
        refine gg ?_
        refine i_store1 (u := ⟨h'.next, 0 + 1, none⟩) (v := .int .u8 ((F1 : Nat) : Int)) (by exact sel_of rfl) (by rw [sel_of rfl]; rfl) g1 (by show 0 + 1 < 12; decide) ?_
        refine gg ?_
        exact ⟨rfl, ⟨k1.put (b := h'.next) (Nat.le_refl _) _, lt1, by rw [Heap.get_put, if_pos rfl]; rfl⟩, sel_of rfl, sel_of rfl, sel_of rfl, sel_of rfl, sel_of rfl, sel_of rfl, sel_of rfl, sel_of rfl, trivial⟩
      · rw [if_neg hz] at hF1
        subst hF1
        rw [decide_eq_false (p := ((acc.length : Nat) : Int) = 0) (by omega)]
        refine gg ?_
        exact ⟨rfl, ⟨k1, lt1, g1⟩, sel_of rfl, sel_of rfl, sel_of rfl, sel_of rfl, sel_of rfl, sel_of rfl, sel_of rfl, sel_of rfl, trivial⟩
    clear k1 g1 lt1
    rintro f1 h1' ⟨⟨k1, lt1, g1⟩, hs'⟩
    obtain ⟨f0, rfl⟩ := hs'.puts
    clear hs'
    have hF1' : F1 ≤ 2 := by rw [hF1]; split <;> omega
    obtain ⟨F2, hF2⟩ : ∃ F2, F2 = F1 + if b.length ≤ most then 1 else 0 := ⟨_, rfl⟩
    refine o_cut (fun f h2 => (Keeps h' h2 ∧ h'.next < h2.next ∧ h2.get h'.next = some (.cells 42 (ce A m.str sn m.pp ob t cb F2) (.own false))) ∧ Sl [(13, .pointer (some ⟨h'.next, 0, none⟩)), (12, .int .i64 (t : Int)), (11, .slice ob b.length cb), (10, .slice o10 acc.length acc.length), (4, .pointer (some ⟨h.next, 0, none⟩)), (1, .int .u32 (tsn : Int)), (2, .int .u16 (sn : Int)), (3, .int .i64 (most : Int))] f) ?_ ?_
    · refine gg ?_
      by_cases hz : b.length ≤ most
      · rw [if_pos hz] at hF2
        rw [decide_eq_true (p := ((t : Nat) : Int) = ((b.length : Nat) : Int)) (by omega)]
        refine gg ?_
        refine i_load1 (v := .int .u8 ((F1 : Nat) : Int)) (by exact sel_of rfl) ((load1_own g1).trans (by rfl)) ?_
        refine gg ?_
        refine i_addW (r := ((F2 : Nat) : Int)) (by exact sel_of rfl) (by rfl) (by rw [hF2]; exact add8 (a := F1) (b := 1) (by omega)) ?_
        refine gg ?_
        refine i_store1 (u := ⟨h'.next, 0 + 1, none⟩) (v := .int .u8 ((F2 : Nat) : Int)) (by exact sel_of rfl) (by rw [sel_of rfl]; rfl) g1 (by show 0 + 1 < 12; decide) ?_
        refine gg ?_
        exact ⟨rfl, ⟨k1.put (b := h'.next) (Nat.le_refl _) _, lt1, by rw [Heap.get_put, if_pos rfl]; rfl⟩, sel_of rfl, sel_of rfl, sel_of rfl, sel_of rfl, sel_of rfl, sel_of rfl, sel_of rfl, sel_of rfl, trivial⟩
      · rw [if_neg hz] at hF2
        have hF2 : F2 = F1 := hF2
        subst hF2
        rw [decide_eq_false (p := ((t : Nat) : Int) = ((b.length : Nat) : Int)) (by omega)]
        refine gg ?_
        exact ⟨rfl, ⟨k1, lt1, g1⟩, sel_of rfl, sel_of rfl, sel_of rfl, sel_of rfl, sel_of rfl, sel_of rfl, sel_of rfl, sel_of rfl, trivial⟩
    clear k1 g1 lt1
    rintro f1 h1' ⟨⟨k1, lt1, g1⟩, hs'⟩
    obtain ⟨f0, rfl⟩ := hs'.puts
    clear hs'
    have hF2' : F2 ≤ 3 := by rw [hF2]; split <;> omega
    obtain ⟨F3, hF3⟩ : ∃ F3, F3 = F2 + if m.un = true then 4 else 0 := ⟨_, rfl⟩
    refine o_cut (fun f h2 => (Keeps h' h2 ∧ h'.next < h2.next ∧ h2.get h'.next = some (.cells 42 (ce A m.str sn m.pp ob t cb F3) (.own false))) ∧ Sl [(13, .pointer (some ⟨h'.next, 0, none⟩)), (12, .int .i64 (t : Int)), (11, .slice ob b.length cb), (10, .slice o10 acc.length acc.length), (4, .pointer (some ⟨h.next, 0, none⟩)), (1, .int .u32 (tsn : Int)), (2, .int .u16 (sn : Int)), (3, .int .i64 (most : Int))] f) ?_ ?_
    · refine gg ?_
      refine i_load1 (v := .bool m.un) (by exact sel_of rfl) ((load1_own ((k1.get _ lt).trans g)).trans (by rfl)) ?_
      refine gg ?_
      cases hu : m.un with
      | true =>
        rw [hu, if_pos rfl] at hF3
        refine gg ?_
        refine i_load1 (v := .int .u8 ((F2 : Nat) : Int)) (by exact sel_of rfl) ((load1_own g1).trans (by rfl)) ?_
        refine gg ?_
        refine i_addW (r := ((F3 : Nat) : Int)) (by exact sel_of rfl) (by rfl) (by rw [hF3]; exact add8 (a := F2) (b := 4) (by omega)) ?_
        refine gg ?_
        refine i_store1 (u := ⟨h'.next, 0 + 1, none⟩) (v := .int .u8 ((F3 : Nat) : Int)) (by exact sel_of rfl) (by rw [sel_of rfl]; rfl) g1 (by show 0 + 1 < 12; decide) ?_
        refine gg ?_
        exact ⟨rfl, ⟨k1.put (b := h'.next) (Nat.le_refl _) _, lt1, by rw [Heap.get_put, if_pos rfl]; rfl⟩, sel_of rfl, sel_of rfl, sel_of rfl, sel_of rfl, sel_of rfl, sel_of rfl, sel_of rfl, sel_of rfl, trivial⟩
      | false =>
        rw [hu, if_neg (by simp)] at hF3
        have hF3 : F3 = F2 := hF3
        subst hF3
        refine gg ?_
        exact ⟨rfl, ⟨k1, lt1, g1⟩, sel_of rfl, sel_of rfl, sel_of rfl, sel_of rfl, sel_of rfl, sel_of rfl, sel_of rfl, sel_of rfl, trivial⟩
    clear k1 g1 lt1
    rintro f1 h1' ⟨⟨k1, lt1, g1⟩, hs'⟩
    obtain ⟨f0, rfl⟩ := hs'.puts
    clear hs'
    refine gg ?_
    refine i_loadN (v := ce A m.str sn m.pp ob t cb F3) (by exact sel_of rfl) (loadN_all g1 rfl) ?_
    refine i_bslice (cs := ce A m.str sn m.pp ob t cb F3) (by rfl) ?_
    have k7 : Keeps h1' (h1'.new (.cells 42 (ce A m.str sn m.pp ob t cb F3) (.own false))) := Keeps.new h1' _
    have r7 : Row (h1'.new (.cells 42 (ce A m.str sn m.pp ob t cb F3) (.own false))) 12 (some ⟨h1'.next, 0, none⟩) 1 (ce A m.str sn m.pp ob t cb F3) := Row.new (by simp) rfl (.inl rfl)
    generalize h1'.new (.cells 42 (ce A m.str sn m.pp ob t cb F3) (.own false)) = h7 at *
    have ap7 := (ap.keeps k1).keeps k7
    have k17 := k1.trans k7
    have k07 := kk.trans k17
    have g7 := (k17.get _ lt).trans g
    have lt7 : h.next < h7.next := Nat.lt_of_lt_of_le lt k17.next
    obtain ⟨c, hc⟩ : ∃ c : Ck, c = ⟨F3, A, m.str, sn, m.pp, b.take most, 0, .slice none 0 0, .slice none 0 0, .slice none 0 0, .slice none 0 0⟩ := ⟨_, rfl⟩
    have hcl : c.dt.length = t := by rw [hc]; show (b.take most).length = t; rw [List.length_take]; exact ht0
    have hcv : ce A m.str sn m.pp ob t cb F3 = ckv c ob cb := by rw [ckv, hcl, hc]; rfl
    have hbt : b.take t = b.take most := by
      rw [← ht0, Nat.min_def]
      split
      · rfl
      · rw [List.take_of_length_le (Nat.le_refl _), List.take_of_length_le (by omega)]
    have hca : CkA h0 P c (ckv c ob cb) := by
      refine ⟨ob, cb, rfl, ?_, hPb⟩
      have := Row.back hrt (k0.trans kk) (Row.low hrb)
      rw [Nat.mul_one, ← u8s_take, hbt] at this
      rw [hcl, hc]
      exact this
    refine i_appF (B := h.next) (m := 1) (t := (acc ++ [c]).length) (es := cs ++ ce A m.str sn m.pp ob t cb F3) (by decide) k07.next (by exact sel_of rfl) ap7 (by rw [sel_of rfl]; exact r7.src) rfl (by omega) (by simp) rfl fun h8 n8 e8 ap8 => ?_
    refine gg ?_
    have k08 : Keeps h h8 := ⟨by rw [n8]; exact Nat.le_succ_of_le k07.next, fun d hd => (e8 d (Nat.lt_of_lt_of_le hd k07.next) (fun q hq => (ap7.2.2 q hq).symm.imp (fun ⟨kk, e1, e2, _⟩ => by rw [e1]; show d ≠ kk; omega) id)).trans (k07.get d hd)⟩
    have g8 := (e8 _ lt7 (fun q hq => .inl (off q hq).symm)).trans g7
    refine i_sl_lo (by exact sel_of rfl) (hrb.keeps (k0.trans k08)) hcb (i := t) (by exact sel_of rfl) (by omega) fun o' ho' hr' => ?_
    refine gg ?_
    have hr'' : Row h0 1 o' (b.drop t).length (u8s (b.drop t)) := by
      have := Row.back hr' (k0.trans k08) (fun q e => by obtain ⟨q', e1, e2⟩ := ho' q e; rw [e2]; exact Row.low hrb q' e1)
      rw [Nat.mul_one, ← u8s_drop] at this
      rw [List.length_drop]
      exact this
    have hdt : b.drop t = b.drop most := by
      rw [← ht0, Nat.min_def]
      split
      · rfl
      · rw [List.drop_eq_nil_of_le (Nat.le_refl _), List.drop_eq_nil_of_le (by omega)]
    have hdl' : (b.drop t).length = k - t := by rw [List.length_drop, hbk]
    have hcut : cutF m.str m.pp sn tsn most m.un k i b = c :: cutF m.str m.pp sn tsn most m.un (k - t) (i + 1) (b.drop t) := by
      obtain ⟨k', rfl⟩ : ∃ k', k = k' + 1 := ⟨k - 1, by omega⟩
      rw [cutF, if_neg hb0, hdt, cutF_fuel h1 (k' + 1 - t) k' (i + 1) (b.drop most) (by rw [← hdt, hdl']; exact Nat.le_refl _) (by rw [← hdt, hdl']; omega), hc, hF3, hF2, hF1, hai, ← hA, hai]
    rw [← List.length_drop] 
    refine rnd_n (k - t) (by omega) ⟨i + 1, b.drop t, o', cb - t, acc ++ [c], cs ++ ce A m.str sn m.pp ob t cb F3, _, ⟨k08, ap8, (fun q e => by cases e; exact k07.next), ?_, g8, by rw [n8]; omega, (fun q e => by cases e; show h7.next ≠ h.next; omega)⟩, ⟨hdl', ⟨hr'', fun q e => by obtain ⟨q', e1, e2⟩ := ho' q e; rw [e2]; exact hPb q' e1⟩, by rw [List.length_drop]; omega, ?_, by simp [hai], by omega⟩, sel_of rfl, sel_of rfl, sel_of rfl, sel_of rfl, sel_of rfl, sel_of rfl, trivial⟩
    · rw [hcv]; exact CkS.snoc hca hcs
    · rw [List.append_assoc, List.singleton_append, ← hcut]; exact hacc
end
end Go.Proofs.Ytnffglfpjcbfaaa

/-! A message's chunks as a chain: what join.run makes of them. -/
set_option linter.unusedVariables false
namespace Go.Proofs.Ytnffglfpjcbfaaa
open Go Vm
/-- the chunks of one message, in their order -/
structure Chn (L : List Ck) : Prop where
  wf : ∀ c ∈ L, c.wf ∧ c.dt ≠ []
  fol : ∀ (i : Nat) (x y : Ck), L[i]? = some x → L[i + 1]? = some y → Fol x y
  bg : ∀ c, L[0]? = some c → c.fl &&& 2 = 2
  en : ∀ c, L.getLast? = some c → c.fl &&& 1 = 1
/-- which of them are held -/
def Has (ch : List (Nat × Ck)) (L : List Ck) (S : Nat → Bool) : Prop := ∀ i c, L[i]? = some c → look ch c.A = if S i then some (c.A, c) else none
theorem Fol.prev {a b : Ck} (f : Fol a b) (ha : a.wf) : prev b.A = a.A := by
  have := ha.A
  rw [f.nx]
  unfold Go.Proofs.Ytnffglfpjcbfaaa.prev
  omega
section
variable {ch : List (Nat × Ck)} {L : List Ck} {S : Nat → Bool}
theorem Chn.back (hL : Chn L) (hS : Has ch L S) : ∀ (k : Nat) (c : Ck), L[k]? = some c → (∀ i, i < k → S i = true) → ∃ b, L[0]? = some b ∧ Back ch k c (some b)
  | 0, c, hc, _ => ⟨c, hc, .here (hL.bg c hc)⟩
  | k + 1, c, hc, hs => by
    obtain ⟨x, hx⟩ : ∃ x, L[k]? = some x := ⟨_, List.getElem?_eq_getElem (by have := (List.getElem?_eq_some_iff.1 hc).1; omega)⟩
    have f := hL.fol k x c hx hc
    have wx := (hL.wf x (List.mem_of_getElem? hx)).1
    obtain ⟨b, hb, r⟩ := Chn.back hL hS k x hx (fun i hi => hs i (by omega))
    have g := hS k x hx
    rw [hs k (by omega), if_pos rfl] at g
    exact ⟨b, hb, .step f.bg (by rw [f.prev wx]; exact g) f wx r⟩
theorem Chn.backN (hL : Chn L) (hS : Has ch L S) : ∀ (k : Nat) (c : Ck), L[k]? = some c → (∃ i, i < k ∧ S i = false) → Back ch k c none
  | 0, c, hc, ⟨i, h, _⟩ => absurd h (Nat.not_lt_zero _)
  | k + 1, c, hc, ⟨i, hi, hs⟩ => by
    obtain ⟨x, hx⟩ : ∃ x, L[k]? = some x := ⟨_, List.getElem?_eq_getElem (by have := (List.getElem?_eq_some_iff.1 hc).1; omega)⟩
    have f := hL.fol k x c hx hc
    have wx := (hL.wf x (List.mem_of_getElem? hx)).1
    have g := hS k x hx
    cases hk : S k with
    | false =>
      rw [hk] at g
      exact .gone f.bg (by rw [f.prev wx]; simpa using g)
    | true =>
      rw [hk, if_pos rfl] at g
      have : i ≠ k := fun e => by subst e; rw [hk] at hs; cases hs
      exact .step f.bg (by rw [f.prev wx]; exact g) f wx (Chn.backN hL hS k x hx ⟨i, by omega, hs⟩)
theorem Chn.forth (hL : Chn L) (hS : Has ch L S) : ∀ (d k : Nat) (c : Ck), k + d + 1 = L.length → L[k]? = some c → (∀ i, i < L.length → S i = true) → Forth ch d c (some (L.drop (k + 1)))
  | 0, k, c, hk, hc, hs => by
    have e : L.drop (k + 1) = [] := List.drop_eq_nil_of_le (by omega)
    rw [e]
    exact .here (hL.en c (by rw [List.getLast?_eq_getElem?, show L.length - 1 = k by omega]; exact hc))
  | d + 1, k, c, hk, hc, hs => by
    obtain ⟨x, hx⟩ : ∃ x, L[k + 1]? = some x := ⟨_, List.getElem?_eq_getElem (by omega)⟩
    have f := hL.fol k c x hc hx
    have wx := (hL.wf x (List.mem_of_getElem? hx)).1
    have g := hS (k + 1) x hx
    rw [hs _ (by omega), if_pos rfl] at g
    have e : L.drop (k + 1) = x :: L.drop (k + 1 + 1) := by
      rw [List.drop_eq_getElem_cons (by omega)]
      rw [List.getElem?_eq_getElem (by omega)] at hx
      rw [Option.some.inj hx]
    rw [e]
    exact .step (r := some (L.drop (k + 1 + 1))) f.en (by unfold succ32; rw [← f.nx]; exact g) f wx (Chn.forth hL hS d (k + 1) x (by omega) hx hs)
theorem Chn.forthN (hL : Chn L) (hS : Has ch L S) : ∀ (d k : Nat) (c : Ck), k + d + 1 = L.length → L[k]? = some c → (∃ i, k < i ∧ i < L.length ∧ S i = false) → Forth ch d c none
  | 0, k, c, hk, hc, ⟨i, h1, h2, _⟩ => absurd h2 (by omega)
  | d + 1, k, c, hk, hc, ⟨i, h1, h2, hs⟩ => by
    obtain ⟨x, hx⟩ : ∃ x, L[k + 1]? = some x := ⟨_, List.getElem?_eq_getElem (by omega)⟩
    have f := hL.fol k c x hc hx
    have wx := (hL.wf x (List.mem_of_getElem? hx)).1
    have g := hS (k + 1) x hx
    cases hk' : S (k + 1) with
    | false =>
      rw [hk'] at g
      exact .gone f.en (by unfold succ32; rw [← f.nx]; simpa using g)
    | true =>
      rw [hk', if_pos rfl] at g
      have : i ≠ k + 1 := fun e => by subst e; rw [hk'] at hs; cases hs
      exact .step (r := none) f.en (by unfold succ32; rw [← f.nx]; exact g) f wx (Chn.forthN hL hS d (k + 1) x (by omega) hx ⟨i, by omega, h2, hs⟩)
theorem fols_of : ∀ {b : Ck} {l : List Ck}, (∀ (i : Nat) (x y : Ck), (b :: l)[i]? = some x → (b :: l)[i + 1]? = some y → Fol x y) → Fols b l
  | _, [], _ => trivial
  | b, c :: l, h => ⟨h 0 b c rfl rfl, fols_of fun i x y hx hy => h (i + 1) x y (by simpa using hx) (by simpa using hy)⟩
theorem Chn.fols {b : Ck} {l : List Ck} (hL : Chn (b :: l)) : Fols b l := fols_of hL.fol
end
section
variable {h : Heap} {n : Nat} {N : Nat} {nx : List Nat} {ch : List (Nat × Ck)} {st : List ((Nat × Nat) × Mg)} {rd : List Mg} {held : Nat} {ro : Option Addr} {L : List Ck} {S : Nat → Bool}
theorem w_runAll (j : Jn h N nx ch st rd held ro) (hL : Chn L) (hS : Has ch L S) {k : Nat} {c : Ck} (hk : L[k]? = some c) {v : List Value} (hc : CkAt h N ro c v) (hs : ∀ i, i < L.length → S i = true) (hb : L.length ≤ 100000) (hn : k + L.length + 2 ≤ n) :
    ResQ (callN Try.prog G0 n (.call 21 [.pointer (some ⟨N + 3, 0, none⟩), .agg v.toArray]) h) (RunQ h N ro (some L)) := by
  have hkl := (List.getElem?_eq_some_iff.1 hk).1
  obtain ⟨b, hb0, bk⟩ := hL.back hS k c hk (fun i hi => hs i (by omega))
  have f := hL.forth hS (L.length - 1) 0 b (by omega) hb0 hs
  have := w_runF j hc (hL.wf c (List.mem_of_getElem? hk)).1 bk (hL.wf b (List.mem_of_getElem? hb0)).1 f (by omega) (n := n) (by omega)
  have e : (some (L.drop (0 + 1))).map (b :: ·) = some L := by
    cases L with
    | nil => exact absurd hkl (by simp)
    | cons x l => cases hb0; rfl
  rw [e] at this
  exact this
theorem w_runNot (j : Jn h N nx ch st rd held ro) (hL : Chn L) (hS : Has ch L S) {k : Nat} {c : Ck} (hk : L[k]? = some c) {v : List Value} (hc : CkAt h N ro c v) (hck : S k = true) {i : Nat} (hi : i < L.length) (hs : S i = false) (hb : L.length ≤ 100000) (hn : k + L.length + 2 ≤ n) :
    ResQ (callN Try.prog G0 n (.call 21 [.pointer (some ⟨N + 3, 0, none⟩), .agg v.toArray]) h) (RunQ h N ro none) := by
  have hkl := (List.getElem?_eq_some_iff.1 hk).1
  have wc := (hL.wf c (List.mem_of_getElem? hk)).1
  by_cases hall : ∃ i, i < k ∧ S i = false
  · exact w_runB j hc wc (hL.backN hS k c hk hall) (by omega)
  · have hall' : ∀ i, i < k → S i = true := fun i hi => by
      cases e : S i with
      | true => rfl
      | false => exact absurd ⟨i, hi, e⟩ hall
    obtain ⟨b, hb0, bk⟩ := hL.back hS k c hk hall'
    have hi0 : 0 < i := by
      apply Nat.pos_of_ne_zero
      intro e
      subst e
      rcases Nat.eq_zero_or_pos k with e | e
      · subst e; rw [hck] at hs; cases hs
      · rw [hall' 0 e] at hs; cases hs
    have f := hL.forthN hS (L.length - 1) 0 b (by omega) hb0 ⟨i, hi0, hi, hs⟩
    exact w_runF j hc wc bk (hL.wf b (List.mem_of_getElem? hb0)).1 f (by omega) (n := n) (by omega)
end
/-! the document's chunks are a chain -/
theorem cutF_dts {str pp ssn tsn most : Nat} {un : Bool} (h1 : 1 ≤ most) : ∀ (k i : Nat) (b : List UInt8), b.length ≤ k → dts (cutF str pp ssn tsn most un k i b) = b
  | 0, i, b, h => by
    have : b = [] := List.length_eq_zero_iff.1 (by omega)
    subst this; rfl
  | k + 1, i, b, h => by
    by_cases hb : b = []
    · subst hb; rfl
    · have : b.length ≠ 0 := fun e => hb (List.length_eq_zero_iff.1 e)
      rw [cutF, if_neg hb]
      show b.take most ++ dts _ = b
      rw [cutF_dts h1 k (i + 1) (b.drop most) (by rw [List.length_drop]; omega), List.take_append_drop]
theorem cutF_len {str pp ssn tsn most : Nat} {un : Bool} (h1 : 1 ≤ most) : ∀ (k i : Nat) (b : List UInt8), (cutF str pp ssn tsn most un k i b).length ≤ b.length
  | 0, i, b => Nat.zero_le _
  | k + 1, i, b => by
    by_cases hb : b = []
    · subst hb; exact Nat.zero_le _
    · have : b.length ≠ 0 := fun e => hb (List.length_eq_zero_iff.1 e)
      rw [cutF, if_neg hb, List.length_cons]
      have := cutF_len (str := str) (pp := pp) (ssn := ssn) (tsn := tsn) (un := un) h1 k (i + 1) (b.drop most)
      rw [List.length_drop] at this
      omega
theorem cutF_nil {str pp ssn tsn most : Nat} {un : Bool} {k i : Nat} {b : List UInt8} (h : b.length ≤ k) (e : cutF str pp ssn tsn most un k i b = []) : b = [] := by
  cases k with
  | zero => exact List.length_eq_zero_iff.1 (by omega)
  | succ k =>
    rw [cutF] at e
    by_cases hb : b = []
    · exact hb
    · rw [if_neg hb] at e; cases e
theorem cutF_at {str pp ssn tsn most : Nat} {un : Bool} (h1 : 1 ≤ most) : ∀ (k i : Nat) (b : List UInt8), b.length ≤ k → ∀ (j : Nat) (x : Ck), (cutF str pp ssn tsn most un k i b)[j]? = some x →
    x.A = (tsn + (i + j)) % 4294967296 ∧ x.out = str ∧ x.inn = ssn ∧ x.pp = pp ∧ x.dt ≠ [] ∧ x.dt.length ≤ b.length ∧ x.fl = (if i + j = 0 then 2 else 0) + (if j + 1 = (cutF str pp ssn tsn most un k i b).length then 1 else 0) + (if un then 4 else 0)
  | 0, i, b, h, j, x, e => by rw [show cutF str pp ssn tsn most un 0 i b = [] from rfl] at e; simp at e
  | k + 1, i, b, h, j, x, e => by
    by_cases hb : b = []
    · subst hb
      rw [show cutF str pp ssn tsn most un (k + 1) i [] = [] from by simp [cutF]] at e; simp at e
    · have hb0 : b.length ≠ 0 := fun e => hb (List.length_eq_zero_iff.1 e)
      have hd : (b.drop most).length ≤ k := by rw [List.length_drop]; omega
      rw [cutF, if_neg hb] at e ⊢
      cases j with
      | zero =>
        cases e
        refine ⟨rfl, rfl, rfl, rfl, fun e => ?_, by show (b.take most).length ≤ _; rw [List.length_take]; exact Nat.min_le_right _ _, ?_⟩
        · have := congrArg List.length e
          simp only [List.length_take, List.length_nil] at this
          omega
        · show _ + (if b.length ≤ most then 1 else 0) + _ = _
          rw [List.length_cons, Nat.add_zero]
          congr 2
          by_cases hm : b.length ≤ most
          · rw [if_pos hm, if_pos]
            rw [List.drop_eq_nil_of_le hm]
            cases k <;> simp [cutF]
          · rw [if_neg hm, if_neg]
            intro e
            have := cutF_nil hd (List.length_eq_zero_iff.1 (by omega : (cutF str pp ssn tsn most un k (i + 1) (b.drop most)).length = 0))
            have := congrArg List.length this
            rw [List.length_drop, List.length_nil] at this
            omega
      | succ j =>
        obtain ⟨a1, a2, a3, a4, a5, a6, a7⟩ := cutF_at h1 k (i + 1) (b.drop most) hd j x (by simpa using e)
        refine ⟨by rw [a1]; congr 2; omega, a2, a3, a4, a5, by rw [List.length_drop] at a6; omega, ?_⟩
        rw [a7, if_neg (by omega : ¬ i + 1 + j = 0), if_neg (by omega : ¬ i + (j + 1) = 0), List.length_cons]
        congr 2
        by_cases hm : j + 1 = (cutF str pp ssn tsn most un k (i + 1) (b.drop most)).length
        · rw [if_pos hm, if_pos (by omega)]
        · rw [if_neg hm, if_neg (by omega)]
section
variable {m : Mg} {tsn ssn most : Nat}
theorem cuts_len (h1 : 1 ≤ most) : (cuts m tsn ssn most).length ≤ m.dt.length := cutF_len h1 _ _ _
theorem cuts_ne (hd : m.dt ≠ []) : cuts m tsn ssn most ≠ [] := fun e => hd (cutF_nil (Nat.le_refl _) e)
theorem cuts_at (h1 : 1 ≤ most) {j : Nat} {x : Ck} (e : (cuts m tsn ssn most)[j]? = some x) :
    x.A = (tsn + j) % 4294967296 ∧ x.out = m.str ∧ x.inn = (if m.un then 0 else ssn) ∧ x.pp = m.pp ∧ x.dt ≠ [] ∧ x.dt.length ≤ m.dt.length ∧ x.fl = (if j = 0 then 2 else 0) + (if j + 1 = (cuts m tsn ssn most).length then 1 else 0) + (if m.un then 4 else 0) := by
  have := cutF_at h1 m.dt.length 0 m.dt (Nat.le_refl _) j x e
  rw [Nat.zero_add] at this
  exact this
theorem cuts_dts (h1 : 1 ≤ most) : dts (cuts m tsn ssn most) = m.dt := cutF_dts h1 _ _ _ (Nat.le_refl _)
theorem cuts_wf (h1 : 1 ≤ most) (hs : ssn < 65536) (hm : m.str < 65536) (hp : m.pp < 4294967296) {x : Ck} (hx : x ∈ cuts m tsn ssn most) : x.wf ∧ x.dt ≠ [] := by
  obtain ⟨j, hj⟩ := List.getElem?_of_mem hx
  obtain ⟨a1, a2, a3, a4, a5, a6, a7⟩ := cuts_at h1 hj
  refine ⟨⟨?_, ?_, ?_, ?_, ?_⟩, a5⟩
  · rw [a7]; split <;> split <;> split <;> decide
  · rw [a1]; exact Nat.mod_lt _ (by decide)
  · rw [a2]; exact hm
  · rw [a3]; split <;> omega
  · rw [a4]; exact hp
theorem cuts_chn (h1 : 1 ≤ most) (hs : ssn < 65536) (hm : m.str < 65536) (hp : m.pp < 4294967296) (ht : tsn < 4294967296) : Chn (cuts m tsn ssn most) := by
  refine ⟨fun c hc => cuts_wf h1 hs hm hp hc, fun i x y hx hy => ?_, fun c hc => ?_, fun c hc => ?_⟩
  · obtain ⟨a1, a2, a3, a4, a5, a6, a7⟩ := cuts_at h1 hx
    obtain ⟨b1, b2, b3, b4, b5, b6, b7⟩ := cuts_at h1 hy
    have hl := (List.getElem?_eq_some_iff.1 hy).1
    rw [if_neg (by omega : ¬ i + 1 = (cuts m tsn ssn most).length)] at a7
    rw [if_neg (by omega : ¬ i + 1 = 0)] at b7
    refine ⟨by rw [a2, b2], by rw [a3, b3], by rw [a4, b4], ?_, ?_, ?_, ?_⟩
    · rw [a7, b7]; split <;> split <;> split <;> decide
    · rw [a1, b1]; omega
    · rw [a7]; split <;> split <;> decide
    · rw [b7]; split <;> split <;> decide
  · obtain ⟨a1, a2, a3, a4, a5, a6, a7⟩ := cuts_at h1 hc
    rw [a7, if_pos rfl]; split <;> split <;> decide
  · rw [List.getLast?_eq_getElem?] at hc
    obtain ⟨a1, a2, a3, a4, a5, a6, a7⟩ := cuts_at h1 hc
    have hl := (List.getElem?_eq_some_iff.1 hc).1
    rw [a7, if_pos (by omega : (cuts m tsn ssn most).length - 1 + 1 = (cuts m tsn ssn most).length)]; split <;> split <;> decide
theorem cuts_whole (h1 : 1 ≤ most) {b : Ck} {l : List Ck} (e : cuts m tsn ssn most = b :: l) : whole b l = m := by
  obtain ⟨a1, a2, a3, a4, a5, a6, a7⟩ := cuts_at (m := m) (tsn := tsn) (ssn := ssn) (most := most) h1 (j := 0) (x := b) (by rw [e]; rfl)
  have hd := cuts_dts (m := m) (tsn := tsn) (ssn := ssn) (most := most) h1
  rw [e] at hd
  unfold whole
  rw [a2, a4, hd]
  have : (b.fl &&& 4 != 0) = m.un := by
    rw [a7]; cases m.un <;> split <;> split <;> rfl
  rw [this]
end
end Go.Proofs.Ytnffglfpjcbfaaa

