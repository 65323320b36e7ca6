/- Part of a proof by an abstract run of the program's code: SrC. No condition. -/
import Derived.Test.YtkbanhfdfmodkaaSrA
/-! The keys of a map in order: the comparison, slices.SortFunc, (*timer.Set).sorted. -/
set_option linter.unusedVariables false
namespace Go.Proofs.Ytkbanhfdfmodkaa
open Go Vm
theorem eqV_Z (kd : IntKind) (a b : Int) : eqV (.one 1) (.int kd a) (.int kd b) = some (eqI a b) := by
  show (bif Nat.beq 1 1 then (bif Nat.beq (kc kd) (kc kd) then some (eqI a b) else none) else none) = _
  rw [Nat.beq_refl, Nat.beq_refl]; rfl
theorem entZ_find (x : Int) : ∀ es : List Ez, mFind (.one 1) (iv x) (entZ es) = some ((es.find? fun e => e.1 == x).map fun e => (iv e.2.1, e.2.2))
  | [] => rfl
  | (k, v, s) :: es => by
    show (match eqV (.one 1) (iv x) (iv k) with | some true => some (some (iv v, s)) | some false => mFind (.one 1) (iv x) (entZ es) | none => none) = _
    rw [eqV_Z, List.find?_cons, eqI_dec]
    by_cases hk : x = k
    · rw [decide_eq_true hk, hk]; simp
    · rw [decide_eq_false hk]
      have : (k == x) = false := by simpa using fun e => hk e.symm
      simp only [this, entZ_find x es]
def atZ (es : List Ez) (x : Int) : Int := ((es.find? fun e => e.1 == x).map fun e => e.2.1).getD 0
/-- by time, then by number -/
def ltT (es : List Ez) (x y : Int) : Bool := decide (atZ es x < atZ es y ∨ atZ es x = atZ es y ∧ x < y)
theorem ltT_swo (es : List Ez) : Sort.SWO (ltT es) := by
  refine ⟨fun (x : Int) => ?_, fun (x y z : Int) => ?_, fun (x y z : Int) => ?_⟩
  · simp [ltT]
  · simp only [ltT, decide_eq_true_eq]; omega
  · simp only [ltT, decide_eq_false_iff_not]; omega
theorem ltT_tot (es : List Ez) (x y : Int) (h1 : ltT es x y = false) (h2 : ltT es y x = false) : x = y := by
  simp only [ltT, decide_eq_false_iff_not] at h1 h2
  omega
theorem i_lookZ {rec : Rec} {L : List (Nat × Value)} {f : Fr} {dt : Nat} {h : Heap} {K : Fr → Heap → Prop} {l : List ISem} {rd : Bool} {m k : Sel} {mv : Option Nat} {es : List Ez} {x : Int} (hm : m.f (puts L f) = .map mv) (hg : MapZ h mv es) (hk : k.f (puts L f) = iv x)
    (hq : ItQ (runItems rec l (puts ((dt, iv (atZ es x)) :: L) f) h) K) : ItQ (runItems rec (iOp (put dt) (.v rd (oLookup (.one 1) (.int .i64 0) false m k)) :: l) (puts L f) h) K := by
  cases mv with
  | none =>
    cases hg
    exact i_lookupNil hm hk rfl hq
  | some M =>
    obtain ⟨_, c, g, _⟩ := hg
    have e := entZ_find x es
    unfold atZ at hq
    cases h1 : es.find? fun e => e.1 == x with
    | none => rw [h1] at hq e; exact i_lookup hm g hk rfl e hq
    | some p => rw [h1] at hq e; exact i_lookup hm g hk rfl e hq
theorem w_compare {x y : Int} {h : Heap} {n : Nat} (hn : 2 ≤ n) : ResQ (callN Try.prog G0 n (.call 25 [iv x, iv y]) h) (fun v h' => (∃ c : Int, v = iv c ∧ (c < 0 ↔ x < y) ∧ (c = 0 ↔ x = y)) ∧ h = h') := by
  have wn : ∀ z : Int, ResQ (callN Try.prog G0 (n - 1) (.call 29 [iv z]) h) (fun v h' => v = .bool false ∧ h = h') := by
    intro z
    obtain ⟨m, hm⟩ : ∃ m, n - 1 = m + 1 := ⟨n - 2, by omega⟩
    rw [hm]
    refine res_enter rfl d29 rfl ?_; simp only [c29]
    refine gg ?_
    exact ⟨by rw [decide_eq_false (by simp)], rfl⟩
  obtain ⟨n, rfl⟩ : ∃ m, n = m + 1 := ⟨n - 1, by omega⟩
  refine res_enter rfl d25 rfl ?_; simp only [c25]
  refine gg ?_
  refine i_call1 (by exact sel_of rfl) (wn x) ?_
  rintro _ _ ⟨rfl, rfl⟩
  refine gg ?_
  refine i_call1 (by exact sel_of rfl) (wn y) ?_
  rintro _ _ ⟨rfl, rfl⟩
  refine gg ?_
  refine out_if (by exact sel_of rfl) (fun hif => ?_) (fun hif => ?_)
  · refine gg ?_
    exact ⟨⟨-1, rfl, by omega, by omega⟩, rfl⟩
  · refine gg ?_
    refine out_if (by exact sel_of rfl) (fun hif => ?_) (fun hif => ?_)
    · refine gg ?_
      exact ⟨⟨1, rfl, by omega, by omega⟩, rfl⟩
    · refine gg ?_
      exact ⟨⟨0, rfl, by omega, by omega⟩, rfl⟩
theorem w_or {p q : Int} {h : Heap} {V n : Nat} (hr : Row h 1 (some ⟨V, 0, none⟩) 2 [iv p, iv q]) (hn : 5 ≤ n) : ResQ (callN Try.prog G0 n (.call 24 [.slice (some ⟨V, 0, none⟩) 2 2]) h) (fun v h' => v = iv (if p = 0 then q else p) ∧ h = h') := by
  obtain ⟨n, rfl⟩ : ∃ m, n = m + 1 := ⟨n - 1, by omega⟩
  refine res_enter rfl d24 rfl ?_; simp only [c24]
  refine gg ?_
  refine o_up 2 (fun i f h' => (h = h' ∧ (i = 1 → p = 0) ∧ (i = 2 → p = 0 ∧ q = 0)) ∧ Sl [(8, .int .i64 (i : Int)), (7, .int .i64 ((2 : Nat) : Int)), (6, .slice (some ⟨V, 0, none⟩) 2 2), (3, .int .i64 0)] f) (by omega) ⟨⟨rfl, by omega, by omega⟩, sel_of rfl, sel_of rfl, sel_of rfl, sel_of rfl, trivial⟩ ?_
  rintro i f _ hi ⟨⟨rfl, h1, h2⟩, hs⟩
  obtain ⟨f0, rfl⟩ := hs.puts
  clear hs
  simp only [c24_0]
  refine gg ?_
  match i, hi, h1, h2 with
  | 0, hi, h1, h2 =>
    refine gg ?_
    refine i_idx (i := 0) (by exact sel_of rfl) hr (by exact sel_of rfl) (by decide) fun u hu => ?_
    cases hu
    refine i_load1 (v := iv p) (by exact sel_of rfl) ((hr.cell (i := 0 * 1) (by decide) _).trans (by rfl)) ?_
    refine gg ?_
    refine out_if (by exact sel_of rfl) (fun hif => ?_) (fun hif => ?_)
    · refine gg ?_
      exact ⟨by rw [if_neg (by omega)], rfl⟩
    · refine gg ?_
      exact rnd_up (by omega) ⟨⟨rfl, by omega, by omega⟩, (sel_z rfl (by omega)), sel_of rfl, sel_of rfl, sel_of rfl, trivial⟩
  | 1, hi, h1, h2 =>
    refine gg ?_
    refine i_idx (i := 1) (by exact sel_of rfl) hr (by exact sel_of rfl) (by decide) fun u hu => ?_
    cases hu
    refine i_load1 (v := iv q) (by exact sel_of rfl) ((hr.cell (i := 1 * 1) (by decide) _).trans (by rfl)) ?_
    refine gg ?_
    refine out_if (by exact sel_of rfl) (fun hif => ?_) (fun hif => ?_)
    · refine gg ?_
      exact ⟨by rw [if_pos (h1 rfl)], rfl⟩
    · refine gg ?_
      exact rnd_up (by omega) ⟨⟨rfl, by omega, by have := h1 rfl; omega⟩, (sel_z rfl (by omega)), sel_of rfl, sel_of rfl, sel_of rfl, trivial⟩
  | 2, hi, h1, h2 =>
    refine gg ?_
    obtain ⟨a, b⟩ := h2 rfl
    exact ⟨by rw [if_pos a, b], rfl⟩
  | i + 3, hi, h1, h2 => omega
theorem detC : detFns Try.prog [25, 24, 29, 23] = true := by kernel_rfl
theorem g0det : ∀ f s, G0 f = some s → ∀ args h x y, s args h ≠ .or x y := by
  intro f s hs args h x y e
  unfold G0 oneSum at hs
  cases hb : Nat.beq f 8 with
  | false => rw [hb] at hs; cases hs
  | true =>
    rw [hb] at hs
    cases hs
    cases args <;> cases e
instance : FDet Try.prog G0 25 := ⟨fun n args h x y => fns_det detC g0det n _ (by decide) args h x y⟩
instance : FDet Try.prog G0 24 := ⟨fun n args h x y => fns_det detC g0det n _ (by decide) args h x y⟩
theorem w_cmpT {h : Heap} {Bx S e1 e2 n : Nat} {mv : Option Nat} {es : List Ez} {x y : Int} (g1 : h.get Bx = some (.cells e1 [.pointer (some ⟨S, 0, none⟩)] (.own false))) (g2 : h.get S = some (.cells e2 [.map mv] (.own false))) (gm : MapZ h mv es) (hn : 8 ≤ n) :
    ResQ (callN Try.prog G0 n (.call 23 [iv x, iv y, .pointer (some ⟨Bx, 0, none⟩)]) h) (fun v h' => ∃ c, v = .int .i64 c ∧ decide (c < 0) = ltT es x y ∧ Keeps h h') := by
  obtain ⟨n, rfl⟩ : ∃ m, n = m + 1 := ⟨n - 1, by omega⟩
  refine res_enter rfl d23 rfl ?_; simp only [c23]
  refine gg ?_
  refine i_load1 (v := .pointer (some ⟨S, 0, none⟩)) (by exact sel_of rfl) ((load1_own g1).trans (by rfl)) ?_
  refine gg ?_
  refine i_load1 (v := .map mv) (by exact sel_of rfl) ((load1_own g2).trans (by rfl)) ?_
  refine gg ?_
  refine i_lookZ (by exact sel_of rfl) gm (by exact sel_of rfl) ?_
  refine i_load1 (v := .pointer (some ⟨S, 0, none⟩)) (by exact sel_of rfl) ((load1_own g1).trans (by rfl)) ?_
  refine gg ?_
  refine i_load1 (v := .map mv) (by exact sel_of rfl) ((load1_own g2).trans (by rfl)) ?_
  refine gg ?_
  refine i_lookZ (by exact sel_of rfl) gm (by exact sel_of rfl) ?_
  refine i_call2 (by exact sel_of rfl) (by exact sel_of rfl) (w_compare (by omega)) ?_
  rintro _ _ ⟨⟨c1, rfl, ha1, ha2⟩, rfl⟩
  refine gg ?_
  refine i_call2 (by exact sel_of rfl) (by exact sel_of rfl) (w_compare (by omega)) ?_
  rintro _ _ ⟨⟨c2, rfl, hb1, hb2⟩, rfl⟩
  refine gg ?_
  have hr := Row.new (h := h) (e := 3) (sz := 1) (n := 2) (cs := [iv c1, iv c2]) (st := .own false) (by simp) rfl (s := none) (.inl rfl)
  have kk := Keeps.new h (.cells 3 [iv c1, iv c2] (.own false))
  show ItQ (runItems _ _ _ (h.new (.cells 3 [iv c1, iv c2] (.own false)))) _
  generalize (h.new (.cells 3 [iv c1, iv c2] (.own false))) = h1 at *
  refine i_call1 (by exact sel_of rfl) (w_or hr (by omega)) ?_
  rintro _ _ ⟨rfl, rfl⟩
  refine gg ?_
  refine ⟨_, rfl, ?_, kk⟩
  by_cases h0 : c1 = 0
  · rw [if_pos h0]
    have := ha2.1 h0
    simp only [ltT]
    congr 1
    apply propext
    constructor
    · intro hlt; exact .inr ⟨this, hb1.1 hlt⟩
    · intro hlt; exact hb1.2 (by omega)
  · rw [if_neg h0]
    simp only [ltT]
    congr 1
    apply propext
    constructor
    · intro hlt; exact .inl (ha1.1 hlt)
    · intro hlt
      refine ha1.2 ?_
      have : atZ es x ≠ atZ es y := fun e => h0 (ha2.2 e)
      omega
end Go.Proofs.Ytkbanhfdfmodkaa

/-! The keys of a map in order: (*timer.Set).sorted. -/
set_option linter.unusedVariables false
namespace Go.Proofs.Ytkbanhfdfmodkaa
open Go Vm
def LstZ (h : Heap) (oa : Option Addr) (l : List El) : Prop := match oa with
  | none => l = []
  | some q => ∃ B, q = ⟨B, 0, some 1⟩ ∧ Dt h B l.toArray
theorem LstZ.keeps {h h' : Heap} {oa : Option Addr} {l : List El} (z : LstZ h oa l) (k : Keeps h h') : LstZ h' oa l := by
  cases oa with
  | none => exact z
  | some q => obtain ⟨B, e, dd⟩ := z; exact ⟨B, e, dd.keeps k⟩
theorem w_appseqZ {h : Heap} {Kb e0 : Nat} {mv : Option Nat} {es : List Ez} (hm : MapZ h mv es) (hK : h.get Kb = some (.cells e0 [.map mv] (.own false))) (hKb : Kb < h.next) (hlen : es.length ≤ 1000) (n : Nat) (hn : es.length + 6 ≤ n) :
    ResQ (callN Try.prog G0 n (.call 30 [.slice none 0 0, .func (.func 28) #[] #[.pointer (some ⟨Kb, 0, none⟩)]]) h) (fun v h' => ∃ (oa : Option Addr) (acc : List El), v = .slice oa acc.length acc.length ∧ acc.Perm (es.map ky3) ∧ LstZ h' oa acc ∧ Keeps h h' ∧ ∀ q, oa = some q → h.next ≤ q.block) := by
  obtain ⟨n, rfl⟩ : ∃ m, n = m + 1 := ⟨n - 1, by omega⟩
  refine res_enter rfl d30 rfl ?_; simp only [c30]
  obtain ⟨a1, k1, n1⟩ := box_one h (.cells 22 [.slice none 0 0] (.own false))
  refine gg ?_
  generalize (h.new (.cells 22 [.slice none 0 0] (.own false))) = h1 at *
  refine o_brangeG (P := Try.prog) (by exact sel_of rfl) ?_
  refine (w_keys1 (X := h.next) (L := h1.next) hm hK hKb ⟨Nat.le_refl _, by omega, rfl⟩ ⟨sel_of rfl, trivial⟩ (k1.trans (Keeps.new _ _)) (by rw [Heap.get_new, if_pos rfl]) (by rw [Heap.get_new, if_neg (by omega)]; exact a1) hlen n (by omega)).mono ?_
  rintro v h4 ⟨acc, hp, ct⟩
  obtain ⟨⟨b1, b2, b3, b4⟩, fr, keep, lp, oa, cX, ap, sp⟩ := ct
  refine RgQ.none lp (blo_n ?_)
  refine gg ?_
  refine i_load1 (v := .slice oa acc.length acc.length) (by exact sel_of rfl) (by rw [load1_own (b := h.next) (by rw [Heap.get_put, if_neg (by omega)]; exact cX)]; rfl) ?_
  refine gg ?_
  refine ⟨oa, acc, rfl, hp, ?_, keep.put (by omega) _, fun q e => ?_⟩
  · cases oa with
    | none =>
      have : acc.length = 0 := ap.row.2
      exact List.length_eq_zero_iff.1 this
    | some q =>
      rcases ap.2.2 q rfl with e | ⟨k', e2, e3, e4⟩
      · exact absurd e (sp q rfl)
      · have := ap.row.2.1
        rw [e2] at this
        exact ⟨k', e2, this, 3, true, [], by rw [Heap.get_put, if_neg (by omega), e4]; simp⟩
  · rcases ap.2.2 q e with e | ⟨k', e2, e3, e4⟩
    · exact absurd e (sp q (by assumption))
    · rw [e2]; show h.next ≤ k'; omega
theorem w_collectZ {h : Heap} {Kb e0 : Nat} {mv : Option Nat} {es : List Ez} (hm : MapZ h mv es) (hK : h.get Kb = some (.cells e0 [.map mv] (.own false))) (hKb : Kb < h.next) (hlen : es.length ≤ 1000) (n : Nat) (hn : es.length + 7 ≤ n) :
    ResQ (callN Try.prog G0 n (.call 26 [.func (.func 28) #[] #[.pointer (some ⟨Kb, 0, none⟩)]]) h) (fun v h' => ∃ (oa : Option Addr) (acc : List El), v = .slice oa acc.length acc.length ∧ acc.Perm (es.map ky3) ∧ LstZ h' oa acc ∧ Keeps h h' ∧ ∀ q, oa = some q → h.next ≤ q.block) := by
  obtain ⟨n, rfl⟩ : ∃ m, n = m + 1 := ⟨n - 1, by omega⟩
  refine res_enter rfl d26 rfl ?_; simp only [c26]
  refine gg ?_
  refine i_call2 (by first | exact sel_of rfl | exact const_of) (by exact sel_of rfl) (w_appseqZ hm hK hKb hlen n (by omega)) ?_
  rintro _ h3 ⟨oa, acc, rfl, hp, hl, k, ho⟩
  refine gg ?_
  exact ⟨oa, acc, rfl, hp, hl, k, ho⟩
theorem w_sortF {h : Heap} {B n0 n C : Nat} {s : Option Nat} {g : FuncId} {cp : Array Value} {lt : El → El → Bool} {d : Array El} (cc : Cp h B n0 g cp lt) (hw : Sort.SWO lt) (dd : Dt h B d) (hN : d.size < 256) (hn : 2 * d.size + n0 + 25 ≤ n) :
    ResQ (callN Try.prog G0 n (.call 27 [.slice (some ⟨B, 0, s⟩) d.size C, .func (.func g) #[] cp]) h) (fun _ h' => ∃ d' : Array El, d'.toList.Perm d.toList ∧ Sort.SortedIn lt 0 d.size d' ∧ KeepsB B h h' ∧ Dt h' B d') := by
  obtain ⟨n, rfl⟩ : ∃ m, n = m + 1 := ⟨n - 1, by omega⟩
  refine res_enter rfl d27 rfl ?_; simp only [c27]
  refine gg ?_
  refine i_call1 (by exact sel_of rfl) (w_len (m := d.size) hN (by omega)) ?_
  rintro _ _ ⟨b, rfl, b1, b2, b3, rfl⟩
  refine gg ?_
  refine i_call5 (by exact sel_of rfl) (v2 := .int .i64 ((0 : Nat) : Int)) (by exact const_of) (by exact sel_of rfl) (by exact sel_of rfl) (by exact sel_of rfl) (w_pdq cc hw hN d.size (a := 0) (b := d.size) (lim := b) (by omega) (KeepsB.refl _ _) dd rfl (by omega) (by omega) (by omega) (.inl rfl) (by omega)) ?_
  rintro _ h2 ⟨d', p, so, k, dd'⟩
  refine gg ?_
  refine ⟨d', ?_, so, k, dd'⟩
  have p3 := p.2.2
  have h1 := p.1
  rw [Array.extract_size] at p3
  have : d'.extract 0 d.size = d' := by rw [← h1]; exact Array.extract_size
  rw [this] at p3
  exact p3
theorem w_sort0 {fv : Value} {h : Heap} {n : Nat} (hn : 20 ≤ n) : ResQ (callN Try.prog G0 n (.call 27 [.slice none 0 0, fv]) h) (fun v h' => h = h') := by
  obtain ⟨m, rfl⟩ : ∃ m, n = m + 20 := ⟨n - 20, by omega⟩
  exact res_jump (by kernel_rfl) (by kernel_rfl)
theorem w_keysf {h : Heap} {mv : Option Nat} {n : Nat} (hn : 1 ≤ n) :
    ResQ (callN Try.prog G0 n (.call 22 [.map mv]) h) (fun v h' => v = .func (.func 28) #[] #[.pointer (some ⟨h.next, 0, none⟩)] ∧ h' = h.new (.cells 25 [.map mv] (.own false))) := by
  obtain ⟨n, rfl⟩ : ∃ m, n = m + 1 := ⟨n - 1, by omega⟩
  refine res_enter rfl d22 rfl ?_; simp only [c22]
  refine gg ?_
  exact ⟨rfl, rfl⟩
/-- a set of timers in memory -/
def Tm (h : Heap) (S : Nat) (es : List Ez) : Prop := S < h.next ∧ ∃ e mv, h.get S = some (.cells e [.map mv] (.own false)) ∧ MapZ h mv es
theorem Tm.keeps {h h' : Heap} {S : Nat} {es : List Ez} (t : Tm h S es) (k : Keeps h h') : Tm h' S es := by
  obtain ⟨h1, e, mv, g, m⟩ := t
  exact ⟨Nat.lt_of_lt_of_le h1 k.next, e, mv, (k.get _ h1).trans g, m.keeps k⟩
theorem w_sortedF {h : Heap} {S Kb Bx e1 e2 e0 n : Nat} {mv : Option Nat} {es : List Ez} (hx : h.get Bx = some (.cells e1 [.pointer (some ⟨S, 0, none⟩)] (.own false))) (hxl : Bx < h.next) (hS : h.get S = some (.cells e2 [.map mv] (.own false))) (hSl : S < h.next) (hm : MapZ h mv es) (hK : h.get Kb = some (.cells e0 [.map mv] (.own false))) (hKb : Kb < h.next) (hlen : es.length < 256) (hn : 2 * es.length + 50 ≤ n) :
    ResQ (callN Try.prog G0 n (.call 21 [.func (.func 28) #[] #[.pointer (some ⟨Kb, 0, none⟩)], .func (.func 23) #[] #[.pointer (some ⟨Bx, 0, none⟩)]]) h) (fun v h' => ∃ (oa : Option Addr) (ids : List El), v = .slice oa ids.length ids.length ∧ LstZ h' oa ids ∧ ids.Perm (es.map ky3) ∧ Sort.SortedIn (ltT es) 0 ids.length ids.toArray ∧ Keeps h h' ∧ ∀ q, oa = some q → h.next ≤ q.block) := by
  obtain ⟨n, rfl⟩ : ∃ m, n = m + 1 := ⟨n - 1, by omega⟩
  refine res_enter rfl d21 rfl ?_; simp only [c21]
  refine gg ?_
  refine i_call1 (by exact sel_of rfl) (w_collectZ hm hK hKb (by omega) n (by omega)) ?_
  rintro _ h1 ⟨oa, acc, rfl, hp, hl, k, ho⟩
  have hle : acc.length = es.length := by rw [hp.length_eq, List.length_map]
  refine gg ?_
  cases oa with
  | none =>
    cases hl
    refine i_call2 (by exact sel_of rfl) (by exact sel_of rfl) (w_sort0 (by omega)) ?_
    rintro _ _ rfl
    refine gg ?_
    exact ⟨none, [], rfl, rfl, hp, fun i j _ _ hj => absurd hj (by simp), k, fun q e => by cases e⟩
  | some q =>
    obtain ⟨B, rfl, dd⟩ := hl
    have hB : h.next ≤ B := ho _ rfl
    have cc : Cp h1 B 8 23 #[.pointer (some ⟨Bx, 0, none⟩)] (ltT es) := by
      refine ⟨dd.1, fun n args h x y => fns_det detC g0det n _ (by decide) args h x y, fun h2 k2 m hm2 x y => ?_⟩
      have up : ∀ d, d < h.next → h2.get d = h.get d := fun d hd => (k2.get d (Nat.lt_of_lt_of_le hd k.next) (by omega)).trans (k.get d hd)
      refine w_cmpT ((up _ hxl).trans hx) ((up _ hSl).trans hS) ?_ hm2
      cases mv with
      | none => exact hm
      | some M => exact ⟨by have := hm.1; have := k.next; have := k2.next; omega, by obtain ⟨h5, c, h3, h4⟩ := hm; exact ⟨c, (up _ h5).trans h3, h4⟩⟩
    have hsz : acc.toArray.size = acc.length := by simp
    refine i_call2 (by exact sel_of rfl) (by exact sel_of rfl) (w_sortF (C := acc.length) (s := some 1) (d := acc.toArray) cc (ltT_swo es) dd (by rw [hsz]; omega) (by rw [hsz]; omega)) ?_
    rintro _ h2 ⟨d', p, so, k2, dd'⟩
    refine gg ?_
    have hl' : d'.toList.length = acc.length := by rw [p.length_eq]
    refine ⟨some ⟨B, 0, some 1⟩, d'.toList, by rw [hl'], ⟨B, rfl, by simpa using dd'⟩, p.trans hp, ?_, k2.new hB k, fun q e => by cases e; exact hB⟩
    rw [hl']
    simpa using so
theorem w_sorted {h : Heap} {S n : Nat} {es : List Ez} (t : Tm h S es) (hlen : es.length < 256) (hn : 2 * es.length + 60 ≤ n) :
    ResQ (callN Try.prog G0 n (.call 20 [.pointer (some ⟨S, 0, none⟩)]) h) (fun v h' => ∃ (oa : Option Addr) (ids : List El), v = .slice oa ids.length ids.length ∧ LstZ h' oa ids ∧ ids.Perm (es.map ky3) ∧ Sort.SortedIn (ltT es) 0 ids.length ids.toArray ∧ Keeps h h' ∧ ∀ q, oa = some q → h.next ≤ q.block) := by
  obtain ⟨hSl, e, mv, hS, hm⟩ := t
  obtain ⟨n, rfl⟩ : ∃ m, n = m + 1 := ⟨n - 1, by omega⟩
  refine res_enter rfl d20 rfl ?_; simp only [c20]
  obtain ⟨a1, k1, n1⟩ := box_one h (.cells 24 [.pointer (some ⟨S, 0, none⟩)] (.own false))
  refine gg ?_
  generalize (h.new (.cells 24 [.pointer (some ⟨S, 0, none⟩)] (.own false))) = h1 at *
  refine i_load1 (v := .pointer (some ⟨S, 0, none⟩)) (by exact sel_of rfl) ((load1_own a1).trans (by rfl)) ?_
  refine gg ?_
  refine i_load1 (v := .pointer (some ⟨S, 0, none⟩)) (by exact sel_of rfl) ((load1_own a1).trans (by rfl)) ?_
  refine gg ?_
  refine i_load1 (v := .map mv) (by exact sel_of rfl) ((load1_own ((k1.get _ hSl).trans hS)).trans (by rfl)) ?_
  refine gg ?_
  refine i_call1 (by exact sel_of rfl) (w_keysf (by omega)) ?_
  rintro _ _ ⟨rfl, rfl⟩
  obtain ⟨a2, k2, n2⟩ := box_one h1 (.cells 25 [.map mv] (.own false))
  generalize (h1.new (.cells 25 [.map mv] (.own false))) = h2 at *
  refine gg ?_
  refine i_call2 (by exact sel_of rfl) (by exact sel_of rfl) (w_sortedF ((k2.get _ (by omega)).trans a1) (by omega) (((k1.trans k2).get _ hSl).trans hS) (by omega) (hm.keeps (k1.trans k2)) a2 (by omega) hlen (by omega)) ?_
  rintro _ h3 ⟨oa, ids, rfl, hl, hp, so, k3, ho⟩
  refine gg ?_
  exact ⟨oa, ids, rfl, hl, hp, so, (k1.trans k2).trans k3, fun q e => by have := ho q e; omega⟩
end Go.Proofs.Ytkbanhfdfmodkaa

