/- Part of a proof by an abstract run of the program's code: BR. No condition. -/
import Derived.Test.YtnffglfpjcbfaaaBY
import Derived.Test.YtnffglfpjcbfaaaBJ
import Derived.Test.YtnffglfpjcbfaaaBM
import Derived.Test.YtnffglfpjcbfaaaBQ
/-! Pairs in order of how far they lie ahead: the comparison; slices.SortFunc. -/
set_option linter.unusedVariables false
namespace Vm
open Go
/-- a function whose text has one way alone -/
def detYF (P : Program) (g : Nat) : Bool := match P.funcs[g]? with
  | some fn => (match fn.body with | some c => detY P [] c | none => true)
  | none => true
theorem fnY_det {P : Program} {Γ : Sums} {g : Nat} (hD : detYF P g = true) (hΓ : ∀ f s, Γ f = some s → ∀ args h x y, s args h ≠ .or x y) : ∀ n args h x y, callN P Γ n (.call g args) h ≠ .or x y
  | 0, args, h, x, y => fun e => by cases e
  | n + 1, args, h, x, y => by
    rw [callN_call]
    split
    · rename_i s hs; exact hΓ g s hs args h x y
    · split
      · exact fun e => by cases e
      · rename_i c hc
        obtain ⟨fn, body, h1, h2, _, _, _, rfl⟩ := denF_some hc
        simp only [detYF, h1, h2] at hD
        cases Nat.ble args.length fn.ntmps <;> simp only [cond_true, cond_false]
        · exact fun e => by cases e
        · have hnor : ∀ x y, (den P fn.ntmps body).f (callN P Γ n) n (frameOf args) h ≠ .or x y := by
            cases body with
            | scope b => cases hD
            | _ => exact codeY_nor (D := []) (nt := fn.ntmps) (ir := false) (P := P) (fun g hg => by cases hg) _ hD _ _
          intro e
          unfold finish at e
          cases ho : (den P fn.ntmps body).f (callN P Γ n) n (frameOf args) h with
          | no => rw [ho] at e; cases e
          | or u v => exact hnor u v ho
          | mk e1 a1 h1 =>
            rw [ho] at e
            have e : (match e1 with | .exit _ => Res.no | .goto _ => .no | _ => (match rvs h1 a1 (fn.results.toList.map (denRV P)) with
              | none => .no
              | some l => match l with | [v] => .ok v h1 | l => .ok (.tuple l.toArray) h1)) = .or x y := e
            cases e1 <;> simp only at e <;> first | (cases e; done) | (split at e <;> first | (cases e; done) | (split at e <;> cases e))
theorem sv_fn (g : Nat) (a : Addr) : sameV (.func (.func g) #[] #[.pointer (some a)]) (.func (.func g) #[] #[.pointer (some a)]) = true := by
  show (bif Nat.beq g g then (bif true then (bif (bif eqA a a then a.spot == a.spot else false) then true else false) else false) else false) = true
  simp [eqA_self]
end Vm
namespace Go.Proofs.Ytnffglfpjcbfaaa
open Go Vm
theorem sv_nc (x : El) : sameV (iv x) (iv x) = true := by
  have h1 := sv_int .u16 (x / 65536)
  have h2 := sv_int .u16 (x % 65536)
  show (bif sameV (.int .u16 (x / 65536)) (.int .u16 (x / 65536)) then (bif sameV (.int .u16 (x % 65536)) (.int .u16 (x % 65536)) then true else false) else false) = true
  rw [h1, h2]; rfl
theorem detSk2 : ∀ n args h x y, callN Try.prog G0 n (.call 36 args) h ≠ .or x y := fnY_det (by kernel_rfl) g0det
theorem detSk1 : ∀ n args h x y, callN Try.prog G0 n (.call 34 args) h ≠ .or x y := fnY_det (by kernel_rfl) g0det
theorem detCm : detFns Try.prog [37, 42] = true := by kernel_rfl
instance : FDet Try.prog G0 37 := ⟨fun n args h x y => fns_det detCm g0det n _ (by decide) args h x y⟩
theorem sub16F {a : Nat} (b : Nat) (ha : a < 65536) : wrap .u16 ((b : Int) - (a : Int)) = (((b + 65536 - a) % 65536 : Nat) : Int) := by
  rw [wrap_eq]
  unfold IntKind.wrap
  simp only [IntKind.bits, IntKind.signed]
  simp
  omega
/-- how far a pair lies ahead -/
def farJ (x0 : Nat) (z : El) : Nat := ((z % 65536).toNat + 65536 - x0) % 65536
def ltJ (x0 : Nat) (a b : El) : Bool := decide (farJ x0 a < farJ x0 b)
theorem ltJ_swo (x0 : Nat) : Sort.SWO (ltJ x0) := by
  refine ⟨fun (x : Int) => ?_, fun (x y z : Int) => ?_, fun (x y z : Int) => ?_⟩
  · simp [ltJ]
  · simp only [ltJ, decide_eq_true_eq]; omega
  · simp only [ltJ, decide_eq_false_iff_not]; omega
section
variable {h : Heap} {n : Nat}
theorem w_farJ {a : Int} {b x C : Nat} (hg : h.get C = some (.cells 27 [.int .u16 (x : Int)] (.own false))) (hC : C < h.next) (hx : x < 65536) (hn : 1 ≤ n) :
    ResQ (callN Try.prog G0 n (.call 34 [.agg #[.int .u16 a, .int .u16 (b : Int)], .pointer (some ⟨C, 0, none⟩)]) h) (fun v h' => v = .int .u16 (((b + 65536 - x) % 65536 : Nat) : Int) ∧ Keeps h h') := by
  obtain ⟨n, rfl⟩ : ∃ m, n = m + 1 := ⟨n - 1, by omega⟩
  refine res_enter rfl d34 rfl ?_; simp only [c34]
  refine gg ?_
  have k1 : Keeps h (h.new (.cells 78 #[Value.int .u16 a, Value.int .u16 (b : Int)].toList (.own false))) := Keeps.new h _
  have g1 : (h.new (.cells 78 #[Value.int .u16 a, Value.int .u16 (b : Int)].toList (.own false))).get h.next = some (.cells 78 #[Value.int .u16 a, Value.int .u16 (b : Int)].toList (.own false)) := by rw [Heap.get_new, if_pos rfl]
  generalize h.new (.cells 78 #[Value.int .u16 a, Value.int .u16 (b : Int)].toList (.own false)) = h1 at *
  refine i_load1 (v := .int .u16 (b : Int)) (by exact sel_of rfl) ((load1_own g1).trans (by rfl)) ?_
  refine i_load1 (v := .int .u16 (x : Int)) (by exact sel_of rfl) ((load1_own ((k1.get _ hC).trans hg)).trans (by rfl)) ?_
  refine i_sub (by exact sel_of rfl) (by exact sel_of rfl) ?_
  rw [sub16F b hx]
  refine gg ?_
  exact ⟨rfl, k1⟩
theorem w_farE {z : El} {x C : Nat} (hg : h.get C = some (.cells 27 [.int .u16 (x : Int)] (.own false))) (hC : C < h.next) (hx : x < 65536) (hn : 1 ≤ n) :
    ResQ (callN Try.prog G0 n (.call 34 [iv z, .pointer (some ⟨C, 0, none⟩)]) h) (fun v h' => v = .int .u16 ((farJ x z : Nat) : Int) ∧ Keeps h h') := by
  have e : iv z = .agg #[.int .u16 (z / 65536), .int .u16 (((z % 65536).toNat : Nat) : Int)] := by
    show Value.agg #[_, Value.int .u16 (z % 65536)] = _
    rw [Int.toNat_of_nonneg (Int.emod_nonneg _ (by decide))]
  rw [e]
  exact w_farJ hg hC hx hn
theorem w_cmp16 {x y : Nat} (hn : 2 ≤ n) : ResQ (callN Try.prog G0 n (.call 37 [.int .u16 (x : Int), .int .u16 (y : Int)]) h) (fun v h' => (∃ c : Int, v = .int .i64 c ∧ (c < 0 ↔ x < y)) ∧ h = h') := by
  have wn : ∀ z : Nat, ResQ (callN Try.prog G0 (n - 1) (.call 42 [.int .u16 (z : Int)]) h) (fun v h' => v = .bool false ∧ h = h') := by
    intro z
    obtain ⟨m, hm⟩ : ∃ m, n - 1 = m + 1 := ⟨n - 2, by omega⟩
    rw [hm]
    refine res_enter rfl d42 rfl ?_; simp only [c42]
    refine gg ?_
    exact ⟨by rw [decide_eq_false (by simp)], rfl⟩
  obtain ⟨n, rfl⟩ : ∃ m, n = m + 1 := ⟨n - 1, by omega⟩
  refine res_enter rfl d37 rfl ?_; simp only [c37]
  refine gg ?_
  refine i_call1 (by exact sel_of rfl) (wn x) ?_
  rintro _ _ ⟨rfl, rfl⟩
  refine gg ?_
  refine i_call1 (by exact sel_of rfl) (wn y) ?_
  rintro _ _ ⟨rfl, rfl⟩
  refine gg ?_
  refine out_if (by exact sel_of rfl) (fun hif => ?_) (fun hif => ?_)
  · refine gg ?_
    exact ⟨⟨-1, rfl, by omega⟩, rfl⟩
  · refine gg ?_
    refine out_if (by exact sel_of rfl) (fun hif => ?_) (fun hif => ?_)
    · refine gg ?_
      exact ⟨⟨1, rfl, by omega⟩, rfl⟩
    · refine gg ?_
      exact ⟨⟨0, rfl, by omega⟩, rfl⟩
set_option maxHeartbeats 1000000 in
theorem w_cmpJ {F C eF x0 : Nat} {x y : El} (gF : h.get F = some (.cells eF [.func (.func 34) #[] #[.pointer (some ⟨C, 0, none⟩)]] (.own false))) (gC : h.get C = some (.cells 27 [.int .u16 (x0 : Int)] (.own false))) (hF : F < h.next) (hC : C < h.next) (hx : x0 < 65536) (hn : 8 ≤ n) :
    ResQ (callN Try.prog G0 n (.call 36 [iv x, iv y, .pointer (some ⟨F, 0, none⟩)]) h) (fun v h' => ∃ c, v = .int .i64 c ∧ decide (c < 0) = ltJ x0 x y ∧ Keeps h h') := by
  obtain ⟨n, rfl⟩ : ∃ m, n = m + 1 := ⟨n - 1, by omega⟩
  refine res_enter rfl d36 rfl ?_; simp only [c36]
  refine o_cut (fun f h1 => (Keeps h h1 ∧ h1.next = h.next + 2 ∧ h1.get h.next = some (.cells 78 (nc x) (.own false)) ∧ h1.get (h.next + 1) = some (.cells 78 (nc y) (.own false))) ∧ Sl [(2, .pointer (some ⟨F, 0, none⟩)), (3, .pointer (some ⟨h.next, 0, none⟩)), (4, .pointer (some ⟨h.next + 1, 0, none⟩)), (5, .int .i64 0)] f) ?_ ?_
  · refine gg ?_
    obtain ⟨g1, g2, k1, n1⟩ := box_two h (.cells 78 (nc x) (.own false)) (.cells 78 (nc y) (.own false))
    exact ⟨rfl, ⟨k1, n1, g1, g2⟩, sel_of rfl, sel_of rfl, sel_of rfl, sel_of rfl, trivial⟩
  rintro f1 h1 ⟨⟨k1, n1, g1, g2⟩, hs⟩
  obtain ⟨f0, rfl⟩ := hs.puts
  clear hs
  have gF1 := (k1.get _ hF).trans gF
  have gC1 := (k1.get _ hC).trans gC
  refine gg ?_
  refine i_load1 (v := .func (.func 34) #[] #[.pointer (some ⟨C, 0, none⟩)]) (by exact sel_of rfl) ((load1_own gF1).trans (by rfl)) ?_
  refine gg ?_
  refine i_loadN (v := nc x) (by exact sel_of rfl) (loadN_all g1 rfl) ?_
  refine it_one ?_
  refine tr_consD (det_dcall detSk1 (by exact sel_of rfl)) ?_
  refine i_callc1 (by exact sel_of rfl) (by exact sel_of rfl) (w_farE gC1 (by omega) hx (by omega)) ?_
  rintro _ h2 ⟨rfl, k2⟩
  have gF2 := (k2.get _ (by omega)).trans gF1
  have gC2 := (k2.get _ (by omega)).trans gC1
  have g22 := (k2.get _ (by omega)).trans g2
  have n2 := k2.next
  refine gg ?_
  refine i_load1 (v := .func (.func 34) #[] #[.pointer (some ⟨C, 0, none⟩)]) (by exact sel_of rfl) ((load1_own gF2).trans (by rfl)) ?_
  refine gg ?_
  refine i_loadN (v := nc y) (by exact sel_of rfl) (loadN_all g22 rfl) ?_
  refine it_one ?_
  refine tr_consD (det_dcall detSk1 (by exact sel_of rfl)) ?_
  refine i_callc1 (by exact sel_of rfl) (by exact sel_of rfl) (w_farE gC2 (by omega) hx (by omega)) ?_
  rintro _ h3 ⟨rfl, k3⟩
  have gF3 := (k3.get _ (by omega)).trans gF2
  have g23 := (k3.get _ (by omega)).trans g22
  refine gg ?_
  refine i_call2 (by exact sel_of rfl) (by exact sel_of rfl) (w_cmp16 (by omega)) ?_
  rintro _ _ ⟨⟨c, rfl, hc⟩, rfl⟩
  refine gg ?_
  refine ⟨chk_cons rfl (ld1 (by exact sel_of rfl) ((load1_own gF2).trans (by rfl))) (sv_fn _ _) (fun m hm => by
      simp only [List.mem_cons, List.not_mem_nil, or_false] at hm
      rcases hm with rfl | rfl
      · exact ⟨_, _, rfl, ld1 (by exact sel_of rfl) ((load1_own gF1).trans (by rfl))⟩
      · exact ⟨_, _, rfl, ld1 (by exact sel_of rfl) ((load1_own gF2).trans (by rfl))⟩) (chk_cons rfl (ldN (by exact sel_of rfl) (loadN_all g22 rfl)) (sv_nc _) (fun m hm => by
      simp only [List.mem_cons, List.not_mem_nil, or_false] at hm
      rcases hm with rfl | rfl
      · exact ⟨_, _, rfl, ldN (by exact sel_of rfl) (loadN_all g2 rfl)⟩
      · exact ⟨_, _, rfl, ldN (by exact sel_of rfl) (loadN_all g22 rfl)⟩) chk_nil), ?_⟩
  refine gg ?_
  refine ⟨c, rfl, ?_, (k1.trans k2).trans k3⟩
  simp only [ltJ]
  rw [decide_eq_decide]
  exact hc
theorem cpJ {B F C eF x0 : Nat} (gF : h.get F = some (.cells eF [.func (.func 34) #[] #[.pointer (some ⟨C, 0, none⟩)]] (.own false))) (gC : h.get C = some (.cells 27 [.int .u16 (x0 : Int)] (.own false))) (hF : F < h.next) (hC : C < h.next) (hx : x0 < 65536) (hB : B < h.next) (hBF : F ≠ B) (hBC : C ≠ B) : Cp h B 8 36 #[.pointer (some ⟨F, 0, none⟩)] (ltJ x0) :=
  ⟨hB, detSk2, fun h' k m hm x y => ResQ.mono (w_cmpJ ((k.get _ hF hBF).trans gF) ((k.get _ hC hBC).trans gC) (Nat.lt_of_lt_of_le hF k.next) (Nat.lt_of_lt_of_le hC k.next) hx (by omega)) (fun v h'' r => r)⟩
end
theorem w_sortF {h : Heap} {B n0 n C : Nat} {s : Option Nat} {g : FuncId} {cp : Array Value} {lt : El → El → Bool} {d : Array El} (cc : Cp h B n0 g cp lt) (hw : Sort.SWO lt) (dd : DtS h B d) (hN : d.size < 256) (hn : 2 * d.size + n0 + 25 ≤ n) :
    ResQ (callN Try.prog G0 n (.call 35 [.slice (some ⟨B, 0, s⟩) d.size C, .func (.func g) #[] cp]) h) (fun _ h' => ∃ d' : Array El, d'.toList.Perm d.toList ∧ Sort.SortedIn lt 0 d.size d' ∧ KeepsB B h h' ∧ DtS h' B d') := by
  obtain ⟨n, rfl⟩ : ∃ m, n = m + 1 := ⟨n - 1, by omega⟩
  refine res_enter rfl d35 rfl ?_; simp only [c35]
  refine gg ?_
  refine i_call1 (by exact sel_of rfl) (w_len (m := d.size) hN (by omega)) ?_
  rintro _ _ ⟨b, rfl, b1, b2, b3, rfl⟩
  refine gg ?_
  refine i_call5 (by exact sel_of rfl) (v2 := .int .i64 ((0 : Nat) : Int)) (by exact const_of) (by exact sel_of rfl) (by exact sel_of rfl) (by exact sel_of rfl) (w_pdq cc hw hN d.size (a := 0) (b := d.size) (lim := b) (by omega) (KeepsB.refl _ _) dd rfl (by omega) (by omega) (by omega) (.inl rfl) (by omega)) ?_
  rintro _ h2 ⟨d', p, so, k, dd'⟩
  refine gg ?_
  refine ⟨d', ?_, so, k, dd'⟩
  have p3 := p.2.2
  have h1 := p.1
  rw [Array.extract_size] at p3
  have : d'.extract 0 d.size = d' := by rw [← h1]; exact Array.extract_size
  rw [this] at p3
  exact p3
theorem w_sort0 {fv : Value} {h : Heap} {n : Nat} (hn : 20 ≤ n) : ResQ (callN Try.prog G0 n (.call 35 [.slice none 0 0, fv]) h) (fun v h' => h = h') := by
  obtain ⟨m, rfl⟩ : ∃ m, n = m + 20 := ⟨n - 20, by omega⟩
  exact res_jump (by kernel_rfl) (by kernel_rfl)
end Go.Proofs.Ytnffglfpjcbfaaa

/-! The row of what is skipped, sorted. -/
set_option linter.unusedVariables false
namespace Go.Proofs.Ytnffglfpjcbfaaa
open Go Vm
def kc (k : Nat × Nat) : List Value := [.int .u16 (k.1 : Int), .int .u16 (k.2 : Int)]
def enc (k : Nat × Nat) : El := ((k.1 * 65536 + k.2 : Nat) : Int)
theorem nc_enc {k : Nat × Nat} (h : k.2 < 65536) : nc (enc k) = kc k := by
  have h1 : enc k / 65536 = (k.1 : Int) := by show (((k.1 * 65536 + k.2 : Nat) : Int)) / 65536 = _; omega
  have h2 : enc k % 65536 = (k.2 : Int) := by show (((k.1 * 65536 + k.2 : Nat) : Int)) % 65536 = _; omega
  unfold nc kc
  rw [h1, h2]
theorem kc_length (k : Nat × Nat) : (kc k).length = 2 := rfl
theorem ncs_enc : ∀ {l : List (Nat × Nat)}, (∀ k ∈ l, k.2 < 65536) → (l.map enc).flatMap nc = l.flatMap kc
  | [], _ => rfl
  | k :: l, h => by
    rw [List.map_cons, List.flatMap_cons, List.flatMap_cons, nc_enc (h k (by simp)), ncs_enc fun y hy => h y (List.mem_cons_of_mem _ hy)]
/-- what a row of pairs came from, put in order -/
theorem perm_enc {l : List (Nat × Nat)} : ∀ {d : List El}, d.Perm (l.map enc) → ∃ l' : List (Nat × Nat), d = l'.map enc ∧ (∀ k ∈ l', k ∈ l) ∧ l'.length = l.length := by
  intro d p
  have h1 : ∀ x ∈ d, ∃ k ∈ l, enc k = x := fun x hx => by
    have := p.mem_iff.1 hx
    exact List.mem_map.1 this
  have h2 : d.length = l.length := by rw [p.length_eq, List.length_map]
  have h3 : ∀ {d : List El}, (∀ x ∈ d, ∃ k ∈ l, enc k = x) → ∃ l' : List (Nat × Nat), d = l'.map enc ∧ ∀ k ∈ l', k ∈ l := by
    intro d
    induction d with
    | nil => exact fun _ => ⟨[], rfl, fun k hk => by cases hk⟩
    | cons x d ih =>
      intro h
      obtain ⟨k, hk, rfl⟩ := h x (by simp)
      obtain ⟨l', rfl, hl⟩ := ih (fun y hy => h y (List.mem_cons_of_mem _ hy))
      refine ⟨k :: l', rfl, fun y hy => ?_⟩
      rcases List.mem_cons.1 hy with rfl | hy
      · exact hk
      · exact hl y hy
  obtain ⟨l', rfl, h4⟩ := h3 h1
  exact ⟨l', rfl, h4, by rw [← h2, List.length_map]⟩
section
variable {h : Heap} {n : Nat}
theorem w_sortL {F C eF x0 I : Nat} {ol : Option Addr} {l : List (Nat × Nat)} (gF : h.get F = some (.cells eF [.func (.func 34) #[] #[.pointer (some ⟨C, 0, none⟩)]] (.own false))) (gC : h.get C = some (.cells 27 [.int .u16 (x0 : Int)] (.own false))) (hF : F < h.next) (hC : C < h.next) (hFI : F < I) (hCI : C < I) (hx : x0 < 65536)
    (ap : Ap I h 78 2 ol l.length l.length (l.flatMap kc)) (hsp : ∀ q, ol = some q → q.spot ≠ none) (hl : l.length < 256) (hk : ∀ k ∈ l, k.2 < 65536) (hn : 700 ≤ n) :
    ResQ (callN Try.prog G0 n (.call 35 [.slice ol l.length l.length, .func (.func 36) #[] #[.pointer (some ⟨F, 0, none⟩)]]) h) (fun _ h' => ∃ l' : List (Nat × Nat), (∀ k ∈ l', k ∈ l) ∧ l'.length = l.length ∧ Row h' 2 ol l.length (l'.flatMap kc) ∧ h.next ≤ h'.next ∧ ∀ d, d < h.next → d < I → h'.get d = h.get d) := by
  cases ol with
  | none =>
    have hl0 : l = [] := List.length_eq_zero_iff.1 ap.row.2
    subst hl0
    refine ResQ.mono (w_sort0 (by omega)) ?_
    rintro _ _ rfl
    exact ⟨[], (fun k hk => by cases hk), rfl, ap.row, Nat.le_refl _, fun _ _ _ => rfl⟩
  | some q =>
    rcases ap.2.2 q rfl with e | ⟨B, rfl, hB, gB⟩
    · exact absurd e (hsp q rfl)
    have hBn : B < h.next := ap.row.2.1
    have hd : DtS h B (l.map enc).toArray := ⟨hBn, 78, true, [], by rw [gB, List.append_nil]; show _ = some (Blk.cells _ ((l.map enc).flatMap nc) _); rw [ncs_enc hk]⟩
    have hsz : (l.map enc).toArray.size = l.length := by simp
    have := w_sortF (s := some 2) (C := l.length) (n := n) (cpJ gF gC hF hC hx hBn (by omega) (by omega)) (ltJ_swo x0) hd (by rw [hsz]; exact hl) (by rw [hsz]; omega)
    rw [hsz] at this
    refine ResQ.mono this ?_
    rintro _ h' ⟨d', hp, _, k, dd⟩
    obtain ⟨l', e, hm, hlen⟩ := perm_enc (by simpa using hp : d'.toList.Perm (l.map enc))
    obtain ⟨hB', e0, op, r, hg⟩ := dd
    rw [e, ncs_enc (fun k hk' => hk k (hm k hk'))] at hg
    have hlen2 : (l'.flatMap kc).length = l'.length * 2 := by
      clear e hg hm hlen
      induction l' with
      | nil => rfl
      | cons x l ih => rw [List.flatMap_cons, List.length_append, ih, kc_length, List.length_cons]; omega
    refine ⟨l', hm, hlen, ⟨by rw [hlen2, hlen], hB', .inr rfl, ?_⟩, k.next, fun d hd hdI => k.get d hd (by omega)⟩
    simp only [loadN, hg]
    have : Nat.ble (0 + l.length * 2) (l'.flatMap kc ++ r).length = true := by
      rw [Nat.ble_eq, List.length_append, hlen2, hlen]; omega
    rw [this, cond_true, List.drop_zero, List.take_append_of_le_length (by rw [hlen2, hlen]; exact Nat.le_refl _), List.take_of_length_le (by rw [hlen2, hlen]; exact Nat.le_refl _)]
end
end Go.Proofs.Ytnffglfpjcbfaaa

/-! join.skip, walked. -/
set_option linter.unusedVariables false
namespace Go.Proofs.Ytnffglfpjcbfaaa
open Go Vm
theorem det_skip {rec : Rec} {sg : Sel} {want b : Bool} {d : Put} {i : ISem} {a : Fr} {h : Heap} (hs : sg.f a = .bool b) (hb : (b == want) = false) : ∀ x y, (iGuard sg want d i).f rec a h ≠ .or x y := by
  intro x y e
  simp only [iGuard, hs] at e
  cases b <;> cases want <;> first | (cases hb; done) | (cases e; done)
theorem kcs_at : ∀ (l : List (Nat × Nat)) (i : Nat) (y : Nat × Nat), l[i]? = some y → ((l.flatMap kc).drop (i * 2)).take 2 = kc y
  | [], i, y, h => by cases h
  | x :: l, 0, y, h => by cases h; rfl
  | x :: l, i + 1, y, h => by
    have ih := kcs_at l i y h
    rw [← ih, show (i + 1) * 2 = 2 + i * 2 by omega, ← List.drop_drop]
    rfl
theorem kcs_snoc (l : List (Nat × Nat)) (k : Nat × Nat) : (l ++ [k]).flatMap kc = l.flatMap kc ++ kc k := by simp
section
variable {h : Heap} {n : Nat} {N L : Nat} {nx : List Nat} {ch : List (Nat × Ck)} {st : List ((Nat × Nat) × Mg)} {rd : List Mg} {held pend K : Nat} {ro : Option Addr}
theorem JI.pull (i : JI L nx ch st rd held 0 K) {k : Nat × Nat} {p : (Nat × Nat) × Mg} (hz : lookS st k = some p) : JI L nx ch (delS k st) (rd ++ [p.2]) held 0 K := by
  refine i.told (delS_sub _ _) ?_ i.le (fun m hm => ?_)
  · rw [mts_snoc]
    have h1 := lookS_del hz
    have h2 := i.sum
    omega
  · rcases List.mem_append.1 hm with h | h
    · exact .inl h
    · exact .inr ⟨p, List.mem_of_find?_eq_some hz, (List.mem_singleton.1 h).symm⟩
set_option maxHeartbeats 4000000 in
theorem w_skipI (j : Jn h N nx ch st rd held ro) (i : JI L nx ch st rd held 0 K) (hK : K ≤ 200) {s ssn : Nat} (hs : s < 65536) (hssn : ssn < 65536) (hn : 70100 ≤ n) :
    ResQ (callN Try.prog G0 n (.call 27 [.pointer (some ⟨N + 3, 0, none⟩), .agg #[.int .u16 (s : Int), .int .u16 (ssn : Int)]]) h) (fun _ h' => ∃ ro', JS L N held K h' ro' ∧ Pres N h ro h' ro') := by
  have jup := j.up
  have hro : ∀ b, h.next ≤ b → Apart ro b := fun b hb r e => by
    obtain ⟨cs0, ap0, _⟩ := j.rdy
    subst e
    have : r.block < h.next := ap0.2.1.2.1
    omega
  obtain ⟨n, rfl⟩ : ∃ m, n = m + 1 := ⟨n - 1, by omega⟩
  refine res_enter rfl d27 rfl ?_; simp only [c27]
  refine o_cut (fun f h1 => (Keeps h h1 ∧ h.next < h1.next ∧ h1.get h.next = some (.cells 51 [.int .u16 (s : Int), .int .u16 (ssn : Int)] (.own false))) ∧ Sl [(0, .pointer (some ⟨N + 3, 0, none⟩)), (3, .pointer (some ⟨h.next, 0, none⟩))] f) ?_ ?_
  · refine gg ?_
    exact ⟨rfl, ⟨Keeps.new h _, Nat.lt_succ_self _, by rw [Heap.get_new, if_pos rfl]⟩, sel_of rfl, sel_of rfl, trivial⟩
  rintro f1 h1 ⟨⟨k1, lt1, g1⟩, hs'⟩
  obtain ⟨f0, rfl⟩ := hs'.puts
  clear hs'
  have j1 := j.keeps k1
  have top := j1.top
  have hrow := j1.nrow
  by_cases hsl : s < nx.length
  case neg =>
    refine gg ?_; repeat (refine i_ldown (by exact sel_of rfl) (by assumption) (by rfl) ?_; refine gg ?_)
    refine i_call2 (by exact sel_of rfl) (by exact sel_of rfl) (w_knowsB j1 hs (by omega)) ?_
    rintro _ _ ⟨rfl, rfl⟩
    rw [decide_eq_false hsl]
    refine gg ?_; repeat (refine i_ldown (by exact sel_of rfl) (by assumption) (by rfl) ?_; refine gg ?_)
    exact ⟨ro, ⟨_, _, _, _, _, j1, i, Nat.le_refl _⟩, Pres.keeps k1⟩
  obtain ⟨x, hx⟩ : ∃ x, nx[s]? = some x := ⟨_, List.getElem?_eq_getElem hsl⟩
  have hx16 := i.nx x (List.mem_of_getElem? hx)
  have cell : ∀ sp, load1 h1.get ⟨N, 0 + s * 1, sp⟩ = some (.int .u16 (x : Int)) := fun sp => by
    refine (hrow.cell (i := s * 1) (by omega) sp).trans ?_
    rw [Nat.mul_one, List.getElem?_map, hx]; rfl
  by_cases hless : ssn ≠ x ∧ (x + 65536 - ssn) % 65536 ≤ 32767
  case pos =>
    refine gg ?_; repeat (refine i_ldown (by exact sel_of rfl) (by assumption) (by rfl) ?_; refine gg ?_)
    refine i_call2 (by exact sel_of rfl) (by exact sel_of rfl) (w_knowsB j1 hs (by omega)) ?_
    rintro _ _ ⟨rfl, rfl⟩
    rw [decide_eq_true hsl]
    refine gg ?_; repeat (refine i_ldown (by exact sel_of rfl) (by assumption) (by rfl) ?_; refine gg ?_)
    refine i_idx (i := s) (by exact sel_of rfl) hrow (by exact sel_of rfl) hsl fun q hq => ?_
    cases hq
    refine gg ?_
    refine i_load1 (v := .int .u16 (x : Int)) (by exact sel_of rfl) (cell _) ?_
    refine gg ?_
    refine i_call2 (by exact sel_of rfl) (by exact sel_of rfl) (w_less hssn hx16 (by omega)) ?_
    rintro _ _ ⟨rfl, rfl⟩
    rw [decide_eq_true hless]
    refine gg ?_
    exact ⟨ro, ⟨_, _, _, _, _, j1, i, Nat.le_refl _⟩, Pres.keeps k1⟩
  refine o_cut (fun f h2 => h1 = h2 ∧ Sl [(0, .pointer (some ⟨N + 3, 0, none⟩)), (3, .pointer (some ⟨h.next, 0, none⟩))] f) ?_ ?_
  · refine gg ?_; repeat (refine i_ldown (by exact sel_of rfl) (by assumption) (by rfl) ?_; refine gg ?_)
    refine i_call2 (by exact sel_of rfl) (by exact sel_of rfl) (w_knowsB j1 hs (by omega)) ?_
    rintro _ _ ⟨rfl, rfl⟩
    rw [decide_eq_true hsl]
    refine gg ?_; repeat (refine i_ldown (by exact sel_of rfl) (by assumption) (by rfl) ?_; refine gg ?_)
    refine i_idx (i := s) (by exact sel_of rfl) hrow (by exact sel_of rfl) hsl fun q hq => ?_
    cases hq
    refine gg ?_
    refine i_load1 (v := .int .u16 (x : Int)) (by exact sel_of rfl) (cell _) ?_
    refine gg ?_
    refine i_call2 (by exact sel_of rfl) (by exact sel_of rfl) (w_less hssn hx16 (by omega)) ?_
    rintro _ _ ⟨rfl, rfl⟩
    rw [decide_eq_false hless]
    refine gg ?_
    exact ⟨rfl, rfl, sel_of rfl, sel_of rfl, trivial⟩
  rintro f2 _ ⟨rfl, hs'⟩
  obtain ⟨f0, rfl⟩ := hs'.puts
  clear hs'
  refine o_cut (fun f h2 => (Keeps h1 h2 ∧ h1.next < h2.next ∧ h2.get h1.next = some (.cells 27 [.int .u16 (x : Int)] (.own false))) ∧ Sl [(0, .pointer (some ⟨N + 3, 0, none⟩)), (3, .pointer (some ⟨h.next, 0, none⟩)), (4, .pointer (some ⟨h1.next, 0, none⟩))] f) ?_ ?_
  · refine gg ?_; repeat (refine i_ldown (by exact sel_of rfl) (by assumption) (by rfl) ?_; refine gg ?_)
    refine i_idx (i := s) (by exact sel_of rfl) hrow (by exact sel_of rfl) hsl fun q hq => ?_
    cases hq
    refine gg ?_
    refine i_load1 (v := .int .u16 (x : Int)) (by exact sel_of rfl) (cell _) ?_
    refine gg ?_
    refine i_storeF (vs := [.int .u16 (x : Int)]) (Keeps.new h1 _) (Nat.le_refl _) (by exact sel_of rfl) (by rw [sel_of rfl]; rfl) (by rw [Heap.get_new, if_pos rfl]) rfl rfl (Nat.lt_succ_self _) fun h2 k2 g2 lt2 => ?_
    refine gg ?_
    exact ⟨rfl, ⟨k2, lt2, g2⟩, sel_of rfl, sel_of rfl, sel_of rfl, trivial⟩
  rintro f2 h2 ⟨⟨k2, lt2, g2⟩, hs'⟩
  obtain ⟨f0, rfl⟩ := hs'.puts
  clear hs'
  refine o_cut (fun f h3 => (Keeps h2 h3 ∧ h2.next < h3.next ∧ h3.get h2.next = some (.cells 82 [.func (.func 34) #[] #[.pointer (some ⟨h1.next, 0, none⟩)]] (.own false))) ∧ Sl [(0, .pointer (some ⟨N + 3, 0, none⟩)), (3, .pointer (some ⟨h.next, 0, none⟩)), (4, .pointer (some ⟨h1.next, 0, none⟩)), (5, .pointer (some ⟨h2.next, 0, none⟩))] f) ?_ ?_
  · refine gg ?_
    refine i_storeF (vs := [.func (.func 34) #[] #[.pointer (some ⟨h1.next, 0, none⟩)]]) (Keeps.new h2 _) (Nat.le_refl _) (by exact sel_of rfl) (by rw [sel_of rfl]; rfl) (by rw [Heap.get_new, if_pos rfl]) rfl rfl (Nat.lt_succ_self _) fun h3 k3 g3 lt3 => ?_
    refine gg ?_
    exact ⟨rfl, ⟨k3, lt3, g3⟩, sel_of rfl, sel_of rfl, sel_of rfl, sel_of rfl, trivial⟩
  rintro f3 h3 ⟨⟨k3, lt3, g3⟩, hs'⟩
  obtain ⟨f0, rfl⟩ := hs'.puts
  clear hs'
  have j3 := j1.keeps (k2.trans k3)
  have g23 := (k3.get _ lt2).trans g2
  have g13 := ((k2.trans k3).get _ lt1).trans g1
  have n13 := (k2.trans k3).next
  have n1 := k1.next
  obtain ⟨es, cc, gm, hsc⟩ := j3.sts
  have hesl := hsc.l.lenM
  have hfew := i.few
  have hstk : st.length ≤ 200 := by omega
  clear top hrow cell
  have top := j3.top
  have jup3 := j3.up
  refine gg ?_; repeat (refine i_ldown (by exact sel_of rfl) (by assumption) (by rfl) ?_; refine gg ?_)
  refine i_range (by exact sel_of rfl) gm ?_
  have kI : Keeps h3 (h3.new (.iter (some (N + 2)) cc [] cc)) := Keeps.new h3 _
  have gI : (h3.new (.iter (some (N + 2)) cc [] cc)).get h3.next = some (.iter (some (N + 2)) cc [] cc) := by rw [Heap.get_new, if_pos rfl]
  have nI : h3.next + 1 = (h3.new (.iter (some (N + 2)) cc [] cc)).next := rfl
  generalize h3.new (.iter (some (N + 2)) cc [] cc) = hI at *
  refine i_nil (then_n ?_)
  have memst := hsc.l.memM
  refine o_while (fun k f h' => ∃ (seen : List Nat) (ol : Option Addr) (l : List (Nat × Nat)), (KeepsB h3.next hI h' ∧ h'.get h3.next = some (.iter (some (N + 2)) cc seen cc) ∧ (leftE seen es).length = k ∧ l.length + k ≤ es.length ∧ (∀ y ∈ l, y.2 < 65536) ∧ Ap (h3.next + 1) h' 78 2 ol l.length l.length (l.flatMap kc) ∧ (∀ q, ol = some q → q.spot ≠ none)) ∧ Sl [(6, .slice ol l.length l.length), (41, iterTo h3.next), (0, .pointer (some ⟨N + 3, 0, none⟩)), (3, .pointer (some ⟨h.next, 0, none⟩)), (4, .pointer (some ⟨h1.next, 0, none⟩)), (5, .pointer (some ⟨h2.next, 0, none⟩))] f) (leftE [] es).length ?_ ⟨[], none, [], ⟨KeepsB.refl _ _, gI, rfl, by rw [leftE_nil]; simp, (fun y hy => by cases hy), Ap.nil _ _ _ _, (fun q e => by cases e)⟩, sel_of rfl, sel_of rfl, sel_of rfl, sel_of rfl, sel_of rfl, sel_of rfl, trivial⟩ ?_
  · rw [leftE_nil]; omega
  rintro k f h' ⟨seen, ol, l, ⟨kB, gi, hk, hlk, hl16, ap, hsp⟩, hs'⟩
  obtain ⟨f0, rfl⟩ := hs'.puts
  clear hs'
  have nB := kB.next
  have gm' : h'.get (N + 2) = some (.map es cc) := (kB.get _ (by omega) (by omega)).trans ((kI.get _ (by omega)).trans gm)
  simp only [c27_0]
  refine gg ?_
  refine i_next (by exact sel_of rfl) gi gm' (stale_no hsc.lt) (fun _ => ?_) (fun e he => ⟨hsc.lt e (leftE_sub _ _ e he).1, ?_⟩)
  · refine gg ?_
    have k3' : Keeps h3 h' := ⟨by omega, fun d hd => (kB.get d (by omega) (by omega)).trans (kI.get d hd)⟩
    refine i_call2 (by exact sel_of rfl) (by exact sel_of rfl) (w_sortL (F := h2.next) (C := h1.next) (I := h3.next + 1) (x0 := x) ((k3'.get _ (by omega)).trans g3) ((k3'.get _ (by omega)).trans g23) (by omega) (by omega) (by omega) (by omega) hx16 ap hsp (by omega) hl16 (by omega)) ?_
    rintro _ h5 ⟨l', hmem, hlen', row5, n5, keep5⟩
    have k35 : Keeps h3 h5 := ⟨by omega, fun d hd => (keep5 d (by omega) (by omega)).trans (k3'.get d hd)⟩
    have j5 := j3.keeps k35
    have gs5 := (k35.get h.next (by omega)).trans g13
    have hol : ∀ q, ol = some q → h3.next + 1 ≤ q.block := fun q hq => by
      rcases ap.2.2 q hq with e | ⟨b, rfl, hb, _⟩
      · exact absurd e (hsp q hq)
      · exact hb
    refine gg ?_
    refine o_up l.length (fun a f h6 => (∃ st' rd' ro', Jn h6 N nx ch st' rd' held ro' ∧ JI L nx ch st' rd' held 0 K ∧ Pres N h5 ro h6 ro') ∧ Sl [(70, .int .i64 ((a : Nat) : Int)), (69, .int .i64 (l.length : Int)), (68, .slice ol l.length l.length), (0, .pointer (some ⟨N + 3, 0, none⟩)), (3, .pointer (some ⟨h.next, 0, none⟩))] f) (by omega) ⟨⟨st, rd, ro, j5, i, Pres.refl⟩, sel_of rfl, sel_of rfl, sel_of rfl, sel_of rfl, sel_of rfl, trivial⟩ ?_
    rintro a f h6 ha ⟨⟨st6, rd6, ro6, j6, i6, p6⟩, hs'⟩
    obtain ⟨f0, rfl⟩ := hs'.puts
    clear hs'
    have hrl := i6.rdl
    have hsm6 := i6.sum
    have hle6 := i6.le
    have row6 := p6.row row5 (fun q hq => ⟨.inr (by have := hol q hq; omega), hro _ (by have := hol q hq; omega)⟩)
    clear top
    simp only [c27_1]
    refine gg ?_
    refine out_if (by exact sel_of rfl) (fun hif => ?_) (fun hif => ?_)
    · have ha' : a < l.length := by omega
      obtain ⟨y, hy⟩ : ∃ y, l'[a]? = some y := ⟨_, List.getElem?_eq_getElem (by omega)⟩
      refine gg ?_
      refine i_idx (by exact sel_of rfl) row6 (i := a) (by exact sel_of rfl) ha' fun q hq => ?_
      refine i_loadN (v := kc y) (by exact sel_of rfl) (by rw [← kcs_at l' a y hy]; subst hq; exact row6.cells (by omega) _) ?_
      refine gg ?_
      refine i_storeF (vs := kc y) (Keeps.new h6 _) (Nat.le_refl _) (by exact sel_of rfl) (by rw [sel_of rfl]; rfl) (by rw [Heap.get_new, if_pos rfl]) rfl rfl (Nat.lt_succ_self _) fun h7 k7 g7 lt7 => ?_
      have j7 := j6.keeps k7
      refine gg ?_
      refine i_loadN (v := kc y) (by exact sel_of rfl) (loadN_all g7 rfl) ?_
      refine gg ?_
      cases hz : lookS st6 y with
      | none =>
        refine i_call2 (by exact sel_of rfl) (by rw [sel_of rfl]; rfl) (w_pullN j7 (k := y) hz (by omega)) ?_
        rintro _ h8 ⟨rfl, k8⟩
        refine gg ?_
        exact rnd_up ha' ⟨⟨st6, rd6, ro6, j7.keeps k8, i6, p6.trans (Pres.keeps (k7.trans k8))⟩, sel_of rfl, sel_of rfl, sel_of rfl, sel_of rfl, sel_of rfl, trivial⟩
      | some p =>
        refine i_call2 (by exact sel_of rfl) (by rw [sel_of rfl]; rfl) (w_pullS j7 (k := y) hz (by omega) (by omega)) ?_
        rintro _ h8 ⟨rfl, ro8, j8, p8⟩
        refine gg ?_
        exact rnd_up ha' ⟨⟨_, _, ro8, j8, i6.pull hz, (p6.trans (Pres.keeps k7)).trans p8⟩, sel_of rfl, sel_of rfl, sel_of rfl, sel_of rfl, sel_of rfl, trivial⟩
    · refine gg ?_
      have gs6 := (p6.get h.next (by omega) (.inr (by omega)) (hro _ (Nat.le_refl _))).trans gs5
      have top6 := j6.top
      have jup6 := j6.up
      refine gg ?_; repeat (refine i_ldown (by exact sel_of rfl) (by assumption) (by rfl) ?_; refine gg ?_)
      refine i_addW (by exact sel_of rfl) (by rfl) (wrap_u16 (ssn + 1)) ?_
      refine i_idx (i := s) (by exact sel_of rfl) j6.nrow (by exact sel_of rfl) hsl fun q hq => ?_
      cases hq
      refine i_store1 (u := ⟨N, 0 + s * 1, some 0⟩) (v := .int .u16 (((ssn + 1) % 65536 : Nat) : Int)) (by exact sel_of rfl) (by rw [sel_of rfl]; rfl) j6.nxt (by simp; omega) ?_
      obtain ⟨j7, p7⟩ := j6.setNx s ((ssn + 1) % 65536)
      have gs7 : (h6.put N (.cells 27 ((nx.map fun (x : Nat) => Value.int .u16 (x : Int)).set (0 + s * 1) (.int .u16 (((ssn + 1) % 65536 : Nat) : Int))) (.own false))).get h.next = some (.cells 51 [.int .u16 (s : Int), .int .u16 (ssn : Int)] (.own false)) := by
        rw [Heap.get_put, if_neg (by omega)]; exact gs6
      generalize h6.put N (.cells 27 ((nx.map fun (x : Nat) => Value.int .u16 (x : Int)).set (0 + s * 1) (.int .u16 (((ssn + 1) % 65536 : Nat) : Int))) (.own false)) = h7 at *
      clear top6
      obtain ⟨mm, st8, x8, rd8, hmm, t, sub, sm, hx8, hmem8⟩ := tel_ex s st6.length st6 ((ssn + 1) % 65536) rd6 (Nat.le_refl _) (by omega)
      have hsl6 := i6.stl
      refine gg ?_; repeat (refine i_ldown (by exact sel_of rfl) (by assumption) (by rfl) ?_; refine gg ?_)
      refine i_call2 (by exact sel_of rfl) (by exact sel_of rfl) (w_tell j7 (s := s) (x := (ssn + 1) % 65536) (by rw [List.getElem?_set_self hsl]) t (by omega) (by omega)) ?_
      rintro _ h8 ⟨ro8, j8, p8⟩
      refine gg ?_
      exact ⟨ro8, ⟨_, _, _, _, _, j8, ((i6.set (by omega)).told sub (by omega) hle6 hmem8).set hx8, Nat.le_refl _⟩, (((Pres.keeps ((k1.trans (k2.trans k3)).trans k35)).trans p6).trans p7).trans p8⟩
  · have hlt := leftE_lt seen es e he
    have kB2 : KeepsB h3.next hI (h'.put h3.next (.iter (some (N + 2)) cc (seen ++ [e.2.2]) cc)) := ⟨kB.next, fun d hd hne => by rw [Heap.get_put, if_neg hne]; exact kB.get d hd hne⟩
    have gi2 : (h'.put h3.next (.iter (some (N + 2)) cc (seen ++ [e.2.2]) cc)).get h3.next = some (.iter (some (N + 2)) cc (seen ++ [e.2.2]) cc) := by rw [Heap.get_put, if_pos rfl]
    have gm2 : (h'.put h3.next (.iter (some (N + 2)) cc (seen ++ [e.2.2]) cc)).get (N + 2) = some (.map es cc) := by rw [Heap.get_put, if_neg (by omega)]; exact gm'
    have ap2 := apB ap (putB h' h3.next (.iter (some (N + 2)) cc (seen ++ [e.2.2]) cc)) (fun q hq => by
      rcases ap.2.2 q hq with e | ⟨b, rfl, hb, _⟩
      · exact absurd e (hsp q hq)
      · show b ≠ h3.next; omega)
    have n2' : h'.next = (h'.put h3.next (.iter (some (N + 2)) cc (seen ++ [e.2.2]) cc)).next := rfl
    generalize h'.put h3.next (.iter (some (N + 2)) cc (seen ++ [e.2.2]) cc) = h4 at *
    obtain ⟨e', he', hst'⟩ := stampE_mem ⟨e, (leftE_sub _ _ e he).1, rfl⟩
    obtain ⟨p, hp, hkey, v, hv, hcv⟩ := memst e' he'
    obtain ⟨hpL, hp16, hpd⟩ := i.sts p hp
    refine gg ?_
    refine i_entry (k := nkey p.1) (v := e'.2.1) (by exact sel_of rfl) gi2 (lastN_snoc _ _) gm2 (by rw [hst', hkey]) ?_
    refine gg ?_
    refine i_storeF (vs := kc p.1) (Keeps.new h4 _) (Nat.le_refl _) (by exact sel_of rfl) (by rw [sel_of rfl]; rfl) (by rw [Heap.get_new, if_pos rfl]) rfl rfl (Nat.lt_succ_self _) fun h5 k5 g5 lt5 => ?_
    refine i_nil (then_n ?_)
    have n4 := kB2.next
    have gs5 := (k5.get h.next (by omega)).trans ((kB2.get h.next (by omega) (by omega)).trans ((kI.get h.next (by omega)).trans g13))
    have gC5 := (k5.get h1.next (by omega)).trans ((kB2.get h1.next (by omega) (by omega)).trans ((kI.get h1.next (by omega)).trans g23))
    have gD5 := (k5.get h2.next (by omega)).trans ((kB2.get h2.next (by omega) (by omega)).trans ((kI.get h2.next (by omega)).trans g3))
    have gi5 := (k5.get h3.next (by omega)).trans gi2
    have n5 := k5.next
    have g5' : h5.get h4.next = some (.cells 78 [.int .u16 (p.1.1 : Int), .int .u16 (p.1.2 : Int)] (.own false)) := g5
    refine o_cut (fun f h6 => Keeps h5 h6 ∧ ∃ t : Bool, Sl [(60, .bool t), (6, .slice ol l.length l.length), (7, .pointer (some ⟨h4.next, 0, none⟩)), (41, iterTo h3.next), (0, .pointer (some ⟨N + 3, 0, none⟩)), (3, .pointer (some ⟨h.next, 0, none⟩)), (4, .pointer (some ⟨h1.next, 0, none⟩)), (5, .pointer (some ⟨h2.next, 0, none⟩))] f) ?_ ?_
    · clear top
      by_cases hse : p.1.1 = s
      · refine gg ?_; repeat (refine i_ldown (by exact sel_of rfl) (by assumption) (by rfl) ?_; refine gg ?_)
        rw [decide_eq_true (p := ((p.1.1 : Nat) : Int) = ((s : Nat) : Int)) (by omega)]
        refine i_loadN (v := kc p.1) (by exact sel_of rfl) (loadN_all g5 rfl) ?_
        refine it_one ?_
        refine tr_consD (det_dgcall detSk1 (by exact sel_of rfl)) ?_
        refine i_live (by exact sel_of rfl) ?_
        refine i_callc1 (by exact sel_of rfl) (by exact sel_of rfl) (w_farJ gC5 (by omega) hx16 (by omega)) ?_
        rintro _ h6 ⟨rfl, k6⟩
        have gs6 := (k6.get _ (by omega)).trans gs5
        have gC6 := (k6.get _ (by omega)).trans gC5
        clear gD5 gi5
        refine gg ?_; repeat (refine i_ldown (by exact sel_of rfl) (by assumption) (by rfl) ?_; refine gg ?_)
        refine i_subW (by exact sel_of rfl) (by exact sel_of rfl) (sub16 ssn hx16) ?_
        refine gg ?_
        refine ⟨chk_live rfl (ld1 (by exact sel_of rfl) ((load1_own gs6).trans (by rfl))) (sv_int _ _) (fun m hm => by
          simp only [List.mem_cons, List.not_mem_nil, or_false] at hm
          rcases hm with rfl | rfl
          · exact ⟨_, _, rfl, ld1 (by exact sel_of rfl) ((load1_own gs5).trans (by rfl))⟩
          · exact ⟨_, _, rfl, ld1 (by exact sel_of rfl) ((load1_own gs6).trans (by rfl))⟩) (chk_live rfl (ld1 (by exact sel_of rfl) ((load1_own gC6).trans (by rfl))) (sv_int _ _) (fun m hm => by
          simp only [List.mem_cons, List.not_mem_nil, or_false] at hm
          rcases hm with rfl | rfl
          · exact ⟨_, _, rfl, ld1 (by exact sel_of rfl) ((load1_own gC5).trans (by rfl))⟩
          · exact ⟨_, _, rfl, ld1 (by exact sel_of rfl) ((load1_own gC6).trans (by rfl))⟩) chk_nil), ?_⟩
        exact ⟨rfl, k6, _, sel_of rfl, sel_of rfl, sel_of rfl, sel_of rfl, sel_of rfl, sel_of rfl, sel_of rfl, sel_of rfl, trivial⟩
      · refine gg ?_; repeat (refine i_ldown (by exact sel_of rfl) (by assumption) (by rfl) ?_; refine gg ?_)
        rw [decide_eq_false (p := ((p.1.1 : Nat) : Int) = ((s : Nat) : Int)) (by omega)]
        refine gg ?_; repeat (refine i_ldown (by exact sel_of rfl) (by assumption) (by rfl) ?_; refine gg ?_)
        refine tr_consD (det_skip (b := false) (by exact sel_of rfl) rfl) ?_
        refine gg ?_; repeat (refine i_ldown (by exact sel_of rfl) (by assumption) (by rfl) ?_; refine gg ?_)
        refine ⟨chk_skip rfl (by exact sel_of rfl) rfl (chk_skip rfl (by exact sel_of rfl) rfl chk_nil), ?_⟩
        exact ⟨rfl, Keeps.refl _, false, sel_of rfl, sel_of rfl, sel_of rfl, sel_of rfl, sel_of rfl, sel_of rfl, sel_of rfl, sel_of rfl, trivial⟩
    rintro f6 h6 ⟨k6, t, hs'⟩
    obtain ⟨f0, rfl⟩ := hs'.puts
    clear hs'
    have n6 := k6.next
    have ap6 := (ap2.keeps k5).keeps k6
    have gi6 := (k6.get _ (by omega)).trans gi5
    have g56 := (k6.get h4.next lt5).trans g5
    cases t with
    | false =>
      refine gg ?_
      exact rnd_n (leftE (seen ++ [e.2.2]) es).length (by omega) ⟨seen ++ [e.2.2], ol, l, ⟨(kB2.trans (k5.but _)).trans (k6.but _), gi6, rfl, by omega, hl16, ap6, hsp⟩, sel_of rfl, sel_of rfl, sel_of rfl, sel_of rfl, sel_of rfl, sel_of rfl, trivial⟩
    | true =>
      refine gg ?_
      refine i_loadN (v := kc p.1) (by exact sel_of rfl) (loadN_all g56 rfl) ?_
      refine i_bslice (cs := kc p.1) (by rfl) ?_
      have k7 : Keeps h6 (h6.new (.cells 78 (kc p.1) (.own false))) := Keeps.new h6 _
      have r7 : Row (h6.new (.cells 78 (kc p.1) (.own false))) 2 (some ⟨h6.next, 0, none⟩) 1 (kc p.1) := Row.new (by simp [kc]) rfl (.inl rfl)
      have n7 : (h6.new (.cells 78 (kc p.1) (.own false))).next = h6.next + 1 := rfl
      generalize h6.new (.cells 78 (kc p.1) (.own false)) = h7 at *
      have ap7 := ap6.keeps k7
      have gi7 := (k7.get _ (by omega)).trans gi6
      refine i_appF (B := h3.next + 1) (m := 1) (t := (l ++ [p.1]).length) (es := (l ++ [p.1]).flatMap kc) (by decide) (by omega) (by exact sel_of rfl) ap7 (by rw [sel_of rfl]; exact r7.src) rfl (by omega) (by simp) (kcs_snoc l p.1).symm fun h8 n8 e8 ap8 => ?_
      refine gg ?_
      have e8' : ∀ d, d < h3.next + 1 → h8.get d = h7.get d := fun d hd => e8 d (by omega) (fun q hq => .inl (by
        rcases ap7.2.2 q hq with e | ⟨b, rfl, hb, _⟩
        · exact absurd e (hsp q hq)
        · show d ≠ b; omega))
      have k08 : KeepsB h3.next hI h8 := ⟨by omega, fun d hd hne => (e8' d (by omega)).trans ((k7.get d (by omega)).trans ((k6.get d (by omega)).trans ((k5.get d (by omega)).trans (kB2.get d hd hne))))⟩
      refine rnd_n (leftE (seen ++ [e.2.2]) es).length (by omega) ⟨seen ++ [e.2.2], _, l ++ [p.1], ⟨k08, ?_, rfl, by simp; omega, fun y hy => ?_, ap8, fun q hq => by cases hq; simp⟩, sel_of rfl, sel_of rfl, sel_of rfl, sel_of rfl, sel_of rfl, sel_of rfl, trivial⟩
      · exact (e8' _ (by omega)).trans gi7
      · rcases List.mem_append.1 hy with hy | hy
        · exact hl16 y hy
        · rw [List.mem_singleton.1 hy]; exact hp16
end
end Go.Proofs.Ytnffglfpjcbfaaa

