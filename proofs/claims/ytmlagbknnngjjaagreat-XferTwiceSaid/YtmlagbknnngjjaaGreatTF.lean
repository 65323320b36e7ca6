/- Part of a proof by an abstract run of the program's code: TF. No condition. -/
import Derived.Test.YtmlagbknnngjjaaGreatTE
/-! The receiver: what the set of numbers tells. -/
set_option linter.unusedVariables false
namespace Go.Proofs.YtmlagbknnngjjaaGreat
open Go Vm
section
variable {h : Heap} {n S M cum : Nat} {dv : Value} {ns : List Nat}
theorem w_below {x : Nat} (g : Gp h S M cum ns dv) (hn : 2 ≤ n) :
    ResQ (callN Tryz.prog G0 n (.call 86 [pt S, .int .u32 (x : Int)]) h) (fun v h' => v = .bool (decide ((x + 4294967296 - cum) % 4294967296 = 0 ∨ 2147483648 ≤ (x + 4294967296 - cum) % 4294967296)) ∧ h = h') := by
  obtain ⟨n, rfl⟩ : ∃ m, n = m + 1 := ⟨n - 1, by omega⟩
  refine res_enter rfl d86 rfl ?_; simp only [c86]
  refine gg ?_
  refine i_load1 (v := .int .u32 (cum : Int)) (by exact sel_of rfl) ((load1_own g.gS).trans (by rfl)) ?_
  refine gg ?_
  refine i_call2 (by exact sel_of rfl) (by exact sel_of rfl) (w_dist g.lt.2.2 (by omega)) ?_
  rintro _ _ ⟨rfl, rfl⟩
  generalize (x + 4294967296 - cum) % 4294967296 = d at *
  refine gg ?_
  by_cases h0 : d = 0
  · refine gg ?_
    exact ⟨congrArg Value.bool (decide_eq_true (.inl h0)).symm, rfl⟩
  · refine gg ?_
    refine ⟨congrArg Value.bool ?_, rfl⟩
    rw [decide_eq_decide]
    show ((2147483648 : Int) ≤ (d : Int)) ↔ _
    omega
theorem w_has0 (g : Gp h S M cum [] dv) (hn : 3 ≤ n) :
    ResQ (callN Tryz.prog G0 n (.call 60 [pt S, .int .u32 (((cum + 1) % 4294967296 : Nat) : Int)]) h) (fun v h' => v = .bool false ∧ h = h') := by
  have hl := g.lt.2.2
  obtain ⟨l, c, gM, hl0, _⟩ := g.gM
  have : l = [] := List.map_eq_nil_iff.1 hl0
  subst this
  obtain ⟨n, rfl⟩ : ∃ m, n = m + 1 := ⟨n - 1, by omega⟩
  refine res_enter rfl d60 rfl ?_; simp only [c60]
  refine gg ?_
  refine i_call2 (by exact sel_of rfl) (by exact sel_of rfl) (w_below g (by omega)) ?_
  rintro _ _ ⟨rfl, rfl⟩
  rw [decide_eq_false (by omega)]
  refine gg ?_
  refine i_load1 (v := .map (some M)) (by exact sel_of rfl) ((load1_own g.gS).trans (by rfl)) ?_
  refine gg ?_
  refine i_lookup (res := none) (by exact sel_of rfl) gM (by exact sel_of rfl) rfl rfl ?_
  refine gg ?_
  exact ⟨rfl, rfl⟩
theorem w_hasB (g : Gp h S M cum ns dv) (hn : 3 ≤ n) :
    ResQ (callN Tryz.prog G0 n (.call 60 [pt S, .int .u32 (cum : Int)]) h) (fun v h' => v = .bool true ∧ h = h') := by
  have hl := g.lt.2.2
  obtain ⟨n, rfl⟩ : ∃ m, n = m + 1 := ⟨n - 1, by omega⟩
  refine res_enter rfl d60 rfl ?_; simp only [c60]
  refine gg ?_
  refine i_call2 (by exact sel_of rfl) (by exact sel_of rfl) (w_below g (by omega)) ?_
  rintro _ _ ⟨rfl, rfl⟩
  rw [decide_eq_true (by omega)]
  refine gg ?_
  exact ⟨rfl, rfl⟩
theorem w_gadd0 (g : Gp h S M cum [] dv) (hn : 10 ≤ n) :
    ResQ (callN Tryz.prog G0 n (.call 62 [pt S, .int .u32 (((cum + 1) % 4294967296 : Nat) : Int)]) h) (fun v h' => Gp h' S M ((cum + 1) % 4294967296) [] dv ∧ h'.next = h.next ∧ ∀ d, d < h.next → d ≠ S → d ≠ M → h'.get d = h.get d) := by
  have hl := g.lt.2.2
  have l1 := g.lt.1
  have l2 := g.lt.2.1
  obtain ⟨l, c, gM, hl0, _⟩ := g.gM
  have : l = [] := List.map_eq_nil_iff.1 hl0
  subst this
  have hSM : S ≠ M := fun e => by have := g.gS; rw [e, gM] at this; cases this
  obtain ⟨n, rfl⟩ : ∃ m, n = m + 1 := ⟨n - 1, by omega⟩
  refine res_enter rfl d62 rfl ?_; simp only [c62]
  refine gg ?_
  refine i_call2 (by exact sel_of rfl) (by exact sel_of rfl) (w_has0 g (by omega)) ?_
  rintro _ _ ⟨rfl, rfl⟩
  refine gg ?_
  refine i_load1 (v := .int .u32 (cum : Int)) (by exact sel_of rfl) ((load1_own g.gS).trans (by rfl)) ?_
  refine gg ?_
  refine i_call2 (by exact sel_of rfl) (by exact sel_of rfl) (w_dist hl (by omega)) ?_
  rintro _ _ ⟨rfl, rfl⟩
  have hd : ((cum + 1) % 4294967296 + 4294967296 - cum) % 4294967296 = 1 := by omega
  rw [hd]
  refine gg ?_
  refine i_load1 (v := .map (some M)) (by exact sel_of rfl) ((load1_own g.gS).trans (by rfl)) ?_
  refine gg ?_
  refine i_mapUpd (by exact sel_of rfl) gM (by exact sel_of rfl) (by exact const_of) rfl (ents_put .u32 _ _ _ _) ?_
  refine gg ?_
  have g2 : Gp (h.put M (.map (ents .u32 (putN ((cum + 1) % 4294967296) (.bool true) c []).1) (putN ((cum + 1) % 4294967296) (.bool true) c []).2)) S M cum [(cum + 1) % 4294967296] dv := ⟨by rw [Heap.get_put, if_neg hSM]; exact g.gS, ⟨_, _, by rw [Heap.get_put, if_pos rfl], rfl, fun e he => by simp only [putN, List.mem_cons, List.not_mem_nil, or_false] at he; subst he; rfl⟩, l1, l2, hl⟩
  refine i_call1 (by exact sel_of rfl) (w_climb1 g2 (by omega)) ?_
  rintro _ h3 ⟨g3, n3, low⟩
  refine gg ?_
  exact ⟨g3, n3, fun d hd h5 h6 => (low d hd h5 h6).trans (by rw [Heap.get_put, if_neg h6])⟩
theorem w_gadd1 (g : Gp h S M cum [] (.slice none 0 0)) (hn : 10 ≤ n) :
    ResQ (callN Tryz.prog G0 n (.call 62 [pt S, .int .u32 (cum : Int)]) h) (fun v h' => ∃ k, Gp h' S M cum [] (.slice (some ⟨k, 0, some 1⟩) 1 1) ∧ h.next ≤ k ∧ k < h'.next ∧ h'.get k = some (.cells 22 [.int .u32 (cum : Int)] (.own true)) ∧ h.next ≤ h'.next ∧ ∀ d, d < h.next → d ≠ S → h'.get d = h.get d) := by
  have hl := g.lt.2.2
  have l1 := g.lt.1
  have l2 := g.lt.2.1
  obtain ⟨n, rfl⟩ : ∃ m, n = m + 1 := ⟨n - 1, by omega⟩
  refine res_enter rfl d62 rfl ?_; simp only [c62]
  refine gg ?_
  refine i_call2 (by exact sel_of rfl) (by exact sel_of rfl) (w_hasB g (by omega)) ?_
  rintro _ _ ⟨rfl, rfl⟩
  refine gg ?_
  have ld : load1 h.get ⟨S, 0 + 2, none⟩ = some (.slice none 0 0) := (load1_own g.gS).trans (by rfl)
  refine i_load1 (v := .slice none 0 0) (by exact sel_of rfl) ld ?_
  refine gg ?_
  refine i_load1 (v := .slice none 0 0) (by exact sel_of rfl) ld ?_
  refine gg ?_
  have k1 := Keeps.new h (.cells 22 [.int .u32 (cum : Int)] (.own false))
  have r1 : Row (h.new (.cells 22 [.int .u32 (cum : Int)] (.own false))) 1 (some ⟨h.next, 0, none⟩) 1 [.int .u32 (cum : Int)] := Row.new (by simp) rfl (.inl rfl)
  have n1 : (h.new (.cells 22 [.int .u32 (cum : Int)] (.own false))).next = h.next + 1 := rfl
  change ItQ (runItems _ _ _ (h.new (.cells 22 [.int .u32 (cum : Int)] (.own false)))) _
  generalize (h.new (.cells 22 [.int .u32 (cum : Int)] (.own false))) = h1 at *
  refine i_appF (B := h.next) (m := 1) (t := 1) (es := [.int .u32 (cum : Int)]) (by decide) (by omega) (by exact sel_of rfl) (Ap.nil _ _ _ _) (by rw [sel_of rfl]; exact r1.src) rfl (by omega) rfl rfl fun h2 n2 k2 a2 => ?_
  refine gg ?_
  have gS2 : h2.get S = some (.cells 97 [.int .u32 (cum : Int), .map (some M), .slice none 0 0] (.own false)) := (k2 S (by omega) (fun q e => by cases e)).trans ((k1.get S l1).trans g.gS)
  refine i_stB (b := S) (v := .slice (some ⟨h1.next, 0, some 1⟩) 1 1) (by exact sel_of rfl) (by rw [sel_of rfl]; rfl) gS2 (by show 2 < 3; decide) fun h3 k3 n3 g3 => ?_
  refine gg ?_
  have low : ∀ d, d < h.next → d ≠ S → h3.get d = h.get d := fun d hd h5 => by
    rw [k3.get d (by omega) h5, k2 d (by omega) (fun q e => by cases e), k1.get d hd]
  obtain ⟨l, c, gM, e1, e2⟩ := g.gM
  have hSM : M ≠ S := fun e => by have := g.gS; rw [← e, gM] at this; cases this
  refine ⟨h1.next, ⟨g3, ⟨l, c, (low M l2 hSM).trans gM, e1, e2⟩, by omega, by omega, hl⟩, by omega, by omega, ?_, by omega, low⟩
  rw [k3.get _ (by omega) (by omega)]; exact ap_own a2
theorem w_cum (g : Gp h S M cum ns dv) (hn : 1 ≤ n) :
    ResQ (callN Tryz.prog G0 n (.call 44 [pt S]) h) (fun v h' => v = .int .u32 (cum : Int) ∧ h = h') := by
  obtain ⟨n, rfl⟩ : ∃ m, n = m + 1 := ⟨n - 1, by omega⟩
  refine res_enter rfl d44 rfl ?_; simp only [c44]
  refine gg ?_
  refine i_load1 (v := .int .u32 (cum : Int)) (by exact sel_of rfl) ((load1_own g.gS).trans (by rfl)) ?_
  refine gg ?_
  exact ⟨rfl, rfl⟩
theorem w_dups (g : Gp h S M cum ns dv) (hn : 1 ≤ n) :
    ResQ (callN Tryz.prog G0 n (.call 53 [pt S]) h) (fun v h' => v = dv ∧ Gp h' S M cum ns (.slice none 0 0) ∧ h'.next = h.next ∧ ∀ d, d < h.next → d ≠ S → h'.get d = h.get d) := by
  have l1 := g.lt.1
  have l2 := g.lt.2.1
  obtain ⟨n, rfl⟩ : ∃ m, n = m + 1 := ⟨n - 1, by omega⟩
  refine res_enter rfl d53 rfl ?_; simp only [c53]
  refine gg ?_
  refine i_load1 (v := dv) (by exact sel_of rfl) ((load1_own g.gS).trans (by rfl)) ?_
  refine gg ?_
  refine i_stB (b := S) (v := .slice none 0 0) (by exact sel_of rfl) (by rfl) g.gS (by show 2 < 3; decide) fun h3 k3 n3 g3 => ?_
  refine gg ?_
  obtain ⟨l, c, gM, e1, e2⟩ := g.gM
  have hSM : M ≠ S := fun e => by have := g.gS; rw [← e, gM] at this; cases this
  exact ⟨rfl, ⟨g3, ⟨l, c, (k3.get M l2 hSM).trans gM, e1, e2⟩, by omega, by omega, g.lt.2.2⟩, n3, fun d hd h5 => k3.get d hd h5⟩
theorem w_held {N held : Nat} {nx : List Nat} {k : Nat} {ro : Option Addr} (top : h.get (N + 3) = some (.cells 101 (jcells N nx ro k held) (.own false))) (hn : 1 ≤ n) :
    ResQ (callN Tryz.prog G0 n (.call 51 [pt (N + 3)]) h) (fun v h' => v = nv held ∧ h = h') := by
  obtain ⟨n, rfl⟩ : ∃ m, n = m + 1 := ⟨n - 1, by omega⟩
  refine res_enter rfl d51 rfl ?_; simp only [c51]
  refine gg ?_
  refine i_load1 (v := nv held) (by exact sel_of rfl) ((load1_own top).trans (by rfl)) ?_
  refine gg ?_
  exact ⟨rfl, rfl⟩
end
end Go.Proofs.YtmlagbknnngjjaaGreat

/-! The receiver: what it answers. -/
set_option linter.unusedVariables false
namespace Go.Proofs.YtmlagbknnngjjaaGreat
open Go Vm
theorem sort0 (m : Nat) (h : Heap) : callN Tryz.prog G0 (m + 20) (.call 83 [.slice none 0 0]) h = .ok (.tuple #[]) h := by kernel_rfl
section
variable {rec : Rec} {L : List (Nat × Value)} {f : Fr} {dt : Nat} {h : Heap} {K : Fr → Heap → Prop} {l : List ISem} {rd : Bool} {x : Sel} {M c since last b : Nat}
theorem i_cvZ {k k' : IntKind} {p r : Int} (hx : x.f (puts L f) = .int k p) (e : wrap k' p = r) (hq : ItQ (runItems rec l (puts ((dt, .int k' r) :: L) f) h) K) : ItQ (runItems rec (iOp (put dt) (.v rd (oConvInt k' x)) :: l) (puts L f) h) K := i_v (by simp only [oConvInt, hx, e]) hq
theorem i_range0 (hx : x.f (puts L f) = .map (some M)) (hg : h.get M = some (.map [] c)) (hq : ItQ (runItems rec l (puts ((dt, iterTo h.next) :: L) f) (h.new (.iter (some M) c [] c))) K) : ItQ (runItems rec (iOp (put dt) (.e (eRange x)) :: l) (puts L f) h) K := by
  refine items_cons (it_e ⟨_, _, ?_, hq⟩)
  simp only [eRange, hx, hg]
theorem i_next0 (hx : x.f (puts L f) = iterTo b) (hg : h.get b = some (.iter (some M) since [] last)) (hm : h.get M = some (.map [] c)) (hq : ItQ (runItems rec l (puts ((dt, .tuple #[.bool false]) :: L) f) h) K) : ItQ (runItems rec (iOp (put dt) (.e (eNext x)) :: l) (puts L f) h) K := by
  refine items_cons (it_e ⟨_, _, ?_, hq⟩)
  simp only [eNext, hx, iterTo, Nat.beq_refl, cond_true, hg, hm]
  rfl
end
section
variable {h : Heap} {n S M cum : Nat} {dv : Value}
theorem w_sort0 (hn : 20 ≤ n) : ResQ (callN Tryz.prog G0 n (.call 83 [.slice none 0 0]) h) (fun _ h' => h = h') := by
  obtain ⟨m, rfl⟩ : ∃ m, n = m + 20 := ⟨n - 20, by omega⟩
  exact ⟨_, _, sort0 m h, rfl⟩
theorem w_blocks (g : Gp h S M cum [] dv) (hn : 30 ≤ n) :
    ResQ (callN Tryz.prog G0 n (.call 52 [pt S]) h) (fun v h' => v = .slice none 0 0 ∧ Keeps h h') := by
  obtain ⟨l, c, gM, hl0, _⟩ := g.gM
  have : l = [] := List.map_eq_nil_iff.1 hl0
  subst this
  have l2 := g.lt.2.1
  obtain ⟨n, rfl⟩ : ∃ m, n = m + 1 := ⟨n - 1, by omega⟩
  refine res_enter rfl d52 rfl ?_; simp only [c52]
  refine gg ?_
  refine i_load1 (v := .map (some M)) (by exact sel_of rfl) ((load1_own g.gS).trans (by rfl)) ?_
  refine i_range0 (by exact sel_of rfl) gM ?_
  have k1 := Keeps.new h (.iter (some M) c [] c)
  have gI : (h.new (.iter (some M) c [] c)).get h.next = some (.iter (some M) c [] c) := by rw [Heap.get_new, if_pos rfl]
  generalize h.new (.iter (some M) c [] c) = h1 at *
  refine gg ?_
  refine o_while (fun _ f h' => h1 = h' ∧ Sl [(15, iterTo h.next), (3, .slice none 0 0)] f) 0 (by omega) ⟨rfl, sel_of rfl, sel_of rfl, trivial⟩ ?_
  rintro _ f _ ⟨rfl, hs⟩
  obtain ⟨f0, rfl⟩ := hs.puts
  clear hs
  simp only [c52_0]
  refine gg ?_
  refine i_next0 (by exact sel_of rfl) gI ((k1.get _ l2).trans gM) ?_
  refine gg ?_
  refine i_call1 (by exact sel_of rfl) (w_sort0 (by omega)) ?_
  rintro _ _ rfl
  refine gg ?_
  refine o_while (fun _ f h' => h1 = h' ∧ Sl [(33, .int .i64 0), (32, .int .i64 ((0 : Nat) : Int)), (5, .slice none 0 0)] f) 0 (by omega) ⟨rfl, sel_of rfl, sel_of rfl, sel_of rfl, trivial⟩ ?_
  rintro _ f _ ⟨rfl, hs⟩
  obtain ⟨f0, rfl⟩ := hs.puts
  clear hs
  simp only [c52_1]
  refine gg ?_
  refine i_minZ (k' := .i64) (q := 64) (t := ((0 : Nat) : Int)) (by exact sel_of rfl) (by exact const_of) (by decide) ?_
  refine i_sl_hi (i := 0) (by exact sel_of rfl) (Row.nil h1 2) (Nat.le_refl _) (by exact sel_of rfl) (Nat.zero_le _) fun _ => ?_
  refine gg ?_
  exact ⟨rfl, k1⟩
/-- a Sack's cells -/
def sackv (cum held : Nat) (dv : Value) : List Value := [.int .u8 ((3 : Nat) : Int), .int .u8 ((0 : Nat) : Int), .int .u32 (cum : Int), .int .u32 ((65536 - held : Nat) : Int), .int .u16 ((0 : Nat) : Int), .int .u16 ((0 : Nat) : Int), .int .u32 ((0 : Nat) : Int), .slice none 0 0, dv, .slice none 0 0, .slice none 0 0, .slice none 0 0]
set_option maxHeartbeats 2000000 in
theorem w_answer1 {X N held k0 md : Nat} {od : Option Addr} {cs : List Value} {nx : List Nat} {ro : Option Addr} (hX : h.get X = some (.cells 79 cs (.own false))) (hXl : X < h.next) (hcl : cs.length = 21) (h18 : cs[18]? = some (pt S)) (h19 : cs[19]? = some (pt (N + 3))) (h20 : cs[20]? = some (.bool true)) (g : Gp h S M cum [] (.slice od md md)) (top : h.get (N + 3) = some (.cells 101 (jcells N nx ro k0 held) (.own false))) (hNl : N + 3 < h.next) (hh : held ≤ 65535) (hn : 40 ≤ n) :
    ResQ (callN Tryz.prog G0 n (.call 32 [.pointer (some ⟨X, 18, none⟩)]) h) (fun v h' => ∃ k, v = .slice (some ⟨k, 0, none⟩) 1 1 ∧ h.next ≤ k ∧ k < h'.next ∧ h'.get k = some (.cells 42 (sackv cum held (.slice od md md)) (.own false)) ∧ h'.get X = some (.cells 79 (cs.set 20 (.bool false)) (.own false)) ∧ Gp h' S M cum [] (.slice none 0 0) ∧ h.next ≤ h'.next ∧ ∀ d, d < h.next → d ≠ X → d ≠ S → h'.get d = h.get d) := by
  have hXN : N + 3 ≠ X := fun e => by rw [e, hX] at top; cases top
  have hSl := g.lt.1
  have hMl := g.lt.2.1
  have hXS : X ≠ S := fun e => by have := g.gS; rw [← e, hX] at this; cases this
  have hXM : X ≠ M := fun e => by obtain ⟨l, c, gM, _⟩ := g.gM; rw [← e, hX] at gM; cases gM
  obtain ⟨n, rfl⟩ : ∃ m, n = m + 1 := ⟨n - 1, by omega⟩
  refine res_enter rfl d32 rfl ?_; simp only [c32]
  refine gg ?_
  refine i_load1 (v := .bool true) (by exact sel_of rfl) ((load1_own hX).trans h20) ?_
  refine gg ?_
  refine i_stB (b := X) (v := .bool false) (by exact sel_of rfl) (by rfl) hX (by rw [hcl]; show 18 + 2 < 21; decide) fun h1 k1 n1 g1 => ?_
  have g1 : h1.get X = some (.cells 79 (cs.set 20 (.bool false)) (.own false)) := g1
  have e18 : (cs.set 20 (.bool false))[18]? = some (pt S) := by rw [List.getElem?_set_ne (by decide)]; exact h18
  have e19 : (cs.set 20 (.bool false))[19]? = some (pt (N + 3)) := by rw [List.getElem?_set_ne (by decide)]; exact h19
  have gp1 : Gp h1 S M cum [] (.slice od md md) := by
    obtain ⟨gS, ⟨l, c, gM, e1, e2⟩, l1, l2, l3⟩ := g
    exact ⟨(k1.get S l1 (Ne.symm hXS)).trans gS, ⟨l, c, (k1.get M l2 (Ne.symm hXM)).trans gM, e1, e2⟩, by omega, by omega, l3⟩
  have top1 := (k1.get (N + 3) hNl hXN).trans top
  have L18 : ∀ g : Heap, g.get X = some (.cells 79 (cs.set 20 (.bool false)) (.own false)) → load1 g.get ⟨X, 18 + 0, none⟩ = some (pt S) := fun g hg => (load1_own hg).trans e18
  have L19 : ∀ g : Heap, g.get X = some (.cells 79 (cs.set 20 (.bool false)) (.own false)) → load1 g.get ⟨X, 18 + 1, none⟩ = some (pt (N + 3)) := fun g hg => (load1_own hg).trans e19
  refine gg ?_
  refine i_load1 (v := pt S) (by exact sel_of rfl) (L18 h1 g1) ?_
  refine gg ?_
  refine i_call1 (by exact sel_of rfl) (w_cum gp1 (by omega)) ?_
  rintro _ _ ⟨rfl, rfl⟩
  refine gg ?_
  refine i_load1 (v := pt (N + 3)) (by exact sel_of rfl) (L19 h1 g1) ?_
  refine gg ?_
  refine i_call1 (by exact sel_of rfl) (w_held top1 (by omega)) ?_
  rintro _ _ ⟨rfl, rfl⟩
  refine gg ?_
  refine i_cvZ (r := ((65536 - held : Nat) : Int)) (by exact sel_of rfl) (by rw [show (65536 : Int) - (held : Int) = ((65536 - held : Nat) : Int) by omega, wrap_u32, Nat.mod_eq_of_lt (by omega)]) ?_
  refine gg ?_
  refine i_load1 (v := pt S) (by exact sel_of rfl) (L18 h1 g1) ?_
  refine gg ?_
  refine i_call1 (by exact sel_of rfl) (w_blocks gp1 (by omega)) ?_
  rintro _ h2 ⟨rfl, k2⟩
  have hn2 := k2.next
  have g2 := (k2.get X (by omega)).trans g1
  have gp2 := gp1.keeps k2
  refine gg ?_
  refine i_load1 (v := pt S) (by exact sel_of rfl) (L18 h2 g2) ?_
  refine gg ?_
  refine i_call1 (by exact sel_of rfl) (w_dups gp2 (by omega)) ?_
  rintro v0 h3 ⟨hv0, gp3, n3, low3⟩
  rw [hv0]
  have g3 := (low3 X (by omega) hXS).trans g2
  refine gg ?_
  refine i_bslice (cs := sackv cum held (.slice od md md)) (by rfl) ?_
  refine gg ?_
  obtain ⟨c1, k4, n4⟩ := box_one h3 (.cells 42 (sackv cum held (.slice od md md)) (.own false))
  have g2S : ∀ g : Heap, g.get X = some (.cells 79 (cs.set 20 (.bool false)) (.own false)) → load1 g.get ⟨X, 18 + 0, none⟩ = some (pt S) := L18
  refine ⟨chk_cons (a := _) rfl (ld1 (by exact sel_of rfl) (L19 h1 g1)) (sv_pt _) (fun m hm => by
    simp only [List.mem_cons, List.not_mem_nil, or_false] at hm
    rcases hm with rfl | rfl <;> exact ⟨_, _, rfl, ld1 (by exact sel_of rfl) (L19 h1 g1)⟩) (chk_cons (a := _) rfl (ld1 (by exact sel_of rfl) (L18 h1 g1)) (sv_pt _) (fun m hm => by
    simp only [List.mem_cons, List.not_mem_nil, or_false] at hm
    rcases hm with rfl | rfl | rfl <;> exact ⟨_, _, rfl, ld1 (by exact sel_of rfl) (L18 h1 g1)⟩) (chk_cons (a := _) rfl (ld1 (by exact sel_of rfl) (L18 h2 g2)) (sv_pt _) (fun m hm => by
    simp only [List.mem_cons, List.not_mem_nil, or_false] at hm
    rcases hm with rfl | rfl | rfl | rfl
    · exact ⟨_, _, rfl, ld1 (by exact sel_of rfl) (L18 h1 g1)⟩
    · exact ⟨_, _, rfl, ld1 (by exact sel_of rfl) (L18 h1 g1)⟩
    · exact ⟨_, _, rfl, ld1 (by exact sel_of rfl) (L18 h1 g1)⟩
    · exact ⟨_, _, rfl, ld1 (by exact sel_of rfl) (L18 h2 g2)⟩) chk_nil)), ?_⟩
  refine gg ?_
  refine ⟨h3.next, rfl, by omega, Nat.lt_succ_self _, c1, (k4.get X (by omega)).trans g3, gp3.keeps k4, by show h.next ≤ h3.next + 1; omega, fun d hd h5 h6 => ?_⟩
  refine (k4.get d (by omega)).trans ?_
  rw [low3 d (by omega) h6, k2.get d (by omega), k1.get d hd h5]
end
end Go.Proofs.YtmlagbknnngjjaaGreat

/-! The sender: an answer comes. -/
set_option linter.unusedVariables false
namespace Go.Proofs.YtmlagbknnngjjaaGreat
open Go Vm
theorem rowG {h h' : Heap} {sz n : Nat} {o : Option Addr} {cs : List Value} (r : Row h sz o n cs) (hn : h.next ≤ h'.next) (hg : ∀ q, o = some q → h'.get q.block = h.get q.block) : Row h' sz o n cs := by
  obtain ⟨h1, h2⟩ := r
  refine ⟨h1, ?_⟩
  cases o with
  | none => exact h2
  | some q =>
    obtain ⟨h3, h4, h5⟩ := h2
    refine ⟨Nat.lt_of_lt_of_le h3 hn, h4, ?_⟩
    obtain ⟨e, l, st, g, hst, hlen, hcs⟩ := loadN_dead h5
    rw [loadN_of (q := q) (by rw [hg q rfl]; exact g) hst hlen, hcs]
theorem i_appE {rec : Rec} {L : List (Nat × Value)} {f : Fr} {h : Heap} {K : Fr → Heap → Prop} {x y : Sel} {l : List ISem} {dt e sz by_ len cap : Nat} {p : Addr} (hx : x.f (puts L f) = .slice (some p) len cap) (hy : srcCells h.get sz (y.f (puts L f)) = some (0, [])) (hb : len * by_ ≤ 140737488355328) (hc : len ≤ cap)
    (hq : ItQ (runItems rec l (puts ((dt, .slice (some p) len cap) :: L) f) h) K) : ItQ (runItems rec (iOp (put dt) (.e (eAppend e sz by_ x y)) :: l) (puts L f) h) K := by
  refine items_cons (it_e ⟨_, h, ?_, hq⟩)
  have h1 : Nat.ble ((len + 0) * by_) 140737488355328 = true := Nat.ble_eq_true_of_le hb
  have h2 : Nat.ble (len + 0) cap = true := Nat.ble_eq_true_of_le hc
  simp only [eAppend, hx, hy, h1, h2, cond_true]
  rfl
section
variable {h : Heap} {n Q nx : Nat} {oq : Option Addr} {e : Ent}
theorem w_reach1 (x : EntOK h e) (he : e.st = 1) (hn : 1 ≤ n) : ResQ (callN Tryz.prog G0 n (.call 118 [pt e.b]) h) (fun v h' => v = .bool false ∧ h = h') := by
  obtain ⟨n, rfl⟩ : ∃ m, n = m + 1 := ⟨n - 1, by omega⟩
  refine res_enter rfl d118 rfl ?_; simp only [c118]
  refine gg ?_
  refine i_load1 (v := nv e.st) (by exact sel_of rfl) ((load1_own x.hb).trans (by rfl)) ?_
  refine gg ?_
  exact ⟨congrArg Value.bool (decide_eq_false (by omega)), rfl⟩
theorem w_idxR {c : Nat} (x : EntOK h e) (he : e.st = 1) (hr : Row h 1 oq 1 [pt e.b]) (hn : 10 ≤ n) :
    ResQ (callN Tryz.prog G0 n (.call 138 [.slice oq 1 c, .func (.func 118) #[] #[]]) h) (fun v h' => v = .int .i64 (-1) ∧ h = h') := by
  obtain ⟨n, rfl⟩ : ∃ m, n = m + 1 := ⟨n - 1, by omega⟩
  refine res_enter rfl d138 rfl ?_; simp only [c138]
  refine gg ?_
  refine o_up 1 (fun i f h' => h = h' ∧ Sl [(8, nv i), (7, nv 1), (0, .slice oq 1 c), (1, .func (.func 118) #[] #[])] f) (by omega) ⟨rfl, sel_of rfl, sel_of rfl, sel_of rfl, sel_of rfl, trivial⟩ ?_
  rintro i f _ hi ⟨rfl, hs2⟩
  obtain ⟨f0, rfl⟩ := hs2.puts
  clear hs2
  simp only [c138_0]
  refine gg ?_
  by_cases hi2 : i < 1
  · refine gg ?_
    have hi0 : i = 0 := by omega
    subst hi0
    refine i_idx (by exact sel_of rfl) hr (i := 0) (by exact sel_of rfl) (by decide) fun q hq => ?_
    subst hq
    refine i_load1 (v := pt e.b) (by exact sel_of rfl) (by rw [Nat.mul_one, hr.cell (i := 0) (by omega)]; rfl) ?_
    refine i_callv1 (by exact sel_of rfl) (by exact sel_of rfl) (w_reach1 x he (by omega)) ?_
    rintro _ _ ⟨rfl, rfl⟩
    refine gg ?_
    exact rnd_up hi2 ⟨rfl, sel_of rfl, sel_of rfl, sel_of rfl, sel_of rfl, trivial⟩
  · refine gg ?_
    exact ⟨rfl, rfl⟩
theorem w_hasR {c : Nat} (x : EntOK h e) (he : e.st = 1) (hr : Row h 1 oq 1 [pt e.b]) (hn : 20 ≤ n) :
    ResQ (callN Tryz.prog G0 n (.call 117 [.slice oq 1 c, .func (.func 118) #[] #[]]) h) (fun v h' => v = .bool false ∧ h = h') := by
  obtain ⟨n, rfl⟩ : ∃ m, n = m + 1 := ⟨n - 1, by omega⟩
  refine res_enter rfl d117 rfl ?_; simp only [c117]
  refine gg ?_
  refine i_call2 (by exact sel_of rfl) (by exact sel_of rfl) (w_idxR x he hr (by omega)) ?_
  rintro _ _ ⟨rfl, rfl⟩
  refine gg ?_
  exact ⟨rfl, rfl⟩
theorem w_reached {cum : Nat} (x : Que h Q oq nx [e]) (he : e.st = 1) (hc : (cum + 4294967296 - floorN nx 1) % 4294967296 = 1) (hn : 30 ≤ n) :
    ResQ (callN Tryz.prog G0 n (.call 91 [pt Q, .int .u32 (cum : Int)]) h) (fun v h' => v = .tuple #[nv 1, .bool true] ∧ h = h') := by
  have hr := x.ap.row
  have hfl : floorN nx [e].length < 4294967296 := Nat.mod_lt _ (by decide)
  have hc' : (cum + 4294967296 - floorN nx [e].length) % 4294967296 = 1 := hc
  obtain ⟨n, rfl⟩ : ∃ m, n = m + 1 := ⟨n - 1, by omega⟩
  refine res_enter rfl d91 rfl ?_; simp only [c91]
  refine gg ?_
  refine i_call1 (by exact sel_of rfl) (w_floor x (by omega)) ?_
  rintro _ _ ⟨rfl, rfl⟩
  refine gg ?_
  refine i_call2 (by exact sel_of rfl) (by exact sel_of rfl) (w_dist hfl (by omega)) ?_
  rintro _ _ ⟨rfl, rfl⟩
  rw [hc']
  refine gg ?_
  have ld : load1 h.get ⟨Q, 0 + 0, none⟩ = some (.slice oq 1 1) := (load1_own x.hq).trans (by rfl)
  refine i_load1 (v := .slice oq 1 1) (by exact sel_of rfl) ld ?_
  refine gg ?_
  refine i_load1 (v := .slice oq 1 1) (by exact sel_of rfl) ld ?_
  refine gg ?_
  refine i_sl_hi (i := 1) (by exact sel_of rfl) hr (Nat.le_refl _) (by exact sel_of rfl) (Nat.le_refl _) fun hr2 => ?_
  refine i_call2 (by exact sel_of rfl) (by exact const_of) (w_hasR (x.en e (List.mem_cons_self ..)) he hr (by omega)) ?_
  rintro _ _ ⟨rfl, rfl⟩
  refine gg ?_
  exact ⟨rfl, rfl⟩
theorem w_cloneE {oz : Option Addr} (hr : Row h 1 oz 0 []) (hn : 1 ≤ n) :
    ResQ (callN Tryz.prog G0 n (.call 119 [.slice oz 0 0]) h) (fun v h' => (∃ o, v = .slice o 0 0 ∧ Row h' 1 o 0 [] ∧ ∀ q, o = some q → h.next ≤ q.block) ∧ Keeps h h') := by
  cases oz with
  | none =>
    obtain ⟨n, rfl⟩ : ∃ m, n = m + 1 := ⟨n - 1, by omega⟩
    refine res_enter rfl d119 rfl ?_
    unfold c119
    refine gg ?_
    exact ⟨⟨none, rfl, Row.nil h 1, (fun q e => nomatch e)⟩, Keeps.refl h⟩
  | some q =>
    obtain ⟨n, rfl⟩ : ∃ m, n = m + 1 := ⟨n - 1, by omega⟩
    refine res_enter rfl d119 rfl ?_
    unfold c119
    refine gg ?_
    have k1 := Keeps.new h (.cells 113 [] (.own false))
    change ItQ (runItems _ _ _ (h.new (.cells 113 [] (.own false)))) _
    refine i_appE (p := ⟨h.next, 0, none⟩) (len := 0) (cap := 0) (by exact sel_of rfl) (by rw [sel_of rfl]; exact (hr.keeps k1).src) (by decide) (by decide) ?_
    refine gg ?_
    exact ⟨⟨some ⟨h.next, 0, none⟩, rfl, Row.new (by simp) rfl (.inl rfl), (fun q e => by cases e; exact Nat.le_refl _)⟩, k1⟩
theorem w_mark0 {o : Option Addr} {c : Nat} {v : Value} (hq : h.get Q = some (.cells 93 [.slice o 0 c, .int .u32 (nx : Int)] (.own false))) (hn : 3 ≤ n) :
    ResQ (callN Tryz.prog G0 n (.call 93 [pt Q, v]) h) (fun r h' => r = .tuple #[nv 0, nv 0] ∧ h = h') := by
  obtain ⟨n, rfl⟩ : ∃ m, n = m + 1 := ⟨n - 1, by omega⟩
  refine res_enter rfl d93 rfl ?_; simp only [c93]
  refine gg ?_
  refine i_load1 (v := .slice o 0 c) (by exact sel_of rfl) ((load1_own hq).trans (by rfl)) ?_
  refine gg ?_
  refine o_while (fun _ f h' => h = h' ∧ Sl [(16, .int .i64 0), (15, .int .i64 ((0 : Nat) : Int)), (6, .int .i64 0), (7, .int .i64 0)] f) 0 (by omega) ⟨rfl, sel_of rfl, sel_of rfl, sel_of rfl, sel_of rfl, trivial⟩ ?_
  rintro _ f _ ⟨rfl, hs⟩
  obtain ⟨f0, rfl⟩ := hs.puts
  clear hs
  simp only [c93_0]
  refine gg ?_
  exact ⟨rfl, rfl⟩
theorem w_miss0 {o : Option Addr} {c : Nat} (hn : 3 ≤ n) :
    ResQ (callN Tryz.prog G0 n (.call 94 [.slice o 0 c]) h) (fun r h' => r = .bool false ∧ h = h') := by
  obtain ⟨n, rfl⟩ : ∃ m, n = m + 1 := ⟨n - 1, by omega⟩
  refine res_enter rfl d94 rfl ?_; simp only [c94]
  refine gg ?_
  refine o_while (fun _ f h' => h = h' ∧ Sl [(8, .int .i64 0), (7, .int .i64 ((0 : Nat) : Int)), (3, .bool false)] f) 0 (by omega) ⟨rfl, sel_of rfl, sel_of rfl, sel_of rfl, trivial⟩ ?_
  rintro _ f _ ⟨rfl, hs⟩
  obtain ⟨f0, rfl⟩ := hs.puts
  clear hs
  simp only [c94_0]
  refine gg ?_
  exact ⟨rfl, rfl⟩
set_option maxHeartbeats 2000000 in
theorem w_drop {t : Int} (x : Que h Q oq nx [e]) (he : e.st = 1) (hse : e.sent = 1) (ht : e.tm = t) (hb : 0 ≤ t ∧ t ≤ 1099511627776) (hn : 20 ≤ n) :
    ResQ (callN Tryz.prog G0 n (.call 92 [pt Q, nv 1, .int .i64 t]) h) (fun r h' => r = .agg #[nv e.sz, nv 0, .bool false, .bool true] ∧ (∃ o, h'.get Q = some (.cells 93 [.slice o 0 0, .int .u32 (nx : Int)] (.own false)) ∧ Row h' 1 o 0 [] ∧ ∀ q, o = some q → h.next ≤ q.block) ∧ h.next ≤ h'.next ∧ ∀ d, d < h.next → d ≠ Q → h'.get d = h.get d) := by
  have en := x.en e (List.mem_cons_self ..)
  have hr := x.ap.row
  have hql := x.ql
  have hle : e.sz ≤ 1172 := en.le
  obtain ⟨n, rfl⟩ : ∃ m, n = m + 1 := ⟨n - 1, by omega⟩
  refine res_enter rfl d92 rfl ?_; simp only [c92]
  refine gg ?_
  obtain ⟨b1, b2, k1, n1⟩ := box_two h (.cells 125 [.int .i64 0, .int .i64 0, .bool false, .bool false] (.own false)) (.cells 125 [.int .i64 0, .int .i64 0, .bool false, .bool false] (.own false))
  generalize ((h.new (.cells 125 [.int .i64 0, .int .i64 0, .bool false, .bool false] (.own false))).new (.cells 125 [.int .i64 0, .int .i64 0, .bool false, .bool false] (.own false))) = h1 at *
  refine i_storeP (b := h.next + 1) (vs := [nv 0, .int .i64 (-1), .bool false, .bool true]) (by exact sel_of rfl) (by rw [sel_of rfl]; rfl) b2 rfl rfl ?_
  have c1 : (h1.put (h.next + 1) (.cells 125 [nv 0, .int .i64 (-1), .bool false, .bool true] (.own false))).get (h.next + 1) = some (.cells 125 [nv 0, .int .i64 (-1), .bool false, .bool true] (.own false)) := by rw [Heap.get_put, if_pos rfl]
  have c0 : (h1.put (h.next + 1) (.cells 125 [nv 0, .int .i64 (-1), .bool false, .bool true] (.own false))).get h.next = some (.cells 125 [.int .i64 0, .int .i64 0, .bool false, .bool false] (.own false)) := by rw [Heap.get_put, if_neg (by omega)]; exact b1
  have k2 : Keeps h (h1.put (h.next + 1) (.cells 125 [nv 0, .int .i64 (-1), .bool false, .bool true] (.own false))) := k1.put (Nat.le_succ _) _
  have n2 : (h1.put (h.next + 1) (.cells 125 [nv 0, .int .i64 (-1), .bool false, .bool true] (.own false))).next = h.next + 2 := n1
  clear b1 b2 k1 n1
  generalize (h1.put (h.next + 1) (.cells 125 [nv 0, .int .i64 (-1), .bool false, .bool true] (.own false))) = h2 at *
  have x2 := x.keeps k2
  have en2 := en.keeps k2
  refine gg ?_
  refine i_load1 (v := .slice oq 1 1) (by exact sel_of rfl) ((load1_own x2.hq).trans (by rfl)) ?_
  refine gg ?_
  refine i_sl_hi (i := 1) (by exact sel_of rfl) x2.ap.row (Nat.le_refl _) (by exact sel_of rfl) (Nat.le_refl _) fun _ => ?_
  refine gg ?_
  refine o_up 1 (fun i f h' => ((i = 0 ∧ h2 = h') ∨ (i = 1 ∧ h'.get (h.next + 1) = some (.cells 125 [nv e.sz, nv 0, .bool false, .bool true] (.own false)) ∧ h'.next = h2.next ∧ ∀ d, d < h2.next → d ≠ h.next + 1 → h'.get d = h2.get d)) ∧ Sl [(20, nv i), (19, nv 1), (18, .slice oq 1 1), (0, pt Q), (1, nv 1), (2, .int .i64 t), (7, pt (h.next + 1)), (6, pt h.next)] f) (by omega) ⟨.inl ⟨rfl, rfl⟩, sel_of rfl, sel_of rfl, sel_of rfl, sel_of rfl, sel_of rfl, sel_of rfl, sel_of rfl, sel_of rfl, trivial⟩ ?_
  rintro i f g hi ⟨hJ, hs2⟩
  obtain ⟨f0, rfl⟩ := hs2.puts
  clear hs2
  simp only [c92_0]
  refine gg ?_
  rcases hJ with ⟨rfl, rfl⟩ | ⟨rfl, g1, n3, low⟩
  · refine gg ?_
    have hr2 := x2.ap.row
    refine i_idx (by exact sel_of rfl) hr2 (i := 0) (by exact sel_of rfl) (by show 0 < 1; decide) fun q hq => ?_
    subst hq
    refine i_load1 (v := pt e.b) (by exact sel_of rfl) (by rw [Nat.mul_one, hr2.cell (i := 0) (by show 0 < 1; decide)]; rfl) ?_
    refine gg ?_
    have le : ∀ (i : Nat) (v : Value), (entv e)[i]? = some v → load1 h2.get ⟨e.b, i, none⟩ = some v := fun i v hv => (load1_own en2.hb).trans hv
    refine i_load1 (v := nv e.st) (by exact sel_of rfl) (le (0 + 13) _ rfl) ?_
    rw [he]
    refine gg ?_
    refine i_load1 (v := nv e.st) (by exact sel_of rfl) (le (0 + 13) _ rfl) ?_
    rw [he]
    refine gg ?_
    have lr : load1 h2.get ⟨h.next + 1, 0 + 0, none⟩ = some (nv 0) := (load1_own c1).trans (by rfl)
    refine i_load1 (v := nv 0) (by exact sel_of rfl) lr ?_
    refine gg ?_
    refine i_call1 (by exact sel_of rfl) (w_size en2 (by omega)) ?_
    rintro _ _ ⟨rfl, rfl⟩
    refine gg ?_
    refine i_stB (b := h.next + 1) (v := nv e.sz) (by exact sel_of rfl) (by rw [sel_of rfl]; exact congrArg (fun x => some [Value.int .i64 x]) (by omega)) c1 (by show 0 < 4; decide) fun g3 k3 n3 g3g => ?_
    refine gg ?_
    refine ⟨chk_cons (a := _) rfl (ld1 (by exact sel_of rfl) lr) (sv_int _ _) (fun m hm => by
      simp only [List.mem_cons, List.not_mem_nil, or_false] at hm
      rcases hm with rfl | rfl <;> exact ⟨_, _, rfl, ld1 (by exact sel_of rfl) lr⟩) chk_nil, ?_⟩
    have hbl := en2.bl
    have hbne : e.b ≠ h.next + 1 := fun hb => by have := en2.hb; rw [hb, c1] at this; cases this
    have le3 : ∀ (i : Nat) (v : Value), (entv e)[i]? = some v → load1 g3.get ⟨e.b, i, none⟩ = some v := fun i v hv => (load1_own ((k3.get _ hbl hbne).trans en2.hb)).trans hv
    refine gg ?_
    refine i_load1 (v := nv e.sent) (by exact sel_of rfl) (le3 (0 + 14) _ rfl) ?_
    rw [hse]
    refine gg ?_
    refine i_load1 (v := .int .i64 e.tm) (by exact sel_of rfl) (le3 (0 + 15) _ rfl) ?_
    rw [ht]
    refine gg ?_
    refine i_stB (b := h.next + 1) (v := nv 0) (by exact sel_of rfl) (by rw [sel_of rfl]; exact congrArg (fun x => some [Value.int .i64 x]) (by omega)) g3g (by show 1 < 4; decide) fun g4 k4 n4 g4g => ?_
    refine gg ?_
    refine rnd_up (by decide) ⟨.inr ⟨rfl, g4g, by omega, fun d hd hd2 => (k4.get d (by omega) hd2).trans (k3.get d hd hd2)⟩, sel_of rfl, sel_of rfl, sel_of rfl, sel_of rfl, sel_of rfl, sel_of rfl, sel_of rfl, sel_of rfl, trivial⟩
  · have hqne : Q ≠ h.next + 1 := by omega
    have gq := (low Q (by omega) hqne).trans x2.hq
    refine gg ?_
    refine i_load1 (v := .slice oq 1 1) (by exact sel_of rfl) ((load1_own gq).trans (by rfl)) ?_
    refine gg ?_
    rcases x.ar with ⟨h5, _⟩ | ⟨ka, rfl, hka, hga⟩
    · cases h5
    have gar : g.get ka = some (.cells 113 [pt e.b] (.own true)) := by rw [low ka (by omega) (by omega), k2.get ka hka]; exact hga
    have rg : Row g 1 (some ⟨ka, 0, some 1⟩) 1 [pt e.b] := ⟨rfl, by show ka < g.next; omega, .inr rfl, loadN_all gar rfl⟩
    refine i_sl_lo (i := 1) (by exact sel_of rfl) rg (Nat.le_refl _) (by exact sel_of rfl) (Nat.le_refl _) fun o2 ho2 hr3 => ?_
    refine i_call1 (by exact sel_of rfl) (w_cloneE hr3 (by omega)) ?_
    rintro _ g2 ⟨⟨o3, rfl, r4, hlo⟩, k4⟩
    have hn4 := k4.next
    refine gg ?_
    refine i_stB (b := Q) (v := .slice o3 0 0) (by exact sel_of rfl) (by rw [sel_of rfl]; rfl) ((k4.get Q (by omega)).trans gq) (by show 0 < 2; decide) fun g5 k5 n5 gq5 => ?_
    have gr5 := (k5.get (h.next + 1) (by omega) (by omega)).trans ((k4.get (h.next + 1) (by omega)).trans g1)
    have g05 : g5.get h.next = some (.cells 125 [.int .i64 0, .int .i64 0, .bool false, .bool false] (.own false)) := by
      rw [k5.get _ (by omega) (by omega), k4.get _ (by omega), low _ (by omega) (by omega)]; exact c0
    refine gg ?_
    refine i_loadN (v := [nv e.sz, nv 0, .bool false, .bool true]) (by exact sel_of rfl) (loadN_all gr5 rfl) ?_
    refine i_storeP (b := h.next) (vs := [nv e.sz, nv 0, .bool false, .bool true]) (by exact sel_of rfl) (by rw [sel_of rfl]; rfl) g05 rfl rfl ?_
    refine gg ?_
    refine finA1 (by exact sel_of rfl) (loadN_all (b := h.next) (by rw [Heap.get_put, if_pos rfl]) rfl) ⟨rfl, ⟨o3, ?_, ?_, fun q e => by have := hlo q e; omega⟩, by rw [Heap.next_put]; omega, fun d hd hdq => ?_⟩
    · rw [Heap.get_put, if_neg (by omega)]; exact gq5
    · exact rowG r4 (by rw [Heap.next_put]; omega) fun q e => by have h8 := hlo q e; have h9 : q.block < g2.next := by subst e; exact r4.2.1
                                                                 rw [Heap.get_put, if_neg (by omega), k5.get _ (by omega) (by omega)]
    · rw [Heap.get_put, if_neg (by omega), k5.get d (by omega) hdq, k4.get d (by omega), low d (by omega) (by omega), k2.get d hd]
end
end Go.Proofs.YtmlagbknnngjjaaGreat

