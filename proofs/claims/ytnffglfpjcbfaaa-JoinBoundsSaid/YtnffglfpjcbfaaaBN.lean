/- Part of a proof by an abstract run of the program's code: BN. No condition. -/
import Derived.Sort.AssemblyPlain
import Derived.Test.YtnffglfpjcbfaaaBC
import Derived.Test.YtnffglfpjcbfaaaGx
/-! Sorting, walked: a row of elements in a block; the comparison; the insertion sort. -/
set_option linter.unusedVariables false
namespace Go.Proofs.Ytnffglfpjcbfaaa
open Go Vm
abbrev El := Int
/-- a pair as one number: stream * 65536 + number -/
def nc (x : El) : List Value := [.int .u16 (x / 65536), .int .u16 (x % 65536)]
abbrev iv (x : El) : Value := .agg (nc x).toArray
theorem nc_length (x : El) : (nc x).length = 2 := rfl
theorem ncs_length (l : List El) : (l.flatMap nc).length = l.length * 2 := by
  induction l with
  | nil => rfl
  | cons x l ih => rw [List.flatMap_cons, List.length_append, ih, nc_length, List.length_cons]; omega
theorem ncs_part : ∀ (l : List El) (i : Nat) (x : El) (r : List Value), l[i]? = some x → ((l.flatMap nc ++ r).drop (i * 2)).take 2 = nc x
  | [], i, x, r, h => by cases h
  | y :: l, 0, x, r, h => by cases h; rfl
  | y :: l, i + 1, x, r, h => by
    have ih := ncs_part l i x r h
    rw [← ih, show (i + 1) * 2 = 2 + i * 2 by omega, ← List.drop_drop]
    rfl
theorem ncs_set : ∀ (l : List El) (i : Nat) (x : El) (r : List Value), i < l.length → putAt (l.flatMap nc ++ r) (i * 2) (nc x) = (l.set i x).flatMap nc ++ r
  | [], i, x, r, h => by cases h
  | y :: l, 0, x, r, h => rfl
  | y :: l, i + 1, x, r, h => by
    have ih := ncs_set l i x r (Nat.lt_of_succ_lt_succ h)
    show putAt ((nc y ++ l.flatMap nc) ++ r) ((i + 1) * 2) (nc x) = (nc y ++ (l.set i x).flatMap nc) ++ r
    rw [List.append_assoc, List.append_assoc, ← ih, show (i + 1) * 2 = i * 2 + 1 + 1 by omega]
    rfl
theorem swp_eq (d : Array El) (i j : Nat) : (d.setIfInBounds i d[j]!).setIfInBounds j d[i]! = Sort.swp d i j := rfl
/-- a row of elements, at the head of a block -/
def DtS (h : Heap) (B : Nat) (d : Array El) : Prop := B < h.next ∧ ∃ e op r, h.get B = some (.cells e (d.toList.flatMap nc ++ r) (.own op))
theorem DtS.keeps {h h' : Heap} {B : Nat} {d : Array El} (dd : DtS h B d) (k : Keeps h h') : DtS h' B d := by
  obtain ⟨hB, e, op, r, hg⟩ := dd
  exact ⟨Nat.lt_of_lt_of_le hB k.next, e, op, r, (k.get _ hB).trans hg⟩
/-- the comparison -/
structure Cp (h0 : Heap) (B n0 : Nat) (g : FuncId) (cp : Array Value) (lt : El → El → Bool) : Prop where
  big : B < h0.next
  det : ∀ n args h x y, callN Try.prog G0 n (.call g args) h ≠ .or x y
  run : ∀ h, KeepsB B h0 h → ∀ m, n0 ≤ m → ∀ x y, ResQ (callN Try.prog G0 m (.call g (iv x :: iv y :: cp.toList)) h) (fun v h' => ∃ c, v = .int .i64 c ∧ decide (c < 0) = lt x y ∧ Keeps h h')
section
variable {rec : Rec} {L : List (Nat × Value)} {f : Fr} {dt : Nat} {h : Heap} {K : Fr → Heap → Prop} {l : List ISem} {rd : Bool} {x y : Sel} {B m c : Nat} {s : Option Nat} {d : Array El} {z : Int}
theorem i_idxD (i : Nat) (hx : x.f (puts L f) = .slice (some ⟨B, 0, s⟩) m c) (hy : y.f (puts L f) = .int .i64 z) (hz : z = (i : Int)) (hi : i < m)
    (hq : ItQ (runItems rec l (puts ((dt, .pointer (some ⟨B, i * 2, some 0⟩)) :: L) f) h) K) : ItQ (runItems rec (iOp (put dt) (.v rd (oIndexAddrS 2 x y)) :: l) (puts L f) h) K := by
  subst hz
  refine i_v ?_ hq
  simp only [oIndexAddrS, hx, hy, idx_nat hi, Nat.zero_add]
theorem i_ldD {i : Nat} (dd : DtS h B d) (hx : x.f (puts L f) = .pointer (some ⟨B, i * 2, some 0⟩)) (hi : i < d.size)
    (hq : ItQ (runItems rec l (puts ((dt, iv d[i]!) :: L) f) h) K) : ItQ (runItems rec (iOp (put dt) (.v rd (oLoadN 2 x)) :: l) (puts L f) h) K := by
  obtain ⟨hB, e, op, r, hg⟩ := dd
  have hs : d.toList[i]? = some d[i]! := by simp [hi]
  refine i_loadN hx ((loadN_of (q := ⟨B, i * 2, some 0⟩) hg (by simp) ?_).trans (congrArg some (ncs_part d.toList i _ r hs))) hq
  show i * 2 + 2 ≤ _
  rw [List.length_append, ncs_length, Array.length_toList]; omega
theorem i_stD {i : Nat} {v : El} (dd : DtS h B d) (hx : x.f (puts L f) = .pointer (some ⟨B, i * 2, some 0⟩)) (hy : y.f (puts L f) = iv v) (hi : i < d.size)
    (hq : ∀ h2, KeepsB B h h2 → DtS h2 B (d.setIfInBounds i v) → ItQ (runItems rec l (puts L f) h2) K) : ItQ (runItems rec (iOp ⟨fun _ a => a⟩ (.e (eStore 2 x y)) :: l) (puts L f) h) K := by
  obtain ⟨hB, e, op, r, hg⟩ := dd
  have hl : i * 2 + 2 ≤ (d.toList.flatMap nc ++ r).length := by rw [List.length_append, ncs_length, Array.length_toList]; omega
  have h1 := storeN_own (s := some 0) (off := i * 2) (vs := nc v) hg hl
  refine items_cons (it_e (.mk Vm.undef (h.put B (.cells e (putAt (d.toList.flatMap nc ++ r) (i * 2) (nc v)) (.own op))) ?_ (hq _ ⟨Nat.le_refl _, fun c hc hb => by rw [Heap.get_put, if_neg hb]⟩ ⟨hB, e, op, r, ?_⟩)))
  · simp only [eStore, hx, hy]
    show (bif Nat.beq (nc v).length 2 then _ else _) = _
    rw [nc_length]
    show (match storeN h ⟨B, i * 2, some 0⟩ (nc v) with | some h => Res.ok undef h | none => .no) = _
    rw [h1]; rfl
  · rw [Heap.get_put, if_pos rfl, ncs_set _ _ _ _ (by simpa using hi), Array.toList_setIfInBounds]
theorem sel_z {t : Nat} {k : IntKind} {z' : Int} (h : Vm.look t L = some (Value.int k z)) (e : z = z') : (sel t).f (puts L f) = .int k z' := by subst e; exact sel_of h
theorem out_ifc {a : Fr} {n : Nat} {Q : Ex → Fr → Heap → Prop} {c : Sel} {s t : Vm.Sem} {p b : Bool} (hc : c.f a = .bool p) (hb : p = b) (ht : b = true → OutQ (s.f rec n a h) Q) (hf : b = false → OutQ (t.f rec n a h) Q) : OutQ ((sCond c s t).f rec n a h) Q := by
  subst hb
  cases p with
  | true => exact out_cond (b := true) hc (ht rfl)
  | false => exact out_cond (b := false) hc (hf rfl)
theorem out_ifnc {a : Fr} {n : Nat} {Q : Ex → Fr → Heap → Prop} {c : Sel} {s t : Vm.Sem} {p b : Bool} (hc : c.f a = .bool (!p)) (hb : p = b) (ht : b = false → OutQ (s.f rec n a h) Q) (hf : b = true → OutQ (t.f rec n a h) Q) : OutQ ((sCond c s t).f rec n a h) Q := by
  subst hb
  cases p with
  | true => exact out_cond (b := false) hc (hf rfl)
  | false => exact out_cond (b := true) hc (ht rfl)
theorem det_dcall {P : Program} {Γ : Sums} {n : Nat} {cp : Sel} {d : Put} {args : List Sel} {g : FuncId} {fs cap : Array Value} {a : Fr} {h : Heap} (hg : ∀ n args h x y, callN P Γ n (.call g args) h ≠ .or x y) (hc : cp.f a = .func (.func g) fs cap) : ∀ x y, (iOp d (.e (eCall cp args))).f (callN P Γ n) a h ≠ .or x y := by
  intro x y e
  simp only [iOp, eCall, hc] at e
  cases hx : callN P Γ n (.call g (fs.toList ++ evs a args ++ cap.toList)) h with
  | no => rw [hx] at e; cases e
  | ok v h' => rw [hx] at e; cases e
  | or u v => exact hg n _ h u v hx
theorem det_dgcall {P : Program} {Γ : Sums} {n : Nat} {sg cp : Sel} {want : Bool} {d : Put} {args : List Sel} {g : FuncId} {fs cap : Array Value} {a : Fr} {h : Heap} (hg : ∀ n args h x y, callN P Γ n (.call g args) h ≠ .or x y) (hc : cp.f a = .func (.func g) fs cap) : ∀ x y, (iGuard sg want d (iOp d (.e (eCall cp args)))).f (callN P Γ n) a h ≠ .or x y := by
  intro x y e
  simp only [iGuard] at e
  split at e
  · rename_i b _
    cases b <;> cases want <;> first | (cases e; done) | exact det_dcall hg hc x y e
  · cases e
theorem det_skipP {sg : Sel} {i : ISem} {d : Put} {a : Fr} {h : Heap} {φ : Prop} {inst : Decidable φ} (hs : sg.f a = .bool (decide φ)) (hp : ¬φ) : ∀ x y, (iGuard sg true d i).f rec a h ≠ .or x y := by
  intro x y e
  rw [decide_eq_false hp] at hs
  simp only [iGuard, hs] at e
  cases e
theorem i_callD {g : FuncId} {cp : Array Value} {c x1 x2 : Sel} {v1 v2 : Value} {R : Value → Heap → Prop} (hc : c.f (puts L f) = .func (.func g) #[] cp) (h1 : x1.f (puts L f) = v1) (h2 : x2.f (puts L f) = v2) (hv : ResQ (rec (.call g (v1 :: v2 :: cp.toList)) h) R) (hq : ∀ v h', R v h' → ItQ (runItems rec l (puts ((dt, v) :: L) f) h') K) : ItQ (runItems rec (iOp (put dt) (.e (eCall c [x1, x2])) :: l) (puts L f) h) K := by
  subst h1 h2
  refine items_cons (it_e (ResQ.mono ?_ hq))
  simp only [eCall, hc]
  exact hv
end
section
variable {h0 h : Heap} {B n0 n : Nat} {g : FuncId} {cp : Array Value} {lt : El → El → Bool} {d : Array El} {s : Option Nat} {N C a b : Nat}
theorem w_ins (cc : Cp h0 B n0 g cp lt) (k : KeepsB B h0 h) (dd : DtS h B d) (hN : d.size = N) (hab : a ≤ b) (hb : b ≤ N) (hbig : N < 1000000) (hn : N + n0 + 5 ≤ n) :
    ResQ (callN Try.prog G0 n (.call 43 [.slice (some ⟨B, 0, s⟩) N C, .int .i64 (a : Int), .int .i64 (b : Int), .func (.func g) #[] cp]) h) (fun _ h' => KeepsB B h0 h' ∧ DtS h' B (Sort.insertionSort lt d a b)) := by
  obtain ⟨n, rfl⟩ : ∃ m, n = m + 1 := ⟨n - 1, by omega⟩
  refine res_enter rfl d43 rfl ?_; simp only [c43]
  refine gg ?_
  refine o_while (fun m f h' => ∃ i d', (KeepsB B h0 h' ∧ DtS h' B d' ∧ d'.size = N ∧ i ≤ N + 1 + a ∧ b - i = m ∧ a < i ∧ Sort.insOuter lt a b i d' = Sort.insertionSort lt d a b) ∧ Sl [(8, .int .i64 (i : Int)), (0, .slice (some ⟨B, 0, s⟩) N C), (1, .int .i64 (a : Int)), (2, .int .i64 (b : Int)), (3, .func (.func g) #[] cp)] f) (b - (a + 1)) (by omega) ⟨a + 1, d, ⟨k, dd, hN, by omega, rfl, by omega, rfl⟩, by exact sel_of rfl, by exact sel_of rfl, by exact sel_of rfl, by exact sel_of rfl, by exact sel_of rfl, trivial⟩ ?_
  rintro m f h ⟨i, d1, ⟨k, dd, hN1, hi, hm, hai, he⟩, hs⟩
  obtain ⟨f0, rfl⟩ := hs.puts
  clear hs
  simp only [c43_1]
  refine gg ?_
  refine out_if (by exact sel_of rfl) (fun hif => ?_) (fun hif => ?_)
  · refine gg ?_
    refine o_while (fun m f h' => ∃ d', (KeepsB B h0 h' ∧ DtS h' B d' ∧ d'.size = N ∧ m ≤ i ∧ Sort.insInner lt a m d' = Sort.insInner lt a i d1) ∧ Sl [(9, .int .i64 (m : Int)), (8, .int .i64 (i : Int)), (0, .slice (some ⟨B, 0, s⟩) N C), (1, .int .i64 (a : Int)), (2, .int .i64 (b : Int)), (3, .func (.func g) #[] cp)] f) i (by omega) ⟨d1, ⟨k, dd, hN1, by omega, rfl⟩, by exact sel_of rfl, by exact sel_of rfl, by exact sel_of rfl, by exact sel_of rfl, by exact sel_of rfl, by exact sel_of rfl, trivial⟩ ?_
    clear k dd
    rintro j f h ⟨d2, ⟨k, dd, hN2, hj, he2⟩, hs⟩
    obtain ⟨f0, rfl⟩ := hs.puts
    clear hs
    simp only [c43_0]
    cases j with
    | zero =>
      refine gg ?_
      refine s1_cons (det_skipP (by exact sel_of rfl) (by omega)) ?_
      refine gg ?_
      refine rnd_n (b - (i + 1)) (by omega) ⟨i + 1, d2, ⟨k, dd, hN2, by omega, rfl, by omega, ?_⟩, by exact sel_of rfl, by exact sel_of rfl, by exact sel_of rfl, by exact sel_of rfl, by exact sel_of rfl, trivial⟩
      rw [Sort.insInner] at he2
      rw [← he, he2, Sort.insOuter.eq_1 lt a b i, if_pos (by omega)]
    | succ j =>
      rw [Sort.insInner] at he2
      by_cases haj : a < j + 1
      · refine gg ?_
        refine i_idxD (j + 1) (by exact sel_of rfl) (by exact sel_of rfl) (by omega) (by omega) ?_
        refine gg ?_
        refine i_ldD dd (by exact sel_of rfl) (by omega) ?_
        refine gg ?_
        refine i_idxD (j) (by exact sel_of rfl) (by exact sel_of rfl) (by omega) (by omega) ?_
        refine gg ?_
        refine i_ldD dd (by exact sel_of rfl) (by omega) ?_
        refine gg ?_
        refine s1_cons (det_dgcall cc.det (by exact sel_of rfl)) ?_
        refine i_liveP (by exact sel_of rfl) (by omega) ?_
        refine i_callD (by exact sel_of rfl) (by exact sel_of rfl) (by exact sel_of rfl) (cc.run _ k _ (by omega) _ _) ?_
        rintro _ h1c ⟨c1, rfl, hc1, kk⟩
        have k := k.trans (kk.but B)
        have dd := dd.keeps kk
        clear kk
        refine gg ?_
        refine out_ifc (by exact sel_of rfl) hc1 (fun hif => ?_) (fun hif => ?_)
        · rw [hif, decide_eq_true (show j + 1 > a by omega)] at he2
          refine gg ?_
          refine i_idxD (j) (by exact sel_of rfl) (by exact sel_of rfl) (by omega) (by omega) ?_
          refine gg ?_
          refine i_ldD dd (by exact sel_of rfl) (by omega) ?_
          refine gg ?_
          refine i_idxD (j + 1) (by exact sel_of rfl) (by exact sel_of rfl) (by omega) (by omega) ?_
          refine gg ?_
          refine i_ldD dd (by exact sel_of rfl) (by omega) ?_
          refine gg ?_
          refine i_idxD (j + 1) (by exact sel_of rfl) (by exact sel_of rfl) (by omega) (by omega) ?_
          refine i_stD dd (by exact sel_of rfl) (by exact sel_of rfl) (by omega) fun h1s k1s d1s => ?_
          refine gg ?_
          refine i_idxD (j) (by exact sel_of rfl) (by exact sel_of rfl) (by omega) (by omega) ?_
          refine i_stD d1s (by exact sel_of rfl) (by exact sel_of rfl) (by rw [Array.size_setIfInBounds]; omega) fun h2s k2s d2s => ?_
          have k := (k.trans k1s).trans k2s
          have dd := d2s
          rw [swp_eq] at dd
          clear d1s d2s k1s k2s
          refine gg ?_
          exact rnd_n j (by omega) ⟨_, ⟨k, dd, by rw [Sort.size_swp]; exact hN2, by omega, he2⟩, (sel_z rfl (by omega)), by exact sel_of rfl, by exact sel_of rfl, by exact sel_of rfl, by exact sel_of rfl, by exact sel_of rfl, trivial⟩
        · rw [hif, Bool.and_false] at he2
          refine gg ?_
          refine rnd_n (b - (i + 1)) (by omega) ⟨i + 1, d2, ⟨k, dd, hN2, by omega, rfl, by omega, ?_⟩, by exact sel_of rfl, by exact sel_of rfl, by exact sel_of rfl, by exact sel_of rfl, by exact sel_of rfl, trivial⟩
          rw [← he, Sort.insOuter.eq_1 lt a b i, if_pos (by omega), ← he2]
          rfl
      · refine gg ?_
        refine s1_cons (det_skipP (by exact sel_of rfl) (by omega)) ?_
        refine gg ?_
        refine rnd_n (b - (i + 1)) (by omega) ⟨i + 1, d2, ⟨k, dd, hN2, by omega, rfl, by omega, ?_⟩, by exact sel_of rfl, by exact sel_of rfl, by exact sel_of rfl, by exact sel_of rfl, by exact sel_of rfl, trivial⟩
        rw [decide_eq_false (by omega)] at he2
        rw [← he, Sort.insOuter.eq_1 lt a b i, if_pos (by omega), ← he2]
        rfl
  · refine gg ?_
    rw [Sort.insOuter, if_neg (by omega)] at he
    subst he
    exact ⟨k, dd⟩
end
end Go.Proofs.Ytnffglfpjcbfaaa

/-! Sorting, walked: the heap. -/
set_option linter.unusedVariables false
namespace Go.Proofs.Ytnffglfpjcbfaaa
open Go Vm
section
variable {h0 h : Heap} {B n0 n : Nat} {g : FuncId} {cp : Array Value} {lt : El → El → Bool} {d : Array El} {s : Option Nat} {N C a b hi r0 : Nat}
/-- the greater child -/
def Child (lt : El → El → Bool) (d : Array El) (hi a root c : Nat) : Prop := c < hi ∧ root < c ∧ Sort.siftDown lt hi a root d = if !lt d[a + root]! d[a + c]! then d else Sort.siftDown lt hi a c (Sort.swp d (a + root) (a + c))
theorem child_two {root : Nat} (h1 : 2 * root + 1 + 1 < hi) (h2 : lt d[a + (2 * root + 1)]! d[a + (2 * root + 1) + 1]! = true) : Child lt d hi a root (2 * root + 2) := by
  refine ⟨by omega, by omega, ?_⟩
  rw [Sort.siftDown, dif_neg (by omega), if_pos (by rw [decide_eq_true h1, h2]; rfl)]
  rw [dif_pos (by omega)]
theorem child_one {root : Nat} (h0 : 2 * root + 1 < hi) (h2 : ¬ (2 * root + 1 + 1 < hi) ∨ lt d[a + (2 * root + 1)]! d[a + (2 * root + 1) + 1]! = false) : Child lt d hi a root (2 * root + 1) := by
  refine ⟨by omega, by omega, ?_⟩
  rw [Sort.siftDown, dif_neg (by omega), if_neg ?_]
  rcases h2 with h2 | h2
  · rw [decide_eq_false h2]; simp
  · rw [h2]; simp
theorem w_sift (cc : Cp h0 B n0 g cp lt) (k : KeepsB B h0 h) (dd : DtS h B d) (hN : d.size = N) (hhi : a + hi ≤ N) (hr : r0 ≤ N) (hbig : N < 1000000) (hn : N + n0 + 5 ≤ n) :
    ResQ (callN Try.prog G0 n (.call 53 [.slice (some ⟨B, 0, s⟩) N C, .int .i64 (r0 : Int), .int .i64 (hi : Int), .int .i64 (a : Int), .func (.func g) #[] cp]) h) (fun _ h' => KeepsB B h0 h' ∧ DtS h' B (Sort.siftDown lt hi a r0 d)) := by
  obtain ⟨n, rfl⟩ : ∃ m, n = m + 1 := ⟨n - 1, by omega⟩
  refine res_enter rfl d53 rfl ?_; simp only [c53]
  refine gg ?_
  refine o_while (fun m f h' => ∃ root d', (KeepsB B h0 h' ∧ DtS h' B d' ∧ d'.size = N ∧ hi - root = m ∧ root ≤ N ∧ Sort.siftDown lt hi a root d' = Sort.siftDown lt hi a r0 d) ∧ Sl [(10, .int .i64 (root : Int)), (0, .slice (some ⟨B, 0, s⟩) N C), (2, .int .i64 (hi : Int)), (3, .int .i64 (a : Int)), (4, .func (.func g) #[] cp)] f) (hi - r0) (by omega) ⟨r0, d, ⟨k, dd, hN, rfl, hr, rfl⟩, by exact sel_of rfl, by exact sel_of rfl, by exact sel_of rfl, by exact sel_of rfl, by exact sel_of rfl, trivial⟩ ?_
  clear k dd
  rintro m f h ⟨root, d1, ⟨k, dd, hN1, hm, hr, he⟩, hs⟩
  obtain ⟨f0, rfl⟩ := hs.puts
  clear hs
  simp only [c53_0]
  refine gg ?_
  refine i_muln (2 * root) (by exact const_of) (by exact sel_of rfl) (by omega) (by omega) ?_
  refine gg ?_
  refine out_if (by exact sel_of rfl) (fun hif => ?_) (fun hif => ?_)
  · refine gg ?_
    rw [Sort.siftDown, dif_pos (by omega)] at he
    subst he
    exact ⟨k, dd⟩
  refine o_ex (then_n ?_)
  refine o_cut (fun f h' => ∃ c, (KeepsB B h0 h' ∧ DtS h' B d1 ∧ Child lt d1 hi a root c) ∧ Sl [(11, .int .i64 (c : Int)), (10, .int .i64 (root : Int)), (0, .slice (some ⟨B, 0, s⟩) N C), (2, .int .i64 (hi : Int)), (3, .int .i64 (a : Int)), (4, .func (.func g) #[] cp)] f) ?_ ?_
  · by_cases h2 : 2 * root + 1 + 1 < hi
    · refine gg ?_
      refine i_idxD (a + (2 * root + 1)) (by exact sel_of rfl) (by exact sel_of rfl) (by omega) (by omega) ?_
      refine gg ?_
      refine i_ldD dd (by exact sel_of rfl) (by omega) ?_
      refine gg ?_
      refine i_idxD (a + (2 * root + 1) + 1) (by exact sel_of rfl) (by exact sel_of rfl) (by omega) (by omega) ?_
      refine gg ?_
      refine i_ldD dd (by exact sel_of rfl) (by omega) ?_
      refine gg ?_
      refine s1_cons (det_dgcall cc.det (by exact sel_of rfl)) ?_
      refine i_liveP (by exact sel_of rfl) (by omega) ?_
      refine i_callD (by exact sel_of rfl) (by exact sel_of rfl) (by exact sel_of rfl) (cc.run _ k _ (by omega) _ _) ?_
      rintro _ h1c ⟨c1, rfl, hc1, kk⟩
      have k := k.trans (kk.but B)
      have dd := dd.keeps kk
      clear kk
      refine gg ?_
      refine out_ifc (by exact sel_of rfl) hc1 (fun hif => ?_) (fun hif => ?_)
      · refine gg ?_
        exact ⟨rfl, 2 * root + 2, ⟨k, dd, child_two h2 hif⟩, (sel_z rfl (by omega)), by exact sel_of rfl, by exact sel_of rfl, by exact sel_of rfl, by exact sel_of rfl, by exact sel_of rfl, trivial⟩
      · refine gg ?_
        exact ⟨rfl, 2 * root + 1, ⟨k, dd, child_one (by omega) (.inr hif)⟩, (sel_z rfl (by omega)), by exact sel_of rfl, by exact sel_of rfl, by exact sel_of rfl, by exact sel_of rfl, by exact sel_of rfl, trivial⟩
    · refine gg ?_
      refine s1_cons (det_skipP (by exact sel_of rfl) (by omega)) ?_
      refine gg ?_
      exact ⟨rfl, 2 * root + 1, ⟨k, dd, child_one (by omega) (.inl h2)⟩, (sel_z rfl (by omega)), by exact sel_of rfl, by exact sel_of rfl, by exact sel_of rfl, by exact sel_of rfl, by exact sel_of rfl, trivial⟩
  clear k dd
  rintro f h ⟨c, ⟨k, dd, hc, hrc, hch⟩, hs⟩
  obtain ⟨f0, rfl⟩ := hs.puts
  clear hs
  rw [he] at hch
  refine gg ?_
  refine i_idxD (a + root) (by exact sel_of rfl) (by exact sel_of rfl) (by omega) (by omega) ?_
  refine gg ?_
  refine i_ldD dd (by exact sel_of rfl) (by omega) ?_
  refine gg ?_
  refine i_idxD (a + c) (by exact sel_of rfl) (by exact sel_of rfl) (by omega) (by omega) ?_
  refine gg ?_
  refine i_ldD dd (by exact sel_of rfl) (by omega) ?_
  refine gg ?_
  refine s1_cons (det_dcall cc.det (by exact sel_of rfl)) ?_
  refine i_callD (by exact sel_of rfl) (by exact sel_of rfl) (by exact sel_of rfl) (cc.run _ k _ (by omega) _ _) ?_
  rintro _ h1c ⟨c1, rfl, hc1, kk⟩
  have k := k.trans (kk.but B)
  have dd := dd.keeps kk
  clear kk
  refine gg ?_
  refine out_ifnc (by exact sel_of rfl) hc1 (fun hif => ?_) (fun hif => ?_)
  · refine gg ?_
    rw [hif, Bool.not_false, if_pos rfl] at hch
    rw [hch]
    exact ⟨k, dd⟩
  · rw [hif, Bool.not_true, if_neg (by decide)] at hch
    refine gg ?_
    refine i_idxD (a + c) (by exact sel_of rfl) (by exact sel_of rfl) (by omega) (by omega) ?_
    refine gg ?_
    refine i_ldD dd (by exact sel_of rfl) (by omega) ?_
    refine gg ?_
    refine i_idxD (a + root) (by exact sel_of rfl) (by exact sel_of rfl) (by omega) (by omega) ?_
    refine gg ?_
    refine i_ldD dd (by exact sel_of rfl) (by omega) ?_
    refine gg ?_
    refine i_idxD (a + root) (by exact sel_of rfl) (by exact sel_of rfl) (by omega) (by omega) ?_
    refine i_stD dd (by exact sel_of rfl) (by exact sel_of rfl) (by omega) fun h1s k1s d1s => ?_
    refine gg ?_
    refine i_idxD (a + c) (by exact sel_of rfl) (by exact sel_of rfl) (by omega) (by omega) ?_
    refine i_stD d1s (by exact sel_of rfl) (by exact sel_of rfl) (by rw [Array.size_setIfInBounds]; omega) fun h2s k2s d2s => ?_
    have k := (k.trans k1s).trans k2s
    have dd := d2s
    rw [swp_eq] at dd
    clear d1s d2s k1s k2s
    refine gg ?_
    exact rnd_n (hi - c) (by omega) ⟨c, _, ⟨k, dd, by rw [Sort.size_swp]; exact hN1, rfl, by omega, hch.symm⟩, by exact sel_of rfl, by exact sel_of rfl, by exact sel_of rfl, by exact sel_of rfl, by exact sel_of rfl, trivial⟩
end
end Go.Proofs.Ytnffglfpjcbfaaa

/-! Sorting, walked: the heap sort, the reversal. -/
set_option linter.unusedVariables false
namespace Go.Proofs.Ytnffglfpjcbfaaa
open Go Vm
section
variable {rec : Rec} {L : List (Nat × Value)} {f : Fr} {dt : Nat} {h : Heap} {K : Fr → Heap → Prop} {l : List ISem} {rd : Bool} {x y : Sel} {z : Int}
theorem o_cutT {n : Nat} {a : Fr} {Q : Ex → Fr → Heap → Prop} {x y : Vm.Sem} (Mid : Fr → Heap → Prop) (h1 : OutQ (x.f rec n a h) (fun e a h => e = .normal ∧ Mid a h)) (h2 : ∀ a h, Mid a h → OutQ (y.f rec n a h) Q) : OutQ (x.f rec n a h) (Then y rec n Q) :=
  h1.mono fun e a h hk => by obtain ⟨rfl, hm⟩ := hk; exact h2 a h hm
theorem i_quo64 {m q : Nat} (r : Nat) (hx : x.f (puts L f) = .int .i64 z) (hz : z = (m : Int)) (hy : y.f (puts L f) = .int .i64 (q : Int)) (h0 : q ≠ 0) (hm : m < 9223372036854775808) (hr : m / q = r)
    (hq : ItQ (runItems rec l (puts ((dt, .int .i64 (r : Int)) :: L) f) h) K) : ItQ (runItems rec (iOp (put dt) (.v rd (oInt2 fQuo x y)) :: l) (puts L f) h) K := by
  subst hz
  refine i_v (int2w _ hx hy ?_) hq
  show (bif eqI (q : Int) 0 then none else some (Value.int .i64 (wrap .i64 (Int.tdiv (m : Int) (q : Int))))) = _
  rw [eqI_dec, decide_eq_false (by omega)]
  have : Int.tdiv (m : Int) (q : Int) = ((m / q : Nat) : Int) := rfl
  have h2 := Nat.div_le_self m q
  rw [this, wrap_i64 (by omega) (by omega), hr]
  rfl
end
section
variable {h0 h : Heap} {B n0 n : Nat} {g : FuncId} {cp : Array Value} {lt : El → El → Bool} {d : Array El} {s : Option Nat} {N C a b hi r0 : Nat}
theorem size_sift (hi first : Nat) : ∀ (root : Nat) (d : Array El), (Sort.siftDown lt hi first root d).size = d.size := by
  intro root d
  fun_induction Sort.siftDown lt hi first root d <;> simp_all [Sort.size_swp]
theorem w_heap (cc : Cp h0 B n0 g cp lt) (k : KeepsB B h0 h) (dd : DtS h B d) (hN : d.size = N) (hab : a < b) (hb : b ≤ N) (hbig : N < 1000000) (hn : N + n0 + 10 ≤ n) :
    ResQ (callN Try.prog G0 n (.call 44 [.slice (some ⟨B, 0, s⟩) N C, .int .i64 (a : Int), .int .i64 (b : Int), .func (.func g) #[] cp]) h) (fun _ h' => KeepsB B h0 h' ∧ DtS h' B (Sort.heapSort lt d a b)) := by
  obtain ⟨n, rfl⟩ : ∃ m, n = m + 1 := ⟨n - 1, by omega⟩
  refine res_enter rfl d44 rfl ?_; simp only [c44]
  refine gg ?_
  refine i_quo64 ((b - a - 1) / 2) (m := b - a - 1) (q := 2) (by exact sel_of rfl) (by omega) (by exact const_of) (by decide) (by omega) rfl ?_
  refine gg ?_
  refine o_while (fun m f h' => ∃ d', (KeepsB B h0 h' ∧ DtS h' B d' ∧ d'.size = N ∧ m ≤ (b - a - 1) / 2 + 1 ∧ Sort.heapBuild lt (b - a) a m d' = Sort.heapBuild lt (b - a) a ((b - a - 1) / 2 + 1) d) ∧ Sl [(11, .int .i64 ((m : Int) - 1)), (8, .int .i64 (a : Int)), (9, .int .i64 0), (10, .int .i64 ((b - a : Nat) : Int)), (0, .slice (some ⟨B, 0, s⟩) N C), (1, .int .i64 (a : Int)), (2, .int .i64 (b : Int)), (3, .func (.func g) #[] cp)] f) ((b - a - 1) / 2 + 1) (by omega) ⟨d, ⟨k, dd, hN, Nat.le_refl _, rfl⟩, (sel_z rfl (by omega)), by exact sel_of rfl, by exact sel_of rfl, (sel_z rfl (by omega)), by exact sel_of rfl, by exact sel_of rfl, by exact sel_of rfl, by exact sel_of rfl, trivial⟩ ?_
  clear k dd
  rintro m f h ⟨d1, ⟨k, dd, hN1, hm, he⟩, hs⟩
  obtain ⟨f0, rfl⟩ := hs.puts
  clear hs
  simp only [c44_0]
  cases m with
  | succ m =>
    refine gg ?_
    refine i_call5 (by exact sel_of rfl) (by exact sel_z rfl (by omega)) (by exact sel_z rfl (by omega)) (by exact sel_of rfl) (by exact sel_of rfl) (w_sift cc k dd hN1 (r0 := m) (hi := b - a) (a := a) (by omega) (by omega) (by omega) (by omega)) ?_
    rintro _ h1 ⟨k, dd⟩
    refine gg ?_
    exact rnd_n m (by omega) ⟨_, ⟨k, dd, by rw [size_sift]; exact hN1, by omega, he⟩, (sel_z rfl (by omega)), by exact sel_of rfl, by exact sel_of rfl, (sel_z rfl (by omega)), by exact sel_of rfl, by exact sel_of rfl, by exact sel_of rfl, by exact sel_of rfl, trivial⟩
  | zero =>
    refine gg ?_
    replace he : d1 = Sort.heapBuild lt (b - a) a ((b - a - 1) / 2 + 1) d := he
    refine o_while (fun m f h' => ∃ d', (KeepsB B h0 h' ∧ DtS h' B d' ∧ d'.size = N ∧ m ≤ b - a ∧ Sort.heapPop lt a m d' = Sort.heapSort lt d a b) ∧ Sl [(12, .int .i64 ((m : Int) - 1)), (8, .int .i64 (a : Int)), (9, .int .i64 0), (10, .int .i64 ((b - a : Nat) : Int)), (0, .slice (some ⟨B, 0, s⟩) N C), (1, .int .i64 (a : Int)), (2, .int .i64 (b : Int)), (3, .func (.func g) #[] cp)] f) (b - a) (by omega) ⟨d1, ⟨k, dd, hN1, Nat.le_refl _, by rw [he]; rfl⟩, (sel_z rfl (by omega)), by exact sel_of rfl, by exact sel_of rfl, (sel_z rfl (by omega)), by exact sel_of rfl, by exact sel_of rfl, by exact sel_of rfl, by exact sel_of rfl, trivial⟩ ?_
    clear k dd
    rintro m f h ⟨d2, ⟨k, dd, hN2, hm, he⟩, hs⟩
    obtain ⟨f0, rfl⟩ := hs.puts
    clear hs
    simp only [c44_1]
    cases m with
    | succ m =>
      refine gg ?_
      refine i_idxD (a + m) (by exact sel_of rfl) (by exact sel_of rfl) (by omega) (by omega) ?_
      refine gg ?_
      refine i_ldD dd (by exact sel_of rfl) (by omega) ?_
      refine gg ?_
      refine i_idxD (a) (by exact sel_of rfl) (by exact sel_of rfl) (by omega) (by omega) ?_
      refine gg ?_
      refine i_ldD dd (by exact sel_of rfl) (by omega) ?_
      refine gg ?_
      refine i_idxD (a) (by exact sel_of rfl) (by exact sel_of rfl) (by omega) (by omega) ?_
      refine i_stD dd (by exact sel_of rfl) (by exact sel_of rfl) (by omega) fun h1s k1s d1s => ?_
      refine gg ?_
      refine i_idxD (a + m) (by exact sel_of rfl) (by exact sel_of rfl) (by omega) (by omega) ?_
      refine i_stD d1s (by exact sel_of rfl) (by exact sel_of rfl) (by rw [Array.size_setIfInBounds]; omega) fun h2s k2s d2s => ?_
      have k := (k.trans k1s).trans k2s
      have dd := d2s
      rw [swp_eq] at dd
      clear d1s d2s k1s k2s
      refine gg ?_
      refine i_call5 (by exact sel_of rfl) (by exact sel_z rfl (by omega)) (by exact sel_z rfl (by omega)) (by exact sel_of rfl) (by exact sel_of rfl) (w_sift cc k dd (by rw [Sort.size_swp]; exact hN2) (r0 := 0) (hi := m) (a := a) (by omega) (by omega) (by omega) (by omega)) ?_
      rintro _ h1 ⟨k, dd⟩
      refine gg ?_
      exact rnd_n m (by omega) ⟨_, ⟨k, dd, by rw [size_sift, Sort.size_swp]; exact hN2, by omega, he⟩, (sel_z rfl (by omega)), by exact sel_of rfl, by exact sel_of rfl, (sel_z rfl (by omega)), by exact sel_of rfl, by exact sel_of rfl, by exact sel_of rfl, by exact sel_of rfl, trivial⟩
    | zero =>
      refine gg ?_
      replace he : d2 = Sort.heapSort lt d a b := he
      subst he
      exact ⟨k, dd⟩
theorem w_rev (cc : Cp h0 B n0 g cp lt) (k : KeepsB B h0 h) (dd : DtS h B d) (hN : d.size = N) (hab : a < b) (hb : b ≤ N) (hbig : N < 1000000) (hn : N + n0 + 10 ≤ n) :
    ResQ (callN Try.prog G0 n (.call 47 [.slice (some ⟨B, 0, s⟩) N C, .int .i64 (a : Int), .int .i64 (b : Int), .func (.func g) #[] cp]) h) (fun _ h' => KeepsB B h0 h' ∧ DtS h' B (Sort.reverseRange d a b)) := by
  obtain ⟨n, rfl⟩ : ∃ m, n = m + 1 := ⟨n - 1, by omega⟩
  refine res_enter rfl d47 rfl ?_; simp only [c47]
  refine gg ?_
  refine o_while (fun m f h' => ∃ i j d', (KeepsB B h0 h' ∧ DtS h' B d' ∧ d'.size = N ∧ j < N ∧ i ≤ j + 1 ∧ j + 1 - i = m ∧ Sort.reverseLoop i j d' = Sort.reverseRange d a b) ∧ Sl [(8, .int .i64 (i : Int)), (9, .int .i64 (j : Int)), (0, .slice (some ⟨B, 0, s⟩) N C)] f) (b - 1 + 1 - a) (by omega) ⟨a, b - 1, d, ⟨k, dd, hN, by omega, by omega, rfl, rfl⟩, by exact sel_of rfl, (sel_z rfl (by omega)), by exact sel_of rfl, trivial⟩ ?_
  clear k dd
  rintro m f h ⟨i, j, d1, ⟨k, dd, hN1, hj, hij, hm, he⟩, hs⟩
  obtain ⟨f0, rfl⟩ := hs.puts
  clear hs
  simp only [c47_0]
  rw [Sort.reverseLoop] at he
  refine gg ?_
  refine out_if (by exact sel_of rfl) (fun hif => ?_) (fun hif => ?_)
  · rw [if_pos (by omega)] at he
    refine gg ?_
    refine i_idxD (j) (by exact sel_of rfl) (by exact sel_of rfl) (by omega) (by omega) ?_
    refine gg ?_
    refine i_ldD dd (by exact sel_of rfl) (by omega) ?_
    refine gg ?_
    refine i_idxD (i) (by exact sel_of rfl) (by exact sel_of rfl) (by omega) (by omega) ?_
    refine gg ?_
    refine i_ldD dd (by exact sel_of rfl) (by omega) ?_
    refine gg ?_
    refine i_idxD (i) (by exact sel_of rfl) (by exact sel_of rfl) (by omega) (by omega) ?_
    refine i_stD dd (by exact sel_of rfl) (by exact sel_of rfl) (by omega) fun h1s k1s d1s => ?_
    refine gg ?_
    refine i_idxD (j) (by exact sel_of rfl) (by exact sel_of rfl) (by omega) (by omega) ?_
    refine i_stD d1s (by exact sel_of rfl) (by exact sel_of rfl) (by rw [Array.size_setIfInBounds]; omega) fun h2s k2s d2s => ?_
    have k := (k.trans k1s).trans k2s
    have dd := d2s
    rw [swp_eq] at dd
    clear d1s d2s k1s k2s
    refine gg ?_
    exact rnd_n (j - 1 + 1 - (i + 1)) (by omega) ⟨i + 1, j - 1, _, ⟨k, dd, by rw [Sort.size_swp]; exact hN1, by omega, by omega, rfl, he⟩, (sel_z rfl (by omega)), (sel_z rfl (by omega)), by exact sel_of rfl, trivial⟩
  · rw [if_neg (by omega)] at he
    refine gg ?_
    subst he
    exact ⟨k, dd⟩
end
end Go.Proofs.Ytnffglfpjcbfaaa

