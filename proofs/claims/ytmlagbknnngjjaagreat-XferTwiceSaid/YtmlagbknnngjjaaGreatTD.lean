/- Part of a proof by an abstract run of the program's code: TD. No condition. -/
import Derived.Test.YtmlagbknnngjjaaGreatTB
/-! Split: a message as chunks. -/
set_option linter.unusedVariables false
namespace Go.Proofs.YtmlagbknnngjjaaGreat
open Go Vm
section
variable {rec : Rec} {a : Fr} {h : Heap} {K : Fr → Heap → Prop} {L : List (Nat × Value)} {f : Fr} {dt : Nat} {x lo hi mx : Sel} {l : List ISem} {rd : Bool} {sz m c : Nat} {cs : List Value} {k k' k'' : IntKind}
theorem i_sl3 {q : Addr} {b t : Nat} (hx : x.f (puts L f) = .slice (some q) m c) (hr : Row h sz (some q) m cs) (hc : m ≤ c) (hz : lo.f (puts L f) = .int k' (b : Int)) (hy : hi.f (puts L f) = .int k (t : Int)) (hw : mx.f (puts L f) = .int k'' (t : Int)) (hb : b < t) (ht : t ≤ m) (hq : Row h sz (some ⟨q.block, q.off + b * sz, none⟩) (t - b) ((cs.drop (b * sz)).take ((t - b) * sz)) → ItQ (runItems rec l (puts ((dt, (.slice (some ⟨q.block, q.off + b * sz, none⟩) (t - b) (t - b))) :: L) f) h) K) :
    ItQ (runItems rec (iOp (put dt) (.v rd (oSlice sz x (some lo) (some hi) (some mx))) :: l) (puts L f) h) K := by
  refine i_v (v := .slice (some ⟨q.block, q.off + b * sz, none⟩) (t - b) (t - b)) ?_ (hq (hr.part (by omega) (.inl rfl)))
  have e1 : Nat.beq t b = false := by rw [← Bool.not_eq_true]; exact fun e => by have := Nat.eq_of_beq_eq_true e; omega
  have e2 : cutSpot sz b t t (some mx) q.spot = some none := by cases q.spot <;> rfl
  simp only [oSlice, hx, bnd_nat hw (show t ≤ c by omega), bnd_nat hy (Nat.le_refl t), bnd_nat hz (show b ≤ t by omega), e1, e2, cond_false]
end
/-- octets in pieces -/
def pcsF (most : Nat) : Nat → List UInt8 → List (List UInt8)
  | 0, _ => []
  | k + 1, b => if b = [] then [] else b.take most :: pcsF most k (b.drop most)
def pcs (most : Nat) (b : List UInt8) : List (List UInt8) := pcsF most b.length b
theorem pcsF_fuel {most : Nat} (h1 : 1 ≤ most) : ∀ (k k' : Nat) (b : List UInt8), b.length ≤ k → b.length ≤ k' → pcsF most k b = pcsF most k' b
  | 0, 0, _, _, _ => rfl
  | 0, k' + 1, b, hk, _ => by
    have : b = [] := List.length_eq_zero_iff.1 (by omega)
    simp [pcsF, this]
  | k + 1, 0, b, _, hk => by
    have : b = [] := List.length_eq_zero_iff.1 (by omega)
    simp [pcsF, this]
  | k + 1, k' + 1, b, hk, hk' => by
    unfold pcsF
    by_cases hb : b = []
    · rw [if_pos hb, if_pos hb]
    · rw [if_neg hb, if_neg hb]
      have : 0 < b.length := List.length_pos_iff.2 hb
      rw [pcsF_fuel h1 k k' (b.drop most) (by rw [List.length_drop]; omega) (by rw [List.length_drop]; omega)]
theorem pcs_nil (most : Nat) : pcs most [] = [] := rfl
theorem pcs_cons {most : Nat} (h1 : 1 ≤ most) {b : List UInt8} (hb : b ≠ []) : pcs most b = b.take most :: pcs most (b.drop most) := by
  have : 0 < b.length := List.length_pos_iff.2 hb
  obtain ⟨k, hk⟩ : ∃ k, b.length = k + 1 := ⟨b.length - 1, by omega⟩
  unfold pcs
  rw [hk]
  show (if b = [] then [] else b.take most :: pcsF most k (b.drop most)) = _
  rw [if_neg hb, pcsF_fuel h1 k (b.drop most).length _ (by rw [List.length_drop]; omega) (Nat.le_refl _)]
theorem pcs_len {most : Nat} (h1 : 1 ≤ most) : ∀ (n : Nat) (b : List UInt8), b.length ≤ n → (pcs most b).length ≤ b.length
  | 0, b, hb => by
    have : b = [] := List.length_eq_zero_iff.1 (by omega)
    rw [this]; exact Nat.le_refl _
  | n + 1, b, hb => by
    by_cases h0 : b = []
    · rw [h0]; exact Nat.le_refl _
    · have : 0 < b.length := List.length_pos_iff.2 h0
      have hd : (b.drop most).length ≤ n := by rw [List.length_drop]; omega
      have := pcs_len h1 n (b.drop most) hd
      rw [pcs_cons h1 h0, List.length_cons]
      rw [List.length_drop] at this
      omega
theorem pcs_mem {most : Nat} (h1 : 1 ≤ most) : ∀ (n : Nat) (b : List UInt8), b.length ≤ n → ∀ p ∈ pcs most b, p ≠ [] ∧ p.length ≤ most
  | 0, b, hb, p, hp => by
    have : b = [] := List.length_eq_zero_iff.1 (by omega)
    rw [this] at hp; cases hp
  | n + 1, b, hb, p, hp => by
    by_cases h0 : b = []
    · rw [h0] at hp; cases hp
    · have hl : 0 < b.length := List.length_pos_iff.2 h0
      rw [pcs_cons h1 h0] at hp
      rcases List.mem_cons.1 hp with rfl | hp
      · refine ⟨fun e => ?_, by rw [List.length_take]; omega⟩
        have := congrArg List.length e
        rw [List.length_take, List.length_nil] at this; omega
      · exact pcs_mem h1 n (b.drop most) (by rw [List.length_drop]; omega) p hp
/-- a piece as a chunk, without flags -/
def ck0 (str ssn pp : Nat) (i : Nat) (p : List UInt8) : Ck := ⟨0, i, str, ssn, pp, p, 0, .slice none 0 0, .slice none 0 0, .slice none 0 0, .slice none 0 0⟩
def cC (str ssn pp : Nat) (A : Int) (v : Value) : List Value := [.int .u8 ((0 : Nat) : Int), .int .u8 ((0 : Nat) : Int), .int .u32 A, .int .u32 ((0 : Nat) : Int), .int .u16 (str : Int), .int .u16 (ssn : Int), .int .u32 (pp : Int), .slice none 0 0, .slice none 0 0, .slice none 0 0, .slice none 0 0, v]
/-- while Split ranges over pieces -/
structure SP (h0 h : Heap) (N L : Nat) (o : Addr) (dn dc most str ssn pp : Nat) (a : Fr) (ks : List (Nat × Ck)) (st : LoopState) : Prop where
  keep : Keeps h0 h
  gT : h.get (N + 1) = some (.cells 22 [.int .u32 ((0 : Nat) : Int)] (.own false))
  gC : ∃ A v, h.get (N + 2) = some (.cells 42 (cC str ssn pp A v) (.own false))
  gO : ∃ ov, h.get (N + 3) = some (.cells 35 [.slice ov ks.length ks.length] (.own false)) ∧ Arr (L + 1) h 42 12 ov ks.length (cksv ks)
  gB : h.get (N + 4) = some (.cells 31 [.slice (some o) dn dc] (.own false))
  gM : h.get (N + 5) = some (.cells 3 [nv most] (.own false))
  gL : h.get L = some (.loop 77 [45] k28_0.1 k28_0.2 a st none)
  ch : ∀ x ∈ ks, L < x.1 ∧ Dat h x.1 x.2.dt
  ord : h0.next ≤ N ∧ N + 5 < L ∧ L < h.next
theorem SP.set {h0 h : Heap} {N L : Nat} {o : Addr} {dn dc most str ssn pp : Nat} {a : Fr} {ks : List (Nat × Ck)} {st : LoopState} (T : SP h0 h N L o dn dc most str ssn pp a ks st) (st' : LoopState) : SP h0 (h.put L (.loop 77 [45] k28_0.1 k28_0.2 a st' none)) N L o dn dc most str ssn pp a ks st' := by
  obtain ⟨keep, gT, ⟨A, v, gC⟩, ⟨ov, gO, ar⟩, gB, gM, gL, ch, o1, o2, o3⟩ := T
  have hg : ∀ d, d ≠ L → (h.put L (.loop 77 [45] k28_0.1 k28_0.2 a st' none)).get d = h.get d := fun d hd => by rw [Heap.get_put, if_neg hd]
  refine ⟨keep.put (by omega) _, (hg _ (by omega)).trans gT, ⟨A, v, (hg _ (by omega)).trans gC⟩, ⟨ov, (hg _ (by omega)).trans gO, ar.low (Nat.le_refl _) fun d h1 _ => hg d (by omega)⟩, (hg _ (by omega)).trans gB, (hg _ (by omega)).trans gM, by rw [Heap.get_put, if_pos rfl], fun x hx => ?_, o1, o2, o3⟩
  obtain ⟨h1, h2, h3⟩ := ch x hx
  exact ⟨h1, h2, (hg _ (by omega)).trans h3⟩
section
variable {h0 h : Heap} {n N L dn dc most str ssn pp : Nat} {o : Addr} {a : Fr} {ks : List (Nat × Ck)}
set_option maxHeartbeats 2000000 in
theorem w_spround {o' : Addr} {p : List UInt8} {c' : Nat} (T : SP h0 h N L o dn dc most str ssn pp a ks .ready) (fr : Sl [(5, pt (N + 1)), (10, pt (N + 2)), (11, pt (N + 3))] a) (hp : Row h0 1 (some o') p.length (u8s p)) (hp0 : p ≠ []) (hpl : p.length ≤ 20000) (hks : ks.length ≤ 20000) (hn : 3 ≤ n) :
    ResQ (callN Tryz.prog G0 n (.yield L [.slice (some o') p.length c']) h) (fun v h' => v = .bool true ∧ ∃ k, SP h0 h' N L o dn dc most str ssn pp a (ks ++ [(k, ck0 str ssn pp ks.length p)]) .ready) := by
  have frs := fr
  obtain ⟨n, rfl⟩ : ∃ m, n = m + 1 := ⟨n - 1, by omega⟩
  refine res_yield T.gL rfl ea28_0 eb28_0 ?_
  obtain ⟨f0, hfa⟩ := fr.puts
  rw [show setAll [45] [.slice (some o') p.length c'] a = puts [(45, .slice (some o') p.length c'), (5, pt (N + 1)), (10, pt (N + 2)), (11, pt (N + 3))] f0 by rw [hfa]; rfl]
  simp only [a28_0]
  refine gg ?_
  refine YA.mk T.gL ?_
  simp only [b28_0]
  have T := T.set .busy
  generalize (h.put L (.loop 77 [45] k28_0.1 k28_0.2 a .busy none)) = h1 at *
  obtain ⟨keep, gT, ⟨A, v, gC⟩, ⟨ov, gO, ar⟩, gB, gM, gL, ch, o1, o2, o3⟩ := T
  have hpb : o'.block < h0.next := hp.2.1
  have lT : load1 h1.get ⟨N + 1, 0, none⟩ = some (.int .u32 ((0 : Nat) : Int)) := (load1_own gT).trans (by rfl)
  have lO : load1 h1.get ⟨N + 3, 0, none⟩ = some (.slice ov ks.length ks.length) := (load1_own gO).trans (by rfl)
  refine gg ?_
  refine i_load1 (v := .int .u32 ((0 : Nat) : Int)) (by exact sel_of rfl) lT ?_
  refine gg ?_
  refine i_load1 (v := .slice ov ks.length ks.length) (by exact sel_of rfl) lO ?_
  refine gg ?_
  refine i_addW (q := ((ks.length : Nat) : Int)) (r := ((ks.length : Nat) : Int)) (by exact sel_of rfl) (by exact sel_of rfl) (by rw [add32, Nat.zero_add, Nat.mod_eq_of_lt (by omega)]) ?_
  refine gg ?_
  refine i_call1 (by exact sel_of rfl) (w_cloneX (hp.keeps keep) hp0 (by omega) (by omega)) ?_
  rintro _ h2 ⟨kb, rfl, k2, dt2, hkb⟩
  have hn2 := k2.next
  refine gg ?_
  refine i_stB (v := .int .u32 ((ks.length : Nat) : Int)) (by exact sel_of rfl) (by rw [sel_of rfl]; rfl) ((k2.get (N + 2) (by omega)).trans gC) (by show 2 < 12; decide) fun h3 k3 n3 g3 => ?_
  refine gg ?_
  refine i_stB (v := .slice (some ⟨kb, 0, some 1⟩) p.length p.length) (by exact sel_of rfl) (by rw [sel_of rfl]; rfl) g3 (by show 11 < 12; decide) fun h4 k4 n4 g4 => ?_
  have g4 : h4.get (N + 2) = some (.cells 42 (cC str ssn pp (ks.length : Int) (.slice (some ⟨kb, 0, some 1⟩) p.length p.length)) (.own false)) := g4
  refine gg ?_
  refine ⟨chk_cons (a := _) rfl (ld1 (by exact sel_of rfl) lT) (sv_int _ _) (fun m hm => by
    simp only [List.mem_cons, List.not_mem_nil, or_false] at hm
    rcases hm with rfl | rfl
    · exact ⟨_, _, rfl, ld1 (by exact sel_of rfl) lT⟩
    · exact ⟨_, _, rfl, ld1 (by exact sel_of rfl) ((load1_own ((k2.get (N + 1) (by omega)).trans gT)).trans (by rfl))⟩) (chk_cons (a := _) rfl (ld1 (by exact sel_of rfl) lO) (sv_slice _ _ _) (fun m hm => by
    simp only [List.mem_cons, List.not_mem_nil, or_false] at hm
    rcases hm with rfl | rfl
    · exact ⟨_, _, rfl, ld1 (by exact sel_of rfl) lO⟩
    · exact ⟨_, _, rfl, ld1 (by exact sel_of rfl) ((load1_own ((k2.get (N + 3) (by omega)).trans gO)).trans (by rfl))⟩) chk_nil), ?_⟩
  have low4 : ∀ d, d < h1.next → d ≠ N + 2 → h4.get d = h1.get d := fun d hd h5 => by
    rw [k4.get d (by omega) h5, k3.get d (by omega) h5, k2.get d hd]
  have dt4 : Dat h4 kb p := by
    have h5 := dt2.1
    exact ⟨by omega, by rw [k4.get _ (by omega) (by omega), k3.get _ (by omega) (by omega)]; exact dt2.2⟩
  have n4f : h4.next = h2.next := by omega
  clear k2 k3 k4 g3 dt2 n3 n4
  refine gg ?_
  refine i_load1 (v := .slice ov ks.length ks.length) (by exact sel_of rfl) ((load1_own (b := N + 3) ((low4 _ (by omega) (by omega)).trans gO)).trans (by rfl)) ?_
  refine i_loadN (v := cC str ssn pp (ks.length : Int) (.slice (some ⟨kb, 0, some 1⟩) p.length p.length)) (by exact sel_of rfl) (loadN_all g4 rfl) ?_
  refine i_bslice (cs := ckv (ck0 str ssn pp ks.length p) (some ⟨kb, 0, some 1⟩) p.length) (by rfl) ?_
  have k5 : Keeps h4 (h4.new (.cells 42 (ckv (ck0 str ssn pp ks.length p) (some ⟨kb, 0, some 1⟩) p.length) (.own false))) := Keeps.new h4 _
  have r5 : Row (h4.new (.cells 42 (ckv (ck0 str ssn pp ks.length p) (some ⟨kb, 0, some 1⟩) p.length) (.own false))) 12 (some ⟨h4.next, 0, none⟩) 1 (ckv (ck0 str ssn pp ks.length p) (some ⟨kb, 0, some 1⟩) p.length) := Row.new (by simp) rfl (.inl rfl)
  have n5 : (h4.new (.cells 42 (ckv (ck0 str ssn pp ks.length p) (some ⟨kb, 0, some 1⟩) p.length) (.own false))).next = h4.next + 1 := rfl
  generalize (h4.new (.cells 42 (ckv (ck0 str ssn pp ks.length p) (some ⟨kb, 0, some 1⟩) p.length) (.own false))) = h5 at *
  have low5 : ∀ d, d < h1.next → d ≠ N + 2 → h5.get d = h1.get d := fun d hd h6 => (k5.get d (by omega)).trans (low4 d hd h6)
  have ar5 : Arr (L + 1) h5 42 12 ov ks.length (cksv ks) := ar.low (by omega) fun d h1 h2 => low5 d h2 (by omega)
  have hko : ∀ q, ov = some q → L + 1 ≤ q.block ∧ q.block < h1.next ∧ h1.get q.block = some (.cells 42 (cksv ks) (.own true)) := fun q e => by
    rcases ar.2 with ⟨_, h2⟩ | ⟨k, h2, h3, h4, h5⟩
    · rw [h2] at e; cases e
    · rw [h2] at e; cases e; exact ⟨h3, h4, h5⟩
  refine i_appF (B := L + 1) (m := 1) (t := (ks ++ [(kb, ck0 str ssn pp ks.length p)]).length) (es := cksv (ks ++ [(kb, ck0 str ssn pp ks.length p)])) (by decide) (by omega) (by exact sel_of rfl) ar5.ap (by rw [sel_of rfl]; exact r5.src) rfl (by omega) (by simp) (by rw [cksv_snoc]; rfl) fun h6 n6 e6 ap6 => ?_
  have low6 : ∀ d, d < h1.next → d ≠ N + 2 → (∀ q, ov = some q → d ≠ q.block) → h6.get d = h1.get d := fun d hd h7 h8 => by
    rw [e6 d (by omega) (fun q hq => .inl (h8 q hq)), low5 d hd h7]
  have hkl : ∀ d, d < L + 1 → ∀ q, ov = some q → d ≠ q.block := fun d hd q hq => by have := (hko q hq).1; omega
  refine i_stB (b := N + 3) (v := .slice (some ⟨h5.next, 0, some 12⟩) (ks ++ [(kb, ck0 str ssn pp ks.length p)]).length (ks ++ [(kb, ck0 str ssn pp ks.length p)]).length) (by exact sel_of rfl) (by rw [sel_of rfl]; rfl) ((low6 (N + 3) (by omega) (by omega) (hkl _ (by omega))).trans gO) (by show 0 < 1; decide) fun h7 k7 n7 g7 => ?_
  refine gg ?_
  have low7 : ∀ d, d < h1.next → d ≠ N + 2 → d ≠ N + 3 → (∀ q, ov = some q → d ≠ q.block) → h7.get d = h1.get d := fun d hd h8 h9 h10 => by
    rw [k7.get d (by omega) h9]; exact low6 d hd h8 h10
  have gL7 := (low7 L (by omega) (by omega) (by omega) (hkl _ (by omega))).trans gL
  have hk0 := keep.next
  refine YB.go gL7 ⟨rfl, kb, ?_⟩
  have T7 : SP h0 h7 N L o dn dc most str ssn pp a (ks ++ [(kb, ck0 str ssn pp ks.length p)]) .busy := by
    refine ⟨⟨by omega, fun d hd => (low7 d (by omega) (by omega) (by omega) (hkl _ (by omega))).trans (keep.get d hd)⟩, (low7 _ (by omega) (by omega) (by omega) (hkl _ (by omega))).trans gT, ⟨(ks.length : Int), .slice (some ⟨kb, 0, some 1⟩) p.length p.length, ?_⟩, ⟨_, g7, ?_⟩, (low7 _ (by omega) (by omega) (by omega) (hkl _ (by omega))).trans gB, (low7 _ (by omega) (by omega) (by omega) (hkl _ (by omega))).trans gM, gL7, fun x hx => ?_, o1, o2, by omega⟩
    · exact (by rw [k7.get _ (by omega) (by omega), e6 _ (by omega) (fun q hq => .inl (hkl _ (by omega) q hq)), k5.get _ (by omega)]; exact g4)
    · exact (Arr.of ap6 (by omega)).low (by omega) fun d h2 h3 => k7.get d h3 (by omega)
    · rw [List.mem_append] at hx
      rcases hx with hx | hx
      · obtain ⟨c1, c2, c3⟩ := ch x hx
        refine ⟨c1, by omega, ?_⟩
        rw [low7 _ c2 (by omega) (by omega) (fun q hq hxe => by have := (hko q hq).2.2; rw [← hxe, c3] at this; cases this)]
        exact c3
      · simp only [List.mem_cons, List.not_mem_nil, or_false] at hx
        subst hx
        have hd4 := dt4.1
        refine ⟨by show L < kb; omega, by show kb < _; omega, ?_⟩
        show h7.get kb = _
        rw [k7.get _ (by omega) (by omega), e6 _ (by omega) (fun q hq => .inl (by have := (hko q hq).2.1; omega)), k5.get _ hd4]
        exact dt4.2
  exact T7.set .ready
/-- the pieces as chunks, without flags -/
def ck0s (str ssn pp : Nat) (ps : List (List UInt8)) : List Ck := ps.mapIdx fun i p => ck0 str ssn pp i p
theorem ck0s_snoc (str ssn pp : Nat) (ps : List (List UInt8)) (p : List UInt8) : ck0s str ssn pp (ps ++ [p]) = ck0s str ssn pp ps ++ [ck0 str ssn pp ps.length p] := by
  unfold ck0s; rw [List.mapIdx_concat]
theorem w_chunk1 {d : List UInt8} (T : SP h0 h N L o d.length dc most str ssn pp a [] .ready) (fr : Sl [(5, pt (N + 1)), (10, pt (N + 2)), (11, pt (N + 3))] a) (hr : Row h0 1 (some o) d.length (u8s d)) (hdc : d.length ≤ dc) (hd : d.length ≤ 16384) (h1 : 1 ≤ most) (h2 : most ≤ 1172) (hn : d.length + 10 ≤ n) :
    ResQ (callN Tryz.prog G0 n (.call 79 [.func (.yield L) #[] #[], pt (N + 4), pt (N + 5)]) h) (fun _ h' => ∃ ks, SP h0 h' N L o d.length dc most str ssn pp a ks .ready ∧ ks.map (·.2) = ck0s str ssn pp (pcs most d)) := by
  obtain ⟨n, rfl⟩ : ∃ m, n = m + 1 := ⟨n - 1, by omega⟩
  refine res_enter rfl d79 rfl ?_; simp only [c79]
  refine gg ?_
  refine o_while (fun m f h' => ∃ (i : Nat) (ks : List (Nat × Ck)) (ps : List (List UInt8)), (SP h0 h' N L o d.length dc most str ssn pp a ks .ready ∧ m = d.length - i ∧ i ≤ d.length + 1172 ∧ pcs most d = ps ++ pcs most (d.drop i) ∧ ks.map (·.2) = ck0s str ssn pp ps ∧ ps.length ≤ i) ∧ Sl [(4, nv i), (0, .func (.yield L) #[] #[]), (1, pt (N + 4)), (2, pt (N + 5))] f) d.length (by omega) ⟨0, [], [], ⟨T, rfl, by omega, rfl, rfl, Nat.le_refl _⟩, sel_of rfl, sel_of rfl, sel_of rfl, sel_of rfl, trivial⟩ ?_
  clear T
  rintro m f h ⟨i, ks, ps, ⟨T, rfl, hi, hpc, hks, hpl⟩, hsl⟩
  obtain ⟨f0, rfl⟩ := hsl.puts
  clear hsl
  have hkl : ks.length = ps.length := by
    have h5 := congrArg List.length hks
    rw [List.length_map] at h5
    rw [h5]; unfold ck0s; rw [List.length_mapIdx]
  simp only [c79_0]
  refine gg ?_
  have lB : load1 h.get ⟨N + 4, 0, none⟩ = some (.slice (some o) d.length dc) := (load1_own T.gB).trans (by rfl)
  have lM : load1 h.get ⟨N + 5, 0, none⟩ = some (nv most) := (load1_own T.gM).trans (by rfl)
  refine i_load1 (v := .slice (some o) d.length dc) (by exact sel_of rfl) lB ?_
  refine gg ?_
  by_cases hlt : i < d.length
  · refine gg ?_
    refine i_load1 (v := nv most) (by exact sel_of rfl) lM ?_
    refine i_load1 (v := .slice (some o) d.length dc) (by exact sel_of rfl) lB ?_
    refine gg ?_
    have hrk := hr.keeps T.keep
    refine i_sl_lo (i := i) (by exact sel_of rfl) hrk hdc (by exact sel_of rfl) (by omega) fun o2 _ _ => ?_
    refine gg ?_
    refine i_minZ (t := ((min most (d.length - i) : Nat) : Int)) (by exact sel_of rfl) (by exact sel_of rfl) (by omega) ?_
    refine gg ?_
    refine i_load1 (v := .slice (some o) d.length dc) (by exact sel_of rfl) lB ?_
    refine gg ?_
    have hne : d.drop i ≠ [] := fun e => by
      have := congrArg List.length e
      rw [List.length_drop, List.length_nil] at this; omega
    have hpeq : (u8s d).drop (i * 1) = u8s (d.drop i) := by rw [Nat.mul_one, u8s_eq, u8s_eq, List.map_drop]
    refine i_sl3 (b := i) (t := i + min most (d.length - i)) (by exact sel_of rfl) hrk hdc (by exact sel_of rfl) (by exact sel_of rfl) (by exact sel_of rfl) (by omega) (by omega) fun hr3 => ?_
    have hplen : ((d.drop i).take most).length = i + min most (d.length - i) - i := by rw [List.length_take, List.length_drop]; omega
    have hp2 : (d.drop i).take most = (d.drop i).take (i + min most (d.length - i) - i) := by
      by_cases hm : most ≤ d.length - i
      · rw [show i + min most (d.length - i) - i = most by omega]
      · rw [List.take_of_length_le (by rw [List.length_drop]; omega), List.take_of_length_le (by rw [List.length_drop]; omega)]
    have hr4 : Row h0 1 (some ⟨o.block, o.off + i * 1, none⟩) ((d.drop i).take most).length (u8s ((d.drop i).take most)) := by
      have h5 := hr.part (b := i) (m := i + min most (d.length - i) - i) (by omega) (s := none) (.inl rfl)
      have : (u8s ((d.drop i).take most)) = ((u8s d).drop (i * 1)).take ((i + min most (d.length - i) - i) * 1) := by
        rw [hpeq, Nat.mul_one, hp2, u8s_eq, u8s_eq, List.map_take]
      rw [this, hplen]; exact h5
    have hp0 : (d.drop i).take most ≠ [] := fun e => by
      have := congrArg List.length e
      rw [hplen, List.length_nil] at this; omega
    rw [← hplen]
    refine i_yieldX (by exact sel_of rfl) (by exact sel_of rfl) (w_spround T fr hr4 hp0 (by omega) (by omega) (by omega)) ?_
    rintro _ h' ⟨rfl, kb, T'⟩
    refine gg ?_
    refine i_load1 (v := nv most) (by exact sel_of rfl) ((load1_own T'.gM).trans (by rfl)) ?_
    refine gg ?_
    refine rnd_n (d.length - (i + most)) (by omega) ⟨i + most, _, ps ++ [(d.drop i).take most], ⟨T', rfl, by omega, ?_, ?_, ?_⟩, sel_of rfl, sel_of rfl, sel_of rfl, sel_of rfl, trivial⟩
    · rw [hpc, pcs_cons h1 hne, List.drop_drop, List.append_assoc]; rfl
    · rw [List.map_append, hks, ck0s_snoc, hkl]; rfl
    · rw [List.length_append]; show ps.length + 1 ≤ _; omega
  · refine gg ?_
    have : d.drop i = [] := List.drop_eq_nil_of_le (by omega)
    rw [this, pcs_nil, List.append_nil] at hpc
    exact ⟨ks, T, by rw [hpc]; exact hks⟩
end
end Go.Proofs.YtmlagbknnngjjaaGreat

/-! Split, whole. -/
set_option linter.unusedVariables false
namespace Go.Proofs.YtmlagbknnngjjaaGreat
open Go Vm
/-- a message's chunks -/
def spl (str ssn pp : Nat) (ps : List (List UInt8)) : List Ck := ps.mapIdx fun i p => { ck0 str ssn pp i p with fl := (if i = 0 then 2 else 0) + (if i + 1 = ps.length then 1 else 0) }
theorem cksv_fl : ∀ (ks : List (Nat × Ck)) (j f : Nat) (x : Nat × Ck), ks[j]? = some x → (cksv ks).set (j * 12 + 1) (.int .u8 (f : Int)) = cksv (ks.set j (x.1, { x.2 with fl := f }))
  | [], j, f, x, h => by cases h
  | y :: ks, 0, f, x, h => by
    cases h
    rfl
  | y :: ks, j + 1, f, x, h => by
    have ih := cksv_fl ks j f x h
    show (ckv y.2 _ _ ++ cksv ks).set _ _ = ckv y.2 _ _ ++ cksv (ks.set j _)
    rw [← ih, List.set_append_right _ _ (by rw [ckv_length]; omega), ckv_length]
    congr 2
    omega
theorem cksv_at : ∀ (ks : List (Nat × Ck)) (j : Nat) (x : Nat × Ck), ks[j]? = some x → (cksv ks)[j * 12 + 1]? = some (.int .u8 (x.2.fl : Int))
  | [], j, x, h => by cases h
  | y :: ks, 0, x, h => by cases h; rfl
  | y :: ks, j + 1, x, h => by
    have ih := cksv_at ks j x h
    show (ckv y.2 _ _ ++ cksv ks)[_]? = _
    rw [List.getElem?_append_right (by rw [ckv_length]; omega), ckv_length, ← ih]
    congr 1
    omega
theorem pcs_pos {most : Nat} (h1 : 1 ≤ most) {d : List UInt8} (hd : d ≠ []) : 0 < (pcs most d).length := by rw [pcs_cons h1 hd]; exact Nat.succ_pos _
/-- the flags, set behind -/
theorem spl_of {str ssn pp : Nat} {ps : List (List UInt8)} {ks : List (Nat × Ck)} (hks : ks.map (·.2) = ck0s str ssn pp ps) {x0 x1 : Nat × Ck} {f : Nat} (h0 : ks[0]? = some x0) (h1 : (ks.set 0 (x0.1, { x0.2 with fl := 2 }))[ks.length - 1]? = some x1) (hf : f = if ks.length = 1 then 3 else 1) :
    ((ks.set 0 (x0.1, { x0.2 with fl := 2 })).set (ks.length - 1) (x1.1, { x1.2 with fl := f })).map (·.2) = spl str ssn pp ps := by
  have hlen : ks.length = ps.length := by
    have h5 := congrArg List.length hks
    rw [List.length_map] at h5
    rw [h5]; unfold ck0s; rw [List.length_mapIdx]
  have hpos : 0 < ks.length := (List.getElem?_eq_some_iff.1 h0).1
  have hc : ∀ (i : Nat) (hi : i < ks.length), ks[i].2 = ck0 str ssn pp i (ps[i]'(by omega)) := fun i hi => by
    have h5 : (ks.map (·.2))[i]? = (ck0s str ssn pp ps)[i]? := by rw [hks]
    unfold ck0s at h5
    rw [List.getElem?_map, List.getElem?_mapIdx, List.getElem?_eq_getElem hi, List.getElem?_eq_getElem (by omega)] at h5
    exact Option.some.inj h5
  apply List.ext_getElem
  · unfold spl; rw [List.length_map, List.length_set, List.length_set, List.length_mapIdx, hlen]
  · intro i hi1 hi2
    have hi : i < ks.length := by rw [List.length_map, List.length_set, List.length_set] at hi1; exact hi1
    have hsp : (spl str ssn pp ps)[i]'hi2 = { ck0 str ssn pp i (ps[i]'(by omega)) with fl := (if i = 0 then 2 else 0) + (if i + 1 = ps.length then 1 else 0) } := by
      simp only [spl, List.getElem_mapIdx]
    rw [hsp, List.getElem_map, List.getElem_set]
    have e0 : x0 = ks[0] := by rw [List.getElem?_eq_getElem hpos] at h0; exact (Option.some.inj h0).symm
    have e1 : x1 = (ks.set 0 (x0.1, { x0.2 with fl := 2 }))[ks.length - 1]'(by rw [List.length_set]; omega) := by
      rw [List.getElem?_eq_getElem (by rw [List.length_set]; omega)] at h1; exact (Option.some.inj h1).symm
    rw [List.getElem_set] at e1
    by_cases hl : ks.length - 1 = i
    · rw [if_pos hl]
      by_cases h1' : ks.length = 1
      · rw [if_pos (by omega)] at e1
        have hi0 : i = 0 := by omega
        subst hi0
        rw [if_pos h1'] at hf
        rw [e1, e0, hf, hc 0 hpos]
        show ({ ck0 str ssn pp 0 _ with fl := 3 } : Ck) = _
        rw [if_pos rfl, if_pos (by omega)]
        rfl
      · rw [if_neg (by omega)] at e1
        rw [if_neg h1'] at hf
        have e2 : x1 = ks[i] := by rw [e1]; congr 1
        rw [e2, hf, hc i hi, if_neg (by omega), if_pos (by omega)]
    · rw [if_neg hl, List.getElem_set]
      by_cases hi0 : 0 = i
      · subst hi0
        rw [if_pos rfl, e0, hc 0 hpos, if_pos rfl, if_neg (by omega)]
      · rw [if_neg hi0, hc i hi, if_neg (fun e => hi0 e.symm), if_neg (by omega)]
        rfl
section
variable {h : Heap} {n most str ssn pp : Nat}
theorem w_chunkC {o : Option Addr} {m c : Nat} (h1 : 1 ≤ most) (hn : 1 ≤ n) : ResQ (callN Tryz.prog G0 n (.call 46 [.slice o m c, nv most]) h) (fun v h' => v = .func (.func 79) #[] #[pt h.next, pt (h.next + 1)] ∧ h' = (h.new (.cells 31 [.slice o m c] (.own false))).new (.cells 3 [nv most] (.own false))) := by
  obtain ⟨n, rfl⟩ : ∃ m, n = m + 1 := ⟨n - 1, by omega⟩
  refine res_enter rfl d46 rfl ?_; simp only [c46]
  refine gg ?_
  obtain ⟨a1, a2, k, n1⟩ := box_two h (.cells 31 [.slice o m c] (.own false)) (.cells 3 [nv most] (.own false))
  refine i_load1 (v := nv most) (by exact sel_of rfl) ((load1_own (b := h.next + 1) a2).trans (by rfl)) ?_
  refine gg ?_
  exact ⟨rfl, rfl⟩
/-- what Split leaves and tells -/
structure SpQ (h h' : Heap) (ov : Option Addr) (ks : List (Nat × Ck)) (cs : List Ck) : Prop where
  keep : Keeps h h'
  ar : Arr h.next h' 42 12 ov ks.length (cksv ks)
  ch : ∀ x ∈ ks, h.next ≤ x.1 ∧ Dat h' x.1 x.2.dt
  eq : ks.map (·.2) = cs
set_option maxHeartbeats 2000000 in
theorem w_split {o : Addr} {d : List UInt8} {dc : Nat} (hr : Row h 1 (some o) d.length (u8s d)) (hdc : d.length ≤ dc) (hd0 : d ≠ []) (hd : d.length ≤ 16384) (h1 : 1 ≤ most) (h2 : most ≤ 1172) (hn : d.length + 40 ≤ n) :
    ResQ (callN Tryz.prog G0 n (.call 28 [.agg #[.int .u16 (str : Int), .bool false, .int .u32 (pp : Int), .slice (some o) d.length dc], .int .u32 ((0 : Nat) : Int), .int .u16 (ssn : Int), nv most]) h) (fun v h' => ∃ ov ks, v = .tuple #[.slice ov ks.length ks.length, .int .i64 0] ∧ SpQ h h' ov ks (spl str ssn pp (pcs most d))) := by
  have hdl : 0 < d.length := List.length_pos_iff.2 hd0
  obtain ⟨n, rfl⟩ : ∃ m, n = m + 1 := ⟨n - 1, by omega⟩
  refine res_enter rfl d28 rfl ?_; simp only [c28]
  refine gg ?_
  obtain ⟨a1, a2, k1, n1⟩ := box_two h (.cells 34 [.int .u16 (str : Int), .bool false, .int .u32 (pp : Int), .slice (some o) d.length dc] (.own false)) (.cells 22 [.int .u32 ((0 : Nat) : Int)] (.own false))
  generalize ((h.new (.cells 34 [.int .u16 (str : Int), .bool false, .int .u32 (pp : Int), .slice (some o) d.length dc] (.own false))).new (.cells 22 [.int .u32 ((0 : Nat) : Int)] (.own false))) = hA at *
  refine i_load1 (v := .slice (some o) d.length dc) (by exact sel_of rfl) ((load1_own a1).trans (by rfl)) ?_
  refine gg ?_
  refine i_load1 (v := .slice (some o) d.length dc) (by exact sel_of rfl) ((load1_own a1).trans (by rfl)) ?_
  refine gg ?_
  refine i_load1 (v := .int .u16 (str : Int)) (by exact sel_of rfl) ((load1_own a1).trans (by rfl)) ?_
  refine gg ?_
  refine i_load1 (v := .int .u32 (pp : Int)) (by exact sel_of rfl) ((load1_own a1).trans (by rfl)) ?_
  refine gg ?_
  obtain ⟨b1, k2, n2⟩ := box_one hA (.cells 42 [.int .u8 0, .int .u8 0, .int .u32 0, .int .u32 0, .int .u16 0, .int .u16 0, .int .u32 0, .slice none 0 0, .slice none 0 0, .slice none 0 0, .slice none 0 0, .slice none 0 0] (.own false))
  generalize (hA.new (.cells 42 [.int .u8 0, .int .u8 0, .int .u32 0, .int .u32 0, .int .u16 0, .int .u16 0, .int .u32 0, .slice none 0 0, .slice none 0 0, .slice none 0 0, .slice none 0 0, .slice none 0 0] (.own false))) = hB at *
  refine i_storeP (b := hA.next) (vs := cC str ssn pp 0 (.slice none 0 0)) (by exact sel_of rfl) (by rw [sel_of rfl]; rfl) b1 rfl rfl ?_
  have c1 : (hB.put hA.next (.cells 42 (cC str ssn pp 0 (.slice none 0 0)) (.own false))).get hA.next = some (.cells 42 (cC str ssn pp 0 (.slice none 0 0)) (.own false)) := by rw [Heap.get_put, if_pos rfl]
  have k3 : Keeps hA (hB.put hA.next (.cells 42 (cC str ssn pp 0 (.slice none 0 0)) (.own false))) := k2.put (Nat.le_refl _) _
  have n3 : (hB.put hA.next (.cells 42 (cC str ssn pp 0 (.slice none 0 0)) (.own false))).next = hA.next + 1 := n2
  clear b1 k2 n2
  generalize (hB.put hA.next (.cells 42 (cC str ssn pp 0 (.slice none 0 0)) (.own false))) = hC at *
  refine gg ?_
  refine i_load1 (v := .bool false) (by exact sel_of rfl) ((load1_own ((k3.get h.next (by omega)).trans a1)).trans (by rfl)) ?_
  refine gg ?_
  obtain ⟨e1, k4, n4⟩ := box_one hC (.cells 35 [.slice none 0 0] (.own false))
  generalize (hC.new (.cells 35 [.slice none 0 0] (.own false))) = hD at *
  refine i_load1 (v := .slice (some o) d.length dc) (by exact sel_of rfl) ((load1_own ((k4.get h.next (by omega)).trans ((k3.get h.next (by omega)).trans a1))).trans (by rfl)) ?_
  refine gg ?_
  refine i_call2 (by exact sel_of rfl) (by exact sel_of rfl) (w_chunkC h1 (by omega)) ?_
  rintro _ _ ⟨rfl, rfl⟩
  obtain ⟨f1, f2, k5, n5⟩ := box_two hD (.cells 31 [.slice (some o) d.length dc] (.own false)) (.cells 3 [nv most] (.own false))
  generalize ((hD.new (.cells 31 [.slice (some o) d.length dc] (.own false))).new (.cells 3 [nv most] (.own false))) = hE at *
  refine gg ?_
  refine o_brangeX (P := Tryz.prog) (by exact sel_of rfl) ?_
  have kk : Keeps h hE := ((k1.trans k3).trans k4).trans k5
  have hnE : hE.next = h.next + 6 := by omega
  have g1 : hE.get (h.next + 1) = some (.cells 22 [.int .u32 ((0 : Nat) : Int)] (.own false)) := by
    rw [k5.get _ (by omega), k4.get _ (by omega), k3.get _ (by omega)]; exact a2
  have g2 : hE.get (h.next + 2) = some (.cells 42 (cC str ssn pp 0 (.slice none 0 0)) (.own false)) := by
    rw [k5.get _ (by omega), k4.get _ (by omega), ← n1]; exact c1
  have g3 : hE.get (h.next + 3) = some (.cells 35 [.slice none 0 0] (.own false)) := by
    rw [k5.get _ (by omega), show h.next + 3 = hC.next by omega]; exact e1
  have g4 : hE.get (h.next + 4) = some (.cells 31 [.slice (some o) d.length dc] (.own false)) := by
    rw [show h.next + 4 = hD.next by omega]; exact f1
  have g5 : hE.get (h.next + 5) = some (.cells 3 [nv most] (.own false)) := by
    rw [show h.next + 5 = hD.next + 1 by omega]; exact f2
  have hT : ∀ (a : Fr), SP h (hE.new (.loop 77 [45] k28_0.1 k28_0.2 a .ready none)) h.next hE.next o d.length dc most str ssn pp a [] .ready := fun a => by
    have z : ∀ x, x < hE.next → (hE.new (.loop 77 [45] k28_0.1 k28_0.2 a .ready none)).get x = hE.get x := fun x hx => by rw [Heap.get_new, if_neg (by omega)]
    exact ⟨kk.trans (Keeps.new _ _), (z _ (by omega)).trans g1, ⟨0, .slice none 0 0, (z _ (by omega)).trans g2⟩, ⟨none, (z _ (by omega)).trans g3, Arr.nil _ _ _ _⟩, (z _ (by omega)).trans g4, (z _ (by omega)).trans g5, by rw [Heap.get_new, if_pos rfl], (fun x hx => nomatch hx), Nat.le_refl _, by omega, Nat.lt_succ_self _⟩
  have hcall : (Value.func (.yield hE.next) #[] #[] :: #[pt hD.next, pt (hD.next + 1)].toList : List Value) = [.func (.yield hE.next) #[] #[], pt (h.next + 4), pt (h.next + 5)] := by
    show [_, _, _] = _
    rw [show hD.next = h.next + 4 by omega]
  rw [hcall]
  refine (w_chunk1 (n := n) (hT _) ⟨by exact sel_of rfl, by exact (sel_of (v := pt hA.next) rfl).trans (by rw [n1]), by exact (sel_of (v := pt hC.next) rfl).trans (by rw [n3, n1]), trivial⟩ hr hdc hd h1 h2 (by omega)).mono ?_
  rintro v h6 ⟨ks, T, hks⟩
  have oT := T.ord
  obtain ⟨ov, gO, ar⟩ := T.gO
  refine rg_none T.gL (fun h7 => h6.next ≤ h7.next ∧ ∀ x, x < h6.next → x ≠ hE.next → h7.get x = h6.get x) (fun B => ⟨Nat.le_refl _, fun x hx hxe => by rw [Heap.get_put, if_neg hxe]⟩) fun h7 z7 => blo_n ?_
  obtain ⟨n7, z7⟩ := z7
  have hps := pcs_pos h1 hd0
  have hkl : ks.length = (pcs most d).length := by
    have h5 := congrArg List.length hks
    rw [List.length_map] at h5
    rw [h5]; unfold ck0s; rw [List.length_mapIdx]
  have hkm : ks.length ≤ 16384 := by rw [hkl]; exact Nat.le_trans (pcs_len h1 d.length d (Nat.le_refl _)) hd
  have hfl0 : ∀ x ∈ ks, x.2.fl = 0 := fun x hx => by
    have h5 : x.2 ∈ ck0s str ssn pp (pcs most d) := by rw [← hks]; exact List.mem_map.2 ⟨x, hx, rfl⟩
    obtain ⟨i, hi, h6⟩ := List.mem_mapIdx.1 h5
    rw [← h6]; rfl
  obtain ⟨x0, hx0⟩ : ∃ x0, ks[0]? = some x0 := ⟨ks[0]'(by omega), List.getElem?_eq_getElem (by omega)⟩
  have hf0 := hfl0 x0 (List.mem_of_getElem? hx0)
  rcases ar.2 with ⟨hz, _⟩ | ⟨kb, rfl, hk1, hk2, hk3⟩
  · omega
  have gO7 : h7.get (h.next + 3) = some (.cells 35 [.slice (some ⟨kb, 0, some 12⟩) ks.length ks.length] (.own false)) := (z7 _ (by omega) (by omega)).trans gO
  have gK7 : h7.get kb = some (.cells 42 (cksv ks) (.own true)) := (z7 _ (by omega) (by omega)).trans hk3
  have p3 : h.next + 3 = hC.next := by omega
  rw [p3] at gO7
  refine gg ?_
  refine i_load1 (v := .slice (some ⟨kb, 0, some 12⟩) ks.length ks.length) (by exact sel_of rfl) ((load1_own gO7).trans (by rfl)) ?_
  have row7 : Row h7 12 (some ⟨kb, 0, some 12⟩) ks.length (cksv ks) := ⟨ar.1, by show kb < h7.next; omega, .inr rfl, loadN_all gK7 ar.1⟩
  refine i_idx (i := 0) (by exact sel_of rfl) row7 (by exact const_of) (by omega) fun q hq => ?_
  cases hq
  refine gg ?_
  refine i_load1 (v := .int .u8 ((0 : Nat) : Int)) (by exact sel_of rfl) ((load1_own (off := 0 * 12 + 1) gK7).trans (by rw [cksv_at ks 0 x0 hx0, hf0])) ?_
  refine i_v (v := .int .u8 ((2 : Nat) : Int)) (by rfl) ?_
  refine i_idx (i := 0) (by exact sel_of rfl) row7 (by exact const_of) (by omega) fun q hq => ?_
  cases hq
  refine gg ?_
  refine i_stB (b := kb) (v := .int .u8 ((2 : Nat) : Int)) (by exact sel_of rfl) (by rw [sel_of rfl]; rfl) gK7 (by rw [cksv_length]; show 0 + 0 * 12 + 1 < _; omega) fun h8 k8 n8 g8 => ?_
  have g8 : h8.get kb = some (.cells 42 (cksv (ks.set 0 (x0.1, { x0.2 with fl := 2 }))) (.own true)) := by
    rw [← cksv_fl ks 0 2 x0 hx0]; exact g8
  have hl8 : (ks.set 0 (x0.1, { x0.2 with fl := 2 })).length = ks.length := List.length_set ..
  obtain ⟨x1, hx1⟩ : ∃ x1, (ks.set 0 (x0.1, { x0.2 with fl := 2 }))[ks.length - 1]? = some x1 := ⟨_, List.getElem?_eq_getElem (by omega)⟩
  have gO8 := (k8.get hC.next (by omega) (by omega)).trans gO7
  refine gg ?_
  refine i_load1 (v := .slice (some ⟨kb, 0, some 12⟩) ks.length ks.length) (by exact sel_of rfl) ((load1_own gO8).trans (by rfl)) ?_
  refine i_load1 (v := .slice (some ⟨kb, 0, some 12⟩) ks.length ks.length) (by exact sel_of rfl) ((load1_own gO8).trans (by rfl)) ?_
  refine gg ?_
  have row8 : Row h8 12 (some ⟨kb, 0, some 12⟩) ks.length (cksv (ks.set 0 (x0.1, { x0.2 with fl := 2 }))) := ⟨by rw [cksv_length, hl8], by show kb < h8.next; omega, .inr rfl, loadN_all g8 (by rw [cksv_length, hl8])⟩
  refine i_idx (i := ks.length - 1) (by exact sel_of rfl) row8 ((sel_of (v := .int .i64 ((ks.length : Int) - 1)) rfl).trans (congrArg (Value.int .i64) (by omega))) (by omega) fun q hq => ?_
  cases hq
  refine gg ?_
  refine i_load1 (v := .int .u8 (x1.2.fl : Int)) (by exact sel_of rfl) ((load1_own (off := 0 + (ks.length - 1) * 12 + 1) g8).trans (by rw [Nat.zero_add]; exact cksv_at _ _ x1 hx1)) ?_
  have hx1f : x1.2.fl = if ks.length = 1 then 2 else 0 := by
    have e1 : x1 = (ks.set 0 (x0.1, { x0.2 with fl := 2 }))[ks.length - 1]'(by omega) := by
      rw [List.getElem?_eq_getElem (by omega)] at hx1; exact (Option.some.inj hx1).symm
    rw [List.getElem_set] at e1
    by_cases h1' : ks.length = 1
    · rw [if_pos (by omega)] at e1
      rw [if_pos h1', e1]
    · rw [if_neg (by omega)] at e1
      rw [if_neg h1', e1]; exact hfl0 _ (List.getElem_mem _)
  refine i_v (v := .int .u8 (((if ks.length = 1 then 3 else 1 : Nat)) : Int)) (by rw [hx1f]; by_cases h1' : ks.length = 1 <;> simp only [h1', if_true, if_false] <;> rfl) ?_
  refine i_idx (i := ks.length - 1) (by exact sel_of rfl) row8 ((sel_of (v := .int .i64 ((ks.length : Int) - 1)) rfl).trans (congrArg (Value.int .i64) (by omega))) (by omega) fun q hq => ?_
  cases hq
  refine gg ?_
  refine i_stB (b := kb) (v := .int .u8 (((if ks.length = 1 then 3 else 1 : Nat)) : Int)) (by exact sel_of rfl) (by rw [sel_of rfl]; rfl) g8 (by rw [cksv_length, hl8]; show 0 + (ks.length - 1) * 12 + 1 < _; omega) fun h9 k9 n9 g9 => ?_
  have g9 : h9.get kb = some (.cells 42 (cksv ((ks.set 0 (x0.1, { x0.2 with fl := 2 })).set (ks.length - 1) (x1.1, { x1.2 with fl := if ks.length = 1 then 3 else 1 }))) (.own true)) := by
    rw [← cksv_fl _ (ks.length - 1) _ x1 hx1, ← Nat.zero_add ((ks.length - 1) * 12)]; exact g9
  have hl9 : ((ks.set 0 (x0.1, { x0.2 with fl := 2 })).set (ks.length - 1) (x1.1, { x1.2 with fl := if ks.length = 1 then 3 else 1 })).length = ks.length := by rw [List.length_set, hl8]
  have gO9 := (k9.get hC.next (by omega) (by omega)).trans gO8
  refine gg ?_
  refine i_load1 (v := .slice (some ⟨kb, 0, some 12⟩) ks.length ks.length) (by exact sel_of rfl) ((load1_own gO9).trans (by rfl)) ?_
  refine gg ?_
  have low9 : ∀ x, x < h6.next → x ≠ hE.next → x ≠ kb → h9.get x = h6.get x := fun x hx h10 h11 => by
    rw [k9.get x (by omega) h11, k8.get x (by omega) h11, z7 x hx h10]
  refine ⟨some ⟨kb, 0, some 12⟩, (ks.set 0 (x0.1, { x0.2 with fl := 2 })).set (ks.length - 1) (x1.1, { x1.2 with fl := if ks.length = 1 then 3 else 1 }), by rw [hl9], ⟨by have := T.keep.next; omega, fun x hx => (low9 x (by have := T.keep.next; omega) (by omega) (by omega)).trans (T.keep.get x hx)⟩, ⟨by rw [cksv_length], .inr ⟨kb, rfl, by omega, by omega, g9⟩⟩, ?_, spl_of hks hx0 hx1 rfl⟩
  have hold : ∀ y ∈ ks, h.next ≤ y.1 ∧ Dat h9 y.1 y.2.dt := fun y hy => by
    obtain ⟨c1, c2, c3⟩ := T.ch y hy
    refine ⟨by omega, by omega, (low9 _ c2 (by omega) (fun e => by rw [e, hk3] at c3; cases c3)).trans c3⟩
  have hset1 : ∀ y ∈ ks.set 0 (x0.1, { x0.2 with fl := 2 }), h.next ≤ y.1 ∧ Dat h9 y.1 y.2.dt := fun y hy => by
    rcases List.mem_or_eq_of_mem_set hy with hy | rfl
    · exact hold y hy
    · exact hold x0 (List.mem_of_getElem? hx0)
  intro y hy
  rcases List.mem_or_eq_of_mem_set hy with hy | rfl
  · exact hset1 y hy
  · exact hset1 x1 (List.mem_of_getElem? hx1)
end
end Go.Proofs.YtmlagbknnngjjaaGreat

/-! Push: a message's chunks are laid behind. -/
set_option linter.unusedVariables false
namespace Go.Proofs.YtmlagbknnngjjaaGreat
open Go Vm
theorem cksv_part : ∀ (ks : List (Nat × Ck)) (j : Nat) (x : Nat × Ck), ks[j]? = some x → ((cksv ks).drop (j * 12)).take 12 = ckv x.2 (some ⟨x.1, 0, some 1⟩) x.2.dt.length
  | [], j, x, h => by cases h
  | y :: ks, 0, x, h => by cases h; rfl
  | y :: ks, j + 1, x, h => by
    have ih := cksv_part ks j x h
    show ((ckv y.2 _ _ ++ cksv ks).drop ((j + 1) * 12)).take 12 = _
    rw [← ih, show (j + 1) * 12 = 12 + j * 12 by omega, ← List.drop_drop, List.drop_left' (ckv_length ..)]
/-- chunks that may be sent -/
structure CkOK (c : Ck) : Prop where
  wf : c.wf
  ne : c.dt ≠ []
  le : c.dt.length ≤ 1172
section
variable {h : Heap} {n : Nat}
theorem w_noData {c : Ck} {o : Option Addr} {cap : Nat} (hc : c.dt ≠ []) (hl : c.dt.length ≤ 1172) (hn : 1 ≤ n) : ResQ (callN Tryz.prog G0 n (.call 50 [.agg (ckv c o cap).toArray]) h) (fun v h' => v = .bool false ∧ Keeps h h') := by
  have hpos : 0 < c.dt.length := List.length_pos_iff.2 hc
  obtain ⟨n, rfl⟩ : ∃ m, n = m + 1 := ⟨n - 1, by omega⟩
  refine res_enter rfl d50 rfl ?_; simp only [c50]
  refine gg ?_
  obtain ⟨g, k, nn⟩ := box_one h (.cells 42 (ckv c o cap) (.own false))
  change ItQ (runItems _ _ _ (h.new (.cells 42 (ckv c o cap) (.own false)))) _
  generalize (h.new (.cells 42 (ckv c o cap) (.own false))) = h1 at *
  refine i_load1 (v := .int .u8 ((0 : Nat) : Int)) (by exact sel_of rfl) ((load1_own g).trans (by rfl)) ?_
  refine gg ?_
  refine i_load1 (v := .slice o c.dt.length cap) (by exact sel_of rfl) ((load1_own g).trans (by rfl)) ?_
  refine gg ?_
  exact ⟨congrArg Value.bool (decide_eq_false (by omega)), k⟩
theorem w_idxN {ks : List (Nat × Ck)} {ov : Option Addr} {c : Nat} (hr : Row h 12 ov ks.length (cksv ks)) (hk : ∀ x ∈ ks, CkOK x.2) (hl : ks.length ≤ 20000) (hn : ks.length + 5 ≤ n) :
    ResQ (callN Tryz.prog G0 n (.call 82 [.slice ov ks.length c, .func (.func 50) #[] #[]]) h) (fun v h' => v = .int .i64 (-1) ∧ Keeps h h') := by
  obtain ⟨n, rfl⟩ : ∃ m, n = m + 1 := ⟨n - 1, by omega⟩
  refine res_enter rfl d82 rfl ?_; simp only [c82]
  refine gg ?_
  refine o_up ks.length (fun i f h' => Keeps h h' ∧ Sl [(8, nv i), (7, nv ks.length), (0, .slice ov ks.length c), (1, .func (.func 50) #[] #[])] f) (by omega) ⟨Keeps.refl h, sel_of rfl, sel_of rfl, sel_of rfl, sel_of rfl, trivial⟩ ?_
  rintro i f h1 hi ⟨k, hs⟩
  obtain ⟨f0, rfl⟩ := hs.puts
  clear hs
  simp only [c82_0]
  refine gg ?_
  by_cases hi2 : i < ks.length
  · refine gg ?_
    have hx : ks[i]? = some ks[i] := List.getElem?_eq_getElem hi2
    refine i_idx (by exact sel_of rfl) (hr.keeps k) (i := i) (by exact sel_of rfl) hi2 fun q hq => ?_
    subst hq
    refine i_loadN (v := ckv (ks[i]).2 (some ⟨(ks[i]).1, 0, some 1⟩) (ks[i]).2.dt.length) (by exact sel_of rfl) (((hr.keeps k).cells (i := i * 12) (m := 12) (by omega) _).trans (congrArg some (cksv_part ks i _ hx))) ?_
    have z := hk _ (List.mem_of_getElem? hx)
    refine i_callv1 (by exact sel_of rfl) (by exact sel_of rfl) (w_noData z.ne z.le (by omega)) ?_
    rintro _ h2 ⟨rfl, k2⟩
    refine gg ?_
    exact rnd_up hi2 ⟨k.trans k2, sel_of rfl, sel_of rfl, sel_of rfl, sel_of rfl, trivial⟩
  · refine gg ?_
    exact ⟨rfl, k⟩
theorem w_hasN {ks : List (Nat × Ck)} {ov : Option Addr} {c : Nat} (hr : Row h 12 ov ks.length (cksv ks)) (hk : ∀ x ∈ ks, CkOK x.2) (hl : ks.length ≤ 20000) (hn : ks.length + 10 ≤ n) :
    ResQ (callN Tryz.prog G0 n (.call 49 [.slice ov ks.length c, .func (.func 50) #[] #[]]) h) (fun v h' => v = .bool false ∧ Keeps h h') := by
  obtain ⟨n, rfl⟩ : ∃ m, n = m + 1 := ⟨n - 1, by omega⟩
  refine res_enter rfl d49 rfl ?_; simp only [c49]
  refine gg ?_
  refine i_call2 (by exact sel_of rfl) (by exact sel_of rfl) (w_idxN hr hk hl (by omega)) ?_
  rintro _ h2 ⟨rfl, k2⟩
  refine gg ?_
  exact ⟨rfl, k2⟩
end
theorem Que.push {h h' : Heap} {Q nx nx' k : Nat} {oq : Option Addr} {es : List Ent} {e : Ent} (x : Que h Q oq nx es) (hn : h.next ≤ h'.next) (hg : ∀ d, d < h.next → d ≠ Q → (∀ q, oq = some q → d ≠ q.block) → h'.get d = h.get d)
    (hq : h'.get Q = some (.cells 93 [.slice (some ⟨k, 0, some 1⟩) (es.length + 1) (es.length + 1), .int .u32 (nx' : Int)] (.own false))) (hk : k < h'.next) (ha : h'.get k = some (.cells 113 ((es ++ [e]).map fun e => pt e.b) (.own true))) (he : EntOK h' e) (hb : h.next ≤ e.b) (hl : es.length + 1 ≤ 1024) (hnx : nx' < 4294967296) : Que h' Q (some ⟨k, 0, some 1⟩) nx' (es ++ [e]) := by
  have hql := x.ql
  have hoq : ∀ q, oq = some q → h.get q.block = some (.cells 113 (es.map fun e => pt e.b) (.own true)) := fun q hq => by
    rcases x.ar with ⟨_, h2⟩ | ⟨k, h1, h2, h3⟩
    · rw [h2] at hq; cases hq
    · rw [h1] at hq; cases hq; exact h3
  refine ⟨by rw [List.length_append]; exact hq, by omega, .inr ⟨k, rfl, hk, ha⟩, fun y hy => ?_, ?_, by rw [List.length_append]; exact hl, hnx⟩
  · rcases List.mem_append.1 hy with hy | hy
    · have z := x.en y hy
      have zb := z.bl
      have zp := z.pl
      have zk := z.kl
      exact ⟨(hg _ zb (fun e1 => by have := z.hb; rw [e1, x.hq] at this; cases this) (fun q hq2 e1 => by have := z.hb; rw [e1, hoq q hq2] at this; cases this)).trans z.hb, by omega, (hg _ zp (fun e1 => by have := z.hp; rw [e1, x.hq] at this; cases this) (fun q hq2 e1 => by have := z.hp; rw [e1, hoq q hq2] at this; cases this)).trans z.hp, by omega, (hg _ zk (fun e1 => by have := z.hk; rw [e1, x.hq] at this; cases this) (fun q hq2 e1 => by have := z.hk; rw [e1, hoq q hq2] at this; cases this)).trans z.hk, by omega, z.wf, z.ne, z.le⟩
    · simp only [List.mem_cons, List.not_mem_nil, or_false] at hy
      subst hy; exact he
  · rw [List.map_append, List.nodup_append]
    refine ⟨x.nd, by simp, fun a ha b hb2 hab => ?_⟩
    obtain ⟨y, hy, rfl⟩ := List.mem_map.1 ha
    have := (x.en y hy).bl
    simp only [List.map_cons, List.map_nil, List.mem_cons, List.not_mem_nil, or_false] at hb2
    omega
/-- numbered -/
def numd (nx : Nat) (cs : List Ck) : List Ck := cs.mapIdx fun j c => { c with A := (nx + j) % 4294967296 }
/-- what Push leaves -/
structure PuQ (h h' : Heap) (Q nx : Nat) (oq : Option Addr) (es : List Ent) (cs : List Ck) : Prop where
  que : ∃ oq' en, Que h' Q oq' ((nx + cs.length) % 4294967296) (es ++ en) ∧ en.map Ent.c = numd nx cs ∧ (∀ e ∈ en, e.st = 0 ∧ e.sent = 0 ∧ h.next ≤ e.b) ∧ ∀ q, oq' = some q → oq = some q ∨ h.next ≤ q.block
  nxt : h.next ≤ h'.next
  low : ∀ d, d < h.next → d ≠ Q → (∀ q, oq = some q → d ≠ q.block) → h'.get d = h.get d
end Go.Proofs.YtmlagbknnngjjaaGreat

/-! Push, whole. -/
set_option linter.unusedVariables false
namespace Go.Proofs.YtmlagbknnngjjaaGreat
open Go Vm
section
variable {h : Heap} {n Q nx : Nat} {oq : Option Addr} {es : List Ent}
/-- between the rounds of Push: j chunks were laid behind -/
structure PJ (h h' : Heap) (Q nx P : Nat) (oq : Option Addr) (es : List Ent) (ks : List (Nat × Ck)) (j : Nat) : Prop where
  que : ∃ oq' en, Que h' Q oq' ((nx + j) % 4294967296) (es ++ en) ∧ en.map Ent.c = numd nx ((ks.take j).map (·.2)) ∧ (∀ e ∈ en, e.st = 0 ∧ e.sent = 0 ∧ h.next ≤ e.b) ∧ (∀ q, oq' = some q → oq = some q ∨ h.next ≤ q.block) ∧ en.length = j
  nxt : h.next ≤ h'.next
  low : ∀ d, d < h.next → d ≠ Q → (∀ q, oq = some q → d ≠ q.block) → h'.get d = h.get d
  pol : h'.get P = some (.cells 112 [.int .i64 (-1), .int .i64 (-1), .bool false] (.own false))
  pl : P < h'.next ∧ h.next ≤ P
set_option maxHeartbeats 4000000 in
theorem w_push {ks : List (Nat × Ck)} {kb : Nat} (x : Que h Q oq nx es) (hk : ∀ y ∈ ks, CkOK y.2 ∧ Dat h y.1 y.2.dt) (hkl : 0 < ks.length) (hsum : es.length + ks.length ≤ 1024) (hkb : kb < h.next) (hkg : h.get kb = some (.cells 42 (cksv ks) (.own true))) (hn : ks.length + 40 ≤ n) :
    ResQ (callN Tryz.prog G0 n (.call 31 [pt Q, .slice (some ⟨kb, 0, some 12⟩) ks.length ks.length, .int .i64 (-1), .int .i64 (-1)]) h) (fun v h' => v = .int .i64 0 ∧ PuQ h h' Q nx oq es (ks.map (·.2))) := by
  have hlim := x.lim
  have hrow : ∀ h1 : Heap, h1.get kb = some (.cells 42 (cksv ks) (.own true)) → kb < h1.next → Row h1 12 (some ⟨kb, 0, some 12⟩) ks.length (cksv ks) := fun h1 h2 h3 => ⟨cksv_length ks, h3, .inr rfl, loadN_all h2 (cksv_length ks)⟩
  obtain ⟨n, rfl⟩ : ∃ m, n = m + 1 := ⟨n - 1, by omega⟩
  refine res_enter rfl d31 rfl ?_; simp only [c31]
  refine gg ?_
  refine i_call2 (by exact sel_of rfl) (by exact const_of) (w_hasN (hrow h hkg hkb) (fun y hy => (hk y hy).1) (by omega) (by omega)) ?_
  rintro _ h1 ⟨rfl, k1⟩
  have x1 := x.keeps k1
  have hn1 := k1.next
  refine gg ?_
  refine i_load1 (v := .slice oq es.length es.length) (by exact sel_of rfl) ((load1_own x1.hq).trans (by rfl)) ?_
  refine gg ?_
  obtain ⟨p1, k2, n2⟩ := box_one h1 (.cells 112 [.int .i64 (-1), .int .i64 (-1), .bool false] (.own false))
  have k12 := k1.trans k2
  have z0 : PJ h (h1.new (.cells 112 [.int .i64 (-1), .int .i64 (-1), .bool false] (.own false))) Q nx h1.next oq es ks 0 := ⟨⟨oq, [], by rw [List.append_nil, Nat.add_zero, Nat.mod_eq_of_lt x.nxl]; exact x.keeps k12, by rw [List.take_zero]; rfl, (fun e he => nomatch he), (fun q hq => .inl hq), rfl⟩, k12.next, fun d hd _ _ => k12.get d hd, p1, by omega⟩
  refine o_up ks.length (fun i f h' => PJ h h' Q nx h1.next oq es ks i ∧ Sl [(40, nv i), (39, nv ks.length), (38, .slice (some ⟨kb, 0, some 12⟩) ks.length ks.length), (0, pt Q), (9, pt h1.next)] f) (by omega) ⟨z0, sel_of rfl, sel_of rfl, sel_of rfl, sel_of rfl, sel_of rfl, trivial⟩ ?_
  clear z0 p1 k2 n2 k12
  rintro i f g hi ⟨z, hs⟩
  obtain ⟨f0, rfl⟩ := hs.puts
  clear hs
  simp only [c31_0]
  refine gg ?_
  by_cases hi2 : i < ks.length
  rotate_left
  · refine gg ?_
    obtain ⟨⟨oq', en, q1, q2, q3, q4, q5⟩, z2, z3, z4, z5⟩ := z
    have : i = ks.length := by omega
    subst this
    rw [List.take_of_length_le (Nat.le_refl _)] at q2
    exact ⟨rfl, ⟨oq', en, by rw [List.length_map]; exact q1, q2, q3, q4⟩, z2, z3⟩
  · refine gg ?_
    have hx : ks[i]? = some ks[i] := List.getElem?_eq_getElem hi2
    generalize ks[i] = y at *
    obtain ⟨⟨oq', en, q1, q2, q3, q4, q5⟩, z2, z3, z4, z5, z6⟩ := z
    obtain ⟨cok, dl, dg⟩ := hk y (List.mem_of_getElem? hx)
    have oqg : ∀ q, oq = some q → h.get q.block = some (.cells 113 (es.map fun e => pt e.b) (.own true)) := fun q hq => by
      rcases x.ar with ⟨_, h2⟩ | ⟨k, h1, h2, h3⟩
      · rw [h2] at hq; cases hq
      · rw [h1] at hq; cases hq; exact h3
    have gkb : g.get kb = some (.cells 42 (cksv ks) (.own true)) := (z3 kb hkb (fun e => by rw [e, x.hq] at hkg; cases hkg) (fun q hq e => by rw [e, oqg q hq] at hkg; cases hkg)).trans hkg
    have gyd : g.get y.1 = some (.cells 5 (u8s y.2.dt) (.own true)) := (z3 y.1 dl (fun e => by rw [e, x.hq] at dg; cases dg) (fun q hq e => by rw [e, oqg q hq] at dg; cases dg)).trans dg
    have hr := hrow g gkb (by omega)
    refine i_idx (by exact sel_of rfl) hr (i := i) (by exact sel_of rfl) hi2 fun q hq => ?_
    cases hq
    refine i_loadN (v := ckv y.2 (some ⟨y.1, 0, some 1⟩) y.2.dt.length) (by exact sel_of rfl) ((hr.cells (i := i * 12) (m := 12) (by omega) _).trans (congrArg some (cksv_part ks i _ hx))) ?_
    refine gg ?_
    obtain ⟨b1, k2, n2⟩ := box_one g (.cells 42 [.int .u8 0, .int .u8 0, .int .u32 0, .int .u32 0, .int .u16 0, .int .u16 0, .int .u32 0, .slice none 0 0, .slice none 0 0, .slice none 0 0, .slice none 0 0, .slice none 0 0] (.own false))
    generalize (g.new (.cells 42 [.int .u8 0, .int .u8 0, .int .u32 0, .int .u32 0, .int .u16 0, .int .u16 0, .int .u32 0, .slice none 0 0, .slice none 0 0, .slice none 0 0, .slice none 0 0, .slice none 0 0] (.own false))) = g2 at *
    refine i_storeP (b := g.next) (vs := ckv y.2 (some ⟨y.1, 0, some 1⟩) y.2.dt.length) (by exact sel_of rfl) (by rw [sel_of rfl]; rfl) b1 rfl rfl ?_
    have c1 : (g2.put g.next (.cells 42 (ckv y.2 (some ⟨y.1, 0, some 1⟩) y.2.dt.length) (.own false))).get g.next = some (.cells 42 (ckv y.2 (some ⟨y.1, 0, some 1⟩) y.2.dt.length) (.own false)) := by rw [Heap.get_put, if_pos rfl]
    have k3 : Keeps g (g2.put g.next (.cells 42 (ckv y.2 (some ⟨y.1, 0, some 1⟩) y.2.dt.length) (.own false))) := k2.put (Nat.le_refl _) _
    have n3 : (g2.put g.next (.cells 42 (ckv y.2 (some ⟨y.1, 0, some 1⟩) y.2.dt.length) (.own false))).next = g.next + 1 := n2
    clear b1 k2 n2
    generalize (g2.put g.next (.cells 42 (ckv y.2 (some ⟨y.1, 0, some 1⟩) y.2.dt.length) (.own false))) = g3 at *
    have x3 := q1.keeps k3
    have hql := q1.ql
    have l3 : load1 g3.get ⟨Q, 0 + 1, none⟩ = some (.int .u32 (((nx + i) % 4294967296 : Nat) : Int)) := (load1_own x3.hq).trans (by rfl)
    refine gg ?_
    refine i_load1 (v := .int .u32 (((nx + i) % 4294967296 : Nat) : Int)) (by exact sel_of rfl) l3 ?_
    refine gg ?_
    refine i_load1 (v := .slice (some ⟨y.1, 0, some 1⟩) y.2.dt.length y.2.dt.length) (by exact sel_of rfl) ((load1_own c1).trans (by rfl)) ?_
    refine gg ?_
    have gyd3 := (k3.get y.1 (by omega)).trans gyd
    have cle := cok.le
    refine i_call1 (by exact sel_of rfl) (w_cloneX (l := y.2.dt) (o := some ⟨y.1, 0, some 1⟩) ⟨by rw [u8s_length]; omega, by show y.1 < g3.next; omega, .inr rfl, loadN_all gyd3 (by rw [u8s_length]; omega)⟩ cok.ne (by omega) (by omega)) ?_
    rintro _ g4 ⟨dk, rfl, k4, dt4, hdk⟩
    have hn4 := k4.next
    refine gg ?_
    refine i_stB (b := g.next) (v := .int .u32 (((nx + i) % 4294967296 : Nat) : Int)) (by exact sel_of rfl) (by rw [sel_of rfl]; rfl) ((k4.get _ (by omega)).trans c1) (by show 2 < 12; decide) fun g5 k5 n5 gc5 => ?_
    refine gg ?_
    refine i_stB (b := g.next) (v := .slice (some ⟨dk, 0, some 1⟩) y.2.dt.length y.2.dt.length) (by exact sel_of rfl) (by rw [sel_of rfl]; rfl) gc5 (by show 11 < 12; decide) fun g6 k6 n6 gc6 => ?_
    have gc6 : g6.get g.next = some (.cells 42 (ckv { y.2 with A := (nx + i) % 4294967296 } (some ⟨dk, 0, some 1⟩) y.2.dt.length) (.own false)) := gc6
    refine gg ?_
    refine ⟨chk_cons (a := _) rfl (ld1 (by exact sel_of rfl) l3) (sv_int _ _) (fun m hm => by
      simp only [List.mem_cons, List.not_mem_nil, or_false] at hm
      rcases hm with rfl | rfl
      · exact ⟨_, _, rfl, ld1 (by exact sel_of rfl) l3⟩
      · exact ⟨_, _, rfl, ld1 (by exact sel_of rfl) ((load1_own ((k4.get Q (by omega)).trans x3.hq)).trans (by rfl))⟩) chk_nil, ?_⟩
    have low6 : ∀ d, d < g.next → g6.get d = g.get d := fun d hd => by
      rw [k6.get d (by omega) (by omega), k5.get d (by omega) (by omega), k4.get d (by omega), k3.get d hd]
    have dt6 : Dat g6 dk y.2.dt := by
      have h5 := dt4.1
      exact ⟨by omega, by rw [k6.get _ (by omega) (by omega), k5.get _ (by omega) (by omega)]; exact dt4.2⟩
    have n6f : g6.next = g4.next := by omega
    clear k3 k4 k5 k6 gc5 dt4 n5 n6 gyd3 c1 l3 x3
    have x6 : Que g6 Q oq' ((nx + i) % 4294967296) (es ++ en) := q1.keeps ⟨by omega, low6⟩
    refine gg ?_
    refine i_load1 (v := .int .u32 (((nx + i) % 4294967296 : Nat) : Int)) (by exact sel_of rfl) ((load1_own x6.hq).trans (by rfl)) ?_
    refine i_addW (q := ((1 : Nat) : Int)) (r := (((nx + (i + 1)) % 4294967296 : Nat) : Int)) (by exact sel_of rfl) (by exact const_of) ((add32 _ 1).trans (congrArg _ (by omega))) ?_
    refine gg ?_
    refine i_stB (b := Q) (v := .int .u32 (((nx + (i + 1)) % 4294967296 : Nat) : Int)) (by exact sel_of rfl) (by rw [sel_of rfl]; rfl) x6.hq (by show 1 < 2; decide) fun g7 k7 n7 gq7 => ?_
    have gq7 : g7.get Q = some (.cells 93 [.slice oq' (es ++ en).length (es ++ en).length, .int .u32 (((nx + (i + 1)) % 4294967296 : Nat) : Int)] (.own false)) := gq7
    have gc7 := (k7.get g.next (by omega) (by omega)).trans gc6
    refine gg ?_
    refine i_load1 (v := .slice oq' (es ++ en).length (es ++ en).length) (by exact sel_of rfl) ((load1_own gq7).trans (by rfl)) ?_
    refine i_loadN (v := ckv { y.2 with A := (nx + i) % 4294967296 } (some ⟨dk, 0, some 1⟩) y.2.dt.length) (by exact sel_of rfl) (loadN_all gc7 rfl) ?_
    refine gg ?_
    refine i_v (v := .agg (ckv { y.2 with A := (nx + i) % 4294967296 } (some ⟨dk, 0, some 1⟩) y.2.dt.length ++ [pt h1.next, nv 0, nv 0, nv 0, nv 0]).toArray) (by rfl) ?_
    have pow := z4
    refine gg ?_
    obtain ⟨b8, k8, n8⟩ := box_one g7 (.cells 115 (ckv { y.2 with A := (nx + i) % 4294967296 } (some ⟨dk, 0, some 1⟩) y.2.dt.length ++ [pt h1.next, nv 0, nv 0, nv 0, nv 0]) (.own false))
    obtain ⟨b9, k9, n9⟩ := box_one (g7.new (.cells 115 (ckv { y.2 with A := (nx + i) % 4294967296 } (some ⟨dk, 0, some 1⟩) y.2.dt.length ++ [pt h1.next, nv 0, nv 0, nv 0, nv 0]) (.own false))) (.cells 113 [pt g7.next] (.own false))
    change ItQ (runItems _ _ _ ((g7.new (.cells 115 (ckv { y.2 with A := (nx + i) % 4294967296 } (some ⟨dk, 0, some 1⟩) y.2.dt.length ++ [pt h1.next, nv 0, nv 0, nv 0, nv 0]) (.own false))).new (.cells 113 [pt g7.next] (.own false)))) _
    have be := (k9.get g7.next (by omega)).trans b8
    have k89 := k8.trans k9
    have n89 : ((g7.new (.cells 115 (ckv { y.2 with A := (nx + i) % 4294967296 } (some ⟨dk, 0, some 1⟩) y.2.dt.length ++ [pt h1.next, nv 0, nv 0, nv 0, nv 0]) (.own false))).new (.cells 113 [pt g7.next] (.own false))).next = g7.next + 2 := rfl
    have r9 : Row ((g7.new (.cells 115 (ckv { y.2 with A := (nx + i) % 4294967296 } (some ⟨dk, 0, some 1⟩) y.2.dt.length ++ [pt h1.next, nv 0, nv 0, nv 0, nv 0]) (.own false))).new (.cells 113 [pt g7.next] (.own false))) 1 (some ⟨g7.next + 1, 0, none⟩) 1 [pt g7.next] := Row.new (by simp) rfl (.inl rfl)
    clear b8 b9 k8 k9 n8 n9
    generalize ((g7.new (.cells 115 (ckv { y.2 with A := (nx + i) % 4294967296 } (some ⟨dk, 0, some 1⟩) y.2.dt.length ++ [pt h1.next, nv 0, nv 0, nv 0, nv 0]) (.own false))).new (.cells 113 [pt g7.next] (.own false))) = g9 at *
    have low9 : ∀ d, d < g.next → d ≠ Q → g9.get d = g.get d := fun d hd h5 => by
      rw [k89.get d (by omega), k7.get d (by omega) h5, low6 d hd]
    have oq9 : ∀ q, oq' = some q → q.block < g.next ∧ g.get q.block = some (.cells 113 ((es ++ en).map fun e => pt e.b) (.own true)) := fun q hq => by
      rcases q1.ar with ⟨_, h2⟩ | ⟨k, h1, h2, h3⟩
      · rw [h2] at hq; cases hq
      · rw [h1] at hq; cases hq; exact ⟨h2, h3⟩
    have ap9 : Ap 0 g9 113 1 oq' (es ++ en).length (es ++ en).length ((es ++ en).map fun e => pt e.b) := by
      rcases q1.ar with ⟨h1, h2⟩ | ⟨k, h1, h2, h3⟩
      · rw [h1, h2]; exact Ap.nil _ _ _ _
      · have h4 := (low9 k h2 (fun e => by rw [e, q1.hq] at h3; cases h3)).trans h3
        rw [h1]
        exact ⟨rfl, ⟨by simp, by show k < g9.next; omega, .inr rfl, loadN_all h4 (by simp)⟩, fun q e => by cases e; exact .inr ⟨k, rfl, Nat.zero_le _, h4⟩⟩
    have hlen : (es ++ en).length = es.length + i := by rw [List.length_append, q5]
    refine i_appF (B := 0) (m := 1) (t := (es ++ en).length + 1) (es := ((es ++ en).map fun e => pt e.b) ++ [pt g7.next]) (by decide) (Nat.zero_le _) (by exact sel_of rfl) ap9 (by rw [sel_of rfl]; exact r9.src) rfl (by omega) rfl rfl fun g10 n10 e10 ap10 => ?_
    refine gg ?_
    have gq10 : g10.get Q = some (.cells 93 [.slice oq' (es ++ en).length (es ++ en).length, .int .u32 (((nx + (i + 1)) % 4294967296 : Nat) : Int)] (.own false)) := by
      rw [e10 Q (by omega) (fun q hq => .inl fun e => by have := (oq9 q hq).2; rw [← e, q1.hq] at this; cases this), k89.get Q (by omega)]; exact gq7
    refine i_stB (b := Q) (v := .slice (some ⟨g9.next, 0, some 1⟩) ((es ++ en).length + 1) ((es ++ en).length + 1)) (by exact sel_of rfl) (by rw [sel_of rfl]; rfl) gq10 (by show 0 < 2; decide) fun g11 k11 n11 gq11 => ?_
    have gq11 : g11.get Q = some (.cells 93 [.slice (some ⟨g9.next, 0, some 1⟩) ((es ++ en).length + 1) ((es ++ en).length + 1), .int .u32 (((nx + (i + 1)) % 4294967296 : Nat) : Int)] (.own false)) := gq11
    have hi9 : ∀ d, g.next ≤ d → d < g9.next → g11.get d = g9.get d := fun d hd h5 => by
      rw [k11.get d (by omega) (by omega), e10 d h5 (fun q hq => .inl (by have := (oq9 q hq).1; omega))]
    have low11 : ∀ d, d < g.next → d ≠ Q → (∀ q, oq' = some q → d ≠ q.block) → g11.get d = g.get d := fun d hd h5 h6 => by
      rw [k11.get d (by omega) h5, e10 d (by omega) (fun q hq => .inl (h6 q hq)), low9 d hd h5]
    have gP : g11.get h1.next = some (.cells 112 [.int .i64 (-1), .int .i64 (-1), .bool false] (.own false)) := (low11 _ z5 (by have := x.ql; omega) (fun q hq e => by have := (oq9 q hq).2; rw [← e, z4] at this; cases this)).trans z4
    let e : Ent := ⟨g7.next, h1.next, dk, { y.2 with A := (nx + i) % 4294967296 }, 0, 0, 0, 0⟩
    have hwf : e.c.wf := ⟨cok.wf.fl, Nat.mod_lt _ (by decide), cok.wf.out, cok.wf.inn, cok.wf.pp⟩
    have hdk : g.next ≤ dk ∧ dk < g7.next := ⟨by omega, by have := dt6.1; omega⟩
    have gdk : g11.get dk = some (.cells 5 (u8s y.2.dt) (.own true)) := by
      rw [hi9 dk hdk.1 (by omega), k89.get dk hdk.2, k7.get dk dt6.1 (by omega)]; exact dt6.2
    have hen : EntOK g11 e := ⟨(hi9 g7.next (by omega) (by omega)).trans be, by show g7.next < g11.next; omega, gP, by show h1.next < g11.next; omega, gdk, by show dk < g11.next; omega, hwf, cok.ne, cok.le⟩
    have hque := q1.push (e := e) (by omega) low11 gq11 (by show g9.next < g11.next; omega) (by rw [List.map_append, k11.get g9.next (by omega) (by omega)]; exact ap_own ap10) hen (by show g.next ≤ g7.next; omega) (by omega) (Nat.mod_lt _ (by decide))
    refine gg ?_
    refine rnd_up hi2 ⟨⟨⟨_, en ++ [e], by rw [← List.append_assoc]; exact hque, ?_, ?_, ?_, by rw [List.length_append, q5]; rfl⟩, by omega, ?_, gP, by omega, by omega⟩, sel_of rfl, sel_of rfl, sel_of rfl, sel_of rfl, sel_of rfl, trivial⟩
    · rw [List.map_append, q2, List.take_add_one, hx, List.map_append]
      show numd nx ((ks.take i).map (·.2)) ++ [e.c] = numd nx ((ks.take i).map (·.2) ++ [y.2])
      unfold numd
      rw [List.mapIdx_concat, List.length_map, List.length_take, Nat.min_eq_left hi]
    · intro w hw
      rcases List.mem_append.1 hw with hw | hw
      · exact q3 w hw
      · simp only [List.mem_cons, List.not_mem_nil, or_false] at hw
        subst hw
        exact ⟨rfl, rfl, by show h.next ≤ g7.next; omega⟩
    · intro q hq
      cases hq
      exact .inr (by show h.next ≤ g9.next; omega)
    · intro d hd h5 h6
      refine (low11 d (by omega) h5 fun q hq e => ?_).trans (z3 d hd h5 h6)
      rcases q4 q hq with h7 | h7
      · exact h6 q h7 e
      · omega
end
end Go.Proofs.YtmlagbknnngjjaaGreat

/-! Send. -/
set_option linter.unusedVariables false
namespace Go.Proofs.YtmlagbknnngjjaaGreat
open Go Vm
def mostN (mt : Nat) : Nat := max 1 (min 1172 (mt - 28))
theorem mostN_b (mt : Nat) : 1 ≤ mostN mt ∧ mostN mt ≤ 1172 := by unfold mostN; omega
def ssv (sl : List Nat) : List Value := sl.map fun (x : Nat) => .int .u16 (x : Int)
/-- what Send leaves -/
structure SnQ (h h' : Heap) (Q nx sb : Nat) (oq : Option Addr) (es : List Ent) (cs : List Ck) (sl : List Nat) : Prop where
  que : ∃ oq' en, Que h' Q oq' ((nx + cs.length) % 4294967296) (es ++ en) ∧ en.map Ent.c = numd nx cs ∧ (∀ e ∈ en, e.st = 0 ∧ e.sent = 0 ∧ h.next ≤ e.b) ∧ ∀ q, oq' = some q → oq = some q ∨ h.next ≤ q.block
  nxt : h.next ≤ h'.next
  low : ∀ d, d < h.next → d ≠ Q → d ≠ sb → (∀ q, oq = some q → d ≠ q.block) → h'.get d = h.get d
  gsb : h'.get sb = some (.cells 32 (ssv sl) (.own false))
/-- a block of another type than the queue's own -/
theorem Que.butT {h h' : Heap} {Q nx X ty : Nat} {oq : Option Addr} {es : List Ent} {cs : List Value} {op : Bool} (x : Que h Q oq nx es) (hX : h.get X = some (.cells ty cs (.own op))) (h1 : ty ≠ 93) (h2 : ty ≠ 113) (h3 : ty ≠ 115) (h4 : ty ≠ 112) (h5 : ty ≠ 5) (hn : h.next ≤ h'.next) (hg : ∀ d, d < h.next → d ≠ X → h'.get d = h.get d) : Que h' Q oq nx es := by
  have hql := x.ql
  refine ⟨(hg Q hql fun e => by rw [e] at x; have := x.hq; rw [hX] at this; cases this; exact h1 rfl).trans x.hq, by omega, x.ar.imp id fun ⟨k, a1, a2, a3⟩ => ⟨k, a1, by omega, (hg k a2 fun e => by rw [e, hX] at a3; cases a3; exact h2 rfl).trans a3⟩, fun e he => ?_, x.nd, x.lim, x.nxl⟩
  have z := x.en e he
  have zb := z.bl
  have zp := z.pl
  have zk := z.kl
  exact ⟨(hg _ zb fun e1 => by have := z.hb; rw [e1, hX] at this; cases this; exact h3 rfl).trans z.hb, by omega, (hg _ zp fun e1 => by have := z.hp; rw [e1, hX] at this; cases this; exact h4 rfl).trans z.hp, by omega, (hg _ zk fun e1 => by have := z.hk; rw [e1, hX] at this; cases this; exact h5 rfl).trans z.hk, by omega, z.wf, z.ne, z.le⟩
section
variable {h : Heap} {n Q nx X sb ns : Nat} {oq : Option Addr} {es : List Ent} {cs : List Value} {cw mt w : Nat} {pe : Int} {ru sk : Bool}
theorem w_knowsX {str : Nat} (hX : h.get X = some (.cells 79 cs (.own false))) (h12 : cs[12]? = some (.slice (some ⟨sb, 0, none⟩) ns ns)) (hs : str < ns) (hst : str < 65536) (hn : 1 ≤ n) :
    ResQ (callN Tryz.prog G0 n (.call 27 [pt X, .int .u16 (str : Int)]) h) (fun v h' => v = .bool true ∧ h = h') := by
  obtain ⟨n, rfl⟩ : ∃ m, n = m + 1 := ⟨n - 1, by omega⟩
  refine res_enter rfl d27 rfl ?_; simp only [c27]
  refine gg ?_
  refine i_load1 (v := .slice (some ⟨sb, 0, none⟩) ns ns) (by exact sel_of rfl) ((load1_own hX).trans h12) ?_
  refine gg ?_
  exact ⟨congrArg Value.bool (decide_eq_true (by omega)), rfl⟩
set_option maxHeartbeats 4000000 in
theorem w_sendM {o : Addr} {d : List UInt8} {dc str pp : Nat} {sl : List Nat} {now : Int} (x : Que h Q oq nx es) (hX : h.get X = some (.cells 79 cs (.own false))) (hXl : X < h.next) (v : SdV cs Q cw mt w pe ru sk) (h4 : cs[4]? = some (nv mt)) (h12 : cs[12]? = some (.slice (some ⟨sb, 0, none⟩) sl.length sl.length))
    (hsb : h.get sb = some (.cells 32 (ssv sl) (.own false))) (hsbl : sb < h.next) (hs : str < sl.length) (hst : str < 65536) (hpp : pp < 4294967296) (hsl : ∀ z ∈ sl, z < 65536) (hmt : mt ≤ 65536)
    (hr : Row h 1 (some o) d.length (u8s d)) (hdc : d.length ≤ dc) (hd0 : d ≠ []) (hd : d.length ≤ 16384) (hoct : octs [0, 2] es + d.length ≤ 65536) (hcnt : es.length + (pcs (mostN mt) d).length ≤ 1024) (hn : es.length + d.length + 100 ≤ n) :
    ResQ (callN Tryz.prog G0 n (.call 9 [pt X, .agg #[.int .u16 (str : Int), .bool false, .int .u32 (pp : Int), .slice (some o) d.length dc], .int .i64 (-1), .int .i64 (-1), .int .i64 now]) h) (fun v h' => v = .int .i64 0 ∧ SnQ h h' Q nx sb oq es (spl str (sl[str]) pp (pcs (mostN mt) d)) (sl.set str ((sl[str] + 1) % 65536))) := by
  have hlim := x.lim
  have hm := mostN_b mt
  obtain ⟨n, rfl⟩ : ∃ m, n = m + 1 := ⟨n - 1, by omega⟩
  refine res_enter rfl d9 rfl ?_; simp only [c9]
  refine gg ?_
  obtain ⟨b1, k1, n1⟩ := box_one h (.cells 34 [.int .u16 (str : Int), .bool false, .int .u32 (pp : Int), .slice (some o) d.length dc] (.own false))
  change ItQ (runItems _ _ _ (h.new (.cells 34 [.int .u16 (str : Int), .bool false, .int .u32 (pp : Int), .slice (some o) d.length dc] (.own false)))) _
  generalize (h.new (.cells 34 [.int .u16 (str : Int), .bool false, .int .u32 (pp : Int), .slice (some o) d.length dc] (.own false))) = h1 at *
  have hX1 := (k1.get X hXl).trans hX
  have x1 := x.keeps k1
  refine i_load1 (v := .int .u16 (str : Int)) (by exact sel_of rfl) ((load1_own b1).trans (by rfl)) ?_
  refine i_call2 (by exact sel_of rfl) (by exact sel_of rfl) (w_knowsX hX1 h12 hs hst (by omega)) ?_
  rintro _ _ ⟨rfl, rfl⟩
  refine gg ?_
  refine i_loadN (v := [.int .u16 (str : Int), .bool false, .int .u32 (pp : Int), .slice (some o) d.length dc]) (by exact sel_of rfl) (loadN_all b1 rfl) ?_
  refine gg ?_
  refine i_load1 (v := .slice (some ⟨sb, 0, none⟩) sl.length sl.length) (by exact sel_of rfl) ((load1_own hX1).trans h12) ?_
  refine gg ?_
  refine i_load1 (v := .int .u16 (str : Int)) (by exact sel_of rfl) ((load1_own b1).trans (by rfl)) ?_
  have hsb1 := (k1.get sb hsbl).trans hsb
  have rows : ∀ (g : Heap) (l : List Nat), g.get sb = some (.cells 32 (ssv l) (.own false)) → sb < g.next → Row g 1 (some ⟨sb, 0, none⟩) l.length (ssv l) := fun g l h2 h3 => ⟨by simp [ssv], h3, .inl rfl, loadN_all h2 (by simp [ssv])⟩
  refine i_idx (i := str) (by exact sel_of rfl) (rows h1 sl hsb1 (by omega)) (by exact sel_of rfl) hs fun q hq => ?_
  cases hq
  refine i_load1 (v := .int .u16 ((sl[str] : Nat) : Int)) (by exact sel_of rfl) ((load1_own hsb1).trans (by rw [Nat.mul_one, Nat.zero_add]; simp [ssv, hs])) ?_
  refine gg ?_
  refine i_load1 (v := nv mt) (by exact sel_of rfl) ((load1_own hX1).trans h4) ?_
  refine gg ?_
  refine i_minZ (t := min 1172 ((mt : Int) - 28)) (by exact const_of) (by exact sel_of rfl) rfl ?_
  refine i_maxZ (t := ((mostN mt : Nat) : Int)) (by exact const_of) (by exact sel_of rfl) (by unfold mostN; omega) ?_
  refine i_call4 (by exact sel_of rfl) (by exact const_of) (by exact sel_of rfl) (by exact sel_of rfl) (w_split (hr.keeps k1) hdc hd0 hd hm.1 hm.2 (by omega)) ?_
  rintro _ h2 ⟨ov, ks, rfl, S⟩
  have k2 := S.keep
  have hn2 := k2.next
  have x2 := x1.keeps k2
  have hX2 := (k2.get X (by omega)).trans hX1
  have b2 := (k2.get h.next (by omega)).trans b1
  refine gg ?_
  refine i_load1 (v := pt Q) (by exact sel_of rfl) ((load1_own hX2).trans v.c0) ?_
  refine gg ?_
  refine i_call1 (by exact sel_of rfl) (w_left x2 (by omega)) ?_
  rintro _ h3 ⟨rfl, k3⟩
  have hn3 := k3.next
  have x3 := x2.keeps k3
  have hX3 := (k3.get X (by omega)).trans hX2
  have b3 := (k3.get h.next (by omega)).trans b2
  have l3 : ∀ g : Heap, g.get h.next = some (.cells 34 [.int .u16 (str : Int), .bool false, .int .u32 (pp : Int), .slice (some o) d.length dc] (.own false)) → load1 g.get ⟨h.next, 0 + 3, none⟩ = some (.slice (some o) d.length dc) := fun g hg => (load1_own hg).trans (by rfl)
  refine gg ?_
  refine i_load1 (v := .slice (some o) d.length dc) (by exact sel_of rfl) (l3 h3 b3) ?_
  refine gg ?_
  refine ⟨chk_cons (a := _) rfl (ld1 (by exact sel_of rfl) (l3 h3 b3)) (sv_slice _ _ _) (fun m hm => by
    simp only [List.mem_cons, List.not_mem_nil, or_false] at hm
    rcases hm with rfl | rfl
    · exact ⟨_, _, rfl, ld1 (by exact sel_of rfl) (l3 h2 b2)⟩
    · exact ⟨_, _, rfl, ld1 (by exact sel_of rfl) (l3 h3 b3)⟩) chk_nil, ?_⟩
  refine gg ?_
  refine i_load1 (v := pt Q) (by exact sel_of rfl) ((load1_own hX3).trans v.c0) ?_
  refine gg ?_
  have hkc : ks.length = (spl str (sl[str]) pp (pcs (mostN mt) d)).length := by rw [← S.eq, List.length_map]
  have hkp : (spl str (sl[str]) pp (pcs (mostN mt) d)).length = (pcs (mostN mt) d).length := by unfold spl; rw [List.length_mapIdx]
  have hpos := pcs_pos hm.1 hd0
  have hpl := pcs_len hm.1 d.length d (Nat.le_refl _)
  have cok : ∀ c ∈ spl str (sl[str]) pp (pcs (mostN mt) d), CkOK c := fun c hc => by
    obtain ⟨i, hi, rfl⟩ := List.mem_mapIdx.1 hc
    have hpm := pcs_mem hm.1 d.length d (Nat.le_refl _) _ (List.getElem_mem hi)
    have := hsl _ (List.getElem_mem hs)
    refine ⟨⟨?_, by show i < 4294967296; omega, hst, this, hpp⟩, hpm.1, Nat.le_trans hpm.2 hm.2⟩
    show (if i = 0 then 2 else 0) + (if i + 1 = _ then 1 else 0) < 256
    split <;> split <;> decide
  rcases S.ar.2 with ⟨h0, _⟩ | ⟨kb, rfl, hk1, hk2, hk3⟩
  · omega
  refine i_call4 (by exact sel_of rfl) (by exact sel_of rfl) (by exact sel_of rfl) (by exact sel_of rfl) (w_push x3 (fun y hy => ⟨cok y.2 (by rw [← S.eq]; exact List.mem_map.2 ⟨y, hy, rfl⟩), by have := (S.ch y hy).2; exact ⟨by have := this.1; omega, (k3.get _ this.1).trans this.2⟩⟩) (by omega) (by omega) (by omega) ((k3.get kb hk2).trans hk3) (by omega)) ?_
  rintro _ h5 ⟨rfl, P⟩
  rw [S.eq] at P
  have hn5 := P.nxt
  have xoq : ∀ q, oq = some q → h.get q.block = some (.cells 113 (es.map fun e => pt e.b) (.own true)) ∧ q.block < h.next := fun q hq => by
    rcases x.ar with ⟨_, h2⟩ | ⟨k, h1, h2, h3⟩
    · rw [h2] at hq; cases hq
    · rw [h1] at hq; cases hq; exact ⟨h3, h2⟩
  have hXQ : X ≠ Q := fun e => by rw [e, x.hq] at hX; cases hX
  have hsQ : sb ≠ Q := fun e => by rw [e, x.hq] at hsb; cases hsb
  have hql := x.ql
  have low5 : ∀ z, z < h.next → z ≠ Q → (∀ q, oq = some q → z ≠ q.block) → h5.get z = h.get z := fun z hz h6 h7 => by
    rw [P.low z (by omega) h6 h7, k3.get z (by omega), k2.get z (by omega), k1.get z hz]
  have hX5 := (low5 X hXl hXQ (fun q hq e => by have := (xoq q hq).1; rw [← e, hX] at this; cases this)).trans hX
  have hsb5 := (low5 sb hsbl hsQ (fun q hq e => by have := (xoq q hq).1; rw [← e, hsb] at this; cases this)).trans hsb
  have b5 := (P.low h.next (by omega) (by omega) (fun q hq => by have := (xoq q hq).2; omega)).trans b3
  refine gg ?_
  refine i_load1 (v := .bool false) (by exact sel_of rfl) ((load1_own b5).trans (by rfl)) ?_
  refine gg ?_
  refine i_load1 (v := .slice (some ⟨sb, 0, none⟩) sl.length sl.length) (by exact sel_of rfl) ((load1_own hX5).trans h12) ?_
  refine gg ?_
  refine i_load1 (v := .int .u16 (str : Int)) (by exact sel_of rfl) ((load1_own b5).trans (by rfl)) ?_
  refine i_idx (i := str) (by exact sel_of rfl) (rows h5 sl hsb5 (by omega)) (by exact sel_of rfl) hs fun q hq => ?_
  cases hq
  refine i_load1 (v := .int .u16 ((sl[str] : Nat) : Int)) (by exact sel_of rfl) ((load1_own hsb5).trans (by rw [Nat.mul_one, Nat.zero_add]; simp [ssv, hs])) ?_
  refine i_addW (q := ((1 : Nat) : Int)) (r := (((sl[str] + 1) % 65536 : Nat) : Int)) (by exact sel_of rfl) (by exact const_of) (wrap_u16 (sl[str] + 1)) ?_
  refine i_idx (i := str) (by exact sel_of rfl) (rows h5 sl hsb5 (by omega)) (by exact sel_of rfl) hs fun q hq => ?_
  cases hq
  refine i_stB (b := sb) (v := .int .u16 (((sl[str] + 1) % 65536 : Nat) : Int)) (by exact sel_of rfl) (by rw [sel_of rfl]; rfl) hsb5 (by show 0 + str * 1 < (ssv sl).length; simp [ssv]; omega) fun h6 k6 n6 g6 => ?_
  refine gg ?_
  obtain ⟨⟨oq', en, q1, q2, q3, q4⟩, q5, q6⟩ := P
  refine ⟨rfl, ⟨oq', en, ?_, q2, fun e he => ⟨(q3 e he).1, (q3 e he).2.1, by have := (q3 e he).2.2; omega⟩, fun q hq => (q4 q hq).imp id (by omega)⟩, by omega, fun z hz h7 h8 h9 => (k6.get z (by omega) h8).trans (low5 z hz h7 h9), ?_⟩
  · exact q1.butT hsb5 (by decide) (by decide) (by decide) (by decide) (by decide) (by omega) fun z hz hzs => k6.get z hz hzs
  · rw [g6]
    congr 2
    unfold ssv
    rw [List.map_set, Nat.mul_one, Nat.zero_add]
end
end Go.Proofs.YtmlagbknnngjjaaGreat

