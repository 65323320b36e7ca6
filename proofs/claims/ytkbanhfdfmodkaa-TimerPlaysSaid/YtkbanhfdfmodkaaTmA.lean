/- Part of a proof by an abstract run of the program's code: TmA. No condition. -/
import Derived.Test.YtkbanhfdfmodkaaSrC
/-! Timers, in plain lists: in the order in which they are due. -/
set_option linter.unusedVariables false
namespace Go.Proofs.Ytkbanhfdfmodkaa
open Go Vm
abbrev En := Int × Int
def bf (a b : En) : Bool := decide (a.2 < b.2 ∨ a.2 = b.2 ∧ a.1 < b.1)
def stopP (x : Int) (m : List En) : List En := m.filter fun e => e.1 != x
def insP (p : En) : List En → List En
  | [] => [p]
  | e :: m => if bf e p then e :: insP p m else p :: e :: m
def startP (x v : Int) (m : List En) : List En := insP (x, v) (stopP x m)
def atP (m : List En) (x : Int) : Option Int := (m.find? fun e => e.1 == x).map fun e => e.2
abbrev keyP (e : En) : Int := e.1
structure Srt (m : List En) : Prop where
  so : m.Pairwise (fun a b => bf a b = true)
  nd : (m.map keyP).Nodup
theorem Srt.nil : Srt [] := ⟨List.Pairwise.nil, List.nodup_nil⟩
theorem bf_trans {a b c : En} (h1 : bf a b = true) (h2 : bf b c = true) : bf a c = true := by
  simp only [bf, decide_eq_true_eq] at *; omega
theorem bf_not {a b : En} (h : bf a b = false) (hne : a.1 ≠ b.1) : bf b a = true := by
  simp only [bf, decide_eq_true_eq, decide_eq_false_iff_not] at *; omega
theorem Srt.stop {m : List En} (s : Srt m) (x : Int) : Srt (stopP x m) :=
  ⟨s.so.filter _, s.nd.sublist (List.filter_sublist.map _)⟩
theorem insP_perm (p : En) : ∀ m : List En, (insP p m).Perm (p :: m)
  | [] => List.Perm.refl _
  | e :: m => by
    rw [insP]
    split
    · exact ((insP_perm p m).cons e).trans (List.Perm.swap p e m)
    · exact List.Perm.refl _
theorem insP_so (p : En) : ∀ m : List En, m.Pairwise (fun a b => bf a b = true) → p.1 ∉ m.map keyP → (insP p m).Pairwise (fun a b => bf a b = true)
  | [], _, _ => by rw [insP]; exact List.pairwise_singleton _ _
  | e :: m, h, hp => by
    obtain ⟨h1, h2⟩ := List.pairwise_cons.1 h
    simp only [List.map_cons, List.mem_cons, not_or] at hp
    rw [insP]
    split
    · rename_i hb
      refine List.pairwise_cons.2 ⟨fun b hb' => ?_, insP_so p m h2 hp.2⟩
      rcases List.mem_cons.1 ((insP_perm p m).mem_iff.1 hb') with rfl | hb'
      · exact hb
      · exact h1 b hb'
    · rename_i hb
      have hb1 := bf_not (by simpa using hb) (fun e' => hp.1 e'.symm)
      refine List.pairwise_cons.2 ⟨fun b hb' => ?_, h⟩
      rcases List.mem_cons.1 hb' with rfl | hb'
      · exact hb1
      · exact bf_trans hb1 (h1 b hb')
theorem stopP_not (x : Int) (m : List En) : x ∉ (stopP x m).map keyP := by
  intro h
  obtain ⟨e, he, hx⟩ := List.mem_map.1 h
  have := (List.mem_filter.1 he).2
  simp only [bne_iff_ne, ne_eq] at this
  exact this hx
theorem Srt.start {m : List En} (s : Srt m) (x v : Int) : Srt (startP x v m) := by
  have s1 := s.stop x
  refine ⟨insP_so _ _ s1.so (stopP_not x m), ?_⟩
  have hp := (insP_perm (x, v) (stopP x m)).map keyP
  exact hp.nodup_iff.2 (List.nodup_cons.2 ⟨stopP_not x m, s1.nd⟩)
theorem atP_iff {m : List En} (nd : (m.map keyP).Nodup) (x v : Int) : atP m x = some v ↔ (x, v) ∈ m := by
  induction m with
  | nil => constructor <;> intro h <;> cases h
  | cons e m ih =>
    obtain ⟨k, u⟩ := e
    obtain ⟨n1, n2⟩ := List.nodup_cons.1 nd
    unfold atP
    rw [List.find?_cons]
    by_cases hk : k = x
    · subst hk
      simp only [beq_self_eq_true, Option.map_some, Option.some.injEq, List.mem_cons, Prod.mk.injEq, true_and]
      constructor
      · intro h; exact .inl h.symm
      · rintro (h | h)
        · exact h.symm
        · exact absurd (List.mem_map.2 ⟨_, h, rfl⟩) n1
    · have hb : (k == x) = false := by simpa using hk
      simp only [hb, List.mem_cons, Prod.mk.injEq]
      rw [show (m.find? fun e => e.1 == x).map (fun e => e.2) = atP m x from rfl, ih n2]
      constructor
      · intro h; exact .inr h
      · rintro (h | h)
        · exact absurd h.1.symm hk
        · exact h
theorem atP_perm {l m : List En} (p : l.Perm m) (nd : (m.map keyP).Nodup) (x : Int) : atP l x = atP m x := by
  have nl : (l.map keyP).Nodup := (p.map keyP).nodup_iff.2 nd
  cases h : atP m x with
  | some v => exact (atP_iff nl x v).2 (p.mem_iff.2 ((atP_iff nd x v).1 h))
  | none =>
    cases h2 : atP l x with
    | none => rfl
    | some v =>
      have := (atP_iff nd x v).2 (p.mem_iff.1 ((atP_iff nl x v).1 h2))
      rw [h] at this; cases this
/-! the entries of the map -/
abbrev pr3 (e : Ez) : En := (e.1, e.2.1)
def putZ (x v : Int) (c : Nat) : List Ez → List Ez × Nat
  | [] => ([(x, v, c)], c + 1)
  | (k, u, s) :: es => if x = k then ((x, v, s) :: es, c) else ((k, u, s) :: (putZ x v c es).1, (putZ x v c es).2)
def delZ (x : Int) : List Ez → List Ez
  | [] => []
  | (k, u, s) :: es => if x = k then es else (k, u, s) :: delZ x es
theorem entZ_put (x v : Int) (c : Nat) : ∀ es : List Ez, mPut (.one 1) (iv x) (iv v) c (entZ es) = some (entZ (putZ x v c es).1, (putZ x v c es).2)
  | [] => rfl
  | (k, u, s) :: es => by
    show (match eqV (.one 1) (iv x) (iv k) with
      | some true => some ((iv x, iv v, s) :: entZ es, c)
      | some false => (match mPut (.one 1) (iv x) (iv v) c (entZ es) with | some (r, c) => some ((iv k, iv u, s) :: r, c) | none => none)
      | none => none) = _
    rw [eqV_Z, eqI_dec, putZ]
    by_cases hk : x = k
    · rw [decide_eq_true hk, if_pos hk]; rfl
    · rw [decide_eq_false hk, if_neg hk, entZ_put x v c es]; rfl
theorem entZ_del (x : Int) : ∀ es : List Ez, mDel (.one 1) (iv x) (entZ es) = some (entZ (delZ x es))
  | [] => rfl
  | (k, u, s) :: es => by
    show (match eqV (.one 1) (iv x) (iv k) with
      | some true => some (entZ es)
      | some false => (match mDel (.one 1) (iv x) (entZ es) with | some r => some ((iv k, iv u, s) :: r) | none => none)
      | none => none) = _
    rw [eqV_Z, eqI_dec, delZ]
    by_cases hk : x = k
    · rw [decide_eq_true hk, if_pos hk]
    · rw [decide_eq_false hk, if_neg hk, entZ_del x es]; rfl
theorem stopP_skip {x : Int} {m : List En} (h : x ∉ m.map keyP) : stopP x m = m := by
  refine List.filter_eq_self.2 fun e he => ?_
  simp only [bne_iff_ne, ne_eq]
  exact fun e' => h (List.mem_map.2 ⟨e, he, e'⟩)
theorem putZ_pr (x v : Int) (c : Nat) : ∀ es : List Ez, (es.map ky3).Nodup → ((putZ x v c es).1.map pr3).Perm ((x, v) :: stopP x (es.map pr3))
  | [], _ => List.Perm.refl _
  | (k, u, s) :: es, nd => by
    obtain ⟨n1, n2⟩ := List.nodup_cons.1 nd
    rw [putZ]
    by_cases hk : x = k
    · subst hk
      rw [if_pos rfl]
      have : stopP x (((x, u, s) :: es).map pr3) = es.map pr3 := by
        have h1 : stopP x (((x, u, s) :: es).map pr3) = stopP x (es.map pr3) := by simp [stopP]
        rw [h1]
        refine stopP_skip ?_
        rw [List.map_map]; exact n1
      rw [this]
      exact List.Perm.refl _
    · rw [if_neg hk]
      have : stopP x (((k, u, s) :: es).map pr3) = (k, u) :: stopP x (es.map pr3) := by
        have hb : (k != x) = true := by simpa using fun e : k = x => hk e.symm
        simp [stopP, hb]
      rw [this]
      exact ((putZ_pr x v c es n2).cons (k, u)).trans (List.Perm.swap _ _ _)
theorem putZ_st (x v : Int) (c : Nat) : ∀ es : List Ez, ((putZ x v c es).1.map st3 = es.map st3 ∧ (putZ x v c es).2 = c) ∨ ((putZ x v c es).1.map st3 = es.map st3 ++ [c] ∧ (putZ x v c es).2 = c + 1)
  | [] => .inr ⟨rfl, rfl⟩
  | (k, u, s) :: es => by
    rw [putZ]
    by_cases hk : x = k
    · rw [if_pos hk]; exact .inl ⟨rfl, rfl⟩
    · rw [if_neg hk]
      rcases putZ_st x v c es with ⟨h1, h2⟩ | ⟨h1, h2⟩
      · exact .inl ⟨by rw [List.map_cons, List.map_cons, h1], h2⟩
      · exact .inr ⟨by rw [List.map_cons, List.map_cons, h1]; rfl, h2⟩
theorem delZ_sub (x : Int) : ∀ es : List Ez, (delZ x es).Sublist es
  | [] => List.Sublist.refl _
  | (k, u, s) :: es => by
    rw [delZ]
    split
    · exact List.sublist_cons_self _ _
    · exact (delZ_sub x es).cons_cons _
theorem delZ_pr (x : Int) : ∀ es : List Ez, (es.map ky3).Nodup → (delZ x es).map pr3 = stopP x (es.map pr3)
  | [], _ => rfl
  | (k, u, s) :: es, nd => by
    obtain ⟨n1, n2⟩ := List.nodup_cons.1 nd
    rw [delZ]
    by_cases hk : x = k
    · subst hk
      rw [if_pos rfl]
      have h1 : stopP x (((x, u, s) :: es).map pr3) = stopP x (es.map pr3) := by simp [stopP]
      rw [h1]
      exact (stopP_skip (by rw [List.map_map]; exact n1)).symm
    · rw [if_neg hk]
      have hb : (k != x) = true := by simpa using fun e : k = x => hk e.symm
      rw [List.map_cons, delZ_pr x es n2]
      simp [stopP, hb]
theorem atZ_atP (es : List Ez) (x : Int) : atZ es x = (atP (es.map pr3) x).getD 0 := by
  unfold atZ atP
  rw [List.find?_map, Option.map_map]
  rfl
/-- the order of the ids -/
theorem ids_eq {es : List Ez} {m : List En} {ids : List El} (hs : Srt m) (pm : (es.map pr3).Perm m) (hp : ids.Perm (es.map ky3)) (so : Sort.SortedIn (ltT es) 0 ids.length ids.toArray) : ids = m.map keyP := by
  have pk : ids.Perm (m.map keyP) := hp.trans (by have := pm.map keyP; rw [List.map_map] at this; exact this)
  have at_eq : ∀ e ∈ m, atZ es e.1 = e.2 := fun e he => by
    rw [atZ_atP, atP_perm pm hs.nd, (atP_iff hs.nd e.1 e.2).2 he]; rfl
  refine List.Perm.eq_of_pairwise (le := fun a b : Int => ltT es b a = false) (fun a b _ _ h1 h2 => (ltT_tot es a b h2 h1)) ?_ ?_ pk
  · refine List.pairwise_iff_getElem.2 fun i j hi hj hij => ?_
    have := so i j (Nat.zero_le _) hij hj
    simpa [hi, hj] using this
  · rw [List.pairwise_map]
    refine (List.Pairwise.and_mem.1 hs.so).imp fun {a b} h => ?_
    obtain ⟨ha, hb, h⟩ := h
    simp only [ltT, decide_eq_false_iff_not, keyP]
    rw [at_eq a ha, at_eq b hb]
    simp only [bf, decide_eq_true_eq] at h
    omega
end Go.Proofs.Ytkbanhfdfmodkaa

/-! Timers, walked: Start, Stop, At, Len, Next, Due. -/
set_option linter.unusedVariables false
namespace Go.Proofs.Ytkbanhfdfmodkaa
open Go Vm
section
variable {rec : Rec} {L : List (Nat × Value)} {f : Fr} {dt : Nat} {h : Heap} {K : Fr → Heap → Prop} {l : List ISem} {rd : Bool} {x y : Sel} {mv : Option Nat}
theorem i_eqmN (hx : x.f (puts L f) = .map mv) (hy : y.f (puts L f) = .map none) (hq : ItQ (runItems rec l (puts ((dt, .bool mv.isNone) :: L) f) h) K) : ItQ (runItems rec (iOp (put dt) (.v rd (oEq (.one 5) x y)) :: l) (puts L f) h) K := by
  refine i_v ?_ hq
  simp only [oEq, hx, hy]
  cases mv <;> rfl
theorem i_mapDelNil {N : KT} {m k : Sel} {kv : Value} (hm : m.f (puts L f) = .map none) (hk : k.f (puts L f) = kv) (ho : keyOk N kv = true)
    (hq : ItQ (runItems rec l (puts L f) h) K) : ItQ (runItems rec (iOp ⟨fun _ a => a⟩ (.e (eDelete N m k)) :: l) (puts L f) h) K := by
  refine items_cons (it_e (.mk (.tuple #[]) h (?_) (hq)))
  simp only [eDelete, hm, hk, ho, cond_true]
theorem i_lenM {es : List Ez} (hx : x.f (puts L f) = .map mv) (hg : MapZ h mv es) (hq : ItQ (runItems rec l (puts ((dt, .int .i64 ((es.length : Nat) : Int)) :: L) f) h) K) : ItQ (runItems rec (iOp (put dt) (.v rd (oLenM x)) :: l) (puts L f) h) K := by
  refine i_v ?_ hq
  cases mv with
  | none => cases hg; simp only [oLenM, hx]; rfl
  | some M =>
    obtain ⟨_, c, g, _⟩ := hg
    simp only [oLenM, hx, mapOf, g]
    show some (Value.int .i64 (Int.ofNat (entZ es).length)) = _
    rw [entZ, List.length_map]; rfl
theorem i_look2 {es : List Ez} {m k : Sel} {x : Int} (hm : m.f (puts L f) = .map mv) (hg : MapZ h mv es) (hk : k.f (puts L f) = iv x)
    (hq : ItQ (runItems rec l (puts ((dt, .tuple #[iv ((atP (es.map pr3) x).getD 0), .bool (atP (es.map pr3) x).isSome]) :: L) f) h) K) : ItQ (runItems rec (iOp (put dt) (.v rd (oLookup (.one 1) (.int .i64 0) true m k)) :: l) (puts L f) h) K := by
  cases mv with
  | none =>
    cases hg
    exact i_lookupNil hm hk rfl hq
  | some M =>
    obtain ⟨_, c, g, _⟩ := hg
    have e := entZ_find x es
    unfold atP at hq
    rw [List.find?_map] at hq
    have hc : ((fun e : En => e.1 == x) ∘ pr3) = fun e : Ez => e.1 == x := rfl
    rw [hc] at hq
    cases h1 : es.find? fun e => e.1 == x with
    | none => rw [h1] at hq e; exact i_lookup hm g hk rfl e hq
    | some p => rw [h1] at hq e; exact i_lookup hm g hk rfl e hq
end
/-- a set of timers -/
def Ts (h : Heap) (S : Nat) (mv : Option Nat) (m : List En) : Prop := Srt m ∧ S < h.next ∧ (∃ e, h.get S = some (.cells e [.map mv] (.own false))) ∧ ∃ es, MapZ h mv es ∧ (es.map pr3).Perm m
/-- all but the timers' own -/
structure KeepsT (S : Nat) (mv : Option Nat) (h h' : Heap) : Prop where
  next : h.next ≤ h'.next
  get : ∀ d, d < h.next → d ≠ S → mv ≠ some d → h'.get d = h.get d
def Nx (mv mv' : Option Nat) (N : Nat) : Prop := mv' = mv ∨ ∃ M, mv' = some M ∧ N ≤ M
theorem Ts.keeps {h h' : Heap} {S : Nat} {mv : Option Nat} {m : List En} (t : Ts h S mv m) (k : Keeps h h') : Ts h' S mv m := by
  obtain ⟨h1, h2, ⟨e, h3⟩, es, h4, h5⟩ := t
  exact ⟨h1, Nat.lt_of_lt_of_le h2 k.next, ⟨e, (k.get _ h2).trans h3⟩, es, h4.keeps k, h5⟩
theorem MapZ.lt {h : Heap} {M : Nat} {es : List Ez} (m : MapZ h (some M) es) : M < h.next := m.1
theorem MapZ.put {h : Heap} {M c : Nat} {es' : List Ez} (hM : M < h.next) (h1 : ∀ s ∈ es'.map st3, s < c) (h2 : (es'.map st3).Nodup) : MapZ (h.put M (.map (entZ es') c)) (some M) es' :=
  ⟨hM, c, by rw [Heap.get_put, if_pos rfl], fun e he => h1 _ (List.mem_map.2 ⟨e, he, rfl⟩), by rw [List.Nodup, List.pairwise_map] at h2; exact h2⟩
theorem putZ_ok {x v : Int} {c : Nat} {es : List Ez} (h1 : ∀ e ∈ es, e.2.2 < c) (h2 : es.Pairwise (fun a b => a.2.2 ≠ b.2.2)) : (∀ s ∈ (putZ x v c es).1.map st3, s < (putZ x v c es).2) ∧ ((putZ x v c es).1.map st3).Nodup := by
  have h1' : ∀ s ∈ es.map st3, s < c := fun s hs => by obtain ⟨e, he, rfl⟩ := List.mem_map.1 hs; exact h1 e he
  have h2' : (es.map st3).Nodup := by rw [List.Nodup, List.pairwise_map]; exact h2
  rcases putZ_st x v c es with ⟨e1, e2⟩ | ⟨e1, e2⟩
  · rw [e1, e2]; exact ⟨h1', h2'⟩
  · rw [e1, e2]
    refine ⟨fun s hs => ?_, List.nodup_append.2 ⟨h2', by simp, fun s hs t ht e => ?_⟩⟩
    · rcases List.mem_append.1 hs with hs | hs
      · have := h1' s hs; omega
      · simp only [List.mem_cons, List.not_mem_nil, or_false] at hs; omega
    · simp only [List.mem_cons, List.not_mem_nil, or_false] at ht
      have := h1' s hs; omega
theorem nd_of {es : List Ez} {m : List En} (p : (es.map pr3).Perm m) (s : Srt m) : (es.map ky3).Nodup := by
  have := (p.map keyP).nodup_iff.2 s.nd
  rw [List.map_map] at this; exact this
section
variable {h : Heap} {S n : Nat} {mv : Option Nat} {m : List En} {x v : Int}
theorem w_start (t : Ts h S mv m) (hn : 1 ≤ n) :
    ResQ (callN Try.prog G0 n (.call 9 [.pointer (some ⟨S, 0, none⟩), iv x, iv v]) h) (fun _ h' => ∃ mv', Ts h' S mv' (startP x v m) ∧ KeepsT S mv h h' ∧ Nx mv mv' h.next) := by
  obtain ⟨hs, hS, ⟨e, gS⟩, es, gm, pm⟩ := t
  have nd := nd_of pm hs
  have fin : ∀ es' : List Ez, (es'.map pr3).Perm ((x, v) :: stopP x (es.map pr3)) → (es'.map pr3).Perm (startP x v m) := fun es' h1 =>
    h1.trans (((pm.filter _).cons (x, v)).trans (insP_perm (x, v) (stopP x m)).symm)
  obtain ⟨n, rfl⟩ : ∃ m, n = m + 1 := ⟨n - 1, by omega⟩
  refine res_enter rfl d9 rfl ?_; simp only [c9]
  refine gg ?_
  refine i_load1 (v := .map mv) (by exact sel_of rfl) ((load1_own gS).trans (by rfl)) ?_
  refine i_eqmN (by exact sel_of rfl) (by exact const_of) ?_
  cases mv with
  | none =>
    cases gm
    refine gg ?_
    refine i_makeMap ?_
    have k1 := Keeps.new h (.map [] 0)
    have g1 : (h.new (.map [] 0)).get h.next = some (.map [] 0) := by rw [Heap.get_new, if_pos rfl]
    have n1 : (h.new (.map [] 0)).next = h.next + 1 := rfl
    generalize h.new (.map [] 0) = h1 at *
    refine gg ?_
    refine i_stB (v := .map (some h.next)) (by exact sel_of rfl) (by rw [sel_of rfl]; rfl) ((k1.get _ hS).trans gS) (by show 0 < 1; decide) fun h2 k2 n2 g2 => ?_
    refine gg ?_
    refine i_load1 (v := .map (some h.next)) (by exact sel_of rfl) ((load1_own g2).trans (by rfl)) ?_
    refine gg ?_
    have g3 := (k2.get h.next (by omega) (by omega)).trans g1
    refine i_mapUpd (by exact sel_of rfl) g3 (by exact sel_of rfl) (by exact sel_of rfl) rfl (entZ_put x v 0 []) ?_
    refine gg ?_
    have hok := putZ_ok (x := x) (v := v) (c := 0) (es := []) (fun e he => nomatch he) List.Pairwise.nil
    refine ⟨some h.next, ⟨hs.start x v, by rw [Heap.next_put]; omega, ⟨e, by rw [Heap.get_put, if_neg (by omega)]; exact g2⟩, _, MapZ.put (by omega) hok.1 hok.2, fin _ (putZ_pr x v 0 [] nd)⟩, ⟨by rw [Heap.next_put]; omega, fun d hd h3 h4 => ?_⟩, .inr ⟨_, rfl, Nat.le_refl _⟩⟩
    rw [Heap.get_put, if_neg (by omega), k2.get d (by omega) h3, k1.get d hd]
  | some M =>
    obtain ⟨hM, c, gM, hst, hpw⟩ := gm
    have hMS : M ≠ S := fun e => by rw [e, gS] at gM; cases gM
    refine gg ?_
    refine i_load1 (v := .map (some M)) (by exact sel_of rfl) ((load1_own gS).trans (by rfl)) ?_
    refine gg ?_
    refine i_mapUpd (by exact sel_of rfl) gM (by exact sel_of rfl) (by exact sel_of rfl) rfl (entZ_put x v c es) ?_
    refine gg ?_
    have hok := putZ_ok (x := x) (v := v) hst hpw
    refine ⟨some M, ⟨hs.start x v, hS, ⟨e, by rw [Heap.get_put, if_neg (by omega)]; exact gS⟩, _, MapZ.put hM hok.1 hok.2, fin _ (putZ_pr x v c es nd)⟩, ⟨Nat.le_refl _, fun d hd h3 h4 => ?_⟩, .inl rfl⟩
    rw [Heap.get_put, if_neg (fun e => h4 (by rw [e]))]
theorem w_stop (t : Ts h S mv m) (hn : 1 ≤ n) :
    ResQ (callN Try.prog G0 n (.call 14 [.pointer (some ⟨S, 0, none⟩), iv x]) h) (fun _ h' => Ts h' S mv (stopP x m) ∧ KeepsT S mv h h' ∧ h'.next = h.next) := by
  obtain ⟨hs, hS, ⟨e, gS⟩, es, gm, pm⟩ := t
  have nd := nd_of pm hs
  obtain ⟨n, rfl⟩ : ∃ m, n = m + 1 := ⟨n - 1, by omega⟩
  refine res_enter rfl d14 rfl ?_; simp only [c14]
  refine gg ?_
  refine i_load1 (v := .map mv) (by exact sel_of rfl) ((load1_own gS).trans (by rfl)) ?_
  refine gg ?_
  cases mv with
  | none =>
    cases gm
    refine i_mapDelNil (by exact sel_of rfl) (by exact sel_of rfl) rfl ?_
    refine gg ?_
    exact ⟨⟨hs.stop x, hS, ⟨e, gS⟩, [], rfl, pm.filter _⟩, ⟨Nat.le_refl _, fun d hd h3 h4 => rfl⟩, rfl⟩
  | some M =>
    obtain ⟨hM, c, gM, hst, hpw⟩ := gm
    have hMS : M ≠ S := fun e => by rw [e, gS] at gM; cases gM
    refine i_mapDel (by exact sel_of rfl) gM (by exact sel_of rfl) rfl (entZ_del x es) ?_
    refine gg ?_
    refine ⟨⟨hs.stop x, hS, ⟨e, by rw [Heap.get_put, if_neg (by omega)]; exact gS⟩, delZ x es, ⟨hM, c, by rw [Heap.get_put, if_pos rfl], fun e he => hst e ((delZ_sub x es).subset he), hpw.sublist (delZ_sub x es)⟩, by rw [delZ_pr x es nd]; exact pm.filter _⟩, ⟨Nat.le_refl _, fun d hd h3 h4 => ?_⟩, rfl⟩
    rw [Heap.get_put, if_neg (fun e => h4 (by rw [e]))]
theorem w_at (t : Ts h S mv m) (hn : 1 ≤ n) :
    ResQ (callN Try.prog G0 n (.call 17 [.pointer (some ⟨S, 0, none⟩), iv x]) h) (fun u h' => u = .tuple #[iv ((atP m x).getD 0), .bool (atP m x).isSome] ∧ h = h') := by
  obtain ⟨hs, hS, ⟨e, gS⟩, es, gm, pm⟩ := t
  obtain ⟨n, rfl⟩ : ∃ m, n = m + 1 := ⟨n - 1, by omega⟩
  refine res_enter rfl d17 rfl ?_; simp only [c17]
  refine gg ?_
  refine i_load1 (v := .map mv) (by exact sel_of rfl) ((load1_own gS).trans (by rfl)) ?_
  refine gg ?_
  refine i_look2 (by exact sel_of rfl) gm (by exact sel_of rfl) ?_
  rw [atP_perm pm hs.nd]
  refine gg ?_
  exact ⟨rfl, rfl⟩
theorem w_tlen (t : Ts h S mv m) (hn : 1 ≤ n) :
    ResQ (callN Try.prog G0 n (.call 12 [.pointer (some ⟨S, 0, none⟩)]) h) (fun u h' => u = .int .i64 ((m.length : Nat) : Int) ∧ h = h') := by
  obtain ⟨hs, hS, ⟨e, gS⟩, es, gm, pm⟩ := t
  obtain ⟨n, rfl⟩ : ∃ m, n = m + 1 := ⟨n - 1, by omega⟩
  refine res_enter rfl d12 rfl ?_; simp only [c12]
  refine gg ?_
  refine i_load1 (v := .map mv) (by exact sel_of rfl) ((load1_own gS).trans (by rfl)) ?_
  refine i_lenM (by exact sel_of rfl) gm ?_
  refine gg ?_
  exact ⟨by rw [← pm.length_eq, List.length_map], rfl⟩
theorem Ts.tm (t : Ts h S mv m) : ∃ es, Tm h S es ∧ (es.map pr3).Perm m := by
  obtain ⟨hs, hS, ⟨e, gS⟩, es, gm, pm⟩ := t
  exact ⟨es, ⟨hS, e, mv, gS, gm⟩, pm⟩
theorem w_sortedT (t : Ts h S mv m) (hlen : m.length < 256) (hn : 2 * m.length + 60 ≤ n) :
    ResQ (callN Try.prog G0 n (.call 20 [.pointer (some ⟨S, 0, none⟩)]) h) (fun u h' => ∃ oa : Option Addr, u = .slice oa m.length m.length ∧ LstZ h' oa (m.map keyP) ∧ Keeps h h' ∧ ∀ q, oa = some q → h.next ≤ q.block) := by
  obtain ⟨es, tm, pm⟩ := t.tm
  have hl : es.length = m.length := by rw [← pm.length_eq, List.length_map]
  refine (w_sorted tm (by omega) (by omega)).mono ?_
  rintro u h' ⟨oa, ids, rfl, hl, hp, so, k, ho⟩
  have := ids_eq t.1 pm hp so
  subst this
  exact ⟨oa, by rw [List.length_map], hl, k, ho⟩
theorem w_tnext (t : Ts h S mv m) (hlen : m.length < 256) (hn : 2 * m.length + 65 ≤ n) :
    ResQ (callN Try.prog G0 n (.call 19 [.pointer (some ⟨S, 0, none⟩)]) h) (fun u h' => u = .tuple #[iv ((m.head?.map (·.1)).getD 0), iv ((m.head?.map (·.2)).getD 0), .bool m.head?.isSome] ∧ Keeps h h') := by
  obtain ⟨n, rfl⟩ : ∃ m, n = m + 1 := ⟨n - 1, by omega⟩
  refine res_enter rfl d19 rfl ?_; simp only [c19]
  refine gg ?_
  refine i_call1 (by exact sel_of rfl) (w_sortedT t hlen (by omega)) ?_
  rintro _ h1 ⟨oa, rfl, hl, k, ho⟩
  refine gg ?_
  cases m with
  | nil =>
    refine gg ?_
    exact ⟨rfl, k⟩
  | cons p m =>
    obtain ⟨hs, hS, ⟨e, gS⟩, es, gm, pm⟩ := t.keeps k
    refine gg ?_
    cases oa with
    | none => cases hl
    | some q =>
      obtain ⟨B, rfl, dd⟩ := hl
      have h0 : (((p :: m).map keyP).toArray)[0]! = p.1 := rfl
      have h0s : 0 < (((p :: m).map keyP).toArray).size := by simp
      refine i_idxD 0 (by exact sel_of rfl) (by exact const_of) rfl (by simp) ?_
      refine i_ldD dd (by exact sel_of rfl) h0s ?_
      refine gg ?_
      refine i_load1 (v := .map mv) (by exact sel_of rfl) ((load1_own gS).trans (by rfl)) ?_
      refine gg ?_
      refine i_idxD 0 (by exact sel_of rfl) (by exact const_of) rfl (by simp) ?_
      refine i_ldD dd (by exact sel_of rfl) h0s ?_
      refine i_lookZ (by exact sel_of rfl) gm (by exact sel_of rfl) ?_
      rw [h0]
      have ha : atZ es p.1 = p.2 := by rw [atZ_atP, atP_perm pm hs.nd, (atP_iff hs.nd p.1 p.2).2 (List.mem_cons_self ..)]; rfl
      rw [ha]
      refine gg ?_
      exact ⟨rfl, k⟩
theorem due_at {now : Int} : ∀ (i : Nat) (m : List En), (∀ e ∈ m.take i, e.2 ≤ now) → (m.drop i = [] ∨ ∃ p r, m.drop i = p :: r ∧ ¬ p.2 ≤ now) → m.takeWhile (fun e => decide (e.2 ≤ now)) = m.take i ∧ m.dropWhile (fun e => decide (e.2 ≤ now)) = m.drop i
  | 0, [], _, _ => ⟨rfl, rfl⟩
  | 0, p :: m, _, h => by
    rcases h with h | ⟨q, r, h, hn⟩
    · cases h
    · cases h
      rw [List.takeWhile_cons, List.dropWhile_cons, decide_eq_false hn]
      exact ⟨rfl, rfl⟩
  | i + 1, [], _, _ => ⟨rfl, rfl⟩
  | i + 1, p :: m, h1, h2 => by
    have hp : p.2 ≤ now := h1 p (List.mem_cons_self ..)
    obtain ⟨a, b⟩ := due_at i m (fun e he => h1 e (List.mem_cons_of_mem _ he)) h2
    rw [List.takeWhile_cons, List.dropWhile_cons, decide_eq_true hp, List.take_succ_cons, List.drop_succ_cons, a, b]
    exact ⟨rfl, rfl⟩
theorem stop_head {p : En} {m : List En} (s : Srt (p :: m)) : stopP p.1 (p :: m) = m := by
  have h1 := (List.nodup_cons.1 s.nd).1
  have : stopP p.1 (p :: m) = stopP p.1 m := by simp [stopP]
  rw [this]
  exact stopP_skip h1
def dueI (now : Int) (m : List En) : List En := m.takeWhile fun e => decide (e.2 ≤ now)
def dueR (now : Int) (m : List En) : List En := m.dropWhile fun e => decide (e.2 ≤ now)
set_option maxHeartbeats 1000000 in
theorem w_due {now : Int} (t : Ts h S mv m) (hlen : m.length < 256) (hn : 2 * m.length + 70 ≤ n) :
    ResQ (callN Try.prog G0 n (.call 10 [.pointer (some ⟨S, 0, none⟩), iv now]) h) (fun u h' => ∃ oo : Option Addr, u = .slice oo (dueI now m).length (dueI now m).length ∧ Ap h.next h' 3 1 oo (dueI now m).length (dueI now m).length ((dueI now m).map fun e => iv e.1) ∧ Ts h' S mv (dueR now m) ∧ KeepsT S mv h h' ∧ ∀ q, oo = some q → q.spot ≠ none ∧ h.next ≤ q.block) := by
  obtain ⟨n, rfl⟩ : ∃ m, n = m + 1 := ⟨n - 1, by omega⟩
  refine res_enter rfl d10 rfl ?_; simp only [c10]
  refine gg ?_
  refine i_call1 (by exact sel_of rfl) (w_sortedT t hlen (by omega)) ?_
  rintro _ h1 ⟨oa, rfl, hl, k1, ho⟩
  have hsm : S < h.next := t.2.1
  have hmm : ∀ M, mv = some M → M < h.next := fun M e => by subst e; obtain ⟨_, _, _, es, gm, _⟩ := t; exact gm.1
  have hs0 := t.1
  have t1 := t.keeps k1
  refine gg ?_
  have fin : ∀ {i : Nat} {h' : Heap} {oo : Option Addr}, i ≤ m.length → Ts h' S mv (m.drop i) → h1.next ≤ h'.next → (∀ d, d < h1.next → d ≠ S → mv ≠ some d → h'.get d = h1.get d) → Ap h1.next h' 3 1 oo i i ((m.take i).map fun e => iv e.1) → (∀ q, oo = some q → q.spot ≠ none) → (∀ e ∈ m.take i, e.2 ≤ now) → (m.drop i = [] ∨ ∃ p r, m.drop i = p :: r ∧ ¬ p.2 ≤ now) → ∃ oo' : Option Addr, Value.slice oo i i = .slice oo' (dueI now m).length (dueI now m).length ∧ Ap h.next h' 3 1 oo' (dueI now m).length (dueI now m).length ((dueI now m).map fun e => iv e.1) ∧ Ts h' S mv (dueR now m) ∧ KeepsT S mv h h' ∧ ∀ q, oo' = some q → q.spot ≠ none ∧ h.next ≤ q.block := by
    intro i h' oo hi t' hn' hk' ap sp hle hend
    obtain ⟨e1, e2⟩ := due_at i m hle hend
    have e3 : dueI now m = m.take i := e1
    have e4 : dueR now m = m.drop i := e2
    rw [e3, e4]
    have hli : (m.take i).length = i := by rw [List.length_take]; omega
    rw [hli]
    refine ⟨oo, rfl, ap.mono k1.next, t', ⟨Nat.le_trans k1.next hn', fun d hd h2 h3 => (hk' d (Nat.lt_of_lt_of_le hd k1.next) h2 h3).trans (k1.get d hd)⟩, fun q e => ⟨sp q e, ?_⟩⟩
    rcases ap.2.2 q e with e' | ⟨k', e2, e3, e4⟩
    · exact absurd e' (sp q e)
    · rw [e2]; exact Nat.le_trans k1.next e3
  refine o_up m.length (fun i f h' => ∃ oo : Option Addr, (Ts h' S mv (m.drop i) ∧ h1.next ≤ h'.next ∧ (∀ d, d < h1.next → d ≠ S → mv ≠ some d → h'.get d = h1.get d) ∧ Ap h1.next h' 3 1 oo i i ((m.take i).map fun e => iv e.1) ∧ (∀ q, oo = some q → q.spot ≠ none) ∧ ∀ e ∈ m.take i, e.2 ≤ now) ∧ Sl [(5, .slice oo i i), (11, .int .i64 (i : Int)), (9, .slice oa m.length m.length), (10, .int .i64 ((m.length : Nat) : Int)), (0, .pointer (some ⟨S, 0, none⟩)), (1, iv now)] f) (by omega) ⟨none, ⟨t1, Nat.le_refl _, fun d _ _ _ => rfl, Ap.nil _ _ _ _, (fun q e => nomatch e), fun e he => nomatch he⟩, sel_of rfl, sel_of rfl, sel_of rfl, sel_of rfl, sel_of rfl, sel_of rfl, trivial⟩ ?_
  rintro i f h2 hi ⟨oo, ⟨t2, n2, k2, ap, sp, hle⟩, hs⟩
  obtain ⟨f0, rfl⟩ := hs.puts
  clear hs
  simp only [c10_0]
  refine gg ?_
  by_cases hi2 : i < m.length
  · refine gg ?_
    have hdr : m.drop i = m[i] :: m.drop (i + 1) := List.drop_eq_getElem_cons hi2
    cases oa with
    | none =>
      have : m.map keyP = [] := hl
      have := congrArg List.length this
      rw [List.length_map] at this
      exact absurd hi2 (by rw [this]; simp)
    | some q =>
      obtain ⟨B, rfl, dd⟩ := hl
      have hB : h.next ≤ B := ho _ rfl
      have hB1 : B < h1.next := dd.1
      have dd2 : Dt h2 B (m.map keyP).toArray := by
        obtain ⟨_, e, op, r, g⟩ := dd
        exact ⟨by omega, e, op, r, (k2 B hB1 (by omega) (fun e => by have := hmm B e; omega)).trans g⟩
      refine i_idxD i (by exact sel_of rfl) (by exact sel_of rfl) rfl hi2 ?_
      refine i_ldD dd2 (by exact sel_of rfl) (by simpa using hi2) ?_
      have hid : ((m.map keyP).toArray)[i]! = (m[i]).1 := by simp [hi2]
      rw [hid]
      refine gg ?_
      obtain ⟨s2, hS2, ⟨e, gS⟩, es, gm, pm⟩ := t2
      refine i_load1 (v := .map mv) (by exact sel_of rfl) ((load1_own gS).trans (by rfl)) ?_
      refine gg ?_
      refine i_lookZ (by exact sel_of rfl) gm (by exact sel_of rfl) ?_
      have ha : atZ es (m[i]).1 = (m[i]).2 := by
        rw [atZ_atP, atP_perm pm s2.nd, (atP_iff s2.nd (m[i]).1 (m[i]).2).2 (by rw [hdr]; exact List.mem_cons_self ..)]; rfl
      rw [ha]
      refine gg ?_
      refine out_if (by exact sel_of rfl) (fun hif => ?_) (fun hif => ?_)
      · refine gg ?_
        exact fin (by omega) ⟨s2, hS2, ⟨e, gS⟩, es, gm, pm⟩ n2 k2 ap sp hle (.inr ⟨_, _, hdr, by omega⟩)
      · refine gg ?_
        have src4 : srcCells (h2.new (.cells 3 [iv (m[i]).1] (.own false))).get 1 (.slice (some ⟨h2.next, 0, none⟩) 1 1) = some (1, [iv (m[i]).1]) := (Row.new (by simp) rfl (.inl rfl)).src (c := 1)
        have k3 := Keeps.new h2 (.cells 3 [iv (m[i]).1] (.own false))
        have n3 : (h2.new (.cells 3 [iv (m[i]).1] (.own false))).next = h2.next + 1 := rfl
        show ItQ (runItems _ _ _ (h2.new (.cells 3 [iv (m[i]).1] (.own false)))) _
        generalize (h2.new (.cells 3 [iv (m[i]).1] (.own false))) = h3 at *
        have t3 : Ts h3 S mv (m.drop i) := Ts.keeps ⟨s2, hS2, ⟨e, gS⟩, es, gm, pm⟩ k3
        have hli : (m.take (i + 1)).length = i + 1 := by rw [List.length_take]; omega
        refine i_appF (B := h1.next) (m := 1) (t := i + 1) (es := (m.take (i + 1)).map fun e => iv e.1) (by decide) (by omega) (by exact sel_of rfl) (ap.keeps k3) src4 rfl (by omega) rfl (by rw [List.take_succ_eq_append_getElem hi2, List.map_append]; rfl) fun h4 n4 k4 a4 => ?_
        have hoo : ∀ q, oo = some q → h1.next ≤ q.block := fun q e => by
          rcases ap.2.2 q e with e' | ⟨k', e2, e3, e4⟩
          · exact absurd e' (sp q e)
          · rw [e2]; exact e3
        have k4' : ∀ d, d < h1.next → h4.get d = h3.get d := fun d hd => k4 d (by omega) (fun q e => .inl (by have := hoo q e; omega))
        have t4 : Ts h4 S mv (m.drop i) := by
          obtain ⟨s3, hS3, ⟨e, gS⟩, es, gm, pm⟩ := t3
          refine ⟨s3, by omega, ⟨e, (k4' S (by have := k1.next; omega)).trans gS⟩, es, ?_, pm⟩
          cases mv with
          | none => exact gm
          | some M =>
            obtain ⟨g1, c, g2, g3⟩ := gm
            have := hmm M rfl
            exact ⟨by omega, c, (k4' M (by have := k1.next; omega)).trans g2, g3⟩
        refine gg ?_
        obtain ⟨s4, hS4, ⟨e', gS4⟩, es4, gm4, pm4⟩ := t4
        have nd4 := nd_of pm4 s4
        have hst : stopP (m[i]).1 (m.drop i) = m.drop (i + 1) := by rw [hdr] at s4 ⊢; exact stop_head s4
        refine i_load1 (v := .map mv) (by exact sel_of rfl) ((load1_own gS4).trans (by rfl)) ?_
        refine gg ?_
        have hle' : ∀ e ∈ m.take (i + 1), e.2 ≤ now := fun e he => by
          rw [List.take_succ_eq_append_getElem hi2, List.mem_append] at he
          rcases he with he | he
          · exact hle e he
          · simp only [List.mem_cons, List.not_mem_nil, or_false] at he; subst he; omega
        cases mv with
        | none =>
          cases gm4
          have hz := pm4.length_eq
          rw [hdr, List.length_cons] at hz
          exact absurd hz (by simp only [List.map_nil, List.length_nil]; omega)
        | some M =>
          obtain ⟨hM, c, gM, hst4, hpw⟩ := gm4
          have hMh := hmm M rfl
          have hM1 : M < h1.next := by have := k1.next; omega
          have hMS : M ≠ S := fun e => by rw [e, gS4] at gM; cases gM
          refine i_mapDel (by exact sel_of rfl) gM (by exact sel_of rfl) rfl (entZ_del _ es4) ?_
          refine gg ?_
          have hbo : ∀ d, d ≠ M → (h4.put M (.map (entZ (delZ (m[i]).1 es4)) c)).get d = h4.get d := fun d hd => by rw [Heap.get_put, if_neg hd]
          have hput : (h4.put M (.map (entZ (delZ (m[i]).1 es4)) c)).get M = some (.map (entZ (delZ (m[i]).1 es4)) c) := by rw [Heap.get_put, if_pos rfl]
          have nput : (h4.put M (.map (entZ (delZ (m[i]).1 es4)) c)).next = h4.next := rfl
          generalize (h4.put M (.map (entZ (delZ (m[i]).1 es4)) c)) = h5 at *
          refine rnd_up (by omega) ⟨some ⟨h3.next, 0, some 1⟩, ⟨?_, by omega, ?_, ?_, (fun q e => by cases e; simp), hle'⟩, sel_of rfl, (sel_z rfl (by omega)), sel_of rfl, sel_of rfl, sel_of rfl, sel_of rfl, trivial⟩
          · refine ⟨by rw [← hst]; exact s4.stop _, by omega, ⟨e', (hbo S (fun e => hMS e.symm)).trans gS4⟩, delZ (m[i]).1 es4, ⟨by omega, c, hput, fun e he => hst4 e ((delZ_sub _ es4).subset he), hpw.sublist (delZ_sub _ es4)⟩, ?_⟩
            rw [delZ_pr _ es4 nd4, ← hst]; exact pm4.filter _
          · intro d hd h6 h7
            rw [hbo d (fun e => h7 (by rw [e])), k4' d hd, k3.get d (by omega)]
            exact k2 d hd h6 h7
          · refine ⟨rfl, row_lowG a4.row (by omega) (fun q e => by cases e; exact hbo _ (by show h3.next ≠ M; omega)), fun q e => ?_⟩
            rcases a4.2.2 q e with e' | ⟨k', e2, e3, e4⟩
            · exact .inl e'
            · exact .inr ⟨k', e2, e3, (hbo k' (by omega)).trans e4⟩
  · refine gg ?_
    exact fin hi t2 n2 k2 ap sp hle (.inl (List.drop_eq_nil_of_le (by omega)))
end
end Go.Proofs.Ytkbanhfdfmodkaa

