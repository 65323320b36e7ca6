/- Part of a proof by an abstract run of the program's code: SPkR. No condition. -/
import Derived.Test.YtdcllpjoejkpnaaSPkS
import Derived.Test.YtdcllpjoejkpnaaSPkG
/-! The document's way to bundle chunks gives the same groups. -/
set_option linter.unusedVariables false
namespace Go.Proofs.Ytdcllpjoejkpnaa
open Go Vm
instance (z : List Chk) : Decidable (overG z) := by unfold overG; infer_instance
/-- groups, a chunk at a time -/
def foldG : List Chk → List Chk → List (List Chk)
  | [], cur => if cur = [] then [] else [cur]
  | x :: l, cur => if cur ≠ [] ∧ overG (cur ++ [x]) then cur :: foldG l [x] else foldG l (cur ++ [x])
theorem bunF_fuel : ∀ (f g : Nat) (l : List Chk), l.length ≤ f → l.length ≤ g → bunF f l = bunF g l
  | 0, g, l, h, _ => by
    have : l = [] := List.length_eq_zero_iff.1 (by omega)
    rw [this, bunF_nil, bunF_nil]
  | f + 1, 0, l, _, h => by
    have : l = [] := List.length_eq_zero_iff.1 (by omega)
    rw [this, bunF_nil, bunF_nil]
  | f + 1, g + 1, l, h, h' => by
    rw [bunF, bunF]
    split
    · rfl
    · rename_i h0
      have hp := cutG_pos l
      have hl := List.length_pos_iff.2 h0
      rw [bunF_fuel f g _ (by rw [List.length_drop]; omega) (by rw [List.length_drop]; omega)]
theorem bun_cons {l : List Chk} (h0 : l ≠ []) : bun l = l.take (cutG l) :: bun (l.drop (cutG l)) := by
  have hl := List.length_pos_iff.2 h0
  obtain ⟨m, hm⟩ : ∃ m, l.length = m + 1 := ⟨l.length - 1, by omega⟩
  have hp := cutG_pos l
  rw [bun, hm, bunF, if_neg h0, bun]
  rw [bunF_fuel m _ _ (by rw [List.length_drop]; omega) (Nat.le_refl _)]
theorem foldG_cut (l : List Chk) (rec : ∀ m : List Chk, m.length < l.length → foldG m [] = bun m) : ∀ f n, n + f = 64 → 1 ≤ n → n ≤ l.length → foldG (l.drop n) (l.take n) = l.take (cutF l f n) :: bun (l.drop (cutF l f n)) := by
  have stop : ∀ n, 1 ≤ n → n ≤ l.length → n ≤ 64 → ¬okG l n → foldG (l.drop n) (l.take n) = l.take n :: bun (l.drop n) := fun n h1 hn h64 hno => by
    have htn : l.take n ≠ [] := fun e => by have := congrArg List.length e; rw [List.length_take, List.length_nil] at this; omega
    rw [← rec (l.drop n) (by rw [List.length_drop]; omega)]
    cases hd : l.drop n with
    | nil => rw [foldG, if_neg htn, foldG, if_pos rfl]
    | cons x r =>
      have hlt : n < l.length := by
        have := congrArg List.length hd
        rw [List.length_drop, List.length_cons] at this
        omega
      have hx : l[n]? = some x := by
        have := congrArg (fun z => z[0]?) hd
        simpa using this
      have ht : l.take n ++ [x] = l.take (n + 1) := by rw [List.take_add_one, hx]; rfl
      have hov : overG (l.take n ++ [x]) := by
        rw [ht]
        rcases Nat.lt_or_ge 64 (l.take (n + 1)).length with h1 | h1
        · exact .inl h1
        rcases Nat.lt_or_ge 1188 (encs (l.take (n + 1))).length with h2 | h2
        · exact .inr (.inl h2)
        by_cases hm : mixedC (l.take (n + 1))
        · exact .inr (.inr hm)
        · exact absurd ⟨hlt, by rw [List.length_take] at h1; omega, h2, hm⟩ hno
      rw [foldG, if_pos ⟨htn, hov⟩, foldG, if_neg (fun h => h.1 rfl)]
      rfl
  intro f
  induction f with
  | zero =>
    intro n h64 h1 hn
    rw [cutF]
    exact stop n h1 hn (by omega) (fun ho => by have := ho.2.1; omega)
  | succ f ih =>
    intro n h64 h1 hn
    rw [cutF]
    split
    · rename_i ho
      obtain ⟨g1, g2, g3, g4⟩ := (show okG l n from ho)
      have hx : l[n]? = some l[n] := List.getElem?_eq_getElem g1
      have ht : l.take n ++ [l[n]] = l.take (n + 1) := by rw [List.take_add_one, hx]; rfl
      rw [drop_cons hx, foldG, if_neg (fun h => by
        rw [ht] at h
        rcases h.2 with h | h | h
        · rw [List.length_take] at h; omega
        · omega
        · exact g4 h), ht]
      exact ih (n + 1) (by omega) (by omega) g1
    · rename_i ho
      exact stop n h1 hn (by omega) ho
theorem foldG_bun : ∀ (k : Nat) (l : List Chk), l.length ≤ k → foldG l [] = bun l
  | 0, l, h => by
    have : l = [] := List.length_eq_zero_iff.1 (by omega)
    rw [this]; rfl
  | k + 1, l, h => by
    cases l with
    | nil => rfl
    | cons x r =>
      have := foldG_cut (x :: r) (fun m hm => foldG_bun k m (by omega)) 63 1 rfl (Nat.le_refl 1) (by simp)
      rw [bun_cons (by simp), ← show cutF (x :: r) 63 1 = cutG (x :: r) from rfl, ← this, foldG, if_neg (fun h => h.1 rfl)]
      rfl
end Go.Proofs.Ytdcllpjoejkpnaa

/-! The document's Bundle, walked: what is not shaped, or too long. -/
set_option linter.unusedVariables false
namespace Go.Proofs.Ytdcllpjoejkpnaa
open Go Vm
set_option maxHeartbeats 2000000 in
theorem w_rbundle {h : Heap} {o : Option Addr} {c : Nat} {l : List Chk} {els : List (List Value)} (hr : Row h 12 o l.length els.flatten) (he : ChE h l els) (hok : ∀ x ∈ l, x.Ok) (hf : fewL l) (n : Nat) (hn : 103000 ≤ n) :
    ResQ (callN Try.prog G0 n (.call 21 [.slice o l.length c]) h) (BundQ h l) := by
  have h80 := hf.1
  obtain ⟨n, rfl⟩ : ∃ m, n = m + 1 := ⟨n - 1, by omega⟩
  refine res_enter rfl d21 rfl ?_; simp only [c21]
  refine gg ?_
  refine o_up l.length (fun i f h' => Sl [(4, .int .i64 (i : Int)), (0, .slice o l.length c)] f ∧ Keeps h h' ∧ ∀ x ∈ l.take i, x.shaped) (by omega) ?_ ?_
  · exact ⟨⟨sel_of rfl, sel_of rfl, trivial⟩, Keeps.refl h, fun x hx => by simp at hx⟩
  rintro i f h' hi ⟨hs, k, hall⟩
  obtain ⟨f0, rfl⟩ := hs.puts
  simp only [c21_0]
  refine gg ?_
  refine out_if (by exact sel_of rfl) (fun hif => ?_) (fun hif => ?_)
  · obtain ⟨x, hx⟩ : ∃ x, l[i]? = some x := ⟨_, List.getElem?_eq_getElem (by omega)⟩
    obtain ⟨v, hv, cv⟩ := he.at hx
    have rr := hr.keeps k
    have hxm := List.mem_of_getElem? hx
    refine gg ?_
    refine i_idx (by exact sel_of rfl) rr (i := i) (by exact sel_of rfl) (by omega) fun u hu => ?_
    subst hu
    refine i_loadN (v := v) (by exact sel_of rfl) (by rw [rr.cells (by omega) (some 0), flat_get els i he.2.1 hv]) ?_
    refine i_call1 (by exact sel_of rfl) (w_rshaped (cv.keeps k) (hf.2 x hxm) n (by omega)) ?_
    rintro _ h2 ⟨rfl, k2⟩
    by_cases hxs : x.shaped
    · rw [decide_eq_true hxs]
      refine gg ?_
      refine rnd_up (by omega) ⟨⟨sel_of rfl, sel_of rfl, trivial⟩, k.trans k2, fun y hy => ?_⟩
      rw [List.take_add_one, hx] at hy
      rcases List.mem_append.1 hy with hy | hy
      · exact hall y hy
      · simp at hy; subst hy; exact hxs
    · rw [decide_eq_false hxs]
      have e : bunE l = 1 := by rw [bunE, if_pos (List.any_eq_true.2 ⟨x, hxm, by simp [hxs]⟩)]
      refine gg ?_
      refine ⟨k.trans k2, none, 0, by rw [e]; rfl, ?_⟩
      rw [bunL, e]
      exact GrpsQ.nil _
  obtain rfl : i = l.length := by omega
  rw [List.take_length] at hall
  have hu : (l.any fun x => !decide x.shaped) = false := by
    rw [List.any_eq_false]
    intro x hx
    simp [hall x hx]
  refine gg ?_
  refine o_up l.length (fun i f h2 => Sl [(5, .int .i64 (i : Int)), (0, .slice o l.length c)] f ∧ Keeps h h2 ∧ ∀ x ∈ l.take i, (encC x).1.length ≤ 1188) (by omega) ?_ ?_
  · exact ⟨⟨sel_of rfl, sel_of rfl, trivial⟩, k, fun x hx => by simp at hx⟩
  clear k
  rintro i f h2 hi ⟨hs, k, hsz⟩
  obtain ⟨f1, rfl⟩ := hs.puts
  simp only [c21_1]
  refine gg ?_
  refine out_if (by exact sel_of rfl) (fun hif => ?_) (fun hif => ?_)
  · obtain ⟨x, hx⟩ : ∃ x, l[i]? = some x := ⟨_, List.getElem?_eq_getElem (by omega)⟩
    obtain ⟨v, hv, cv⟩ := he.at hx
    have rr := hr.keeps k
    have hxm := List.mem_of_getElem? hx
    refine gg ?_
    refine i_idx (by exact sel_of rfl) rr (i := i) (by exact sel_of rfl) (by omega) fun u hu => ?_
    subst hu
    refine i_loadN (v := v) (by exact sel_of rfl) (by rw [rr.cells (by omega) (some 0), flat_get els i he.2.1 hv]) ?_
    refine i_call1 (by exact sel_of rfl) (w_rsize (cv.keeps k) (hok x hxm) (hf.2 x hxm) n (by omega)) ?_
    rintro _ h3 ⟨rfl, k2⟩
    by_cases hxs : (encC x).1.length ≤ 1188
    · refine gg ?_
      refine rnd_up (by omega) ⟨⟨sel_of rfl, sel_of rfl, trivial⟩, k.trans k2, fun y hy => ?_⟩
      rw [List.take_add_one, hx] at hy
      rcases List.mem_append.1 hy with hy | hy
      · exact hsz y hy
      · simp at hy; subst hy; exact hxs
    · have e : bunE l = 10 := by rw [bunE, if_neg (by rw [hu]; simp), if_pos (List.any_eq_true.2 ⟨x, hxm, by simp; omega⟩)]
      refine gg ?_
      refine ⟨k.trans k2, none, 0, by rw [e]; rfl, ?_⟩
      rw [bunL, e]
      exact GrpsQ.nil _
  obtain rfl : i = l.length := by omega
  rw [List.take_length] at hsz
  have hz : (l.any fun x => decide (1188 < (encC x).1.length)) = false := by
    rw [List.any_eq_false]
    intro x hx
    have := hsz x hx
    simp; omega
  have e0 : bunE l = 0 := by rw [bunE, if_neg (by rw [hu]; simp), if_neg (by rw [hz]; simp)]
  have eL : bunL l = bun l := by rw [bunL, if_pos e0]
  refine gg ?_
  refine o_up l.length (fun i f h' => ∃ (G : List GC) (oa : Option Addr) (cs : List Value) (cur : List Chk) (ces : List (List Value)) (oc : Option Addr) (g : Heap), Sl [(9, .int .i64 (i : Int)), (0, .slice o l.length c), (6, .slice oa G.length G.length), (7, .slice oc cur.length cur.length), (8, .int .i64 (((encs cur).length : Nat) : Int))] f ∧ Keeps h h' ∧ Ap h.next h' 25 1 oa G.length G.length cs ∧ All2 (GrpF g) G cs ∧ Keeps g h' ∧ h.next ≤ g.next ∧ (∀ q, oa = some q → g.next ≤ q.block) ∧ Row h' 12 oc cur.length ces.flatten ∧ ChE h cur ces ∧ (∀ q q', oc = some q → oa = some q' → q.block ≠ q'.block) ∧ G.map Prod.fst ++ foldG (l.drop i) cur = bun l ∧ G.length ≤ i ∧ cur.length ≤ 64 ∧ (encs cur).length ≤ 1188) (by omega) ?_ ?_
  · exact ⟨[], none, [], [], [], none, h, ⟨sel_of rfl, sel_of rfl, sel_of rfl, sel_of rfl, sel_of rfl, trivial⟩, k, Ap.nil _ _ _ _, All2.nil, k, Nat.le_refl _, (fun q e => by cases e), Row.nil _ _, ChE.nil _, (fun q q' e => by cases e), foldG_bun l.length l (Nat.le_refl _), Nat.zero_le _, Nat.zero_le _, by decide⟩
  clear k
  rintro i f h3 hi ⟨G, oa, cs, cur, ces, oc, g, hs, k, ap, al, kg, hgn, hoa, rc, ec, hne, hb, hGi, hcl, hcs⟩
  obtain ⟨f2, rfl⟩ := hs.puts
  clear hs
  simp only [c21_2]
  refine gg ?_
  refine out_if (by exact sel_of rfl) (fun hif => ?_) (fun hif => ?_)
  · obtain ⟨x, hx⟩ : ∃ x, l[i]? = some x := ⟨_, List.getElem?_eq_getElem (by omega)⟩
    obtain ⟨v, hv, cv⟩ := he.at hx
    have rr := hr.keeps k
    have hxm := List.mem_of_getElem? hx
    have lv := cv.len
    rw [drop_cons hx, foldG] at hb
    refine gg ?_
    have k5 : Keeps h3 (h3.new (.cells 33 [] (.own false))) := Keeps.new _ _
    have row5 : Row (h3.new (.cells 33 [] (.own false))) 12 (some ⟨h3.next, 0, none⟩) 0 [] := Row.new (by simp) rfl (.inl rfl)
    show ItQ (runItems _ _ _ (h3.new (.cells 33 [] (.own false)))) _
    generalize h3.new (.cells 33 [] (.own false)) = h5 at *
    refine i_app (h0 := h3) (t := cur.length) (es := ces.flatten) k5 (by decide) (by exact sel_of rfl) ⟨rfl, row5, fun q e => .inl (by cases e; rfl)⟩ ((rc.keeps k5).src) rc.1 (by omega) (Nat.zero_add _) (List.nil_append _) fun o6 h6 k6 ap6 ho6 => ?_
    refine gg ?_
    refine i_idx (by exact sel_of rfl) (rr.keeps k6) (i := i) (by exact sel_of rfl) (by omega) fun u hu => ?_
    subst hu
    have ldB : ∀ h', Keeps h3 h' → loadN h'.get ⟨u.block, u.off + i * 12, some 0⟩ 12 = some v := fun h' k' => by
      rw [(rr.keeps k').cells (by omega) (some 0), flat_get els i he.2.1 hv]
    refine gg ?_
    refine i_loadN (v := v) (by exact sel_of rfl) (ldB _ k6) ?_
    refine gg ?_
    refine i_bslice (cs := v) (by
      obtain ⟨o1, c1, o2, c2, o3, c3, o4, c4, o5, c5, ps, rfl, _⟩ := cv
      rfl) ?_
    have k7 : Keeps h6 (h6.new (.cells 33 v (.own false))) := Keeps.new h6 _
    have row7 : Row (h6.new (.cells 33 v (.own false))) 12 (some ⟨h6.next, 0, none⟩) 1 v := Row.new (by simp) (by rw [lv]) (.inl rfl)
    generalize (h6.new (.cells 33 v (.own false))) = h7 at *
    refine gg ?_
    have l1 : cur.length + 1 = (cur ++ [x]).length := by simp
    refine i_app (h0 := h3) (t := (cur ++ [x]).length) (es := (ces ++ [v]).flatten) (k6.trans k7) (by decide) (by exact sel_of rfl) (ap6.keeps k7) (row7.src) (by rw [lv]) (by omega) l1 (by rw [List.flatten_append]; simp) fun o8 h8 k8 ap8 ho8 => ?_
    refine gg ?_
    refine ⟨chk_cons rfl (ldN (by exact sel_of rfl) (ldB _ k6)) cv.sv (fun m hm => by
      simp only [List.mem_cons, List.not_mem_nil, or_false] at hm
      rcases hm with rfl | rfl <;> exact ⟨_, _, rfl, ldN (by exact sel_of rfl) (by first | exact ldB _ (Keeps.refl _) | exact ldB _ k6)⟩) chk_nil, ?_⟩
    refine gg ?_
    refine i_idx (by exact sel_of rfl) (rr.keeps k8) (i := i) (by exact sel_of rfl) (by omega) fun u2 hu => ?_
    cases hu
    refine i_loadN (v := v) (by exact sel_of rfl) (ldB _ k8) ?_
    refine i_call1 (by exact sel_of rfl) (w_rsize (cv.keeps (k.trans k8)) (hok x hxm) (hf.2 x hxm) n (by omega)) ?_
    rintro _ h9 ⟨rfl, k9⟩
    have k39 := k8.trans k9
    have et : (encs (cur ++ [x])).length = (encs cur).length + (encC x).1.length := by rw [encs_snoc, List.length_append]
    have hxl := hsz x hxm
    refine gg ?_
    have rn9 : Row h9 12 o8 (cur ++ [x]).length (ces ++ [v]).flatten := ap8.row.keeps k9
    have en : ChE h (cur ++ [x]) (ces ++ [v]) := ec.snoc cv
    refine i_cut 15 (fun a h' => Keeps h9 h' ∧ ∃ b : Bool, Sl [(9, .int .i64 (i : Int)), (0, .slice (some u) l.length c), (6, .slice oa G.length G.length), (7, .slice oc cur.length cur.length), (8, .int .i64 (((encs cur).length : Nat) : Int)), (10, .slice o8 (cur ++ [x]).length (cur ++ [x]).length), (11, .int .i64 (((encC x).1.length : Nat) : Int)), (74, .bool b)] a ∧ (b = true ↔ cur ≠ [] ∧ overG (cur ++ [x]))) ?_ ?_
    · simp only [List.take_succ_cons, List.take_zero]
      by_cases hc0 : cur.length = 0
      · have hce : cur = [] := List.length_eq_zero_iff.1 hc0
        refine gg ?_
        exact ⟨Keeps.refl _, false, ⟨sel_of rfl, sel_of rfl, sel_of rfl, sel_of rfl, sel_of rfl, sel_of rfl, sel_of rfl, sel_of rfl, trivial⟩, ⟨fun e => (by cases e), fun e => absurd hce e.1⟩⟩
      · have hcn : cur ≠ [] := fun e => hc0 (by rw [e]; rfl)
        by_cases h1 : 1188 < (encs cur).length + (encC x).1.length
        · refine gg ?_
          exact ⟨Keeps.refl _, true, ⟨sel_of rfl, sel_of rfl, sel_of rfl, sel_of rfl, sel_of rfl, sel_of rfl, sel_of rfl, sel_of rfl, trivial⟩, ⟨fun _ => ⟨hcn, .inr (.inl (by omega))⟩, fun _ => rfl⟩⟩
        by_cases h2 : 64 < (cur ++ [x]).length
        · refine gg ?_
          exact ⟨Keeps.refl _, true, ⟨sel_of rfl, sel_of rfl, sel_of rfl, sel_of rfl, sel_of rfl, sel_of rfl, sel_of rfl, sel_of rfl, trivial⟩, ⟨fun _ => ⟨hcn, .inl h2⟩, fun _ => rfl⟩⟩
        refine gg ?_
        refine i_call1 (by exact sel_of rfl) (w_right rn9 (en.keeps (k.trans k39)) (by omega) n (by omega)) ?_
        rintro _ _ ⟨rfl, rfl⟩
        refine gg ?_
        refine ⟨Keeps.refl _, _, ⟨sel_of rfl, sel_of rfl, sel_of rfl, sel_of rfl, sel_of rfl, sel_of rfl, sel_of rfl, sel_of rfl, trivial⟩, ?_⟩
        rw [Bool.not_eq_true', decide_eq_false_iff_not, Decidable.not_not]
        exact ⟨fun e => ⟨hcn, .inr (.inr e)⟩, fun e => by
          rcases e.2 with e | e | e
          · omega
          · omega
          · exact e⟩
    simp only [List.drop_succ_cons, List.drop_zero]
    rintro a4 h4 ⟨k4, b, hs, hbb⟩
    obtain ⟨f4, rfl⟩ := hs.puts
    clear hs
    have k34 := k39.trans k4
    cases b with
    | false =>
      have hno : ¬(cur ≠ [] ∧ overG (cur ++ [x])) := fun e => by have := hbb.2 e; cases this
      rw [if_neg hno] at hb
      have hfit : (cur ++ [x]).length ≤ 64 ∧ (encs (cur ++ [x])).length ≤ 1188 := by
        by_cases hc0 : cur = []
        · subst hc0
          exact ⟨by show 1 ≤ 64; decide, by rw [et]; show 0 + _ ≤ 1188; omega⟩
        · exact ⟨Nat.le_of_not_lt fun e => hno ⟨hc0, .inl e⟩, Nat.le_of_not_lt fun e => hno ⟨hc0, .inr (.inl e)⟩⟩
      have kn3 := k.next
      have kgn3 := kg.next
      refine gg ?_
      refine rnd_up (by omega) ⟨G, oa, cs, cur ++ [x], ces ++ [v], o8, g, ⟨sel_of rfl, sel_of rfl, sel_of rfl, sel_of rfl, sel_of (by rw [et]; rfl), trivial⟩, k.trans k34, ap.keeps k34, al, kg.trans k34, hgn, hoa, rn9.keeps k4, en, ?_, hb, by omega, hfit.1, hfit.2⟩
      intro q q' e1 e2
      have ha : q'.block < h3.next := by subst e2; exact ap.row.2.1
      have hb8 : h3.next ≤ q.block := by
        rcases ho8 with e | e
        · rw [e] at e1
          rcases ho6 with e' | e'
          · rw [e'] at e1; cases e1; exact Nat.le_refl _
          · exact e' q e1
        · exact e q e1
      omega
    | true =>
      obtain ⟨hcn, hov⟩ := hbb.1 rfl
      rw [if_pos ⟨hcn, hov⟩] at hb
      have hpos := List.length_pos_iff.2 hcn
      obtain ⟨q, rfl⟩ : ∃ q, oc = some q := by
        cases oc with
        | none =>
          have : cur.length = 0 := rc.2
          omega
        | some q => exact ⟨q, rfl⟩
      have kn3 := k.next
      have kgn3 := kg.next
      have rcb := rc.2.1
      have n34 := k34.next
      clear hbb hov et k9 k8 k39 ap8 ho8 ho6 ap6 k7 k6 k5 row7 row5 rn9 en
      refine gg ?_
      have k7 : Keeps h4 (h4.new (.cells 25 [.slice (some q) cur.length cur.length] (.own false))) := Keeps.new _ _
      have n7 : (h4.new (.cells 25 [.slice (some q) cur.length cur.length] (.own false))).next = h4.next + 1 := rfl
      have row7 : Row (h4.new (.cells 25 [.slice (some q) cur.length cur.length] (.own false))) 1 (some ⟨h4.next, 0, none⟩) 1 [.slice (some q) cur.length cur.length] := Row.new (by simp) rfl (.inl rfl)
      show ItQ (runItems _ _ _ (h4.new (.cells 25 [.slice (some q) cur.length cur.length] (.own false)))) _
      generalize (h4.new (.cells 25 [.slice (some q) cur.length cur.length] (.own false))) = j7 at *
      have k37 := k34.trans k7
      refine i_appF (B := h.next) (m := 1) (t := (G ++ [(cur, ces)]).length) (es := cs ++ [.slice (some q) cur.length cur.length]) (by decide) (by omega) (by exact sel_of rfl) (ap.keeps k37) (row7.src) rfl (by omega) (by simp) rfl fun j8 n8 fr8 a8 => ?_
      have hob : ∀ q', oa = some q' → q'.block < h3.next := fun q' e => by subst e; exact ap.row.2.1
      have gg8 : ∀ d, d < h3.next → (∀ q', oa = some q' → d ≠ q'.block) → j8.get d = h3.get d := fun d hd hq => (fr8 d (by omega) (fun q' e => .inl (hq q' e))).trans (k37.get d hd)
      have kg8 : Keeps g (⟨j7.next, j8.t⟩ : Heap) := ⟨by show g.next ≤ j7.next; omega, fun d hd => (gg8 d (by omega) (fun q' e => by have := hoa q' e; omega)).trans (kg.get d hd)⟩
      have k8 : Keeps h j8 := ⟨by omega, fun d hd => (gg8 d (by omega) (fun q' e => by have := hoa q' e; omega)).trans (k.get d hd)⟩
      have k8' : Keeps h (⟨j7.next, j8.t⟩ : Heap) := ⟨by show h.next ≤ j7.next; omega, fun d hd => k8.get d hd⟩
      have rc8 : Row (⟨j7.next, j8.t⟩ : Heap) 12 (some q) cur.length ces.flatten := row_lowG rc (by show h3.next ≤ j7.next; omega) (fun q' e => by cases e; exact gg8 _ rcb (fun q' e => hne q q' rfl e))
      have al8 : All2 (GrpF (⟨j7.next, j8.t⟩ : Heap)) (G ++ [(cur, ces)]) (cs ++ [.slice (some q) cur.length cur.length]) := All2.snoc (al.imp fun a b _ ⟨q, e1, r1, c1⟩ => ⟨q, e1, r1.keeps kg8, c1.keeps kg8⟩) ⟨q, rfl, rc8, ec.keeps k8'⟩
      have hGl : (G ++ [(cur, ces)]).length = G.length + 1 := by simp
      have hb8 : (G ++ [(cur, ces)]).map Prod.fst ++ foldG (l.drop (i + 1)) [x] = bun l := by rw [← hb]; simp
      generalize G ++ [(cur, ces)] = G8 at *
      generalize cs ++ [.slice (some q) cur.length cur.length] = cs8 at *
      refine gg ?_
      refine i_idx (by exact sel_of rfl) (hr.keeps k8) (i := i) (by exact sel_of rfl) (by omega) fun u2 hu => ?_
      cases hu
      refine i_loadN (v := v) (by exact sel_of rfl) (by rw [(hr.keeps k8).cells (by omega) (some 0), flat_get els i he.2.1 hv]) ?_
      refine gg ?_
      refine i_bslice (cs := v) (by
        obtain ⟨o1, c1, o2, c2, o3, c3, o4, c4, o5, c5, ps, rfl, _⟩ := cv
        rfl) ?_
      have k9 : Keeps j8 (j8.new (.cells 33 v (.own false))) := Keeps.new j8 _
      have n9 : (j8.new (.cells 33 v (.own false))).next = j8.next + 1 := rfl
      have row9 : Row (j8.new (.cells 33 v (.own false))) 12 (some ⟨j8.next, 0, none⟩) 1 v := Row.new (by simp) (by rw [lv]) (.inl rfl)
      generalize (j8.new (.cells 33 v (.own false))) = j9 at *
      have ex : (encs [x]).length = (encC x).1.length := by rw [show encs [x] = (encC x).1 ++ [] from rfl, List.append_nil]
      refine gg ?_
      refine rnd_up (by omega) ⟨G8, _, cs8, [x], [v], _, (⟨j7.next, j8.t⟩ : Heap), ⟨sel_of rfl, sel_of rfl, sel_of rfl, sel_of rfl, sel_of (by rw [ex]; exact congrArg (fun z => some (Value.int .i64 z)) (Int.zero_add _)), trivial⟩, k8.trans k9, a8.keeps k9, al8, ⟨by show j7.next ≤ j9.next; omega, fun d hd => k9.get d (by show d < j8.next; have : d < j7.next := hd; omega)⟩, by show h.next ≤ j7.next; omega, (fun q' e => by cases e; exact Nat.le_refl _), (by rw [List.flatten_cons, List.flatten_nil, List.append_nil]; exact row9), (ChE.nil h).snoc cv, (fun q1 q2 e1 e2 => by cases e1; cases e2; show j8.next ≠ j7.next; omega), hb8, by omega, by show 1 ≤ 64; decide, by omega⟩
  obtain rfl : i = l.length := by omega
  rw [List.drop_eq_nil_of_le (Nat.le_refl _), foldG] at hb
  by_cases hc0 : cur = []
  · subst hc0
    rw [if_pos rfl, List.append_nil] at hb
    refine gg ?_
    refine ⟨k, oa, G.length, by rw [e0]; rfl, G, cs, ap.row, al.imp fun a b _ ⟨q, e1, r1, c1⟩ => ⟨q, e1, r1.keeps kg, c1.keeps kg⟩, by rw [hb, eL], rfl⟩
  · have hpos := List.length_pos_iff.2 hc0
    refine gg ?_
    obtain ⟨q, rfl⟩ : ∃ q, oc = some q := by
      cases oc with
      | none =>
        have : cur.length = 0 := rc.2
        omega
      | some q => exact ⟨q, rfl⟩
    have k7 : Keeps h3 (h3.new (.cells 25 [.slice (some q) cur.length cur.length] (.own false))) := Keeps.new _ _
    have n7 : (h3.new (.cells 25 [.slice (some q) cur.length cur.length] (.own false))).next = h3.next + 1 := rfl
    have row7 : Row (h3.new (.cells 25 [.slice (some q) cur.length cur.length] (.own false))) 1 (some ⟨h3.next, 0, none⟩) 1 [.slice (some q) cur.length cur.length] := Row.new (by simp) rfl (.inl rfl)
    show ItQ (runItems _ _ _ (h3.new (.cells 25 [.slice (some q) cur.length cur.length] (.own false)))) _
    generalize (h3.new (.cells 25 [.slice (some q) cur.length cur.length] (.own false))) = h7 at *
    have kn := k.next
    have kgn := kg.next
    have rcb := rc.2.1
    refine i_appF (B := h.next) (m := 1) (t := G.length + 1) (es := cs ++ [.slice (some q) cur.length cur.length]) (by decide) (by omega) (by exact sel_of rfl) (ap.keeps k7) (row7.src) rfl (by omega) rfl rfl fun h8 n8 fr8 a8 => ?_
    have kg8 : Keeps g h8 := ⟨by omega, fun d hd => (fr8 d (by omega) (fun q' e => .inl (by have := hoa q' e; omega))).trans ((kg.trans k7).get d hd)⟩
    have k8 : Keeps h h8 := ⟨by omega, fun d hd => (fr8 d (by omega) (fun q' e => .inl (by have := hoa q' e; omega))).trans ((k.trans k7).get d hd)⟩
    have rc8 : Row h8 12 (some q) cur.length ces.flatten := row_lowG rc (by omega) (fun q' e => by cases e; exact (fr8 _ (by omega) (fun q' e => .inl (hne q q' rfl e))).trans (k7.get _ rcb))
    refine gg ?_
    rw [if_neg hc0] at hb
    refine ⟨k8, _, G.length + 1, by rw [e0]; rfl, G ++ [(cur, ces)], cs ++ [.slice (some q) cur.length cur.length], ?_, All2.snoc (al.imp fun a b _ ⟨q, e1, r1, c1⟩ => ⟨q, e1, r1.keeps kg8, c1.keeps kg8⟩) ⟨q, rfl, rc8, ec.keeps k8⟩, by rw [eL, ← hb, List.map_append]; rfl, by simp⟩
    have := a8.row
    rw [show (G ++ [(cur, ces)]).length = G.length + 1 by simp]
    exact this
end Go.Proofs.Ytdcllpjoejkpnaa

