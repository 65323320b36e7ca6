/- Part of a proof by an abstract run of the program's code: RPgL. No condition. -/
import Derived.Test.YtdcllpjoejkpnaaRPkB
import Derived.Test.YtdcllpjoejkpnaaRPkD
import Derived.Test.YtdcllpjoejkpnaaRPkS
import Derived.Test.YtdcllpjoejkpnaaRPkG
/-! The law PacketGroups, walked. -/
set_option linter.unusedVariables false
namespace Go.Proofs.Ytdcllpjoejkpnaa
open Go Vm
theorem ChE.app {h : Heap} {l m : List Chk} {els fls : List (List Value)} (r : ChE h l els) (s : ChE h m fls) : ChE h (l ++ m) (els ++ fls) := by
  refine ⟨by rw [List.length_append, List.length_append, r.1, s.1], fun c hc => ?_, fun i x v hx hv => ?_⟩
  · rcases List.mem_append.1 hc with hc | hc
    · exact r.2.1 c hc
    · exact s.2.1 c hc
  · rw [List.getElem?_append] at hx hv
    rw [r.1] at hv
    by_cases hi : i < l.length
    · rw [if_pos hi] at hx hv
      exact r.2.2 i x v hx hv
    · rw [if_neg hi] at hx hv
      exact s.2.2 _ x v hx hv
theorem bunF_len : ∀ (f : Nat) (l : List Chk), (bunF f l).length ≤ f
  | 0, l => Nat.le_refl _
  | f + 1, l => by
    rw [bunF]
    split
    · exact Nat.zero_le _
    · rw [List.length_cons]; exact Nat.succ_le_succ (bunF_len f _)
theorem encPk_fit {t : List Nat} (h256 : t.length = 256) {a b tg : Nat} {g : List Chk} (hf : fitG g) (hsh : ∀ x ∈ g, x.shaped) : (encPk t ⟨a, b, tg, g⟩).2 = 0 := by
  obtain ⟨h1, h2, h3, h4⟩ := hf
  have hb : ¬badPk t ⟨a, b, tg, g⟩ := by
    rintro (h | h | h | h)
    · exact h h256
    · exact h1 h
    · exact h4 h
    · obtain ⟨x, hx, e⟩ := List.any_eq_true.1 h
      simp [hsh x hx] at e
  have hg : ¬bigPk ⟨a, b, tg, g⟩ := by
    rintro (h | h)
    · have h' : 64 < g.length := h
      omega
    · have h' : 1200 < 12 + (encs g).length := h
      omega
  rw [encPk, if_neg hb, if_neg hg]
theorem encPk_over {t : List Nat} {a b tg : Nat} {g : List Chk} (hf : overG g) : (encPk t ⟨a, b, tg, g⟩).2 = 1 ∨ (encPk t ⟨a, b, tg, g⟩).2 = 10 := by
  by_cases hb : badPk t ⟨a, b, tg, g⟩
  · left; rw [encPk, if_pos hb]
  · right
    have hg : bigPk ⟨a, b, tg, g⟩ := by
      rcases hf with h | h | h
      · exact .inl h
      · refine .inr (show 1200 < 12 + (encs g).length from ?_)
        omega
      · exact absurd (.inr (.inr (.inl h))) hb
    rw [encPk, if_neg hb, if_pos hg]
set_option maxHeartbeats 4000000 in
theorem w_lgroups {h : Heap} {o : Option Addr} {c : Nat} {l : List Chk} {els : List (List Value)} (hr : Row h 12 o l.length els.flatten) (he : ChE h l els) (hc : l.length ≤ c) (n : Nat) (hn : 104000 ≤ n) :
    ResQ (callN Try.prog G0 n (.call 7 [.slice o l.length c]) h) (fun u h' => u = .bool true) := by
  obtain ⟨n, rfl⟩ : ∃ m, n = m + 1 := ⟨n - 1, by omega⟩
  refine res_enter rfl d7 rfl ?_; simp only [c7]
  refine gg ?_
  refine i_call0 (w_awake h n (by omega)) ?_
  rintro _ _ ⟨rfl, rfl⟩
  refine gg ?_
  refine i_call1 (by exact sel_of rfl) (w_pfew hr he n (by omega)) ?_
  rintro _ h1 ⟨rfl, k1⟩
  by_cases hf : fewL l
  case neg =>
    rw [decide_eq_false hf]
    refine gg ?_
    rfl
  rw [decide_eq_true hf]
  have h80 := hf.1
  refine gg ?_
  refine i_call1 (by exact sel_of rfl) (w_bundle (hr.keeps k1) (he.keeps k1) hc (by omega) n (by omega)) ?_
  rintro _ h2 ⟨k2, oa, m, rfl, G, cs, ra, al, hG, rfl⟩
  by_cases he0 : bunE l = 0
  case neg =>
    have hz : G = [] := by
      have : bunL l = [] := by rw [bunL, if_neg he0]
      rw [this] at hG
      exact List.map_eq_nil_iff.1 hG
    subst hz
    refine gg ?_
    rfl
  rw [bunL, if_pos he0] at hG
  have hu : (l.any fun x => !decide x.shaped) = false := by
    cases h : (l.any fun x => !decide x.shaped) with
    | true => rw [bunE, if_pos h] at he0; cases he0
    | false => rfl
  have hz : (l.any fun x => decide (1188 < (encC x).1.length)) = false := by
    cases h : (l.any fun x => decide (1188 < (encC x).1.length)) with
    | true => rw [bunE, if_neg (by rw [hu]; simp), if_pos h] at he0; cases he0
    | false => rfl
  have hsh : ∀ x ∈ l, x.shaped := fun x hx => by
    have := List.any_eq_false.1 hu x hx
    simpa using this
  have hsz : ∀ x ∈ l, (encC x).1.length ≤ 1188 := fun x hx => by
    have := List.any_eq_false.1 hz x hx
    simpa using this
  have hjoin : (G.map Prod.fst).flatten = l := by rw [hG]; exact bunF_join _ l (Nat.le_refl _)
  have hfit : ∀ (i : Nat) (g : GC), G[i]? = some g → fitG g.1 := fun i g hg => bunF_fit l.length l hsz g.1 (by
    show g.1 ∈ bun l
    rw [← hG]; exact List.mem_map_of_mem (List.mem_of_getElem? hg))
  have hgs : ∀ (i : Nat) (g : GC), G[i]? = some g → ∀ x ∈ g.1, x.shaped := fun i g hg x hx => hsh x (by
    rw [← hjoin]; exact List.mem_flatten.2 ⟨g.1, List.mem_map_of_mem (List.mem_of_getElem? hg), hx⟩)
  have hover : ∀ (i : Nat) (g g' : GC) (x : Chk) (r : List Chk), G[i]? = some g → G[i + 1]? = some g' → g'.1 = x :: r → overG (g.1 ++ [x]) := fun i g g' x r hg hg' e => bunF_over l.length l i g.1 x r (by
    show (bun l)[i]? = _
    rw [← hG, List.getElem?_map, hg]; rfl) (by
    show (bun l)[i + 1]? = _
    rw [← hG, List.getElem?_map, hg', ← e]; rfl)
  have hGl : G.length ≤ l.length := by
    have e := congrArg List.length hG
    rw [List.length_map] at e
    rw [e]; exact bunF_len l.length l
  rw [he0]
  refine gg ?_
  refine i_call0 (w_table n (by omega)) ?_
  rintro _ h3 ⟨k3, ot, t, rfl, h256, rt, hbt⟩
  refine gg ?_
  have hJ : ∀ (i : Nat) (g : GC), G[i]? = some g → ((G.take (i + 1)).map Prod.fst).flatten = ((G.take i).map Prod.fst).flatten ++ g.1 := fun i g hg => by rw [List.take_add_one, hg]; simp
  have hE : ∀ (i : Nat) (g : GC), G[i]? = some g → ((G.take (i + 1)).map Prod.snd).flatten = ((G.take i).map Prod.snd).flatten ++ g.2 := fun i g hg => by rw [List.take_add_one, hg]; simp
  have hJl : ∀ i, (((G.take i).map Prod.fst).flatten).length ≤ 80 := fun i => by
    have : ((G.take i).map Prod.fst).flatten ++ ((G.drop i).map Prod.fst).flatten = l := by rw [← hjoin, ← List.flatten_append, ← List.map_append, List.take_append_drop]
    have := congrArg List.length this
    rw [List.length_append] at this
    omega
  refine o_up G.length (fun i f h' => ∃ (oj : Option Addr), Sl [(8, .int .i64 (i : Int)), (7, .slice oj ((G.take i).map Prod.fst).flatten.length ((G.take i).map Prod.fst).flatten.length), (4, .slice oa G.length G.length), (6, .slice ot t.length t.length), (3, .bool true), (0, .slice o l.length c)] f ∧ Keeps h3 h' ∧ Ap h3.next h' 33 12 oj ((G.take i).map Prod.fst).flatten.length ((G.take i).map Prod.fst).flatten.length ((G.take i).map Prod.snd).flatten.flatten ∧ ChE h3 ((G.take i).map Prod.fst).flatten ((G.take i).map Prod.snd).flatten) (by omega) ?_ ?_
  · exact ⟨none, ⟨sel_of rfl, sel_of rfl, sel_of rfl, sel_of rfl, sel_of rfl, sel_of rfl, trivial⟩, Keeps.refl _, Ap.nil _ _ _ _, ChE.nil _⟩
  rintro i f h' hi ⟨oj, hs, k, ap, ej⟩
  obtain ⟨f0, rfl⟩ := hs.puts
  clear hs
  simp only [c7_0]
  have ra' := (ra.keeps k3).keeps k
  refine gg ?_
  refine out_if (by exact sel_of rfl) (fun hif => ?_) (fun hif => ?_)
  · obtain ⟨g, hg⟩ : ∃ g, G[i]? = some g := ⟨_, List.getElem?_eq_getElem (by omega)⟩
    obtain ⟨w, hw⟩ : ∃ w, cs[i]? = some w := ⟨_, List.getElem?_eq_getElem (by have := al.1; omega)⟩
    obtain ⟨q, rfl, rq, eq⟩ := al.2 i g w hg hw
    have fg := hfit i g hg
    have rq3 := rq.keeps k3
    have eq3 := eq.keeps k3
    have pg : PkV h' ⟨0, 0, 0, g.1⟩ [.int .u16 0, .int .u16 0, .int .u32 0, .slice (some q) g.1.length g.1.length] := ⟨_, _, g.2, rfl, rq3.keeps k, eq3.keeps k, Nat.le_refl _⟩
    have ee := encPk_fit (a := 0) (b := 0) (tg := 0) h256 fg (hgs i g hg)
    have glen := fg.2.1
    have gpos := List.length_pos_iff.2 fg.1
    refine gg ?_
    refine i_idx (by exact sel_of rfl) ra' (i := i) (by exact sel_of rfl) (by omega) fun u hu => ?_
    subst hu
    refine i_load1 (v := .slice (some q) g.1.length g.1.length) (by exact sel_of rfl) (by rw [ra'.cell (by omega), Nat.mul_one, hw]) ?_
    refine gg ?_
    refine i_call2 (by exact sel_of rfl) (by exact sel_of rfl) (w_pencode (rt.keeps k) hbt pg (by show g.1.length ≤ 80; omega) n (by omega)) ?_
    rintro _ h4 ⟨k4, o4, c4, rfl, r4, hc4⟩
    rw [ee]
    refine gg ?_
    refine i_idx (by exact sel_of rfl) (ra'.keeps k4) (i := i) (by exact sel_of rfl) (by omega) fun u hu => ?_
    cases hu
    refine gg ?_
    refine i_load1 (v := .slice (some q) g.1.length g.1.length) (by exact sel_of rfl) (by rw [(ra'.keeps k4).cell (by omega), Nat.mul_one, hw]) ?_
    refine gg ?_
    refine OutQ.mono (Q := fun e a h5 => e = .normal ∧ Keeps h4 h5 ∧ Sl [(8, .int .i64 (i : Int)), (7, .slice oj ((G.take i).map Prod.fst).flatten.length ((G.take i).map Prod.fst).flatten.length), (4, .slice (some u) G.length G.length), (6, .slice ot t.length t.length), (3, .bool true), (0, .slice o l.length c)] a) ?_ ?_
    · rcases Nat.eq_zero_or_pos i with h0 | h0
      · subst h0
        refine gg ?_
        exact ⟨rfl, Keeps.refl _, sel_of rfl, sel_of rfl, sel_of rfl, sel_of rfl, sel_of rfl, sel_of rfl, trivial⟩
      · obtain ⟨j, rfl⟩ : ∃ j, i = j + 1 := ⟨i - 1, by omega⟩
        obtain ⟨gp, hgp⟩ : ∃ g, G[j]? = some g := ⟨_, List.getElem?_eq_getElem (by omega)⟩
        obtain ⟨wp, hwp⟩ : ∃ w, cs[j]? = some w := ⟨_, List.getElem?_eq_getElem (by have := al.1; omega)⟩
        obtain ⟨qp, rfl, rqp, eqp⟩ := al.2 j gp wp hgp hwp
        obtain ⟨x, r, ex⟩ : ∃ x r, g.1 = x :: r := by
          cases e : g.1 with
          | nil => exact absurd e fg.1
          | cons x r => exact ⟨x, r, rfl⟩
        have hx0 : g.1[0]? = some x := by rw [ex]; rfl
        obtain ⟨w0, hw0, cw0⟩ := (eq3.keeps (k.trans k4)).at hx0
        have hov := encPk_over (t := t) (a := 0) (b := 0) (tg := 0) (hover j gp g x r hgp hg ex)
        have rap := ra'.keeps k4
        have gpl := (hfit j gp hgp).2.1
        have gpp := List.length_pos_iff.2 (hfit j gp hgp).1
        refine gg ?_
        have k5 : Keeps h4 (h4.new (.cells 33 [] (.own false))) := Keeps.new _ _
        have n5 : (h4.new (.cells 33 [] (.own false))).next = h4.next + 1 := rfl
        have row5 : Row (h4.new (.cells 33 [] (.own false))) 12 (some ⟨h4.next, 0, none⟩) 0 [] := Row.new (by simp) rfl (.inl rfl)
        show ItQ (runItems _ _ _ (h4.new (.cells 33 [] (.own false)))) _
        generalize h4.new (.cells 33 [] (.own false)) = h5 at *
        rw [show (((j + 1 : Nat) : Int) - 1) = ((j : Nat) : Int) by omega]
        refine i_idx (by exact sel_of rfl) (rap.keeps k5) (i := j) (by exact sel_of rfl) (by omega) fun u2 hu => ?_
        cases hu
        refine gg ?_
        refine i_load1 (v := .slice (some qp) gp.1.length gp.1.length) (by exact sel_of rfl) (by rw [(rap.keeps k5).cell (by omega), Nat.mul_one, hwp]) ?_
        refine gg ?_
        refine i_appF (t := gp.1.length) (es := gp.2.flatten) (o := some ⟨h4.next, 0, none⟩) (cs := []) gpp (B := h4.next) (by omega) (by exact sel_of rfl) ⟨rfl, row5, fun q e => .inl (by cases e; rfl)⟩ (((rqp.keeps k3).keeps ((k.trans k4).trans k5)).src) rqp.1 (by omega) (Nat.zero_add _) (List.nil_append _) fun h6 nx6 fr6 a6 => ?_
        have k6 : Keeps h4 h6 := ⟨by omega, fun d hd => (fr6 d (by omega) (fun q e => .inr (by cases e; rfl))).trans (k5.get d hd)⟩
        have n6 := k6.next
        refine gg ?_
        refine i_idx (by exact sel_of rfl) (rap.keeps k6) (i := j + 1) (by exact sel_of rfl) (by omega) fun u2 hu => ?_
        cases hu
        refine gg ?_
        refine i_load1 (v := .slice (some q) g.1.length g.1.length) (by exact sel_of rfl) (by rw [(rap.keeps k6).cell (by omega), Nat.mul_one, hw]) ?_
        have rq6 := (rq3.keeps (k.trans k4)).keeps k6
        refine gg ?_
        refine i_idx (by exact sel_of rfl) rq6 (i := 0) (by first | exact sel_of rfl | exact const_of) (by omega) fun u2 hu => ?_
        cases hu
        refine gg ?_
        refine i_loadN (v := w0) (by exact sel_of rfl) (by rw [rq6.cells (by omega) (some 0), flat_get g.2 0 eq.2.1 hw0]) ?_
        have lw0 := cw0.len
        refine gg ?_
        refine i_bslice (cs := w0) (by
          obtain ⟨o1, c1, o2, c2, o3, c3, o4, c4, o5, c5, ps, rfl, _⟩ := cw0
          rfl) ?_
        have k7 : Keeps h6 (h6.new (.cells 33 w0 (.own false))) := Keeps.new h6 _
        have row7 : Row (h6.new (.cells 33 w0 (.own false))) 12 (some ⟨h6.next, 0, none⟩) 1 w0 := Row.new (by simp) (by rw [lw0]) (.inl rfl)
        have n7 : (h6.new (.cells 33 w0 (.own false))).next = h6.next + 1 := rfl
        generalize (h6.new (.cells 33 w0 (.own false))) = h7 at *
        refine gg ?_
        have l1 : gp.1.length + 1 = (gp.1 ++ [x]).length := by simp
        refine i_appF (t := (gp.1 ++ [x]).length) (es := (gp.2 ++ [w0]).flatten) (by decide) (B := h4.next) (by omega) (by exact sel_of rfl) (a6.keeps k7) (row7.src) (by rw [lw0]) (by omega) l1 (by rw [List.flatten_append]; simp) fun h8 nx8 fr8 a8 => ?_
        have k8 : Keeps h4 h8 := ⟨by omega, fun d hd => (fr8 d (by omega) (fun q e => by
          cases e; left; show d ≠ h5.next; have := k5.next; omega)).trans ((k6.trans k7).get d hd)⟩
        have pp : PkV h8 ⟨0, 0, 0, gp.1 ++ [x]⟩ [.int .u16 0, .int .u16 0, .int .u32 0, .slice (some ⟨h7.next, 0, some 12⟩) (gp.1 ++ [x]).length (gp.1 ++ [x]).length] := ⟨_, _, gp.2 ++ [w0], rfl, a8.row, ((eqp.keeps k3).keeps ((k.trans k4).trans k8)).snoc (cw0.keeps k8), Nat.le_refl _⟩
        refine gg ?_
        refine i_call2 (by exact sel_of rfl) (by exact sel_of rfl) (w_pencode (rt.keeps ((k.trans k4).trans k8)) hbt pp (by show (gp.1 ++ [x]).length ≤ 80; omega) n (by omega)) ?_
        rintro _ h9 ⟨k9, o9, c9, rfl, r9, hc9⟩
        have k49 := k8.trans k9
        have ldA : ∀ h', Keeps h4 h' → load1 h'.get ⟨u.block, u.off + (j + 1) * 1, some 0⟩ = some (.slice (some q) g.1.length g.1.length) := fun h' k' => by
          rw [(rap.keeps k').cell (by omega), Nat.mul_one, hw]
        have ldB : ∀ h', Keeps h4 h' → loadN h'.get ⟨q.block, q.off + 0 * 12, some 0⟩ 12 = some w0 := fun h' k' => by
          have := (rq3.keeps (k.trans k4)).keeps k'
          rw [this.cells (by omega) (some 0), flat_get g.2 0 eq.2.1 hw0]
        have sv0 := cw0.sv
        rcases hov with hov | hov <;> rw [hov]
        · refine gg ?_
          refine ⟨chk_cons rfl (ld1 (by exact sel_of rfl) (ldA _ k6)) (sv_slice _ _ _) (fun m hm => by
            simp only [List.mem_cons, List.not_mem_nil, or_false] at hm
            rcases hm with rfl | rfl <;> exact ⟨_, _, rfl, ld1 (by exact sel_of rfl) (by first | exact ldA _ (Keeps.refl _) | exact ldA _ k6)⟩) (chk_cons rfl (ldN (by exact sel_of rfl) (ldB _ k6)) sv0 (fun m hm => by
            simp only [List.mem_cons, List.not_mem_nil, or_false] at hm
            rcases hm with rfl | rfl <;> exact ⟨_, _, rfl, ldN (by exact sel_of rfl) (by first | exact ldB _ (Keeps.refl _) | exact ldB _ k6)⟩) chk_nil), ?_⟩
          refine gg ?_
          exact ⟨rfl, k49, sel_of rfl, sel_of rfl, sel_of rfl, sel_of rfl, sel_of rfl, sel_of rfl, trivial⟩
        · refine gg ?_
          refine ⟨chk_cons rfl (ld1 (by exact sel_of rfl) (ldA _ k6)) (sv_slice _ _ _) (fun m hm => by
            simp only [List.mem_cons, List.not_mem_nil, or_false] at hm
            rcases hm with rfl | rfl <;> exact ⟨_, _, rfl, ld1 (by exact sel_of rfl) (by first | exact ldA _ (Keeps.refl _) | exact ldA _ k6)⟩) (chk_cons rfl (ldN (by exact sel_of rfl) (ldB _ k6)) sv0 (fun m hm => by
            simp only [List.mem_cons, List.not_mem_nil, or_false] at hm
            rcases hm with rfl | rfl <;> exact ⟨_, _, rfl, ldN (by exact sel_of rfl) (by first | exact ldB _ (Keeps.refl _) | exact ldB _ k6)⟩) chk_nil), ?_⟩
          refine gg ?_
          exact ⟨rfl, k49, sel_of rfl, sel_of rfl, sel_of rfl, sel_of rfl, sel_of rfl, sel_of rfl, trivial⟩
    rintro _ a5 h5 ⟨rfl, k5, hs5⟩
    obtain ⟨f5, rfl⟩ := hs5.puts
    clear hs5
    have k45 := k4.trans k5
    refine gg ?_
    refine i_idx (by exact sel_of rfl) (ra'.keeps k45) (i := i) (by exact sel_of rfl) (by omega) fun u hu => ?_
    cases hu
    refine i_load1 (v := .slice (some q) g.1.length g.1.length) (by exact sel_of rfl) (by rw [(ra'.keeps k45).cell (by omega), Nat.mul_one, hw]) ?_
    have hji := hJl i
    have hji2 := hJl (i + 1)
    have eJ := hJ i g hg
    have eE := hE i g hg
    have apg := ap.keeps k45
    have n45 := (k.trans k45).next
    have eLen : ((G.take i).map Prod.fst).flatten.length + g.1.length = ((G.take (i + 1)).map Prod.fst).flatten.length := by rw [eJ, List.length_append]
    refine i_appF (t := ((G.take (i + 1)).map Prod.fst).flatten.length) (es := ((G.take (i + 1)).map Prod.snd).flatten.flatten) gpos (B := h3.next) n45 (by exact sel_of rfl) apg (((rq3.keeps k).keeps k45).src) ((rq3.keeps k).1) (by omega) eLen (by rw [eE, List.flatten_append]) fun h6 nx6 fr6 ap6 => ?_
    have kk : Keeps h3 h6 := ⟨by omega, fun d hd => (fr6 d (by omega) (fun q e => by
      rcases apg.2.2 q e with h0 | ⟨j, h1, h2', _⟩
      · exact .inr h0
      · left; rw [h1]; show d ≠ j; omega)).trans ((k.trans k45).get d hd)⟩
    refine gg ?_
    exact rnd_up (by omega) ⟨_, ⟨sel_of rfl, sel_of rfl, sel_of rfl, sel_of rfl, sel_of rfl, sel_of rfl, trivial⟩, kk, ap6, by rw [eJ, eE]; exact ej.app eq3⟩
  · obtain rfl : i = G.length := by omega
    rw [List.take_length, hjoin] at ap
    rw [List.take_length, hjoin] at ej
    rw [List.take_length, hjoin]
    refine gg ?_
    refine i_call2 (by exact sel_of rfl) (by exact sel_of rfl) (w_schunks ap.row (ej.keeps k) (((hr.keeps k1).keeps k2).keeps (k3.trans k)) (((he.keeps k1).keeps k2).keeps (k3.trans k)) hf.2 (by omega) n (by omega)) ?_
    rintro _ h5 ⟨rfl, k5⟩
    refine gg ?_
    exact bool_true rfl
end Go.Proofs.Ytdcllpjoejkpnaa

