/- Part of a proof by an abstract run of the program's code: FJ. No condition. -/
import Derived.Test.YtnffglfpjcbfaaaFI
/-! The law JoinOrders, walked. -/
set_option linter.unusedVariables false
namespace Go.Proofs.Ytnffglfpjcbfaaa
open Go Vm
section
variable {h h' : Heap} {P : Nat → Prop} {oa ol : Option Addr}
theorem CkX.cks : ∀ {l : List Ck} {cs : List Value}, CkX h oa ol cs l → CkS h (fun _ => True) cs l
  | [], _, e => e
  | _ :: _, _, ⟨o, cap, cs', e, c, x⟩ => ⟨_, cs', e, ⟨o, cap, rfl, c.1, fun _ _ => trivial⟩, CkX.cks x⟩
theorem MsX.mss : ∀ {l : List Mg} {cs : List Value}, MsX h oa ol cs l → MsS h cs l
  | [], _, e => e
  | _ :: _, _, ⟨o, cap, cs', e, c, x⟩ => ⟨o, cap, cs', e, c.1, MsX.mss x⟩
theorem CkS.append {l2 : List Ck} {cs2 : List Value} (y : CkS h P cs2 l2) : ∀ {l : List Ck} {cs : List Value}, CkS h P cs l → CkS h P (cs ++ cs2) (l ++ l2)
  | [], _, e => by rw [show _ = _ from e]; exact y
  | _ :: _, _, ⟨v, cs', e, c, x⟩ => ⟨v, cs' ++ cs2, by rw [e, List.append_assoc], c, CkS.append y x⟩
theorem CkA.len {c : Ck} {v : List Value} (x : CkA h P c v) : v.length = 12 := by
  obtain ⟨o, cap, rfl, _⟩ := x; rfl
theorem CkS.take : ∀ {l : List Ck} {cs : List Value} (p : Nat), CkS h P cs l → CkS h P (cs.take (p * 12)) (l.take p)
  | [], _, p, e => by rw [show _ = _ from e]; simp; rfl
  | _ :: _, _, 0, _ => by simp; rfl
  | _ :: _, _, p + 1, ⟨v, cs', e, c, x⟩ => ⟨v, cs'.take (p * 12), by rw [e, Nat.succ_mul, Nat.add_comm, ← c.len, List.take_length_add_append], c, CkS.take p x⟩
theorem CkS.drop : ∀ {l : List Ck} {cs : List Value} (p : Nat), CkS h P cs l → CkS h P (cs.drop (p * 12)) (l.drop p)
  | [], _, p, e => by rw [show _ = _ from e]; simp; rfl
  | _ :: _, _, 0, x => by simpa using x
  | _ :: _, _, p + 1, ⟨v, cs', e, c, x⟩ => by
    rw [e, show (p + 1) * 12 = v.length + p * 12 by rw [c.len]; omega, List.drop_length_add_append]
    exact CkS.drop p x
end
section
variable {h : Heap} {n : Nat}
set_option maxHeartbeats 4000000 in
theorem w_lorders {tsn : Nat} {sz pk : List Int} {os op : Option Addr} {cs cp : Nat} {most : Int} (hr : Row h 1 os sz.length (intsC sz)) (hp : Row h 1 op pk.length (intsC pk)) (ht : tsn < 4294967296) (hn : 3000 ≤ n) :
    ResQ (callN Try.prog G0 n (.call 3 [.int .u32 (tsn : Int), .slice os sz.length cs, .int .i64 most, .slice op pk.length cp]) h) (fun u h' => u = .bool true) := by
  obtain ⟨n, rfl⟩ : ∃ m, n = m + 1 := ⟨n - 1, by omega⟩
  refine res_enter rfl d3 rfl ?_; simp only [c3]
  refine gg ?_
  refine i_call0 (w_awake _ n (by omega)) ?_
  rintro _ _ ⟨rfl, rfl⟩
  refine gg ?_
  by_cases g1 : 20 < sz.length
  · rw [decide_eq_true (p := (20 : Int) < ((sz.length : Nat) : Int)) (by omega)]
    refine gg ?_
    rfl
  rw [decide_eq_false (p := (20 : Int) < ((sz.length : Nat) : Int)) (by omega)]
  refine gg ?_
  by_cases g2 : most < 1
  · rw [decide_eq_true g2]
    refine gg ?_
    rfl
  rw [decide_eq_false g2]
  refine gg ?_
  by_cases g3 : 1172 < most
  · rw [decide_eq_true g3]
    refine gg ?_
    rfl
  rw [decide_eq_false g3]
  refine gg ?_
  obtain ⟨k, rfl⟩ : ∃ k : Nat, most = (k : Int) := ⟨most.toNat, by omega⟩
  refine OutQ.mono (w_made (pk := .slice op pk.length cp) hr (by omega) (most := k) (by omega) (by omega) ht (by omega) ⟨sel_of rfl, sel_of rfl, sel_of rfl, sel_of rfl, sel_of rfl, sel_of rfl, sel_of rfl, sel_of rfl, trivial⟩) ?_
  rintro _ f1 h1 ⟨rfl, oa, ol, Ms, Ls, p, hs⟩
  obtain ⟨f0, rfl⟩ := hs.puts
  clear hs
  refine then_n ?_
  have M := p.mes (by omega) (by omega)
  have o0 := p.oi (by omega) (by omega)
  obtain ⟨ht1, ht2⟩ := p.tot (by omega) (by omega)
  have hpl := p.len (by omega)
  obtain ⟨ca, apa, hma⟩ := p.ra
  obtain ⟨cl, apl, hcl⟩ := p.rl
  have k01 := p.kk
  have hms := hma.mss
  have hcs := hcl.cks
  obtain ⟨tot, htot⟩ : ∃ t, t = (dts Ls.flatten).length := ⟨_, rfl⟩
  rw [← htot] at o0 ht1
  obtain ⟨F, hF⟩ : ∃ F, F = Ls.flatten := ⟨_, rfl⟩
  rw [← hF] at o0 apl hcs hpl ⊢
  refine gg ?_
  refine i_call1 (by rfl) (w_new (k := 2) (by decide) (by decide) (by omega)) ?_
  rintro _ h2 ⟨rfl, k12, j2⟩
  refine gg ?_
  have j2 : Jn h2 h1.next [0, 0] [] [] [] 0 none := j2
  have hol : ∀ q, ol = some q → q.block < h1.next := fun q e => Row.low apl.row q e
  refine o_while (fun K f h' => ∃ left ch st x rd held ro o11 cl i, (Jn h' h1.next [0, x] ch st rd held ro ∧ OI sz.length (csOf Ls) Ms left ch st x rd held tot 0 ∧ Keeps h1 h' ∧ Row h' 12 o11 left.length cl ∧ CkS h1 (fun _ => True) cl left ∧ (∀ q, o11 = some q → (q.block < h1.next ∨ h1.next + 4 ≤ q.block) ∧ Apart ro q.block)) ∧ (left.length = K ∧ i + K = F.length)
    ∧ Sl [(17, .int .i64 ((i : Nat) : Int)), (16, .pointer (some ⟨h1.next + 3, 0, none⟩)), (10, .slice oa sz.length sz.length), (11, .slice o11 left.length left.length), (3, .slice op pk.length cp), (9, .bool true)] f) F.length (by omega) ?_ ?_
  · exact ⟨F, [], [], 0, [], 0, none, ol, cl, 0, ⟨j2, o0, k12, apl.row.keeps k12, hcs, fun q e => ⟨.inl (hol q e), fun r e => by cases e⟩⟩, ⟨rfl, by omega⟩, sel_of rfl, sel_of rfl, sel_of rfl, sel_of rfl, sel_of rfl, sel_of rfl, trivial⟩
  clear j2 k12 o0 hcs apl hcl hol cl
  rintro K f h' ⟨left, ch, st, x, rd, held, ro, o11, cl, i, ⟨j, o, k, rl, hcs, hloc⟩, ⟨hK, hiK⟩, hs⟩
  obtain ⟨f0, rfl⟩ := hs.puts
  clear hs
  simp only [c3_1]
  refine gg ?_
  by_cases hl0 : left = []
  · subst hl0
    rw [decide_eq_false (p := (0 : Int) < ((([] : List Ck).length : Nat) : Int)) (by simp)]
    refine gg ?_
    obtain ⟨rfl, hth⟩ := o.fin M
    have hhi := o.hi
    have hMl := M.len
    refine i_call1 (by exact sel_of rfl) (w_take j (by omega) (by omega) (by omega) (by omega)) ?_
    rintro _ h4 ⟨rfl, j4, p4, cs4, r4, hrd⟩
    have k4 : Keeps h1 h4 := p4.far (Nat.le_refl _) k (fun r e => by cases e)
    refine gg ?_
    refine i_call2 (by exact sel_of rfl) ((sel_of (v := .slice oa sz.length sz.length) rfl).trans (congrArg (fun z => Value.slice oa z sz.length) hMl.symm)) (w_sameAll r4 hrd.mss (by rw [hMl]; exact apa.row.keeps k4) (hms.keeps k4) (by omega) (by omega)) ?_
    rintro _ h5 ⟨rfl, k5⟩
    refine gg ?_
    refine i_call1 (by exact sel_of rfl) (w_take (j4.keeps k5) (by show 0 ≤ _; omega) (by omega) (by show 0 ≤ 1000000; decide) (by show 0 + 2 ≤ n; omega)) ?_
    rintro _ h6 ⟨rfl, _⟩
    show ItQ (runItems _ _ (puts ((125, .slice none ((0 : Nat)) ((0 : Nat))) :: _) _) _) _
    refine gg ?_
    rfl
  · have hl1 : left.length ≠ 0 := fun e => hl0 (List.length_eq_zero_iff.1 e)
    rw [decide_eq_true (p := (0 : Int) < ((left.length : Nat) : Int)) (by omega)]
    refine gg ?_
    refine OutQ.mono (Q := fun e f h3 => e = .normal ∧ h' = h3 ∧ ∃ pp, pp < left.length ∧ Sl [(18, .int .i64 ((pp : Nat) : Int)), (17, .int .i64 ((i : Nat) : Int)), (16, .pointer (some ⟨h1.next + 3, 0, none⟩)), (10, .slice oa sz.length sz.length), (11, .slice o11 left.length left.length), (3, .slice op pk.length cp), (9, .bool true)] f) ?_ ?_
    · by_cases hip : i < pk.length
      · rw [decide_eq_true (p := ((i : Nat) : Int) < ((pk.length : Nat) : Int)) (by omega)]
        obtain ⟨z, hz⟩ : ∃ z, pk[i]? = some z := ⟨_, List.getElem?_eq_getElem hip⟩
        have hp' := (hp.keeps k01).keeps k
        obtain ⟨u, rfl⟩ : ∃ u, op = some u := by
          cases op with
          | none => exact absurd (show pk.length = 0 from hp.2) (by omega)
          | some u => exact ⟨u, rfl⟩
        refine gg ?_
        refine i_idx (by exact sel_of rfl) hp' (i := i) (by exact sel_of rfl) hip fun q hq => ?_
        cases hq
        refine gg ?_
        refine i_load1 (v := .int .i64 z) (by exact sel_of rfl) ((hp'.cell (i := i * 1) (by omega) _).trans (by rw [Nat.mul_one]; simp [intsC, hz])) ?_
        refine i_mask (q := 65535) (by exact sel_of rfl) (by rfl) (by decide) fun w hw => ?_
        refine gg ?_
        refine i_remn (w % left.length) (by exact sel_of rfl) (by exact sel_of rfl) hl1 rfl ?_
        refine gg ?_
        exact ⟨rfl, rfl, w % left.length, Nat.mod_lt _ (by omega), sel_of rfl, sel_of rfl, sel_of rfl, sel_of rfl, sel_of rfl, sel_of rfl, sel_of rfl, trivial⟩
      · rw [decide_eq_false (p := ((i : Nat) : Int) < ((pk.length : Nat) : Int)) (by omega)]
        refine gg ?_
        exact ⟨rfl, rfl, 0, by omega, sel_of rfl, sel_of rfl, sel_of rfl, sel_of rfl, sel_of rfl, sel_of rfl, sel_of rfl, trivial⟩
    rintro _ f3 _ ⟨rfl, rfl, pp, hpp, hs⟩
    obtain ⟨f0, rfl⟩ := hs.puts
    clear hs
    refine then_n ?_
    obtain ⟨c, hc⟩ : ∃ c, left[pp]? = some c := ⟨_, List.getElem?_eq_getElem hpp⟩
    obtain ⟨oc, cc, hca, hv, hrow⟩ := hcs.at hc
    obtain ⟨ci, ck, hci, hck⟩ := o.sub c (List.mem_of_getElem? hc)
    have r := rem_of hc o.nd
    obtain ⟨u, rfl⟩ : ∃ u, o11 = some u := by
      cases o11 with
      | none => exact absurd (show left.length = 0 from rl.2) hl1
      | some u => exact ⟨u, rfl⟩
    have hub := Row.low rl u rfl
    obtain ⟨hl1', hl2'⟩ := hloc u rfl
    refine gg ?_
    refine i_idx (by exact sel_of rfl) rl (i := pp) (by exact sel_of rfl) hpp fun q hq => ?_
    cases hq
    refine i_loadN (v := ckv c oc cc) (by exact sel_of rfl) (by rw [← hv]; exact rl.cells (by omega) _) ?_
    refine gg ?_
    refine i_call2 (by exact sel_of rfl) (by exact sel_of rfl) (w_addO1 M j o r hci hck (hrow.keeps k) (by omega) (by omega)) ?_
    rintro _ h3 ⟨rfl, ro3, ⟨ch3, st3, x3, rd3, held3, j3, o3, alt3⟩, p3⟩
    have k3 : Keeps h1 h3 := p3.far (Nat.le_refl _) k j.ofr
    have rl3 := p3.row rl (fun q e => by cases e; exact ⟨hl1', hl2'⟩)
    have ap3 := p3.apart hub hl2'
    refine gg ?_
    refine i_idx (by exact sel_of rfl) rl3 (i := pp) (by exact sel_of rfl) hpp fun q hq => ?_
    cases hq
    refine i_loadN (v := ckv c oc cc) (by exact sel_of rfl) (by rw [← hv]; exact rl3.cells (by omega) _) ?_
    refine gg ?_
    refine i_call2 (by exact sel_of rfl) (by exact sel_of rfl) (w_addO2 M j3 o3 hci hck alt3 (hrow.keeps k3) (by omega) (by omega)) ?_
    rintro v4 h4 ⟨ro4, ⟨ch4, held4, j4, o4⟩, p4⟩
    have k4 : Keeps h1 h4 := p4.far (Nat.le_refl _) k3 j3.ofr
    have rl4 := p4.row rl3 (fun q e => by cases e; exact ⟨hl1', ap3⟩)
    have hro4 : ∀ r, ro4 = some r → r.block < h4.next := by
      obtain ⟨cs', a, _⟩ := j4.rdy
      exact fun r e => Row.low a.row r e
    refine gg ?_
    have k45 : Keeps h4 (h4.new (.cells 42 (rep 0 [Value.int .u8 0, Value.int .u8 0, Value.int .u32 0, Value.int .u32 0, Value.int .u16 0, Value.int .u16 0, Value.int .u32 0, Value.slice none 0 0, Value.slice none 0 0, Value.slice none 0 0, Value.slice none 0 0, Value.slice none 0 0]) (.own false))) := Keeps.new h4 _
    have ap5 : Ap h4.next (h4.new (.cells 42 (rep 0 [Value.int .u8 0, Value.int .u8 0, Value.int .u32 0, Value.int .u32 0, Value.int .u16 0, Value.int .u16 0, Value.int .u32 0, Value.slice none 0 0, Value.slice none 0 0, Value.slice none 0 0, Value.slice none 0 0, Value.slice none 0 0]) (.own false))) 42 12 (some ⟨h4.next, 0, none⟩) 0 0 [] := ⟨rfl, Row.new (by simp) rfl (.inl rfl), fun q e => .inl (by cases e; rfl)⟩
    generalize h4.new (.cells 42 (rep 0 [Value.int .u8 0, Value.int .u8 0, Value.int .u32 0, Value.int .u32 0, Value.int .u16 0, Value.int .u16 0, Value.int .u32 0, Value.slice none 0 0, Value.slice none 0 0, Value.slice none 0 0, Value.slice none 0 0, Value.slice none 0 0]) (.own false)) = h5 at *
    refine i_sl_hi (by exact sel_of rfl) (rl4.keeps k45) (Nat.le_refl _) (i := pp) (by exact sel_of rfl) (by omega) fun rt => ?_
    have hFl : F.length ≤ 1000 := by omega
    refine i_app (h0 := h4) (m := pp) (t := pp) (es := cl.take (pp * 12)) k45 (by decide) (by exact sel_of rfl) ap5 (by rw [sel_of rfl]; exact rt.src) rt.1 (by omega) (by omega) rfl fun o6 h6 k46 ap6 hw6 => ?_
    refine gg ?_
    refine i_sl_lo (by exact sel_of rfl) (rl4.keeps k46) (Nat.le_refl _) (i := pp + 1) (by exact sel_of rfl) (by omega) fun o7 ho7 r7 => ?_
    refine i_app (h0 := h4) (m := left.length - (pp + 1)) (t := (left.take pp ++ left.drop (pp + 1)).length) (es := cl.take (pp * 12) ++ cl.drop ((pp + 1) * 12)) k46 (by decide) (by exact sel_of rfl) ap6 (by rw [sel_of rfl]; exact r7.src) r7.1 (by omega) (by simp; omega) rfl fun o8 h8 k48 ap8 hw8 => ?_
    refine gg ?_
    have hb8 : ∀ q, o8 = some q → h4.next ≤ q.block := by
      rcases hw8 with e | e
      · rcases hw6 with e' | e'
        · intro q eq
          rw [e, e'] at eq
          cases eq
          exact Nat.le_refl _
        · rw [e]; exact e'
      · exact e
    have jup4 := j4.up
    refine rnd_n (K - 1) (by omega) ⟨left.take pp ++ left.drop (pp + 1), ch4, st3, x3, rd3, held4, ro4, o8, _, i + 1, ⟨j4.keeps k48, o4, k4.trans k48, ap8.row, CkS.append (hcs.drop (pp + 1)) (hcs.take pp), fun q e => ⟨.inr (by have := hb8 q e; omega), fun r er => by have := hb8 q e; have := hro4 r er; omega⟩⟩, ⟨by simp; omega, by omega⟩, sel_of rfl, sel_of rfl, sel_of rfl, sel_of rfl, sel_of rfl, sel_of rfl, trivial⟩
end
end Go.Proofs.Ytnffglfpjcbfaaa

