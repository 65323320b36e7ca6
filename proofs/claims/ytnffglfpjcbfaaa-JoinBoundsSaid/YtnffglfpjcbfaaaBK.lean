/- Part of a proof by an abstract run of the program's code: BK. No condition. -/
import Derived.Test.YtnffglfpjcbfaaaBJ
/-! What a Join keeps; join.keep, walked. -/
set_option linter.unusedVariables false
namespace Go.Proofs.Ytnffglfpjcbfaaa
open Go Vm
def Apart (ro : Option Addr) (b : Nat) : Prop := ∀ r, ro = some r → b ≠ r.block
/-- what a step of a Join's leaves as it was -/
structure Pres (N : Nat) (h : Heap) (ro : Option Addr) (h' : Heap) (ro' : Option Addr) : Prop where
  next : h.next ≤ h'.next
  get : ∀ d, d < h.next → (d < N ∨ N + 4 ≤ d) → Apart ro d → h'.get d = h.get d
  new : ∀ r, ro' = some r → ro = some r ∨ h.next ≤ r.block
section
variable {N : Nat} {h h' h'' : Heap} {ro ro' ro'' : Option Addr}
theorem Pres.refl : Pres N h ro h ro := ⟨Nat.le_refl _, fun _ _ _ _ => rfl, fun r e => .inl e⟩
theorem Pres.apart (p : Pres N h ro h' ro') {b : Nat} (hb : b < h.next) (a : Apart ro b) : Apart ro' b := fun r e => by
  rcases p.new r e with e' | e'
  · exact a r e'
  · omega
theorem Pres.trans (p : Pres N h ro h' ro') (q : Pres N h' ro' h'' ro'') : Pres N h ro h'' ro'' :=
  ⟨Nat.le_trans p.next q.next, fun d hd hn ha => (q.get d (Nat.lt_of_lt_of_le hd p.next) hn (p.apart hd ha)).trans (p.get d hd hn ha), fun r e => by
    rcases q.new r e with e' | e'
    · exact p.new r e'
    · exact .inr (Nat.le_trans p.next e')⟩
theorem Pres.keeps (k : Keeps h h') : Pres N h ro h' ro := ⟨k.next, fun d hd _ _ => k.get d hd, fun r e => .inl e⟩
theorem Pres.put {b : Nat} (hb : N ≤ b) (hb' : b < N + 4) (x : Blk) : Pres N h ro (h.put b x) ro := ⟨Nat.le_refl _, fun d _ hn _ => by rw [Heap.get_put, if_neg (by omega)], fun r e => .inl e⟩
theorem Pres.row (p : Pres N h ro h' ro') {sz n : Nat} {o : Option Addr} {cs : List Value} (r : Row h sz o n cs) (hn : ∀ q, o = some q → (q.block < N ∨ N + 4 ≤ q.block) ∧ Apart ro q.block) : Row h' sz o n cs := by
  cases o with
  | none => exact r
  | some q =>
    obtain ⟨h1, h2, h3, h4⟩ := r
    refine ⟨h1, Nat.lt_of_lt_of_le h2 p.next, h3, ?_⟩
    have e := p.get q.block h2 (hn q rfl).1 (hn q rfl).2
    unfold loadN at h4 ⊢
    rw [e]; exact h4
theorem Pres.kd (p : Pres N h ro h' ro') : KD h N ro h' ro' := fun o bs d =>
  ⟨p.row d.1 (fun q e => ⟨.inr (d.2 q e).1, (d.2 q e).2⟩), fun q e => ⟨(d.2 q e).1, by
    subst e
    exact p.apart d.1.2.1 (d.2 q rfl).2⟩⟩
/-! keys of two numbers -/
theorem eqV_pair (a b c d : Nat) : eqV (.agg [1, 1]) (.agg #[.int .u16 (a : Int), .int .u16 (b : Int)]) (.agg #[.int .u16 (c : Int), .int .u16 (d : Int)]) = some (Nat.beq a c && Nat.beq b d) := by
  show (match some (Nat.beq a c) with
    | some true => (match some (Nat.beq b d) with | some true => some true | some false => some false | none => none)
    | some false => some false | none => none) = _
  cases Nat.beq a c <;> cases Nat.beq b d <;> rfl
theorem beq_pair (a b c d : Nat) : (Nat.beq a c && Nat.beq b d) = decide ((c, d) = (a, b)) := by
  rw [Bool.eq_iff_iff, Bool.and_eq_true, Nat.beq_eq, Nat.beq_eq, decide_eq_true_iff, Prod.mk.injEq]
  exact ⟨fun ⟨e, f⟩ => ⟨e.symm, f.symm⟩, fun ⟨e, f⟩ => ⟨e.symm, f.symm⟩⟩
def nkey (k : Nat × Nat) : Value := .agg #[.int .u16 (k.1 : Int), .int .u16 (k.2 : Int)]
abbrev lookS (st : List ((Nat × Nat) × Mg)) (k : Nat × Nat) : Option ((Nat × Nat) × Mg) := st.find? fun p => p.1 == k
theorem StL.find (k : Nat × Nat) : ∀ {es : List (Value × Value × Nat)} {l : List ((Nat × Nat) × Mg)}, StL h N ro es l →
    (lookS l k = none → mFind (.agg [1, 1]) (nkey k) es = some none) ∧
    ∀ p, lookS l k = some p → ∃ v s, mFind (.agg [1, 1]) (nkey k) es = some (some (.agg v.toArray, s)) ∧ MgAt h N ro p.2 v
  | [], [], _ => ⟨fun _ => rfl, fun p e => by cases e⟩
  | [], _ :: _, x => x.elim
  | _ :: _, [], x => x.elim
  | (ek, ev, es0) :: es, ((a1, a2), c) :: l, ⟨⟨e, v, e', x⟩, r⟩ => by
    cases e
    cases e'
    obtain ⟨k1, k2⟩ := k
    have ih := StL.find (k1, k2) r
    have hm : mFind (.agg [1, 1]) (nkey (k1, k2)) ((.agg #[.int .u16 (a1 : Int), .int .u16 (a2 : Int)], .agg v.toArray, es0) :: es) = (match eqV (.agg [1, 1]) (.agg #[.int .u16 (k1 : Int), .int .u16 (k2 : Int)]) (.agg #[.int .u16 (a1 : Int), .int .u16 (a2 : Int)]) with | some true => some (some (.agg v.toArray, es0)) | some false => mFind (.agg [1, 1]) (nkey (k1, k2)) es | none => none) := rfl
    rw [hm, eqV_pair, beq_pair]
    unfold lookS
    rw [List.find?_cons]
    by_cases hb : (a1, a2) = (k1, k2)
    · rw [decide_eq_true hb, hb]
      simp only [beq_self_eq_true]
      exact ⟨fun e => (by cases e), fun p e => (by cases e; exact ⟨v, es0, rfl, x⟩)⟩
    · have : ((a1, a2) == (k1, k2)) = false := by rw [← Bool.not_eq_true, beq_iff_eq]; exact hb
      rw [decide_eq_false hb, this]
      exact ih
theorem StL.put {k : Nat × Nat} {v : List Value} {cc : Nat} {c : Mg} (hc : MgAt h N ro c v) : ∀ {es : List (Value × Value × Nat)} {l : List ((Nat × Nat) × Mg)}, StL h N ro es l → lookS l k = none →
    ∃ es' cc', mPut (.agg [1, 1]) (nkey k) (Value.agg v.toArray) cc es = some (es', cc') ∧ StL h N ro es' (l ++ [(k, c)])
  | [], [], _, _ => ⟨_, _, rfl, ⟨rfl, v, rfl, hc⟩, trivial⟩
  | [], _ :: _, x, _ => x.elim
  | _ :: _, [], x, _ => x.elim
  | (ek, ev, es0) :: es, ((a1, a2), c') :: l, ⟨⟨e, v', e', x⟩, r⟩, hn => by
    cases e
    cases e'
    obtain ⟨k1, k2⟩ := k
    unfold lookS at hn
    rw [List.find?_cons] at hn
    by_cases hb : (a1, a2) = (k1, k2)
    · rw [hb] at hn; simp at hn
    · have h0 : ((a1, a2) == (k1, k2)) = false := by rw [← Bool.not_eq_true, beq_iff_eq]; exact hb
      rw [h0] at hn
      obtain ⟨es', cc', h1, h2⟩ := StL.put hc r hn
      refine ⟨(nkey (a1, a2), .agg v'.toArray, es0) :: es', cc', ?_, ⟨⟨rfl, v', rfl, x⟩, h2⟩⟩
      show (match eqV (.agg [1, 1]) (.agg #[.int .u16 (k1 : Int), .int .u16 (k2 : Int)]) (.agg #[.int .u16 (a1 : Int), .int .u16 (a2 : Int)]) with
        | some true => some ((nkey (k1, k2), Value.agg v.toArray, es0) :: es, cc)
        | some false => (match mPut (.agg [1, 1]) (nkey (k1, k2)) (Value.agg v.toArray) cc es with | some (r, c) => some ((nkey (a1, a2), Value.agg v'.toArray, es0) :: r, c) | none => none)
        | none => none) = _
      rw [eqV_pair, beq_pair, decide_eq_false hb, h1]
def delS (k : Nat × Nat) : List ((Nat × Nat) × Mg) → List ((Nat × Nat) × Mg)
  | [] => []
  | (a, c) :: l => if a = k then l else (a, c) :: delS k l
theorem StL.del (k : Nat × Nat) : ∀ {es : List (Value × Value × Nat)} {l : List ((Nat × Nat) × Mg)}, StL h N ro es l → ∃ es', mDel (.agg [1, 1]) (nkey k) es = some es' ∧ StL h N ro es' (delS k l)
  | [], [], _ => ⟨_, rfl, trivial⟩
  | [], _ :: _, x => x.elim
  | _ :: _, [], x => x.elim
  | (ek, ev, es0) :: es, ((a1, a2), c') :: l, ⟨⟨e, v', e', x⟩, r⟩ => by
    cases e
    cases e'
    obtain ⟨k1, k2⟩ := k
    obtain ⟨es', h1, h2⟩ := StL.del (k1, k2) r
    have hm : mDel (.agg [1, 1]) (nkey (k1, k2)) ((.agg #[.int .u16 (a1 : Int), .int .u16 (a2 : Int)], .agg v'.toArray, es0) :: es) = (match eqV (.agg [1, 1]) (.agg #[.int .u16 (k1 : Int), .int .u16 (k2 : Int)]) (.agg #[.int .u16 (a1 : Int), .int .u16 (a2 : Int)]) with
        | some true => some es
        | some false => (match mDel (.agg [1, 1]) (nkey (k1, k2)) es with | some r => some ((nkey (a1, a2), Value.agg v'.toArray, es0) :: r) | none => none)
        | none => none) := rfl
    rw [hm, eqV_pair, beq_pair, delS]
    by_cases hb : (a1, a2) = (k1, k2)
    · rw [decide_eq_true hb, if_pos hb]; exact ⟨es, rfl, r⟩
    · rw [decide_eq_false hb, if_neg hb, h1]
      exact ⟨_, rfl, ⟨rfl, v', rfl, x⟩, h2⟩
theorem StC.find (k : Nat × Nat) {es : List (Value × Value × Nat)} {cc : Nat} {l : List ((Nat × Nat) × Mg)} (s : StC h N ro es cc l) :
    (lookS l k = none → mFind (.agg [1, 1]) (nkey k) es = some none) ∧
    ∀ p, lookS l k = some p → ∃ v s, mFind (.agg [1, 1]) (nkey k) es = some (some (.agg v.toArray, s)) ∧ MgAt h N ro p.2 v := s.l.find k
theorem StC.put {k : Nat × Nat} {v : List Value} {cc : Nat} {c : Mg} (hc : MgAt h N ro c v) {es : List (Value × Value × Nat)} {l : List ((Nat × Nat) × Mg)} (s : StC h N ro es cc l) (hz : lookS l k = none) :
    ∃ es' cc', mPut (.agg [1, 1]) (nkey k) (Value.agg v.toArray) cc es = some (es', cc') ∧ StC h N ro es' cc' (l ++ [(k, c)]) := by
  obtain ⟨es', cc', h1, h2⟩ := StL.put (cc := cc) hc s.l hz
  exact ⟨es', cc', h1, h2, (mPut_lt h1 s.lt).2⟩
theorem StC.del (k : Nat × Nat) {es : List (Value × Value × Nat)} {cc : Nat} {l : List ((Nat × Nat) × Mg)} (s : StC h N ro es cc l) : ∃ es', mDel (.agg [1, 1]) (nkey k) es = some es' ∧ StC h N ro es' cc (delS k l) := by
  obtain ⟨es', h1, h2⟩ := StL.del k s.l
  exact ⟨es', h1, h2, fun e he => s.lt e (mDel_sub h1 e he)⟩
theorem RdL.snoc {c : Mg} {v : List Value} (hv : MgAt h N ro c v) : ∀ {l : List Mg} {cs : List Value}, RdL h N ro cs l → RdL h N ro (cs ++ v) (l ++ [c])
  | [], _, e => ⟨v, [], by rw [show _ = _ from e]; simp, hv, rfl⟩
  | _ :: _, _, ⟨w, cs', e, x, r⟩ => ⟨w, cs' ++ v, by rw [e, List.append_assoc], x, RdL.snoc hv r⟩
end
section
variable {h : Heap} {n : Nat} {N : Nat} {nx : List Nat} {ch : List (Nat × Ck)} {st : List ((Nat × Nat) × Mg)} {rd : List Mg} {held : Nat} {ro : Option Addr}
set_option maxHeartbeats 2000000 in
theorem w_keepU (j : Jn h N nx ch st rd held ro) {m : Mg} {v : List Value} (hv : MgAt h N ro m v) (hu : m.un = true) {ssn : Nat} (hbig : rd.length ≤ 1000000) (hn : 1 ≤ n) :
    ResQ (callN Try.prog G0 n (.call 23 [.pointer (some ⟨N + 3, 0, none⟩), .agg v.toArray, .int .u16 (ssn : Int)]) h) (fun _ h' => ∃ ro', Jn h' N nx ch st (rd ++ [m]) held ro' ∧ Pres N h ro h' ro') := by
  obtain ⟨om, cap, rfl, hd⟩ := hv
  obtain ⟨es, cc, gm, hes⟩ := j.sts
  have jup := j.up
  have top := j.top
  obtain ⟨n, rfl⟩ : ∃ m, n = m + 1 := ⟨n - 1, by omega⟩
  refine res_enter rfl d23 rfl ?_; simp only [c23]
  refine o_cut (fun f h1 => (Keeps h h1 ∧ h.next < h1.next ∧ h1.get h.next = some (.cells 30 (mgv m om cap) (.own false))) ∧ Sl [(0, .pointer (some ⟨N + 3, 0, none⟩)), (2, .int .u16 (ssn : Int)), (4, .pointer (some ⟨h.next, 0, none⟩))] f) ?_ ?_
  · refine gg ?_
    exact ⟨rfl, ⟨Keeps.new h _, Nat.lt_succ_self _, by rw [Heap.get_new, if_pos rfl]⟩, sel_of rfl, sel_of rfl, sel_of rfl, trivial⟩
  rintro f1 h1 ⟨⟨k1, lt1, g1⟩, hs⟩
  obtain ⟨f0, rfl⟩ := hs.puts
  clear hs
  refine o_cut (fun f h2 => (Keeps h1 h2 ∧ h1.next < h2.next ∧ h2.get h1.next = some (.cells 78 [.int .u16 (m.str : Int), .int .u16 (ssn : Int)] (.own false))) ∧ Sl [(0, .pointer (some ⟨N + 3, 0, none⟩)), (2, .int .u16 (ssn : Int)), (4, .pointer (some ⟨h.next, 0, none⟩)), (6, .pointer (some ⟨h1.next, 0, none⟩))] f) ?_ ?_
  · refine gg ?_
    refine i_load1 (v := .int .u16 (m.str : Int)) (by exact sel_of rfl) ((load1_own g1).trans (by rfl)) ?_
    refine gg ?_
    refine i_storeF (vs := [.int .u16 (m.str : Int), .int .u16 (ssn : Int)]) (Keeps.new h1 _) (Nat.le_refl _) (by exact sel_of rfl) (by rw [sel_of rfl]; rfl) (by rw [Heap.get_new, if_pos rfl]) rfl rfl (Nat.lt_succ_self _) fun h2 k2 g2 lt2 => ?_
    refine gg ?_
    exact ⟨rfl, ⟨k2, lt2, g2⟩, sel_of rfl, sel_of rfl, sel_of rfl, sel_of rfl, trivial⟩
  rintro f2 h2 ⟨⟨k2, lt2, g2⟩, hs⟩
  obtain ⟨f0, rfl⟩ := hs.puts
  clear hs
  have k02 := k1.trans k2
  have top2 := (k02.get _ (by omega)).trans top
  have gm2 := (k02.get _ (by omega)).trans gm
  refine o_cut (fun f h3 => (Keeps h2 h3 ∧ ∃ b, (b = true ↔ ∃ p, lookS st (m.str, ssn) = some p) ∧ Sl [(0, .pointer (some ⟨N + 3, 0, none⟩)), (2, .int .u16 (ssn : Int)), (4, .pointer (some ⟨h.next, 0, none⟩)), (6, .pointer (some ⟨h1.next, 0, none⟩)), (8, .bool b)] f)) ?_ ?_
  · refine gg ?_; repeat (refine i_ldown (by exact sel_of rfl) (by assumption) (by rfl) ?_; refine gg ?_)
    refine i_loadN (v := [.int .u16 (m.str : Int), .int .u16 (ssn : Int)]) (by exact sel_of rfl) (loadN_all g2 rfl) ?_
    cases hz : lookS st (m.str, ssn) with
    | none =>
      refine i_lookup (ok := true) (res := none) (by exact sel_of rfl) gm2 (kv := nkey (m.str, ssn)) (by rw [sel_of rfl]; rfl) rfl ((hes.find _).1 hz) ?_
      show ItQ (runItems _ _ (puts ((19, .tuple #[.agg #[.int .u16 0, .bool false, .int .u32 0, .slice none 0 0], .bool false]) :: _) _) _) _
      refine gg ?_
      refine i_storeF (vs := [.int .u16 0, .bool false, .int .u32 0, .slice none 0 0]) (Keeps.new h2 _) (Nat.le_refl _) (by exact sel_of rfl) (by rw [sel_of rfl]; rfl) (by rw [Heap.get_new, if_pos rfl]) rfl rfl (Nat.lt_succ_self _) fun h3 k3 g3 lt3 => ?_
      refine gg ?_
      exact ⟨rfl, k3, false, by simp, sel_of rfl, sel_of rfl, sel_of rfl, sel_of rfl, sel_of rfl, trivial⟩
    | some p =>
      obtain ⟨vx, sx, fe, ox, cx, rfl, dx⟩ := (hes.find _).2 _ hz
      refine i_lookup (ok := true) (res := some (.agg (mgv p.2 ox cx).toArray, sx)) (by exact sel_of rfl) gm2 (kv := nkey (m.str, ssn)) (by rw [sel_of rfl]; rfl) rfl fe ?_
      show ItQ (runItems _ _ (puts ((19, .tuple #[.agg (mgv p.2 ox cx).toArray, .bool true]) :: _) _) _) _
      refine gg ?_
      refine i_storeF (vs := mgv p.2 ox cx) (Keeps.new h2 _) (Nat.le_refl _) (by exact sel_of rfl) (by rw [sel_of rfl]; rfl) (by rw [Heap.get_new, if_pos rfl]) rfl rfl (Nat.lt_succ_self _) fun h3 k3 g3 lt3 => ?_
      refine gg ?_
      exact ⟨rfl, k3, true, by simp, sel_of rfl, sel_of rfl, sel_of rfl, sel_of rfl, sel_of rfl, trivial⟩
  rintro f3 h3 ⟨k3, b, hb, hs⟩
  obtain ⟨f0, rfl⟩ := hs.puts
  clear hs
  have k03 := k02.trans k3
  have g3 := (k3.get _ (Nat.lt_of_lt_of_le lt1 k2.next)).trans ((k2.get _ lt1).trans g1)
  have j3 := j.keeps k03
  have lt3 : h.next < h3.next := by have := k2.next; have := k3.next; omega
  clear top top2 gm gm2 g2 hes
  have top := j3.top
  refine gg ?_; repeat (refine i_ldown (by exact sel_of rfl) (by assumption) (by rfl) ?_; refine gg ?_)
  rw [hu]
  refine gg ?_; repeat (refine i_ldown (by exact sel_of rfl) (by assumption) (by rfl) ?_; refine gg ?_)
  refine i_loadN (v := mgv m om cap) (by exact sel_of rfl) (loadN_all g3 rfl) ?_
  refine i_bslice (cs := mgv m om cap) (by rfl) ?_
  obtain ⟨cs, ap, hrd⟩ := j3.rdy
  have k4 : Keeps h3 (h3.new (.cells 30 (mgv m om cap) (.own false))) := Keeps.new h3 _
  have r4 : Row (h3.new (.cells 30 (mgv m om cap) (.own false))) 4 (some ⟨h3.next, 0, none⟩) 1 (mgv m om cap) := Row.new (by simp) rfl (.inl rfl)
  generalize h3.new (.cells 30 (mgv m om cap) (.own false)) = h4 at *
  have k04 := k03.trans k4
  have j4 := j3.keeps k4
  have jup4 := j4.up
  refine i_appF (B := N + 4) (m := 1) (t := (rd ++ [m]).length) (es := cs ++ mgv m om cap) (by decide) j4.up (by exact sel_of rfl) (ap.keeps k4) (by rw [sel_of rfl]; exact r4.src) rfl (by omega) (by simp) rfl fun h5 n5 e5 ap5 => ?_
  have p5 : Pres N h4 ro h5 (some ⟨h4.next, 0, some 4⟩) := ⟨by omega, fun d hd _ ha => e5 d hd (fun q e => .inl (ha q e)), fun r e => by cases e; exact .inr (Nat.le_refl _)⟩
  have low : ∀ d, d < N + 4 → h5.get d = h4.get d := fun d hd => e5 d (by omega) (fun q e => by
    rcases ap.2.2 q e with hs | ⟨kk, rfl, h1, _⟩
    · exact .inr hs
    · exact .inl (by show d ≠ kk; omega))
  have top5 := (low (N + 3) (by omega)).trans j4.top
  refine gg ?_
  refine i_store1 (u := ⟨N + 3, 0 + 3, none⟩) (v := .slice (some ⟨h4.next, 0, some 4⟩) (rd ++ [m]).length (rd ++ [m]).length) (by exact sel_of rfl) (by rw [sel_of rfl]; rfl) top5 (by show 0 + 3 < 5; decide) ?_
  refine gg ?_
  have p6 : Pres N h ro (h5.put (N + 3) (.cells 64 ((jcells N nx ro rd.length held).set (0 + 3) (.slice (some ⟨h4.next, 0, some 4⟩) (rd ++ [m]).length (rd ++ [m]).length)) (.own false))) (some ⟨h4.next, 0, some 4⟩) :=
    ((Pres.keeps k04).trans p5).trans (Pres.put (by omega) (by omega) _)
  have gp : ∀ d, d < N + 3 → (h5.put (N + 3) (.cells 64 ((jcells N nx ro rd.length held).set (0 + 3) (.slice (some ⟨h4.next, 0, some 4⟩) (rd ++ [m]).length (rd ++ [m]).length)) (.own false))).get d = h4.get d := fun d hd => by
    rw [Heap.get_put, if_neg (by omega)]; exact low d (by omega)
  obtain ⟨es1, c1, a1, b1⟩ := j4.chs
  obtain ⟨es2, c2, a2, b2⟩ := j4.sts
  have kd : KD h4 N ro (h5.put (N + 3) (.cells 64 ((jcells N nx ro rd.length held).set (0 + 3) (.slice (some ⟨h4.next, 0, some 4⟩) (rd ++ [m]).length (rd ++ [m]).length)) (.own false))) (some ⟨h4.next, 0, some 4⟩) := (p5.trans (Pres.put (by omega) (by omega) _)).kd
  refine ⟨_, ⟨?_, ?_, ?_, ⟨es1, c1, ?_, b1.mono kd⟩, ⟨es2, c2, ?_, b2.mono kd⟩, ⟨_, apB ap5 (putB h5 (N + 3) _) (fun q e => by cases e; show h4.next ≠ N + 3; omega), RdL.snoc ⟨om, cap, rfl, kd _ _ (KD.keeps k04 _ _ hd)⟩ ((hrd.mono (KD.keeps k4)).mono kd)⟩, fun r e => by cases e; exact j4.up⟩, p6⟩
  · show N + 4 ≤ h5.next; omega
  · rw [Heap.get_put, if_pos rfl]; rfl
  · rw [gp _ (by omega)]; exact j4.nxt
  · rw [gp _ (by omega)]; exact a1
  · rw [gp _ (by omega)]; exact a2
end
end Go.Proofs.Ytnffglfpjcbfaaa

/-! join.pull and join.tell, walked. -/
set_option linter.unusedVariables false
namespace Go.Proofs.Ytnffglfpjcbfaaa
open Go Vm
section
variable {h : Heap} {n : Nat} {N : Nat} {nx : List Nat} {ch : List (Nat × Ck)} {st : List ((Nat × Nat) × Mg)} {rd : List Mg} {held : Nat} {ro : Option Addr}
theorem w_pullN (j : Jn h N nx ch st rd held ro) {k : Nat × Nat} (hz : lookS st k = none) (hn : 1 ≤ n) :
    ResQ (callN Try.prog G0 n (.call 38 [.pointer (some ⟨N + 3, 0, none⟩), nkey k]) h) (fun v h' => v = .bool false ∧ Keeps h h') := by
  obtain ⟨es, cc, gm, hes⟩ := j.sts
  have jup := j.up
  have top := j.top
  obtain ⟨n, rfl⟩ : ∃ m, n = m + 1 := ⟨n - 1, by omega⟩
  refine res_enter rfl d38 rfl ?_; simp only [c38]
  refine o_cut (fun f h1 => (Keeps h h1 ∧ h1.get h.next = some (.cells 78 [.int .u16 (k.1 : Int), .int .u16 (k.2 : Int)] (.own false))) ∧ Sl [(0, .pointer (some ⟨N + 3, 0, none⟩)), (3, .pointer (some ⟨h.next, 0, none⟩))] f) ?_ ?_
  · unfold nkey
    refine gg ?_
    exact ⟨rfl, ⟨Keeps.new h _, by rw [Heap.get_new, if_pos rfl]⟩, sel_of rfl, sel_of rfl, trivial⟩
  rintro f1 h1 ⟨⟨k1, g1⟩, hs⟩
  obtain ⟨f0, rfl⟩ := hs.puts
  clear hs
  have top1 := (k1.get _ (by omega)).trans top
  have gm1 := (k1.get _ (by omega)).trans gm
  refine gg ?_; repeat (refine i_ldown (by exact sel_of rfl) (by assumption) (by rfl) ?_; refine gg ?_)
  refine i_loadN (v := [.int .u16 (k.1 : Int), .int .u16 (k.2 : Int)]) (by exact sel_of rfl) (loadN_all g1 rfl) ?_
  refine i_lookup (ok := true) (res := none) (by exact sel_of rfl) gm1 (kv := nkey k) (by rw [sel_of rfl]; rfl) rfl ((hes.find _).1 hz) ?_
  show ItQ (runItems _ _ (puts ((13, .tuple #[.agg #[.int .u16 0, .bool false, .int .u32 0, .slice none 0 0], .bool false]) :: _) _) _) _
  refine gg ?_
  refine i_storeF (vs := [.int .u16 0, .bool false, .int .u32 0, .slice none 0 0]) (Keeps.new h1 _) (Nat.le_refl _) (by exact sel_of rfl) (by rw [sel_of rfl]; rfl) (by rw [Heap.get_new, if_pos rfl]) rfl rfl (Nat.lt_succ_self _) fun h3 k3 g3 lt3 => ?_
  refine gg ?_
  exact ⟨rfl, k1.trans k3⟩
set_option maxHeartbeats 2000000 in
theorem w_pullS (j : Jn h N nx ch st rd held ro) {k : Nat × Nat} {p : (Nat × Nat) × Mg} (hz : lookS st k = some p) (hbig : rd.length ≤ 1000000) (hn : 1 ≤ n) :
    ResQ (callN Try.prog G0 n (.call 38 [.pointer (some ⟨N + 3, 0, none⟩), nkey k]) h) (fun v h' => v = .bool true ∧ ∃ ro', Jn h' N nx ch (delS k st) (rd ++ [p.2]) held ro' ∧ Pres N h ro h' ro') := by
  obtain ⟨es, cc, gm, hes⟩ := j.sts
  have jup := j.up
  have top := j.top
  obtain ⟨n, rfl⟩ : ∃ m, n = m + 1 := ⟨n - 1, by omega⟩
  refine res_enter rfl d38 rfl ?_; simp only [c38]
  refine o_cut (fun f h1 => (Keeps h h1 ∧ h.next < h1.next ∧ h1.get h.next = some (.cells 78 [.int .u16 (k.1 : Int), .int .u16 (k.2 : Int)] (.own false))) ∧ Sl [(0, .pointer (some ⟨N + 3, 0, none⟩)), (3, .pointer (some ⟨h.next, 0, none⟩))] f) ?_ ?_
  · unfold nkey
    refine gg ?_
    exact ⟨rfl, ⟨Keeps.new h _, Nat.lt_succ_self _, by rw [Heap.get_new, if_pos rfl]⟩, sel_of rfl, sel_of rfl, trivial⟩
  rintro f1 h1 ⟨⟨k1, lt1, g1⟩, hs⟩
  obtain ⟨f0, rfl⟩ := hs.puts
  clear hs
  have top1 := (k1.get _ (by omega)).trans top
  have gm1 := (k1.get _ (by omega)).trans gm
  obtain ⟨vx, sx, fe, om, cap, rfl, hd⟩ := (hes.find _).2 _ hz
  generalize p.2 = m at *
  refine o_cut (fun f h2 => (Keeps h1 h2 ∧ h1.next < h2.next ∧ h2.get h1.next = some (.cells 30 (mgv m om cap) (.own false))) ∧ Sl [(0, .pointer (some ⟨N + 3, 0, none⟩)), (3, .pointer (some ⟨h.next, 0, none⟩)), (5, .pointer (some ⟨h1.next, 0, none⟩)), (6, .bool true)] f) ?_ ?_
  · refine gg ?_; repeat (refine i_ldown (by exact sel_of rfl) (by assumption) (by rfl) ?_; refine gg ?_)
    refine i_loadN (v := [.int .u16 (k.1 : Int), .int .u16 (k.2 : Int)]) (by exact sel_of rfl) (loadN_all g1 rfl) ?_
    refine i_lookup (ok := true) (res := some (.agg (mgv m om cap).toArray, sx)) (by exact sel_of rfl) gm1 (kv := nkey k) (by rw [sel_of rfl]; rfl) rfl fe ?_
    show ItQ (runItems _ _ (puts ((13, .tuple #[.agg (mgv m om cap).toArray, .bool true]) :: _) _) _) _
    refine gg ?_
    refine i_storeF (vs := mgv m om cap) (Keeps.new h1 _) (Nat.le_refl _) (by exact sel_of rfl) (by rw [sel_of rfl]; rfl) (by rw [Heap.get_new, if_pos rfl]) rfl rfl (Nat.lt_succ_self _) fun h3 k3 g3 lt3 => ?_
    refine gg ?_
    exact ⟨rfl, ⟨k3, lt3, g3⟩, sel_of rfl, sel_of rfl, sel_of rfl, sel_of rfl, trivial⟩
  rintro f2 h2 ⟨⟨k2, lt2, g2⟩, hs⟩
  obtain ⟨f0, rfl⟩ := hs.puts
  clear hs
  have k02 := k1.trans k2
  have g1' := (k2.get _ lt1).trans g1
  have j3 := j.keeps k02
  clear top top1 gm gm1 hes fe
  have top := j3.top
  refine gg ?_; repeat (refine i_ldown (by exact sel_of rfl) (by assumption) (by rfl) ?_; refine gg ?_)
  refine i_loadN (v := mgv m om cap) (by exact sel_of rfl) (loadN_all g2 rfl) ?_
  refine i_bslice (cs := mgv m om cap) (by rfl) ?_
  obtain ⟨cs, ap, hrd⟩ := j3.rdy
  have k4 : Keeps h2 (h2.new (.cells 30 (mgv m om cap) (.own false))) := Keeps.new h2 _
  have r4 : Row (h2.new (.cells 30 (mgv m om cap) (.own false))) 4 (some ⟨h2.next, 0, none⟩) 1 (mgv m om cap) := Row.new (by simp) rfl (.inl rfl)
  generalize h2.new (.cells 30 (mgv m om cap) (.own false)) = h4 at *
  have k04 := k02.trans k4
  have j4 := j3.keeps k4
  have jup4 := j4.up
  refine i_appF (B := N + 4) (m := 1) (t := (rd ++ [m]).length) (es := cs ++ mgv m om cap) (by decide) j4.up (by exact sel_of rfl) (ap.keeps k4) (by rw [sel_of rfl]; exact r4.src) rfl (by omega) (by simp) rfl fun h5 n5 e5 ap5 => ?_
  have p5 : Pres N h4 ro h5 (some ⟨h4.next, 0, some 4⟩) := ⟨by omega, fun d hd _ ha => e5 d hd (fun q e => .inl (ha q e)), fun r e => by cases e; exact .inr (Nat.le_refl _)⟩
  have ge5 : ∀ d, d < N + 4 ∨ d = h.next → h5.get d = h4.get d := fun d hd => e5 d (by have := k4.next; omega) (fun q e => by
    obtain ⟨cs0, ap0, _⟩ := j.rdy
    rcases ap0.2.2 q e with hs | ⟨kk, rfl, h1, _⟩
    · exact .inr hs
    · subst e
      have : kk < h.next := ap0.2.1.2.1
      exact .inl (by show d ≠ kk; omega))
  have top5 := (ge5 (N + 3) (.inl (by omega))).trans j4.top
  refine gg ?_
  refine i_store1 (u := ⟨N + 3, 0 + 3, none⟩) (v := .slice (some ⟨h4.next, 0, some 4⟩) (rd ++ [m]).length (rd ++ [m]).length) (by exact sel_of rfl) (by rw [sel_of rfl]; rfl) top5 (by show 0 + 3 < 5; decide) ?_
  have p6 : Pres N h4 ro (h5.put (N + 3) (.cells 64 ((jcells N nx ro rd.length held).set (0 + 3) (.slice (some ⟨h4.next, 0, some 4⟩) (rd ++ [m]).length (rd ++ [m]).length)) (.own false))) (some ⟨h4.next, 0, some 4⟩) :=
    p5.trans (Pres.put (by omega) (by omega) _)
  have gp : ∀ d, d < N + 3 ∨ d = h.next → (h5.put (N + 3) (.cells 64 ((jcells N nx ro rd.length held).set (0 + 3) (.slice (some ⟨h4.next, 0, some 4⟩) (rd ++ [m]).length (rd ++ [m]).length)) (.own false))).get d = h4.get d := fun d hd => by
    rw [Heap.get_put, if_neg (by omega)]; exact ge5 d (by omega)
  have top6 : (h5.put (N + 3) (.cells 64 ((jcells N nx ro rd.length held).set (0 + 3) (.slice (some ⟨h4.next, 0, some 4⟩) (rd ++ [m]).length (rd ++ [m]).length)) (.own false))).get (N + 3) = some (.cells 64 (jcells N nx (some ⟨h4.next, 0, some 4⟩) (rd ++ [m]).length held) (.own false)) := by rw [Heap.get_put, if_pos rfl]; rfl
  have ap6 := apB ap5 (putB h5 (N + 3) (.cells 64 ((jcells N nx ro rd.length held).set (0 + 3) (.slice (some ⟨h4.next, 0, some 4⟩) (rd ++ [m]).length (rd ++ [m]).length)) (.own false))) (fun q e => by cases e; show h4.next ≠ N + 3; omega)
  have n6 : (h5.put (N + 3) (.cells 64 ((jcells N nx ro rd.length held).set (0 + 3) (.slice (some ⟨h4.next, 0, some 4⟩) (rd ++ [m]).length (rd ++ [m]).length)) (.own false))).next = h5.next := rfl
  show ItQ (runItems _ _ _ (h5.put (N + 3) (.cells 64 ((jcells N nx ro rd.length held).set (0 + 3) (.slice (some ⟨h4.next, 0, some 4⟩) (rd ++ [m]).length (rd ++ [m]).length)) (.own false)))) _
  generalize h5.put (N + 3) (.cells 64 ((jcells N nx ro rd.length held).set (0 + 3) (.slice (some ⟨h4.next, 0, some 4⟩) (rd ++ [m]).length (rd ++ [m]).length)) (.own false)) = h6 at *
  obtain ⟨es1, c1, a1, b1⟩ := j4.chs
  obtain ⟨es2, c2, a2, b2⟩ := j4.sts
  have g16 := (gp h.next (.inr rfl)).trans ((k4.get _ (by omega)).trans g1')
  have a26 := (gp (N + 2) (.inl (by omega))).trans a2
  clear top top5
  refine gg ?_; repeat (refine i_ldown (by exact sel_of rfl) (by assumption) (by rfl) ?_; refine gg ?_)
  refine i_loadN (v := [.int .u16 (k.1 : Int), .int .u16 (k.2 : Int)]) (by exact sel_of rfl) (loadN_all g16 rfl) ?_
  obtain ⟨es', hdel, hes'⟩ := b2.del k
  refine i_mapDel (by exact sel_of rfl) a26 (kv := nkey k) (by rw [sel_of rfl]; rfl) rfl hdel ?_
  refine gg ?_
  have p7 : Pres N h4 ro (h6.put (N + 2) (.map es' c2)) (some ⟨h4.next, 0, some 4⟩) := p6.trans (Pres.put (by omega) (by omega) _)
  have kd := p7.kd
  have gq : ∀ d, d < N + 4 → d ≠ N + 2 → (h6.put (N + 2) (.map es' c2)).get d = h6.get d := fun d _ hd => by rw [Heap.get_put, if_neg hd]
  refine ⟨rfl, _, ⟨?_, ?_, ?_, ⟨es1, c1, ?_, b1.mono kd⟩, ⟨es', c2, by rw [Heap.get_put, if_pos rfl], hes'.mono kd⟩, ⟨_, apB ap6 (putB h6 (N + 2) _) (fun q e => by cases e; show h4.next ≠ N + 2; omega), RdL.snoc ⟨om, cap, rfl, kd _ _ (KD.keeps k04 _ _ hd)⟩ ((hrd.mono (KD.keeps k4)).mono kd)⟩, fun r e => by cases e; exact j4.up⟩, (Pres.keeps k04).trans p7⟩
  · show N + 4 ≤ h6.next; omega
  · rw [gq _ (by omega) (by omega)]; exact top6
  · rw [gq _ (by omega) (by omega), gp _ (.inl (by omega))]; exact j4.nxt
  · rw [gq _ (by omega) (by omega), gp _ (.inl (by omega))]; exact a1
/-- what is told of a stream -/
inductive Tel (s : Nat) (st' : List ((Nat × Nat) × Mg)) (x' : Nat) (rd' : List Mg) : Nat → List ((Nat × Nat) × Mg) → Nat → List Mg → Prop
  | done {m : Nat} (h : lookS st' (s, x') = none) : Tel s st' x' rd' m st' x' rd'
  | step {m : Nat} {st : List ((Nat × Nat) × Mg)} {x : Nat} {rd : List Mg} {p : (Nat × Nat) × Mg} (h : lookS st (s, x) = some p) (t : Tel s st' x' rd' m (delS (s, x) st) ((x + 1) % 65536) (rd ++ [p.2])) : Tel s st' x' rd' (m + 1) st x rd
set_option maxHeartbeats 2000000 in
theorem w_tell (j : Jn h N nx ch st rd held ro) {s x m : Nat} (hs : nx[s]? = some x) {st' : List ((Nat × Nat) × Mg)} {x' : Nat} {rd' : List Mg} (t : Tel s st' x' rd' m st x rd) (hbig : rd.length + m ≤ 1000000) (hn : m + 2 ≤ n) :
    ResQ (callN Try.prog G0 n (.call 32 [.pointer (some ⟨N + 3, 0, none⟩), .int .u16 (s : Int)]) h) (fun _ h' => ∃ ro', Jn h' N (nx.set s x') ch st' rd' held ro' ∧ Pres N h ro h' ro') := by
  have hsl : s < nx.length := (List.getElem?_eq_some_iff.1 hs).1
  have hnx : nx.set s x = nx := by
    obtain ⟨_, e⟩ := List.getElem?_eq_some_iff.1 hs
    rw [← e]; exact List.set_getElem_self hsl
  obtain ⟨n, rfl⟩ : ∃ m, n = m + 1 := ⟨n - 1, by omega⟩
  refine res_enter rfl d32 rfl ?_; simp only [c32]
  refine o_while (fun m f h' => ∃ st x rd ro', Jn h' N (nx.set s x) ch st rd held ro' ∧ Pres N h ro h' ro' ∧ Tel s st' x' rd' m st x rd ∧ rd.length + m ≤ 1000000 ∧ Sl [(0, .pointer (some ⟨N + 3, 0, none⟩)), (1, .int .u16 (s : Int))] f) m (by omega) ⟨st, x, rd, ro, by rw [hnx]; exact j, Pres.refl, t, hbig, sel_of rfl, sel_of rfl, trivial⟩ ?_
  clear j t hbig hs hnx
  rintro m f h' ⟨st, x, rd, ro', j, p, t, hbig, hsl'⟩
  obtain ⟨f0, rfl⟩ := hsl'.puts
  clear hsl'
  have top := j.top
  have hrow : Row h' 1 (some ⟨N, 0, none⟩) (nx.set s x).length ((nx.set s x).map fun (x : Nat) => Value.int .u16 (x : Int)) := ⟨by simp, by have := j.up; show N < _; omega, .inl rfl, loadN_all j.nxt (by simp)⟩
  simp only [c32_0]
  refine gg ?_; repeat (refine i_ldown (by exact sel_of rfl) (by assumption) (by rfl) ?_; refine gg ?_)
  refine i_idx (by exact sel_of rfl) hrow (i := s) (by exact sel_of rfl) (by simpa using hsl) fun q hq => ?_
  cases hq
  refine gg ?_
  have cell : ∀ (h : Heap) (x : Nat) (sp : Option Nat), Row h 1 (some ⟨N, 0, none⟩) (nx.set s x).length ((nx.set s x).map fun (x : Nat) => Value.int .u16 (x : Int)) → load1 h.get ⟨N, 0 + s * 1, sp⟩ = some (.int .u16 (x : Int)) := fun h x sp r => by
    refine (r.cell (i := s * 1) (by simp; omega) sp).trans ?_
    rw [Nat.mul_one, List.getElem?_map, List.getElem?_set_self hsl]; rfl
  refine i_load1 (v := .int .u16 (x : Int)) (by exact sel_of rfl) (cell h' x _ hrow) ?_
  refine gg ?_
  cases t with
  | done hz =>
    refine i_call2 (by exact sel_of rfl) (by rw [sel_of rfl]; rfl) (w_pullN j (k := (s, x')) hz (by omega)) ?_
    rintro _ h1 ⟨rfl, k1⟩
    refine gg ?_
    exact ⟨ro', j.keeps k1, p.trans (Pres.keeps k1)⟩
  | @step m _ _ _ pp hz t' =>
    refine i_call2 (by exact sel_of rfl) (by rw [sel_of rfl]; rfl) (w_pullS j (k := (s, x)) hz (by omega) (by omega)) ?_
    rintro _ h2 ⟨rfl, ro2, j2, p2⟩
    clear top hrow
    have top := j2.top
    have hrow : Row h2 1 (some ⟨N, 0, none⟩) (nx.set s x).length ((nx.set s x).map fun (x : Nat) => Value.int .u16 (x : Int)) := ⟨by simp, by have := j2.up; show N < _; omega, .inl rfl, loadN_all j2.nxt (by simp)⟩
    refine gg ?_; repeat (refine i_ldown (by exact sel_of rfl) (by assumption) (by rfl) ?_; refine gg ?_)
    refine i_idx (by exact sel_of rfl) hrow (i := s) (by exact sel_of rfl) (by simpa using hsl) fun q hq => ?_
    cases hq
    refine i_load1 (v := .int .u16 (x : Int)) (by exact sel_of rfl) (cell h2 x _ hrow) ?_
    refine i_addW (by exact sel_of rfl) (by rfl) (wrap_u16 (x + 1)) ?_
    refine i_idx (by exact sel_of rfl) hrow (i := s) (by exact sel_of rfl) (by simpa using hsl) fun q hq => ?_
    cases hq
    refine i_store1 (u := ⟨N, 0 + s * 1, some 0⟩) (v := .int .u16 (((x + 1) % 65536 : Nat) : Int)) (by exact sel_of rfl) (by rw [sel_of rfl]; rfl) j2.nxt (by simp; omega) ?_
    refine gg ?_
    have p3 : Pres N h2 ro2 (h2.put N (.cells 27 (((nx.set s x).map fun (x : Nat) => Value.int .u16 (x : Int)).set (0 + s * 1) (.int .u16 (((x + 1) % 65536 : Nat) : Int))) (.own false))) ro2 := Pres.put (Nat.le_refl _) (by omega) _
    have kd := p3.kd
    have jup := j2.up
    obtain ⟨es1, c1, a1, b1⟩ := j2.chs
    obtain ⟨es2, c2, a2, b2⟩ := j2.sts
    obtain ⟨cs, ap, hrd⟩ := j2.rdy
    refine rnd_n m (Nat.lt_succ_self _) ⟨delS (s, x) st, (x + 1) % 65536, rd ++ [pp.2], ro2, ⟨?_, ?_, ?_, ⟨es1, c1, ?_, b1.mono kd⟩, ⟨es2, c2, ?_, b2.mono kd⟩, ⟨cs, apB ap (putB h2 N _) (fun q e => by have := j2.ofr q e; omega), hrd.mono kd⟩, j2.ofr⟩, (p.trans p2).trans p3, t', by simp; omega, sel_of rfl, sel_of rfl, trivial⟩
    · exact j2.up
    · rw [Heap.get_put, if_neg (by show N + 3 ≠ N; omega)]
      simpa [jcells] using j2.top
    · rw [Heap.get_put, if_pos rfl, Nat.zero_add, Nat.mul_one, ← List.map_set, List.set_set]
    · rw [Heap.get_put, if_neg (by show N + 1 ≠ N; omega)]; exact a1
    · rw [Heap.get_put, if_neg (by show N + 2 ≠ N; omega)]; exact a2
end
end Go.Proofs.Ytnffglfpjcbfaaa

/-! join.keep in order, walked. -/
set_option linter.unusedVariables false
namespace Go.Proofs.Ytnffglfpjcbfaaa
open Go Vm
section
variable {h : Heap} {n : Nat} {N : Nat} {nx : List Nat} {ch : List (Nat × Ck)} {st : List ((Nat × Nat) × Mg)} {rd : List Mg} {held : Nat} {ro : Option Addr}
set_option maxHeartbeats 2000000 in
theorem w_keepO (j : Jn h N nx ch st rd held ro) {m : Mg} {v : List Value} (hv : MgAt h N ro m v) (hu : m.un = false) {ssn x : Nat} (hz : lookS st (m.str, ssn) = none) (hx : nx[m.str]? = some x) (hl : ¬(ssn ≠ x ∧ (x + 65536 - ssn) % 65536 ≤ 32767)) (hs16 : ssn < 65536) (hx16 : x < 65536) {st' : List ((Nat × Nat) × Mg)} {x' : Nat} {rd' : List Mg} {mm : Nat} (t : Tel m.str st' x' rd' mm (st ++ [((m.str, ssn), m)]) x rd) (hbig : rd.length + mm ≤ 1000000) (hn : mm + 5 ≤ n) :
    ResQ (callN Try.prog G0 n (.call 23 [.pointer (some ⟨N + 3, 0, none⟩), .agg v.toArray, .int .u16 (ssn : Int)]) h) (fun _ h' => ∃ ro', Jn h' N (nx.set m.str x') ch st' rd' held ro' ∧ Pres N h ro h' ro') := by
  obtain ⟨om, cap, rfl, hd⟩ := hv
  obtain ⟨es, cc, gm, hes⟩ := j.sts
  have jup := j.up
  have top := j.top
  obtain ⟨n, rfl⟩ : ∃ m, n = m + 1 := ⟨n - 1, by omega⟩
  refine res_enter rfl d23 rfl ?_; simp only [c23]
  refine o_cut (fun f h1 => (Keeps h h1 ∧ h.next < h1.next ∧ h1.get h.next = some (.cells 30 (mgv m om cap) (.own false))) ∧ Sl [(0, .pointer (some ⟨N + 3, 0, none⟩)), (2, .int .u16 (ssn : Int)), (4, .pointer (some ⟨h.next, 0, none⟩))] f) ?_ ?_
  · refine gg ?_
    exact ⟨rfl, ⟨Keeps.new h _, Nat.lt_succ_self _, by rw [Heap.get_new, if_pos rfl]⟩, sel_of rfl, sel_of rfl, sel_of rfl, trivial⟩
  rintro f1 h1 ⟨⟨k1, lt1, g1⟩, hs⟩
  obtain ⟨f0, rfl⟩ := hs.puts
  clear hs
  refine o_cut (fun f h2 => (Keeps h1 h2 ∧ h1.next < h2.next ∧ h2.get h1.next = some (.cells 78 [.int .u16 (m.str : Int), .int .u16 (ssn : Int)] (.own false))) ∧ Sl [(0, .pointer (some ⟨N + 3, 0, none⟩)), (2, .int .u16 (ssn : Int)), (4, .pointer (some ⟨h.next, 0, none⟩)), (6, .pointer (some ⟨h1.next, 0, none⟩))] f) ?_ ?_
  · refine gg ?_
    refine i_load1 (v := .int .u16 (m.str : Int)) (by exact sel_of rfl) ((load1_own g1).trans (by rfl)) ?_
    refine gg ?_
    refine i_storeF (vs := [.int .u16 (m.str : Int), .int .u16 (ssn : Int)]) (Keeps.new h1 _) (Nat.le_refl _) (by exact sel_of rfl) (by rw [sel_of rfl]; rfl) (by rw [Heap.get_new, if_pos rfl]) rfl rfl (Nat.lt_succ_self _) fun h2 k2 g2 lt2 => ?_
    refine gg ?_
    exact ⟨rfl, ⟨k2, lt2, g2⟩, sel_of rfl, sel_of rfl, sel_of rfl, sel_of rfl, trivial⟩
  rintro f2 h2 ⟨⟨k2, lt2, g2⟩, hs⟩
  obtain ⟨f0, rfl⟩ := hs.puts
  clear hs
  have k02 := k1.trans k2
  have top2 := (k02.get _ (by omega)).trans top
  have gm2 := (k02.get _ (by omega)).trans gm
  refine o_cut (fun f h3 => (Keeps h2 h3 ∧ ∃ b, (b = true ↔ ∃ p, lookS st (m.str, ssn) = some p) ∧ Sl [(0, .pointer (some ⟨N + 3, 0, none⟩)), (2, .int .u16 (ssn : Int)), (4, .pointer (some ⟨h.next, 0, none⟩)), (6, .pointer (some ⟨h1.next, 0, none⟩)), (8, .bool b)] f)) ?_ ?_
  · refine gg ?_; repeat (refine i_ldown (by exact sel_of rfl) (by assumption) (by rfl) ?_; refine gg ?_)
    refine i_loadN (v := [.int .u16 (m.str : Int), .int .u16 (ssn : Int)]) (by exact sel_of rfl) (loadN_all g2 rfl) ?_
    cases hz' : lookS st (m.str, ssn) with
    | none =>
      refine i_lookup (ok := true) (res := none) (by exact sel_of rfl) gm2 (kv := nkey (m.str, ssn)) (by rw [sel_of rfl]; rfl) rfl ((hes.find _).1 hz') ?_
      show ItQ (runItems _ _ (puts ((19, .tuple #[.agg #[.int .u16 0, .bool false, .int .u32 0, .slice none 0 0], .bool false]) :: _) _) _) _
      refine gg ?_
      refine i_storeF (vs := [.int .u16 0, .bool false, .int .u32 0, .slice none 0 0]) (Keeps.new h2 _) (Nat.le_refl _) (by exact sel_of rfl) (by rw [sel_of rfl]; rfl) (by rw [Heap.get_new, if_pos rfl]) rfl rfl (Nat.lt_succ_self _) fun h3 k3 g3 lt3 => ?_
      refine gg ?_
      exact ⟨rfl, k3, false, by simp, sel_of rfl, sel_of rfl, sel_of rfl, sel_of rfl, sel_of rfl, trivial⟩
    | some p =>
      obtain ⟨vx, sx, fe, ox, cx, rfl, dx⟩ := (hes.find _).2 _ hz'
      refine i_lookup (ok := true) (res := some (.agg (mgv p.2 ox cx).toArray, sx)) (by exact sel_of rfl) gm2 (kv := nkey (m.str, ssn)) (by rw [sel_of rfl]; rfl) rfl fe ?_
      show ItQ (runItems _ _ (puts ((19, .tuple #[.agg (mgv p.2 ox cx).toArray, .bool true]) :: _) _) _) _
      refine gg ?_
      refine i_storeF (vs := mgv p.2 ox cx) (Keeps.new h2 _) (Nat.le_refl _) (by exact sel_of rfl) (by rw [sel_of rfl]; rfl) (by rw [Heap.get_new, if_pos rfl]) rfl rfl (Nat.lt_succ_self _) fun h3 k3 g3 lt3 => ?_
      refine gg ?_
      exact ⟨rfl, k3, true, by simp, sel_of rfl, sel_of rfl, sel_of rfl, sel_of rfl, sel_of rfl, trivial⟩
  rintro f3 h3 ⟨k3, b, hb, hs⟩
  obtain ⟨f0, rfl⟩ := hs.puts
  clear hs
  have k03 := k02.trans k3
  have g3 := (k3.get _ (Nat.lt_of_lt_of_le lt1 k2.next)).trans ((k2.get _ lt1).trans g1)
  have j3 := j.keeps k03
  have lt3 : h.next < h3.next := by have := k2.next; have := k3.next; omega
  have gn3 := (k3.get _ lt2).trans g2
  clear top top2 gm gm2 hes
  have top := j3.top
  have hbf : b = false := by
    cases b with
    | false => rfl
    | true => obtain ⟨p, hp⟩ := hb.1 rfl; rw [hz] at hp; cases hp
  subst hbf
  have hsl : m.str < nx.length := (List.getElem?_eq_some_iff.1 hx).1
  have jup3 := j3.up
  have hrow : Row h3 1 (some ⟨N, 0, none⟩) nx.length (nx.map fun (x : Nat) => Value.int .u16 (x : Int)) := ⟨by simp, by show N < _; omega, .inl rfl, loadN_all j3.nxt (by simp)⟩
  refine gg ?_; repeat (refine i_ldown (by exact sel_of rfl) (by assumption) (by rfl) ?_; refine gg ?_)
  rw [hu]
  refine gg ?_; repeat (refine i_ldown (by exact sel_of rfl) (by assumption) (by rfl) ?_; refine gg ?_)
  refine i_idx (by exact sel_of rfl) hrow (i := m.str) (by exact sel_of rfl) hsl fun q hq => ?_
  cases hq
  refine gg ?_
  refine i_load1 (v := .int .u16 (x : Int)) (by exact sel_of rfl) ((hrow.cell (i := m.str * 1) (by omega) _).trans (by rw [Nat.mul_one, List.getElem?_map, hx]; rfl)) ?_
  refine gg ?_
  refine i_call2 (by exact sel_of rfl) (by exact sel_of rfl) (w_less hs16 hx16 (by omega)) ?_
  rintro _ _ ⟨rfl, rfl⟩
  rw [decide_eq_false hl]
  refine gg ?_; repeat (refine i_ldown (by exact sel_of rfl) (by assumption) (by rfl) ?_; refine gg ?_)
  refine i_loadN (v := [.int .u16 (m.str : Int), .int .u16 (ssn : Int)]) (by exact sel_of rfl) (loadN_all gn3 rfl) ?_
  refine i_loadN (v := mgv m om cap) (by exact sel_of rfl) (loadN_all g3 rfl) ?_
  obtain ⟨es1, c1, a1, b1⟩ := j3.chs
  obtain ⟨es2, c2, a2, b2⟩ := j3.sts
  obtain ⟨cs, ap, hrd⟩ := j3.rdy
  have hm3 : MgAt h3 N ro m (mgv m om cap) := ⟨om, cap, rfl, KD.keeps k03 _ _ hd⟩
  obtain ⟨es', c', hput, hes'⟩ := b2.put (cc := c2) hm3 hz
  refine i_mapUpd (by exact sel_of rfl) a2 (kv := nkey (m.str, ssn)) (v := .agg (mgv m om cap).toArray) (by rw [sel_of rfl]; rfl) (by exact sel_of rfl) rfl hput ?_
  have p4 : Pres N h3 ro (h3.put (N + 2) (.map es' c')) ro := Pres.put (by omega) (by omega) _
  have kd := p4.kd
  have j4 : Jn (h3.put (N + 2) (.map es' c')) N nx ch (st ++ [((m.str, ssn), m)]) rd held ro :=
    ⟨j3.up, by rw [Heap.get_put, if_neg (by omega)]; exact j3.top, by rw [Heap.get_put, if_neg (by omega)]; exact j3.nxt, ⟨es1, c1, by rw [Heap.get_put, if_neg (by omega)]; exact a1, b1.mono kd⟩, ⟨es', c', by rw [Heap.get_put, if_pos rfl], hes'.mono kd⟩, ⟨cs, apB ap (putB h3 (N + 2) _) (fun q e => by have := j3.ofr q e; omega), hrd.mono kd⟩, j3.ofr⟩
  have g4 : (h3.put (N + 2) (.map es' c')).get h.next = some (.cells 30 (mgv m om cap) (.own false)) := by rw [Heap.get_put, if_neg (by omega)]; exact g3
  generalize h3.put (N + 2) (.map es' c') = h4 at *
  clear top
  refine gg ?_; repeat (refine i_ldown (by exact sel_of rfl) (by assumption) (by rfl) ?_; refine gg ?_)
  refine i_call2 (by exact sel_of rfl) (by exact sel_of rfl) (w_tell j4 hx t hbig (by omega)) ?_
  rintro _ h5 ⟨ro', j5, p5⟩
  refine gg ?_
  exact ⟨ro', j5, ((Pres.keeps k03).trans p4).trans p5⟩
end
end Go.Proofs.Ytnffglfpjcbfaaa

/-! join.Add, walked. -/
set_option linter.unusedVariables false
namespace Go.Proofs.Ytnffglfpjcbfaaa
open Go Vm
section
variable {h : Heap} {n : Nat} {N : Nat} {nx : List Nat} {ch : List (Nat × Ck)} {st : List ((Nat × Nat) × Mg)} {rd : List Mg} {held : Nat} {ro : Option Addr}
def delAll : List Ck → List (Nat × Ck) → List (Nat × Ck)
  | [], ch => ch
  | c :: l, ch => delAll l (delK c.A ch)
theorem delAll_snoc (x : Ck) : ∀ (l : List Ck) (ch : List (Nat × Ck)), delAll (l ++ [x]) ch = delK x.A (delAll l ch)
  | [], _ => rfl
  | c :: l, ch => delAll_snoc x l (delK c.A ch)
set_option maxRecDepth 20000 in
set_option maxHeartbeats 4000000 in
theorem w_add (j : Jn h N nx ch st rd held ro) {c : Ck} (wc : c.wf) (hd0 : c.dt ≠ []) {o : Option Addr} {cap : Nat} (hrow : Row h 1 o c.dt.length (u8s c.dt)) (hout : c.out < nx.length) (hz : look ch c.A = none) (hfull : held + c.dt.length ≤ 65536) {r : Option (List Ck)} (hn : 4 ≤ n)
    (hrun : ∀ m h' v, n = m + 1 → Jn h' N nx (ch ++ [(c.A, c)]) st rd (held + c.dt.length) ro → CkAt h' N ro c v → ResQ (callN Try.prog G0 m (.call 21 [.pointer (some ⟨N + 3, 0, none⟩), .agg v.toArray]) h') (RunQ h' N ro r))
    {S : Heap → Option Addr → Prop}
    (hnone : r = none → ∀ h', Jn h' N nx (ch ++ [(c.A, c)]) st rd (held + c.dt.length) ro → S h' ro)
    (hsome : ∀ l, r = some l → ∃ b l', l = b :: l' ∧ (∀ c ∈ l, c.wf ∧ c.dt ≠ []) ∧ Fols b l' ∧ b.fl &&& 2 = 2 ∧ (∀ c, l.getLast? = some c → c.fl &&& 1 = 1) ∧ (dts l).length ≤ 1000000 ∧ l'.length ≤ 100000 ∧ l'.length + 7 ≤ n ∧
      ∀ m h' v, n = m + 1 → Jn h' N nx (delAll l (ch ++ [(c.A, c)])) st rd (held + c.dt.length) ro → MgAt h' N ro (whole b l') v → ResQ (callN Try.prog G0 m (.call 23 [.pointer (some ⟨N + 3, 0, none⟩), .agg v.toArray, .int .u16 (b.inn : Int)]) h') (fun _ h'' => ∃ ro', S h'' ro' ∧ Pres N h' ro h'' ro')) :
    ResQ (callN Try.prog G0 n (.call 11 [.pointer (some ⟨N + 3, 0, none⟩), .agg (ckv c o cap).toArray]) h) (fun v h' => v = .int .i64 0 ∧ ∃ ro', S h' ro' ∧ Pres N h ro h' ro') := by
  have jup := j.up
  have top := j.top
  obtain ⟨es, cc, gm, hes⟩ := j.chs
  obtain ⟨n, rfl⟩ : ∃ m, n = m + 1 := ⟨n - 1, by omega⟩
  refine res_enter rfl d11 rfl ?_; simp only [c11]
  refine o_cut (fun f h1 => (Keeps h h1 ∧ h1.next = h.next + 1 ∧ h1.get h.next = some (.cells 42 (ckv c o cap) (.own false))) ∧ Sl [(0, .pointer (some ⟨N + 3, 0, none⟩)), (3, .pointer (some ⟨h.next, 0, none⟩)), (4, .int .i64 0)] f) ?_ ?_
  · refine gg ?_
    exact ⟨rfl, ⟨Keeps.new h _, rfl, by rw [Heap.get_new, if_pos rfl]⟩, sel_of rfl, sel_of rfl, sel_of rfl, trivial⟩
  rintro f1 h1 ⟨⟨k1, n1, g1⟩, hs⟩
  obtain ⟨f0, rfl⟩ := hs.puts
  clear hs
  have hdl : c.dt.length ≠ 0 := fun e => hd0 (List.length_eq_zero_iff.1 e)
  refine o_cut (fun f h2 => h2 = h1 ∧ Sl [(0, .pointer (some ⟨N + 3, 0, none⟩)), (3, .pointer (some ⟨h.next, 0, none⟩)), (4, .int .i64 0)] f) ?_ ?_
  · refine gg ?_; repeat (refine i_ldown (by exact sel_of rfl) (by assumption) (by rfl) ?_; refine gg ?_)
    rw [decide_eq_false (p := ((c.dt.length : Nat) : Int) = 0) (by omega)]
    refine gg ?_; repeat (refine i_ldown (by exact sel_of rfl) (by assumption) (by rfl) ?_; refine gg ?_)
    exact ⟨rfl, rfl, sel_of rfl, sel_of rfl, sel_of rfl, trivial⟩
  rintro f2 h2 ⟨e, hs⟩
  subst e
  obtain ⟨f0, rfl⟩ := hs.puts
  clear hs
  have top1 := (k1.get _ (by omega)).trans top
  have gm1 := (k1.get _ (by omega)).trans gm
  refine o_cut (fun f h3 => Keeps h2 h3 ∧ Sl [(0, .pointer (some ⟨N + 3, 0, none⟩)), (3, .pointer (some ⟨h.next, 0, none⟩)), (4, .int .i64 0), (6, .bool false)] f) ?_ ?_
  · refine gg ?_; repeat (refine i_ldown (by exact sel_of rfl) (by assumption) (by rfl) ?_; refine gg ?_)
    refine i_lookup (ok := true) (res := none) (by exact sel_of rfl) gm1 (kv := .int .u32 (c.A : Int)) (by rw [sel_of rfl]) rfl ((hes.find _).1 hz) ?_
    show ItQ (runItems _ _ (puts ((32, .tuple #[zck, .bool false]) :: _) _) _) _
    refine gg ?_
    refine i_storeF (vs := [.int .u8 0, .int .u8 0, .int .u32 0, .int .u32 0, .int .u16 0, .int .u16 0, .int .u32 0, .slice none 0 0, .slice none 0 0, .slice none 0 0, .slice none 0 0, .slice none 0 0]) (Keeps.new h2 _) (Nat.le_refl _) (by exact sel_of rfl) (by rw [sel_of rfl]; rfl) (by rw [Heap.get_new, if_pos rfl]) rfl rfl (Nat.lt_succ_self _) fun h3 k3 g3 lt3 => ?_
    refine gg ?_
    exact ⟨rfl, k3, sel_of rfl, sel_of rfl, sel_of rfl, sel_of rfl, trivial⟩
  rintro f3 h3 ⟨k3, hs⟩
  obtain ⟨f0, rfl⟩ := hs.puts
  clear hs
  have k03 := k1.trans k3
  have j3 := j.keeps k03
  have g3 := (k3.get _ (by omega : h.next < h2.next)).trans g1
  clear top top1 gm gm1
  have top := j3.top
  refine o_cut (fun f h4 => h4 = h3 ∧ Sl [(0, .pointer (some ⟨N + 3, 0, none⟩)), (3, .pointer (some ⟨h.next, 0, none⟩)), (4, .int .i64 0)] f) ?_ ?_
  · refine gg ?_; repeat (refine i_ldown (by exact sel_of rfl) (by assumption) (by rfl) ?_; refine gg ?_)
    refine i_call2 (by exact sel_of rfl) (by exact sel_of rfl) (w_knows j3 hout wc.out (by omega)) ?_
    rintro _ _ ⟨rfl, rfl⟩
    refine gg ?_; repeat (refine i_ldown (by exact sel_of rfl) (by assumption) (by rfl) ?_; refine gg ?_)
    exact ⟨rfl, rfl, sel_of rfl, sel_of rfl, sel_of rfl, trivial⟩
  rintro f4 h4 ⟨e, hs⟩
  subst e
  obtain ⟨f0, rfl⟩ := hs.puts
  clear hs
  have lt4 : h.next < h4.next := by have := k3.next; omega
  have bro : ∀ r, ro = some r → r.block < h.next := fun r e => by
    obtain ⟨cs0, ap0, _⟩ := j.rdy
    subst e
    exact ap0.2.1.2.1
  refine o_cut (fun f h5 => (Keeps h h5 ∧ h.next < h5.next ∧ ∃ v, h5.get h.next = some (.cells 42 v (.own false)) ∧ CkAt h5 N ro c v) ∧ Sl [(0, .pointer (some ⟨N + 3, 0, none⟩)), (3, .pointer (some ⟨h.next, 0, none⟩)), (4, .int .i64 0)] f) ?_ ?_
  · refine gg ?_; repeat (refine i_ldown (by exact sel_of rfl) (by assumption) (by rfl) ?_; refine gg ?_)
    refine i_call1 (by exact sel_of rfl) (w_clone (hrow.keeps k03) hd0 (by omega) (by omega)) ?_
    rintro _ h5 ⟨q, rfl, k5, ap5, hq⟩
    have g5 := (k5.get _ lt4).trans g3
    refine gg ?_
    refine i_store1 (u := ⟨h.next, 0 + 11, none⟩) (v := .slice (some q) c.dt.length c.dt.length) (by exact sel_of rfl) (by rw [sel_of rfl]; rfl) g5 (by show 0 + 11 < 12; decide) ?_
    refine gg ?_
    have lt5 : h.next < h5.next := Nat.lt_of_lt_of_le lt4 k5.next
    refine ⟨rfl, ⟨(k03.trans k5).put (Nat.le_refl _) _, lt5, ckv c (some q) c.dt.length, by rw [Heap.get_put, if_pos rfl]; rfl, ⟨some q, c.dt.length, rfl, ap5.row.keepsB (putB h5 h.next _) (fun q' e => by cases e; omega), fun q' e => by cases e; exact ⟨by omega, fun r er => by have := bro r er; omega⟩⟩⟩, sel_of rfl, sel_of rfl, sel_of rfl, trivial⟩
  rintro f5 h5 ⟨⟨k5, lt5, v, g5, hv⟩, hs⟩
  obtain ⟨f0, rfl⟩ := hs.puts
  clear hs top g3 j3
  have j5 := j.keeps k5
  have hvl := hv.length
  refine o_cut (fun f h6 => (Jn h6 N nx (ch ++ [(c.A, c)]) st rd held ro ∧ Pres N h ro h6 ro ∧ h.next < h6.next ∧ h6.get h.next = some (.cells 42 v (.own false)) ∧ CkAt h6 N ro c v) ∧ Sl [(0, .pointer (some ⟨N + 3, 0, none⟩)), (3, .pointer (some ⟨h.next, 0, none⟩)), (4, .int .i64 0)] f) ?_ ?_
  · have top := j5.top
    obtain ⟨oc, capc, rfl, hdc⟩ := hv
    refine gg ?_; repeat (refine i_ldown (by exact sel_of rfl) (by assumption) (by rfl) ?_; refine gg ?_)
    refine i_loadN (v := ckv c oc capc) (by exact sel_of rfl) (loadN_all g5 rfl) ?_
    obtain ⟨es1, c1, a1, b1⟩ := j5.chs
    obtain ⟨es2, c2, a2, b2⟩ := j5.sts
    obtain ⟨cs, ap, hrd⟩ := j5.rdy
    obtain ⟨es', c', hput, hes'⟩ := b1.put (cc := c1) ⟨oc, capc, rfl, hdc⟩ hz
    refine i_mapUpd (by exact sel_of rfl) a1 (kv := .int .u32 (c.A : Int)) (v := .agg (ckv c oc capc).toArray) (by rw [sel_of rfl]) (by exact sel_of rfl) rfl hput ?_
    have p6 : Pres N h5 ro (h5.put (N + 1) (.map es' c')) ro := Pres.put (by omega) (by omega) _
    have kd := p6.kd
    refine gg ?_
    refine ⟨rfl, ⟨⟨j5.up, by rw [Heap.get_put, if_neg (by omega)]; exact j5.top, by rw [Heap.get_put, if_neg (by omega)]; exact j5.nxt, ⟨es', c', by rw [Heap.get_put, if_pos rfl], hes'.mono kd⟩, ⟨es2, c2, by rw [Heap.get_put, if_neg (by omega)]; exact a2, b2.mono kd⟩, ⟨cs, apB ap (putB h5 (N + 1) _) (fun q e => by have := j5.ofr q e; omega), hrd.mono kd⟩, j5.ofr⟩, (Pres.keeps k5).trans p6, lt5, by rw [Heap.get_put, if_neg (by omega)]; exact g5, ⟨oc, capc, rfl, kd _ _ hdc⟩⟩, sel_of rfl, sel_of rfl, sel_of rfl, trivial⟩
  rintro f6 h6 ⟨⟨j6, p6, lt6, g6, hv6⟩, hs⟩
  obtain ⟨f0, rfl⟩ := hs.puts
  clear hs j5 g5 hv k5 lt5
  refine o_cut (fun f h7 => (Jn h7 N nx (ch ++ [(c.A, c)]) st rd (held + c.dt.length) ro ∧ Pres N h ro h7 ro ∧ h.next < h7.next ∧ h7.get h.next = some (.cells 42 v (.own false)) ∧ CkAt h7 N ro c v) ∧ Sl [(0, .pointer (some ⟨N + 3, 0, none⟩)), (3, .pointer (some ⟨h.next, 0, none⟩)), (4, .int .i64 0)] f) ?_ ?_
  · have top := j6.top
    obtain ⟨oc, capc, rfl, hdc⟩ := hv6
    refine gg ?_; repeat (refine i_ldown (by exact sel_of rfl) (by assumption) (by rfl) ?_; refine gg ?_)
    refine i_store1 (u := ⟨N + 3, 0 + 4, none⟩) (v := .int .i64 ((held + c.dt.length : Nat) : Int)) (by exact sel_of rfl) (by rw [sel_of rfl]; rfl) top (by show 0 + 4 < 5; decide) ?_
    refine gg ?_
    have p7 : Pres N h6 ro (h6.put (N + 3) (.cells 64 ((jcells N nx ro rd.length held).set (0 + 4) (.int .i64 ((held + c.dt.length : Nat) : Int))) (.own false))) ro := Pres.put (by omega) (by omega) _
    have kd := p7.kd
    obtain ⟨es1, c1, a1, b1⟩ := j6.chs
    obtain ⟨es2, c2, a2, b2⟩ := j6.sts
    obtain ⟨cs, ap, hrd⟩ := j6.rdy
    refine ⟨rfl, ⟨⟨j6.up, by rw [Heap.get_put, if_pos rfl]; rfl, by rw [Heap.get_put, if_neg (by show N ≠ N + 3; omega)]; exact j6.nxt, ⟨es1, c1, by rw [Heap.get_put, if_neg (by show N + 1 ≠ N + 3; omega)]; exact a1, b1.mono kd⟩, ⟨es2, c2, by rw [Heap.get_put, if_neg (by show N + 2 ≠ N + 3; omega)]; exact a2, b2.mono kd⟩, ⟨cs, apB ap (putB h6 (N + 3) _) (fun q e => by have := j6.ofr q e; omega), hrd.mono kd⟩, j6.ofr⟩, p6.trans p7, lt6, by rw [Heap.get_put, if_neg (by show h.next ≠ N + 3; omega)]; exact g6, ⟨oc, capc, rfl, kd _ _ hdc⟩⟩, sel_of rfl, sel_of rfl, sel_of rfl, trivial⟩
  rintro f7 h7 ⟨⟨j7, p7, lt7, g7, hv7⟩, hs⟩
  obtain ⟨f0, rfl⟩ := hs.puts
  clear hs j6 g6 hv6 p6 lt6
  refine o_cut (fun f h8 => (∃ ro', S h8 ro' ∧ Pres N h ro h8 ro') ∧ Sl [] f) ?_ ?_
  · refine gg ?_
    refine i_loadN (v := v) (by exact sel_of rfl) (loadN_all g7 hvl) ?_
    refine gg ?_
    refine i_call2 (by exact sel_of rfl) (by exact sel_of rfl) (hrun _ h7 v rfl j7 hv7) ?_
    rintro u h8 ⟨k8, hr8⟩
    cases r with
    | none =>
      have e8 : u = .slice none 0 0 := hr8
      subst e8
      refine gg ?_
      exact ⟨rfl, ⟨ro, hnone rfl h8 (j7.keeps k8), p7.trans (Pres.keeps k8)⟩, trivial⟩
    | some l =>
      obtain ⟨b, l', rfl, hwf, hfol, hbg, hen, hbig, hll, hnl, hkeep⟩ := hsome _ rfl
      obtain ⟨ol, csl, rfl, apl, hflo, hcl⟩ := hr8
      refine gg ?_
      rw [decide_eq_true (p := (0 : Int) < ((((b :: l').length : Nat)) : Int)) (by simp)]
      refine gg ?_
      have hlen : (b :: l').length ≤ 100001 := by simp; omega
      have j8 := j7.keeps k8
      have bro : ∀ q, ol = some q → (q.block < N ∨ N + 4 ≤ q.block) ∧ Apart ro q.block := fun q e => by
        have := hflo q e
        have := j7.up
        exact ⟨.inr (by omega), fun r er => by
          obtain ⟨cs0, ap0, _⟩ := j7.rdy
          subst er
          have : r.block < h7.next := ap0.2.1.2.1
          omega⟩
      refine o_up (b :: l').length (fun i f h' => (Jn h' N nx (delAll ((b :: l').take i) (ch ++ [(c.A, c)])) st rd (held + c.dt.length) ro ∧ Pres N h8 ro h' ro) ∧ Sl [(80, .slice ol (b :: l').length (b :: l').length), (81, .int .i64 ((b :: l').length : Int)), (82, .int .i64 (i : Int)), (7, .slice ol (b :: l').length (b :: l').length), (0, .pointer (some ⟨N + 3, 0, none⟩)), (3, .pointer (some ⟨h.next, 0, none⟩)), (4, .int .i64 0)] f) (by simp; omega) ?_ ?_
      · exact ⟨⟨j8, Pres.refl⟩, sel_of rfl, sel_of rfl, sel_of rfl, sel_of rfl, sel_of rfl, sel_of rfl, sel_of rfl, trivial⟩
      rintro i f h' hi ⟨⟨jj, pp⟩, hs⟩
      obtain ⟨f0, rfl⟩ := hs.puts
      clear hs
      have rowl := pp.row apl.row bro
      have cll := hcl.mono pp.kd
      simp only [c11_0]
      refine gg ?_
      refine out_if (by exact sel_of rfl) (fun hif => ?_) (fun hif => ?_)
      · have hi' : i < (b :: l').length := by omega
        obtain ⟨x, hxi⟩ : ∃ c, (b :: l')[i]? = some c := ⟨_, List.getElem?_eq_getElem hi'⟩
        obtain ⟨vx, ⟨ox, capx, rfl, hdx⟩, hvx⟩ := cll.at hxi
        refine gg ?_
        refine i_idx (by exact sel_of rfl) rowl (i := i) (by exact sel_of rfl) hi' fun q hq => ?_
        subst hq
        refine i_loadN (v := ckv x ox capx) (by exact sel_of rfl) (by rw [← hvx]; exact rowl.cells (by omega) _) ?_
        refine gg ?_
        refine i_storeF (vs := ckv x ox capx) (Keeps.new h' _) (Nat.le_refl _) (by exact sel_of rfl) (by rw [sel_of rfl]; rfl) (by rw [Heap.get_new, if_pos rfl]) rfl rfl (Nat.lt_succ_self _) fun h9 k9 g9 lt9 => ?_
        have j9 := jj.keeps k9
        have top := j9.top
        refine gg ?_; repeat (refine i_ldown (by exact sel_of rfl) (by assumption) (by rfl) ?_; refine gg ?_)
        obtain ⟨es1, c1, a1, b1⟩ := j9.chs
        obtain ⟨es2, c2, a2, b2⟩ := j9.sts
        obtain ⟨cs9, ap9, hrd9⟩ := j9.rdy
        obtain ⟨es', hdel, hes'⟩ := b1.del x.A
        refine i_mapDel (by exact sel_of rfl) a1 (kv := .int .u32 (x.A : Int)) (by rw [sel_of rfl]) rfl hdel ?_
        have p10 : Pres N h9 ro (h9.put (N + 1) (.map es' c1)) ro := Pres.put (by omega) (by omega) _
        have kd := p10.kd
        refine gg ?_
        refine rnd_up hi' ⟨⟨⟨j9.up, by rw [Heap.get_put, if_neg (by omega)]; exact j9.top, by rw [Heap.get_put, if_neg (by omega)]; exact j9.nxt, ⟨es', c1, by rw [Heap.get_put, if_pos rfl], by rw [List.take_add_one, hxi]; simpa [delAll_snoc] using hes'.mono kd⟩, ⟨es2, c2, by rw [Heap.get_put, if_neg (by omega)]; exact a2, b2.mono kd⟩, ⟨cs9, apB ap9 (putB h9 (N + 1) _) (fun q' e => by have := j9.ofr q' e; omega), hrd9.mono kd⟩, j9.ofr⟩, (pp.trans (Pres.keeps k9)).trans p10⟩, sel_of rfl, sel_of rfl, sel_of rfl, sel_of rfl, sel_of rfl, sel_of rfl, sel_of rfl, trivial⟩
      · have hil : i = (b :: l').length := by omega
        subst hil
        rw [List.take_length] at jj
        refine gg ?_
        refine i_call1 (by exact sel_of rfl) (w_whole rowl cll hwf hfol hbg hen hbig hll (by omega)) ?_
        rintro _ h9 ⟨om, rfl, k9, apm, flom⟩
        refine gg ?_
        refine i_storeF (vs := mgv (whole b l') om (dts (b :: l')).length) (Keeps.new h9 _) (Nat.le_refl _) (by exact sel_of rfl) (by rw [sel_of rfl]; rfl) (by rw [Heap.get_new, if_pos rfl]) rfl rfl (Nat.lt_succ_self _) fun h10 k10 g10 lt10 => ?_
        refine gg ?_
        refine i_loadN (v := mgv (whole b l') om (dts (b :: l')).length) (by exact sel_of rfl) (loadN_all g10 rfl) ?_
        refine gg ?_
        have k810 := k9.trans k10
        refine i_idx (by exact sel_of rfl) (rowl.keeps k810) (i := 0) (by rfl) (by simp) fun q hq => ?_
        obtain ⟨vb, ⟨ob, capb, rfl, hdb⟩, hvb⟩ := cll.at (i := 0) (c := b) rfl
        subst hq
        refine gg ?_
        refine i_load1 (v := .int .u16 (b.inn : Int)) (by exact sel_of rfl) (((rowl.keeps k810).cell (i := 0 * 12 + 5) (by simp; omega) _).trans (by have := congrArg (fun l => l[5]?) hvb; simpa [ckv, List.getElem?_take, List.getElem?_drop] using this)) ?_
        have jj10 := jj.keeps k810
        refine i_call3 (by exact sel_of rfl) (by exact sel_of rfl) (by exact sel_of rfl) (hkeep _ h10 (mgv (whole b l') om (dts (b :: l')).length) rfl jj10 ⟨om, _, rfl, (apm.keeps k10).row, fun q' e => ⟨by have := flom q' e; have := jj.up; omega, fun r er => by
          have := flom q' e
          obtain ⟨cs0, ap0, _⟩ := jj.rdy
          subst er
          have : r.block < h'.next := ap0.2.1.2.1
          omega⟩⟩) ?_
        rintro _ h11 ⟨ro', hS, p11⟩
        refine gg ?_
        exact ⟨rfl, ⟨ro', hS, ((((p7.trans (Pres.keeps k8)).trans pp).trans (Pres.keeps k810)).trans p11)⟩, trivial⟩
  · rintro f9 h9 ⟨⟨ro', hS, p9⟩, hs⟩
    clear hs
    refine gg ?_
    show ItQ (runItems _ _ (puts [] f9) h9) _
    refine gg ?_
    exact ⟨rfl, ro', hS, p9⟩
end
end Go.Proofs.Ytnffglfpjcbfaaa

/-! join.Take, walked. -/
set_option linter.unusedVariables false
namespace Go.Proofs.Ytnffglfpjcbfaaa
open Go Vm
def mts (l : List Mg) : Nat := (l.map (·.dt.length)).sum
section
variable {h : Heap} {n : Nat} {N : Nat} {nx : List Nat} {ch : List (Nat × Ck)} {st : List ((Nat × Nat) × Mg)} {rd : List Mg} {held : Nat} {ro : Option Addr}
theorem MgAt.length {m : Mg} {v : List Value} (x : MgAt h N ro m v) : v.length = 4 := by
  obtain ⟨o, cap, rfl, _⟩ := x; rfl
theorem RdL.at : ∀ {l : List Mg} {cs : List Value} {i : Nat} {c : Mg}, RdL h N ro cs l → l[i]? = some c → ∃ v, MgAt h N ro c v ∧ (cs.drop (i * 4)).take 4 = v
  | [], _, i, c, _, e => by simp at e
  | d :: l, _, 0, c, ⟨v, cs', e, x, r⟩, e' => by
    cases e'
    refine ⟨v, x, ?_⟩
    subst e
    rw [Nat.zero_mul, List.drop_zero, List.take_append_of_le_length (by rw [x.length]; exact Nat.le_refl _), List.take_of_length_le (by rw [x.length]; exact Nat.le_refl _)]
  | d :: l, _, i + 1, c, ⟨v, cs', e, x, r⟩, e' => by
    obtain ⟨w, y, hw⟩ := RdL.at r (by simpa using e' : l[i]? = some c)
    refine ⟨w, y, ?_⟩
    subst e
    rw [← hw, Nat.succ_mul, Nat.add_comm (i * 4) 4, List.drop_append, x.length, List.drop_of_length_le (by rw [x.length]; omega), List.nil_append, Nat.add_sub_cancel_left]
set_option maxHeartbeats 2000000 in
theorem w_take (j : Jn h N nx ch st rd held ro) (hh : mts rd ≤ held) (hb : held ≤ 1000000) (hl : rd.length ≤ 1000000) (hn : rd.length + 2 ≤ n) :
    ResQ (callN Try.prog G0 n (.call 12 [.pointer (some ⟨N + 3, 0, none⟩)]) h) (fun v h' => v = .slice ro rd.length rd.length ∧ Jn h' N nx ch st [] (held - mts rd) none ∧ Pres N h none h' none ∧ ∃ cs, Row h' 4 ro rd.length cs ∧ RdL h' N none cs rd) := by
  have jup := j.up
  have top := j.top
  obtain ⟨n, rfl⟩ : ∃ m, n = m + 1 := ⟨n - 1, by omega⟩
  refine res_enter rfl d12 rfl ?_; simp only [c12]
  refine gg ?_; repeat (refine i_ldown (by exact sel_of rfl) (by assumption) (by rfl) ?_; refine gg ?_)
  refine o_up rd.length (fun i f h' => (Jn h' N nx ch st rd (held - mts (rd.take i)) ro ∧ Pres N h none h' none) ∧ Sl [(12, .slice ro rd.length rd.length), (13, .int .i64 (rd.length : Int)), (14, .int .i64 (i : Int)), (0, .pointer (some ⟨N + 3, 0, none⟩)), (3, .slice ro rd.length rd.length)] f) (by omega) ?_ ?_
  · exact ⟨⟨by simpa [mts] using j, Pres.refl⟩, sel_of rfl, sel_of rfl, sel_of rfl, sel_of rfl, sel_of rfl, trivial⟩
  clear top
  rintro i f h' hi ⟨⟨jj, pp⟩, hs⟩
  obtain ⟨f0, rfl⟩ := hs.puts
  clear hs
  obtain ⟨cs, ap, hrd⟩ := jj.rdy
  simp only [c12_0]
  refine gg ?_
  refine out_if (by exact sel_of rfl) (fun hif => ?_) (fun hif => ?_)
  · have hi' : i < rd.length := by omega
    obtain ⟨x, hxi⟩ : ∃ c, rd[i]? = some c := ⟨_, List.getElem?_eq_getElem hi'⟩
    obtain ⟨vx, ⟨ox, capx, rfl, hdx⟩, hvx⟩ := hrd.at hxi
    have hsum : mts (rd.take (i + 1)) = mts (rd.take i) + x.dt.length := by
      rw [List.take_add_one, hxi]
      simp [mts]
    have hle : mts (rd.take (i + 1)) ≤ mts rd := by
      have := congrArg mts (List.take_append_drop (i + 1) rd)
      simp only [mts, List.map_append, List.sum_append] at this ⊢
      omega
    refine gg ?_
    refine i_idx (by exact sel_of rfl) ap.row (i := i) (by exact sel_of rfl) hi' fun q hq => ?_
    subst hq
    refine i_loadN (v := mgv x ox capx) (by exact sel_of rfl) (by rw [← hvx]; exact ap.row.cells (by omega) _) ?_
    refine gg ?_
    refine i_storeF (vs := mgv x ox capx) (Keeps.new h' _) (Nat.le_refl _) (by exact sel_of rfl) (by rw [sel_of rfl]; rfl) (by rw [Heap.get_new, if_pos rfl]) rfl rfl (Nat.lt_succ_self _) fun h9 k9 g9 lt9 => ?_
    have j9 := jj.keeps k9
    have top := j9.top
    have e9 : ((held - mts (rd.take i) : Nat) : Int) - ((x.dt.length : Nat) : Int) = ((held - mts (rd.take (i + 1)) : Nat) : Int) := by omega
    refine gg ?_; repeat (refine i_ldown (by exact sel_of rfl) (by assumption) (by rfl) ?_; refine gg ?_)
    refine i_store1 (u := ⟨N + 3, 0 + 4, none⟩) (v := .int .i64 ((held - mts (rd.take (i + 1)) : Nat) : Int)) (by exact sel_of rfl) (by rw [sel_of rfl, e9]; rfl) j9.top (by show 0 + 4 < 5; decide) ?_
    have p10 : ∀ r, Pres N h9 r (h9.put (N + 3) (.cells 64 ((jcells N nx (some q) rd.length (held - mts (rd.take i))).set (0 + 4) (.int .i64 ((held - mts (rd.take (i + 1)) : Nat) : Int))) (.own false))) r := fun r => Pres.put (by omega) (by omega) _
    have kd := (p10 (some q)).kd
    obtain ⟨es1, c1, a1, b1⟩ := j9.chs
    obtain ⟨es2, c2, a2, b2⟩ := j9.sts
    obtain ⟨cs9, ap9, hrd9⟩ := j9.rdy
    refine gg ?_
    refine rnd_up hi' ⟨⟨⟨j9.up, by rw [Heap.get_put, if_pos rfl]; rfl, by rw [Heap.get_put, if_neg (by show N ≠ N + 3; omega)]; exact j9.nxt, ⟨es1, c1, by rw [Heap.get_put, if_neg (by show N + 1 ≠ N + 3; omega)]; exact a1, b1.mono kd⟩, ⟨es2, c2, by rw [Heap.get_put, if_neg (by show N + 2 ≠ N + 3; omega)]; exact a2, b2.mono kd⟩, ⟨cs9, apB ap9 (putB h9 (N + 3) _) (fun q' e => by have := j9.ofr q' e; omega), hrd9.mono kd⟩, j9.ofr⟩, (pp.trans (Pres.keeps k9)).trans (p10 none)⟩, sel_of rfl, sel_of rfl, sel_of rfl, sel_of rfl, sel_of rfl, trivial⟩
  · have hil : i = rd.length := by omega
    subst hil
    rw [List.take_length] at jj
    have top := jj.top
    refine gg ?_; repeat (refine i_ldown (by exact sel_of rfl) (by assumption) (by rfl) ?_; refine gg ?_)
    refine i_store1 (u := ⟨N + 3, 0 + 3, none⟩) (v := .slice none 0 0) (by exact sel_of rfl) (by rfl) top (by show 0 + 3 < 5; decide) ?_
    refine gg ?_
    have p10 : ∀ r, Pres N h' r (h'.put (N + 3) (.cells 64 ((jcells N nx ro rd.length (held - mts rd)).set (0 + 3) (.slice none 0 0)) (.own false))) r := fun r => Pres.put (by omega) (by omega) _
    have kd : KD h' N ro (h'.put (N + 3) (.cells 64 ((jcells N nx ro rd.length (held - mts rd)).set (0 + 3) (.slice none 0 0)) (.own false))) none := fun o bs d => ⟨((p10 ro).kd o bs d).1, fun q e => ⟨(d.2 q e).1, fun r er => by cases er⟩⟩
    obtain ⟨es1, c1, a1, b1⟩ := jj.chs
    obtain ⟨es2, c2, a2, b2⟩ := jj.sts
    refine ⟨rfl, ⟨jj.up, by rw [Heap.get_put, if_pos rfl]; rfl, by rw [Heap.get_put, if_neg (by show N ≠ N + 3; omega)]; exact jj.nxt, ⟨es1, c1, by rw [Heap.get_put, if_neg (by show N + 1 ≠ N + 3; omega)]; exact a1, b1.mono kd⟩, ⟨es2, c2, by rw [Heap.get_put, if_neg (by show N + 2 ≠ N + 3; omega)]; exact a2, b2.mono kd⟩, ⟨[], Ap.nil _ _ _ _, rfl⟩, fun r e => by cases e⟩, pp.trans (p10 none), cs, ap.row.keepsB (putB h' (N + 3) _) (fun q e => by have := jj.ofr q e; omega), hrd.mono kd⟩
end
end Go.Proofs.Ytnffglfpjcbfaaa

