/- Part of a proof by an abstract run of the program's code: BL. No condition. -/
import Derived.Test.YtnffglfpjcbfaaaBK
/-! What a Join holds, in plain Lean: how far a message reaches, and what is held. -/
set_option linter.unusedVariables false
namespace Go.Proofs.Ytnffglfpjcbfaaa
open Go Vm
theorem nodup_len {l : List Nat} : ∀ {k : List Nat}, l.Nodup → (∀ x ∈ l, x ∈ k) → l.length ≤ k.length := by
  induction l with
  | nil => exact fun _ _ => Nat.zero_le _
  | cons a l ih =>
    intro k hn hs
    have ha := hs a (by simp)
    have h1 := ih (k := k.erase a) (List.nodup_cons.1 hn).2 (fun x hx => (List.mem_erase_of_ne (fun (e : x = a) => (List.nodup_cons.1 hn).1 (by rw [← e]; exact hx))).2 (hs x (List.mem_cons_of_mem _ hx)))
    rw [List.length_erase_of_mem ha] at h1
    have h2 := List.length_pos_of_mem ha
    rw [List.length_cons]; omega
theorem look_mem {ch : List (Nat × Ck)} {k : Nat} {p : Nat × Ck} (e : look ch k = some p) : p ∈ ch ∧ p.1 = k :=
  ⟨List.mem_of_find?_eq_some e, by simpa using List.find?_some e⟩
theorem and2_le : ∀ x : Nat, x < 256 → x &&& 2 = 0 ∨ x &&& 2 = 2 := by decide +kernel
theorem and1_le : ∀ x : Nat, x < 256 → x &&& 1 = 0 ∨ x &&& 1 = 1 := by decide +kernel
theorem pig {keys : List Nat} {g : Nat → Nat} (n : Nat) (inj : ∀ i j, i < j → j < n → g i ≠ g j) (mem : ∀ i, i < n → g i ∈ keys) : n ≤ keys.length := by
  have h1 : ((List.range n).map g).Nodup := by
    unfold List.Nodup
    rw [List.pairwise_map]
    refine List.Pairwise.imp_of_mem (R := (· < ·)) ?_ List.pairwise_lt_range
    intro a b ha hb hab
    exact inj a b hab (List.mem_range.1 hb)
  have h2 := nodup_len h1 (k := keys) (fun x hx => by
    obtain ⟨i, hi, rfl⟩ := List.mem_map.1 hx
    exact mem i (List.mem_range.1 hi))
  simpa using h2
section
variable {ch : List (Nat × Ck)}
theorem back_ex (hc : ∀ p ∈ ch, p.1 = p.2.A ∧ p.2.wf) : ∀ (f : Nat) (c : Ck), f ≤ 100000 → c.wf →
    (∃ m r, m ≤ f ∧ Back ch m c r ∧ ∀ b, r = some b → (b = c ∨ ∃ p ∈ ch, p.2 = b) ∧ b.fl &&& 2 = 2) ∨ ∀ i, i < f → (c.A + 8589934592 - 1 - i) % 4294967296 ∈ ch.map (·.1)
  | 0, c, _, _ => .inr (fun i hi => by omega)
  | f + 1, c, hf, wc => by
    rcases and2_le c.fl wc.fl with h | h
    · cases hl : look ch (prev c.A) with
      | none => exact .inl ⟨0, none, Nat.zero_le _, .gone h hl, fun b e => by cases e⟩
      | some p =>
        obtain ⟨k, x⟩ := p
        obtain ⟨h1, h2⟩ := look_mem hl
        obtain ⟨h3, wx⟩ := hc _ h1
        have h2 : k = prev c.A := h2
        have h3 : k = x.A := h3
        by_cases hfo : Fol x c
        · rcases back_ex hc f x (by omega) wx with ⟨m, r, hm, b, hr⟩ | hi
          · refine .inl ⟨m + 1, r, by omega, .step h hl hfo wx b, fun b e => ⟨.inr ?_, (hr b e).2⟩⟩
            rcases (hr b e).1 with rfl | hb
            · exact ⟨_, h1, rfl⟩
            · exact hb
          · refine .inr (fun i hif => ?_)
            cases i with
            | zero =>
              have : (c.A + 8589934592 - 1 - 0) % 4294967296 = k := by rw [h2]; unfold prev; omega
              rw [this]
              exact List.mem_map.2 ⟨_, h1, rfl⟩
            | succ i =>
              have := hi i (by omega)
              rw [← h3, h2] at this
              have e : (c.A + 8589934592 - 1 - (i + 1)) % 4294967296 = (prev c.A + 8589934592 - 1 - i) % 4294967296 := by unfold prev; omega
              rw [e]; exact this
        · exact .inl ⟨0, none, Nat.zero_le _, .noFol h hl hfo wx, fun b e => by cases e⟩
    · exact .inl ⟨0, some c, Nat.zero_le _, .here h, fun b e => by cases e; exact ⟨.inl rfl, h⟩⟩
theorem back_all (hc : ∀ p ∈ ch, p.1 = p.2.A ∧ p.2.wf) (hl : ch.length ≤ 70000) {c : Ck} (wc : c.wf) : ∃ m r, m ≤ 70001 ∧ Back ch m c r ∧ ∀ b, r = some b → (b = c ∨ ∃ p ∈ ch, p.2 = b) ∧ b.fl &&& 2 = 2 := by
  rcases back_ex hc (ch.length + 1) c (by omega) wc with ⟨m, r, hm, h⟩ | hi
  · exact ⟨m, r, by omega, h⟩
  · have := pig (keys := ch.map (·.1)) (g := fun i => (c.A + 8589934592 - 1 - i) % 4294967296) (ch.length + 1) (fun i j hij hj => by omega) hi
    rw [List.length_map] at this
    omega
/-- what follows a chunk up to a message's end -/
structure FL (ch : List (Nat × Ck)) (c : Ck) (l : List Ck) : Prop where
  fol : Fols c l
  mem : ∀ x ∈ l, ∃ p ∈ ch, p.2 = x
  en : ∀ x, (c :: l).getLast? = some x → x.fl &&& 1 = 1
theorem forth_ex (hc : ∀ p ∈ ch, p.1 = p.2.A ∧ p.2.wf) : ∀ (f : Nat) (c : Ck), f ≤ 100000 → c.wf →
    (∃ m r, m ≤ f ∧ Forth ch m c r ∧ ∀ l, r = some l → FL ch c l ∧ l.length ≤ m) ∨ ∀ i, i < f → (c.A + 1 + i) % 4294967296 ∈ ch.map (·.1)
  | 0, c, _, _ => .inr (fun i hi => by omega)
  | f + 1, c, hf, wc => by
    rcases and1_le c.fl wc.fl with h | h
    · cases hl : look ch (succ32 c.A) with
      | none => exact .inl ⟨0, none, Nat.zero_le _, .gone h hl, fun b e => by cases e⟩
      | some p =>
        obtain ⟨k, x⟩ := p
        obtain ⟨h1, h2⟩ := look_mem hl
        obtain ⟨h3, wx⟩ := hc _ h1
        have h2 : k = succ32 c.A := h2
        have h3 : k = x.A := h3
        by_cases hfo : Fol c x
        · rcases forth_ex hc f x (by omega) wx with ⟨m, r, hm, b, hr⟩ | hi
          · refine .inl ⟨m + 1, r.map (x :: ·), by omega, .step h hl hfo wx b, fun l e => ?_⟩
            cases r with
            | none => cases e
            | some l' =>
              cases e
              obtain ⟨⟨q1, q2, q3⟩, q4⟩ := hr l' rfl
              refine ⟨⟨⟨hfo, q1⟩, fun y hy => ?_, fun y hy => q3 y (by rw [List.getLast?_cons_cons] at hy; exact hy)⟩, by rw [List.length_cons]; omega⟩
              rcases List.mem_cons.1 hy with rfl | hy
              · exact ⟨_, h1, rfl⟩
              · exact q2 y hy
          · refine .inr (fun i hif => ?_)
            cases i with
            | zero =>
              have : (c.A + 1 + 0) % 4294967296 = k := by rw [h2]; rfl
              rw [this]
              exact List.mem_map.2 ⟨_, h1, rfl⟩
            | succ i =>
              have := hi i (by omega)
              rw [← h3, h2] at this
              have e : (c.A + 1 + (i + 1)) % 4294967296 = (succ32 c.A + 1 + i) % 4294967296 := by unfold succ32; omega
              rw [e]; exact this
        · exact .inl ⟨0, none, Nat.zero_le _, .noFol h hl hfo wx, fun b e => by cases e⟩
    · exact .inl ⟨0, some [], Nat.zero_le _, .here h, fun b e => by cases e; exact ⟨⟨trivial, (fun x hx => by cases hx), (fun x hx => by cases hx; exact h)⟩, Nat.le_refl _⟩⟩
theorem forth_all (hc : ∀ p ∈ ch, p.1 = p.2.A ∧ p.2.wf) (hl : ch.length ≤ 70000) {c : Ck} (wc : c.wf) : ∃ m r, m ≤ 70001 ∧ Forth ch m c r ∧ ∀ l, r = some l → FL ch c l ∧ l.length ≤ 70001 := by
  rcases forth_ex hc (ch.length + 1) c (by omega) wc with ⟨m, r, hm, h, h2⟩ | hi
  · exact ⟨m, r, by omega, h, fun l e => ⟨(h2 l e).1, by have := (h2 l e).2; omega⟩⟩
  · have := pig (keys := ch.map (·.1)) (g := fun i => (c.A + 1 + i) % 4294967296) (ch.length + 1) (fun i j hij hj => by omega) hi
    rw [List.length_map] at this
    omega
theorem Fols.A : ∀ {l : List Ck} {c : Ck}, Fols c l → c.A < 4294967296 → ∀ (i : Nat) (x : Ck), (c :: l)[i]? = some x → x.A = (c.A + i) % 4294967296
  | l, c, _, hA, 0, x, e => by cases e; omega
  | [], c, _, _, i + 1, x, e => by simp at e
  | b :: l, c, ⟨f, fs⟩, hA, i + 1, x, e => by
    have h1 := Fols.A fs (by rw [f.nx]; omega) i x (by simpa using e)
    rw [h1, f.nx]; omega
theorem Fols.nodup {l : List Ck} {c : Ck} (f : Fols c l) (hA : c.A < 4294967296) (hl : l.length ≤ 100000) : ((c :: l).map (·.A)).Nodup := by
  unfold List.Nodup
  rw [List.pairwise_iff_getElem]
  intro i j hi hj hij
  rw [List.length_map, List.length_cons] at hi hj
  have hi' : i < (c :: l).length := by rw [List.length_cons]; exact hi
  have hj' : j < (c :: l).length := by rw [List.length_cons]; exact hj
  have h1 := f.A hA i _ (List.getElem?_eq_getElem hi')
  have h2 := f.A hA j _ (List.getElem?_eq_getElem hj')
  rw [List.getElem_map, List.getElem_map, h1, h2]
  omega
/-! sums -/
def sumC (ch : List (Nat × Ck)) : Nat := (ch.map (·.2.dt.length)).sum
def sumS (st : List ((Nat × Nat) × Mg)) : Nat := (st.map (·.2.dt.length)).sum
theorem delK_sub (k : Nat) : ∀ ch : List (Nat × Ck), (delK k ch).Sublist ch
  | [] => List.Sublist.refl _
  | (a, c) :: l => by
    rw [delK]
    split
    · exact List.sublist_cons_self _ _
    · exact (delK_sub k l).cons_cons _
theorem delS_sub (k : Nat × Nat) : ∀ ch : List ((Nat × Nat) × Mg), (delS k ch).Sublist ch
  | [] => List.Sublist.refl _
  | (a, c) :: l => by
    rw [delS]
    split
    · exact List.sublist_cons_self _ _
    · exact (delS_sub k l).cons_cons _
theorem look_del : ∀ {ch : List (Nat × Ck)} {k : Nat} {p : Nat × Ck}, look ch k = some p → sumC (delK k ch) + p.2.dt.length = sumC ch ∧ (delK k ch).length + 1 = ch.length
  | [], k, p, e => by cases e
  | (a, c) :: l, k, p, e => by
    have e : List.find? (fun p => p.1 == k) ((a, c) :: l) = some p := e
    rw [List.find?_cons] at e
    by_cases h : k = a
    · subst h
      simp only [beq_self_eq_true] at e
      cases e
      simp only [delK, if_true, sumC, List.map_cons, List.sum_cons, List.length_cons]
      exact ⟨Nat.add_comm _ _, trivial⟩
    · have hb : (a == k) = false := by simpa using fun e => h e.symm
      simp only [hb] at e
      have := look_del (ch := l) e
      simp only [delK, if_neg h, sumC, List.map_cons, List.sum_cons, List.length_cons] at this ⊢
      omega
theorem lookS_del : ∀ {ch : List ((Nat × Nat) × Mg)} {k : Nat × Nat} {p : (Nat × Nat) × Mg}, lookS ch k = some p → sumS (delS k ch) + p.2.dt.length = sumS ch ∧ (delS k ch).length + 1 = ch.length
  | [], k, p, e => by cases e
  | (a, c) :: l, k, p, e => by
    have e : List.find? (fun p => p.1 == k) ((a, c) :: l) = some p := e
    rw [List.find?_cons] at e
    by_cases h : a = k
    · subst h
      simp only [beq_self_eq_true] at e
      cases e
      simp only [delS, if_true, sumS, List.map_cons, List.sum_cons, List.length_cons]
      exact ⟨Nat.add_comm _ _, trivial⟩
    · have hb : (a == k) = false := by simpa using h
      simp only [hb] at e
      have := lookS_del (ch := l) e
      simp only [delS, if_neg h, sumS, List.map_cons, List.sum_cons, List.length_cons] at this ⊢
      omega
theorem look_ne : ∀ {ch : List (Nat × Ck)} {k a : Nat}, a ≠ k → look (delK k ch) a = look ch a
  | [], k, a, _ => rfl
  | (b, c) :: l, k, a, h => by
    rw [delK]
    split
    · rename_i e
      subst e
      show _ = List.find? _ _
      rw [List.find?_cons]
      have : (k == a) = false := by simpa using fun e => h e.symm
      simp only [this]
    · show List.find? _ _ = List.find? _ _
      rw [List.find?_cons, List.find?_cons]
      have := look_ne (ch := l) (k := k) h
      simp only [look] at this
      rw [this]
theorem look_of {ch : List (Nat × Ck)} (hn : (ch.map (·.1)).Nodup) {p : Nat × Ck} (hp : p ∈ ch) : look ch p.1 = some p := by
  induction ch with
  | nil => cases hp
  | cons q ch ih =>
    rw [List.map_cons, List.nodup_cons] at hn
    show List.find? _ _ = _
    rw [List.find?_cons]
    rcases List.mem_cons.1 hp with rfl | hp
    · simp
    · have : (q.1 == p.1) = false := by
        simp only [beq_eq_false_iff_ne]
        exact fun e => hn.1 (e ▸ List.mem_map.2 ⟨p, hp, rfl⟩)
      simp only [this]
      exact ih hn.2 hp
theorem lookS_of {ch : List ((Nat × Nat) × Mg)} (hn : (ch.map (·.1)).Nodup) {p : (Nat × Nat) × Mg} (hp : p ∈ ch) : lookS ch p.1 = some p := by
  induction ch with
  | nil => cases hp
  | cons q ch ih =>
    rw [List.map_cons, List.nodup_cons] at hn
    show List.find? _ _ = _
    rw [List.find?_cons]
    rcases List.mem_cons.1 hp with rfl | hp
    · simp
    · have : (q.1 == p.1) = false := by
        simp only [beq_eq_false_iff_ne]
        exact fun e => hn.1 (e ▸ List.mem_map.2 ⟨p, hp, rfl⟩)
      simp only [this]
      exact ih hn.2 hp
theorem delAll_sub : ∀ (l : List Ck) (ch : List (Nat × Ck)), (delAll l ch).Sublist ch
  | [], ch => List.Sublist.refl _
  | x :: l, ch => (delAll_sub l _).trans (delK_sub _ _)
theorem delAll_sum : ∀ (l : List Ck) (ch : List (Nat × Ck)), (l.map (·.A)).Nodup → (∀ x ∈ l, look ch x.A = some (x.A, x)) → sumC (delAll l ch) + (dts l).length = sumC ch
  | [], ch, _, _ => rfl
  | x :: l, ch, hn, hm => by
    rw [List.map_cons, List.nodup_cons] at hn
    have h1 := (look_del (hm x (by simp))).1
    have h2 := delAll_sum l (delK x.A ch) hn.2 (fun y hy => by
      rw [look_ne (fun (e : y.A = x.A) => hn.1 (by rw [← e]; exact List.mem_map.2 ⟨y, hy, rfl⟩))]
      exact hm y (List.mem_cons_of_mem _ hy))
    have h3 : (dts (x :: l)).length = x.dt.length + (dts l).length := by simp [dts]
    rw [h3]
    show sumC (delAll l (delK x.A ch)) + _ = _
    have h1 : sumC (delK x.A ch) + x.dt.length = sumC ch := h1
    omega
theorem delAll_len {x : Ck} {l : List Ck} {ch : List (Nat × Ck)} (h : look ch x.A = some (x.A, x)) : (delAll (x :: l) ch).length + 1 ≤ ch.length := by
  have h1 := (look_del h).2
  have h2 := (delAll_sub l (delK x.A ch)).length_le
  show (delAll l (delK x.A ch)).length + 1 ≤ _
  omega
theorem sum_le {α : Type} {f : α → Nat} : ∀ {l : List α}, (∀ x ∈ l, 0 < f x) → l.length ≤ (l.map f).sum
  | [], _ => Nat.zero_le _
  | x :: l, h => by
    have h1 := sum_le (l := l) (fun y hy => h y (List.mem_cons_of_mem _ hy))
    have h2 := h x (by simp)
    rw [List.map_cons, List.sum_cons, List.length_cons]
    omega
end
end Go.Proofs.Ytnffglfpjcbfaaa

/-! join.keep where a message is dropped, walked. -/
set_option linter.unusedVariables false
namespace Go.Proofs.Ytnffglfpjcbfaaa
open Go Vm
section
variable {h : Heap} {n : Nat} {N : Nat} {nx : List Nat} {ch : List (Nat × Ck)} {st : List ((Nat × Nat) × Mg)} {rd : List Mg} {held : Nat} {ro : Option Addr}
theorem Jn.setHeld (j : Jn h N nx ch st rd held ro) (held' : Nat) : Jn (h.put (N + 3) (.cells 64 ((jcells N nx ro rd.length held).set (0 + 4) (.int .i64 (held' : Int))) (.own false))) N nx ch st rd held' ro ∧ Pres N h ro (h.put (N + 3) (.cells 64 ((jcells N nx ro rd.length held).set (0 + 4) (.int .i64 (held' : Int))) (.own false))) ro := by
  have jup := j.up
  have p7 : Pres N h ro (h.put (N + 3) (.cells 64 ((jcells N nx ro rd.length held).set (0 + 4) (.int .i64 (held' : Int))) (.own false))) ro := Pres.put (by omega) (by omega) _
  have kd := p7.kd
  obtain ⟨es1, c1, a1, b1⟩ := j.chs
  obtain ⟨es2, c2, a2, b2⟩ := j.sts
  obtain ⟨cs, ap, hrd⟩ := j.rdy
  exact ⟨⟨j.up, by rw [Heap.get_put, if_pos rfl]; rfl, by rw [Heap.get_put, if_neg (by show N ≠ N + 3; omega)]; exact j.nxt, ⟨es1, c1, by rw [Heap.get_put, if_neg (by show N + 1 ≠ N + 3; omega)]; exact a1, b1.mono kd⟩, ⟨es2, c2, by rw [Heap.get_put, if_neg (by show N + 2 ≠ N + 3; omega)]; exact a2, b2.mono kd⟩, ⟨cs, apB ap (putB h (N + 3) _) (fun q e => by have := j.ofr q e; omega), hrd.mono kd⟩, j.ofr⟩, p7⟩
set_option maxHeartbeats 2000000 in
theorem w_keepD (j : Jn h N nx ch st rd held ro) {m : Mg} {v : List Value} (hv : MgAt h N ro m v) (hu : m.un = false) {ssn x : Nat} (hx : nx[m.str]? = some x) (hs16 : ssn < 65536) (hx16 : x < 65536) (hdr : (∃ p, lookS st (m.str, ssn) = some p) ∨ (ssn ≠ x ∧ (x + 65536 - ssn) % 65536 ≤ 32767)) (hle : m.dt.length ≤ held) (hbig : held ≤ 1000000) (hn : 5 ≤ n) :
    ResQ (callN Try.prog G0 n (.call 23 [.pointer (some ⟨N + 3, 0, none⟩), .agg v.toArray, .int .u16 (ssn : Int)]) h) (fun _ h' => Jn h' N nx ch st rd (held - m.dt.length) ro ∧ Pres N h ro h' ro) := by
  obtain ⟨om, cap, rfl, hd⟩ := hv
  obtain ⟨es, cc, gm, hes⟩ := j.sts
  have jup := j.up
  have top := j.top
  obtain ⟨n, rfl⟩ : ∃ m, n = m + 1 := ⟨n - 1, by omega⟩
  refine res_enter rfl d23 rfl ?_; simp only [c23]
  refine o_cut (fun f h1 => (Keeps h h1 ∧ h.next < h1.next ∧ h1.get h.next = some (.cells 30 (mgv m om cap) (.own false))) ∧ Sl [(0, .pointer (some ⟨N + 3, 0, none⟩)), (2, .int .u16 (ssn : Int)), (4, .pointer (some ⟨h.next, 0, none⟩))] f) ?_ ?_
  · refine gg ?_
    exact ⟨rfl, ⟨Keeps.new h _, Nat.lt_succ_self _, by rw [Heap.get_new, if_pos rfl]⟩, sel_of rfl, sel_of rfl, sel_of rfl, trivial⟩
  rintro f1 h1 ⟨⟨k1, lt1, g1⟩, hs⟩
  obtain ⟨f0, rfl⟩ := hs.puts
  clear hs
  refine o_cut (fun f h2 => (Keeps h1 h2 ∧ h1.next < h2.next ∧ h2.get h1.next = some (.cells 78 [.int .u16 (m.str : Int), .int .u16 (ssn : Int)] (.own false))) ∧ Sl [(0, .pointer (some ⟨N + 3, 0, none⟩)), (2, .int .u16 (ssn : Int)), (4, .pointer (some ⟨h.next, 0, none⟩)), (6, .pointer (some ⟨h1.next, 0, none⟩))] f) ?_ ?_
  · refine gg ?_
    refine i_load1 (v := .int .u16 (m.str : Int)) (by exact sel_of rfl) ((load1_own g1).trans (by rfl)) ?_
    refine gg ?_
    refine i_storeF (vs := [.int .u16 (m.str : Int), .int .u16 (ssn : Int)]) (Keeps.new h1 _) (Nat.le_refl _) (by exact sel_of rfl) (by rw [sel_of rfl]; rfl) (by rw [Heap.get_new, if_pos rfl]) rfl rfl (Nat.lt_succ_self _) fun h2 k2 g2 lt2 => ?_
    refine gg ?_
    exact ⟨rfl, ⟨k2, lt2, g2⟩, sel_of rfl, sel_of rfl, sel_of rfl, sel_of rfl, trivial⟩
  rintro f2 h2 ⟨⟨k2, lt2, g2⟩, hs⟩
  obtain ⟨f0, rfl⟩ := hs.puts
  clear hs
  have k02 := k1.trans k2
  have top2 := (k02.get _ (by omega)).trans top
  have gm2 := (k02.get _ (by omega)).trans gm
  refine o_cut (fun f h3 => (Keeps h2 h3 ∧ ∃ b, (b = true ↔ ∃ p, lookS st (m.str, ssn) = some p) ∧ Sl [(0, .pointer (some ⟨N + 3, 0, none⟩)), (2, .int .u16 (ssn : Int)), (4, .pointer (some ⟨h.next, 0, none⟩)), (6, .pointer (some ⟨h1.next, 0, none⟩)), (8, .bool b)] f)) ?_ ?_
  · refine gg ?_; repeat (refine i_ldown (by exact sel_of rfl) (by assumption) (by rfl) ?_; refine gg ?_)
    refine i_loadN (v := [.int .u16 (m.str : Int), .int .u16 (ssn : Int)]) (by exact sel_of rfl) (loadN_all g2 rfl) ?_
    cases hz' : lookS st (m.str, ssn) with
    | none =>
      refine i_lookup (ok := true) (res := none) (by exact sel_of rfl) gm2 (kv := nkey (m.str, ssn)) (by rw [sel_of rfl]; rfl) rfl ((hes.find _).1 hz') ?_
      show ItQ (runItems _ _ (puts ((19, .tuple #[.agg #[.int .u16 0, .bool false, .int .u32 0, .slice none 0 0], .bool false]) :: _) _) _) _
      refine gg ?_
      refine i_storeF (vs := [.int .u16 0, .bool false, .int .u32 0, .slice none 0 0]) (Keeps.new h2 _) (Nat.le_refl _) (by exact sel_of rfl) (by rw [sel_of rfl]; rfl) (by rw [Heap.get_new, if_pos rfl]) rfl rfl (Nat.lt_succ_self _) fun h3 k3 g3 lt3 => ?_
      refine gg ?_
      exact ⟨rfl, k3, false, by simp, sel_of rfl, sel_of rfl, sel_of rfl, sel_of rfl, sel_of rfl, trivial⟩
    | some p =>
      obtain ⟨vx, sx, fe, ox, cx, rfl, dx⟩ := (hes.find _).2 _ hz'
      refine i_lookup (ok := true) (res := some (.agg (mgv p.2 ox cx).toArray, sx)) (by exact sel_of rfl) gm2 (kv := nkey (m.str, ssn)) (by rw [sel_of rfl]; rfl) rfl fe ?_
      show ItQ (runItems _ _ (puts ((19, .tuple #[.agg (mgv p.2 ox cx).toArray, .bool true]) :: _) _) _) _
      refine gg ?_
      refine i_storeF (vs := mgv p.2 ox cx) (Keeps.new h2 _) (Nat.le_refl _) (by exact sel_of rfl) (by rw [sel_of rfl]; rfl) (by rw [Heap.get_new, if_pos rfl]) rfl rfl (Nat.lt_succ_self _) fun h3 k3 g3 lt3 => ?_
      refine gg ?_
      exact ⟨rfl, k3, true, by simp, sel_of rfl, sel_of rfl, sel_of rfl, sel_of rfl, sel_of rfl, trivial⟩
  rintro f3 h3 ⟨k3, b, hb, hs⟩
  obtain ⟨f0, rfl⟩ := hs.puts
  clear hs
  have k03 := k02.trans k3
  have g3 := (k3.get _ (Nat.lt_of_lt_of_le lt1 k2.next)).trans ((k2.get _ lt1).trans g1)
  have j3 := j.keeps k03
  have lt3 : h.next < h3.next := by have := k2.next; have := k3.next; omega
  have gn3 := (k3.get _ lt2).trans g2
  clear top top2 gm gm2 hes
  have top := j3.top
  have hsl : m.str < nx.length := (List.getElem?_eq_some_iff.1 hx).1
  have jup3 := j3.up
  have hrow : Row h3 1 (some ⟨N, 0, none⟩) nx.length (nx.map fun (x : Nat) => Value.int .u16 (x : Int)) := ⟨by simp, by show N < _; omega, .inl rfl, loadN_all j3.nxt (by simp)⟩
  refine gg ?_; repeat (refine i_ldown (by exact sel_of rfl) (by assumption) (by rfl) ?_; refine gg ?_)
  rw [hu]
  refine gg ?_; repeat (refine i_ldown (by exact sel_of rfl) (by assumption) (by rfl) ?_; refine gg ?_)
  have e9 : ((held : Nat) : Int) - ((m.dt.length : Nat) : Int) = ((held - m.dt.length : Nat) : Int) := by omega
  cases b with
  | true =>
    refine gg ?_; repeat (refine i_ldown (by exact sel_of rfl) (by assumption) (by rfl) ?_; refine gg ?_)
    refine i_store1 (u := ⟨N + 3, 0 + 4, none⟩) (v := .int .i64 ((held - m.dt.length : Nat) : Int)) (by exact sel_of rfl) (by rw [sel_of rfl, e9]; rfl) top (by show 0 + 4 < 5; decide) ?_
    refine gg ?_
    obtain ⟨j4, p4⟩ := j3.setHeld (held - m.dt.length)
    exact ⟨j4, (Pres.keeps k03).trans p4⟩
  | false =>
    have hl : ssn ≠ x ∧ (x + 65536 - ssn) % 65536 ≤ 32767 := by
      rcases hdr with h | h
      · have := hb.2 h; cases this
      · exact h
    refine gg ?_; repeat (refine i_ldown (by exact sel_of rfl) (by assumption) (by rfl) ?_; refine gg ?_)
    refine i_idx (by exact sel_of rfl) hrow (i := m.str) (by exact sel_of rfl) hsl fun q hq => ?_
    cases hq
    refine gg ?_
    refine i_load1 (v := .int .u16 (x : Int)) (by exact sel_of rfl) ((hrow.cell (i := m.str * 1) (by omega) _).trans (by rw [Nat.mul_one, List.getElem?_map, hx]; rfl)) ?_
    refine gg ?_
    refine i_call2 (by exact sel_of rfl) (by exact sel_of rfl) (w_less hs16 hx16 (by omega)) ?_
    rintro _ _ ⟨rfl, rfl⟩
    rw [decide_eq_true hl]
    refine gg ?_; repeat (refine i_ldown (by exact sel_of rfl) (by assumption) (by rfl) ?_; refine gg ?_)
    refine i_store1 (u := ⟨N + 3, 0 + 4, none⟩) (v := .int .i64 ((held - m.dt.length : Nat) : Int)) (by exact sel_of rfl) (by rw [sel_of rfl, e9]; rfl) top (by show 0 + 4 < 5; decide) ?_
    refine gg ?_
    obtain ⟨j4, p4⟩ := j3.setHeld (held - m.dt.length)
    exact ⟨j4, (Pres.keeps k03).trans p4⟩
end
end Go.Proofs.Ytnffglfpjcbfaaa

/-! What a Join holds: the invariant; keep and Add under it. -/
set_option linter.unusedVariables false
namespace Go.Proofs.Ytnffglfpjcbfaaa
open Go Vm
/-- what is held: of the chunks, of the stash, of what is ready, and of a message in the hand -/
structure JI (L : Nat) (nx : List Nat) (ch : List (Nat × Ck)) (st : List ((Nat × Nat) × Mg)) (rd : List Mg) (held pend K : Nat) : Prop where
  L64 : L ≤ 64
  len : nx.length = L
  nx : ∀ x ∈ nx, x < 65536
  chs : ∀ p ∈ ch, p.1 = p.2.A ∧ p.2.wf ∧ p.2.dt ≠ [] ∧ p.2.out < L
  chn : (ch.map (·.1)).Nodup
  sts : ∀ p ∈ st, p.1.1 < L ∧ p.1.2 < 65536 ∧ p.2.dt ≠ []
  stn : (st.map (·.1)).Nodup
  rds : ∀ m ∈ rd, m.dt ≠ []
  sum : held = sumC ch + sumS st + mts rd + pend
  le : held ≤ 65536
  few : ch.length + st.length + min pend 1 ≤ K
theorem mts_snoc (rd : List Mg) (m : Mg) : mts (rd ++ [m]) = mts rd + m.dt.length := by simp [mts]
theorem sumS_snoc (st : List ((Nat × Nat) × Mg)) (p : (Nat × Nat) × Mg) : sumS (st ++ [p]) = sumS st + p.2.dt.length := by simp [sumS]
theorem sumC_snoc (st : List (Nat × Ck)) (p : Nat × Ck) : sumC (st ++ [p]) = sumC st + p.2.dt.length := by simp [sumC]
theorem tel_ex (s : Nat) : ∀ (k : Nat) (st : List ((Nat × Nat) × Mg)) (x : Nat) (rd : List Mg), st.length ≤ k → x < 65536 → ∃ m st' x' rd', m ≤ k ∧ Tel s st' x' rd' m st x rd ∧ st'.Sublist st ∧ sumS st' + mts rd' = sumS st + mts rd ∧ x' < 65536 ∧ ∀ m ∈ rd', m ∈ rd ∨ ∃ p ∈ st, p.2 = m
  | k, st, x, rd, hl, hx => by
    cases hz : lookS st (s, x) with
    | none => exact ⟨0, st, x, rd, Nat.zero_le _, .done hz, List.Sublist.refl _, rfl, hx, fun m h => .inl h⟩
    | some p =>
      obtain ⟨h1, h2⟩ := lookS_del hz
      cases k with
      | zero => omega
      | succ k =>
        obtain ⟨m, st', x', rd', hm, t, sub, sm, hx', hmem⟩ := tel_ex s k (delS (s, x) st) ((x + 1) % 65536) (rd ++ [p.2]) (by omega) (by omega)
        have hp : p ∈ st := List.mem_of_find?_eq_some hz
        refine ⟨m + 1, st', x', rd', by omega, .step hz t, sub.trans (delS_sub _ _), ?_, hx', fun m hm => ?_⟩
        · rw [sm, mts_snoc]; omega
        · rcases hmem m hm with h | ⟨q, hq, e⟩
          · rcases List.mem_append.1 h with h | h
            · exact .inl h
            · exact .inr ⟨p, hp, (List.mem_singleton.1 h).symm⟩
          · exact .inr ⟨q, (delS_sub _ _).subset hq, e⟩
section
variable {h : Heap} {n : Nat} {N L : Nat} {nx : List Nat} {ch : List (Nat × Ck)} {st : List ((Nat × Nat) × Mg)} {rd : List Mg} {held pend K : Nat} {ro : Option Addr}
theorem JI.chl (i : JI L nx ch st rd held pend K) : ch.length ≤ sumC ch := sum_le (fun p hp => List.length_pos_iff.2 (i.chs p hp).2.2.1)
theorem JI.stl (i : JI L nx ch st rd held pend K) : st.length ≤ sumS st := sum_le (fun p hp => List.length_pos_iff.2 (i.sts p hp).2.2)
theorem JI.rdl (i : JI L nx ch st rd held pend K) : rd.length ≤ mts rd := sum_le (fun p hp => List.length_pos_iff.2 (i.rds p hp))
theorem JI.set {s x : Nat} (i : JI L nx ch st rd held pend K) (hx : x < 65536) : JI L (nx.set s x) ch st rd held pend K :=
  ⟨i.L64, by rw [List.length_set]; exact i.len, fun y hy => by
    rcases List.mem_or_eq_of_mem_set hy with h | h
    · exact i.nx y h
    · omega, i.chs, i.chn, i.sts, i.stn, i.rds, i.sum, i.le, i.few⟩
/-- what was told -/
theorem JI.told {st' : List ((Nat × Nat) × Mg)} {rd' : List Mg} {held' : Nat} (i : JI L nx ch st rd held pend K) (sub : st'.Sublist st) (sm : held' = sumC ch + sumS st' + mts rd') (hle : held' ≤ 65536) (hm : ∀ m ∈ rd', m ∈ rd ∨ ∃ p ∈ st, p.2 = m) : JI L nx ch st' rd' held' 0 K :=
  ⟨i.L64, i.len, i.nx, i.chs, i.chn, fun p hp => i.sts p (sub.subset hp), List.Pairwise.sublist (sub.map _) i.stn, fun m h => by
    rcases hm m h with h | ⟨p, hp, e⟩
    · exact i.rds m h
    · rw [← e]; exact (i.sts p hp).2.2, sm, hle, by have := sub.length_le; have := i.few; omega⟩
/-- a Join that keeps within what it held -/
def JS (L N H K : Nat) (h : Heap) (ro : Option Addr) : Prop := ∃ nx ch st rd held, Jn h N nx ch st rd held ro ∧ JI L nx ch st rd held 0 K ∧ held ≤ H
theorem w_keepI (j : Jn h N nx ch st rd held ro) {m : Mg} (i : JI L nx ch st rd held m.dt.length K) {v : List Value} (hv : MgAt h N ro m v) (hm : m.dt ≠ []) (hs : m.str < L) {ssn : Nat} (hssn : ssn < 65536) (hn : 70000 ≤ n) :
    ResQ (callN Try.prog G0 n (.call 23 [.pointer (some ⟨N + 3, 0, none⟩), .agg v.toArray, .int .u16 (ssn : Int)]) h) (fun _ h' => ∃ ro', JS L N held K h' ro' ∧ Pres N h ro h' ro') := by
  have hsum := i.sum
  have hle := i.le
  have hrl := i.rdl
  have hsl := i.stl
  have hfew := i.few
  have hm0 : 0 < m.dt.length := List.length_pos_iff.2 hm
  obtain ⟨x, hx⟩ : ∃ x, nx[m.str]? = some x := ⟨_, List.getElem?_eq_getElem (by rw [i.len]; exact hs)⟩
  have hx16 := i.nx x (List.mem_of_getElem? hx)
  cases hu : m.un with
  | true =>
    refine ResQ.mono (w_keepU j hv hu (ssn := ssn) (by omega) (by omega)) ?_
    rintro _ h' ⟨ro', j', p⟩
    exact ⟨ro', ⟨nx, ch, st, rd ++ [m], held, j', ⟨i.L64, i.len, i.nx, i.chs, i.chn, i.sts, i.stn, fun y hy => by
      rcases List.mem_append.1 hy with h | h
      · exact i.rds y h
      · rw [List.mem_singleton.1 h]; exact hm, by rw [mts_snoc]; omega, hle, by omega⟩, Nat.le_refl _⟩, p⟩
  | false =>
    by_cases hd : (∃ p, lookS st (m.str, ssn) = some p) ∨ (ssn ≠ x ∧ (x + 65536 - ssn) % 65536 ≤ 32767)
    · refine ResQ.mono (w_keepD j hv hu hx hssn hx16 hd (by omega) (by omega) (by omega)) ?_
      rintro _ h' ⟨j', p⟩
      exact ⟨ro, ⟨nx, ch, st, rd, held - m.dt.length, j', i.told (List.Sublist.refl _) (by omega) (by omega) (fun m h => .inl h), by omega⟩, p⟩
    · have hz : lookS st (m.str, ssn) = none := by
        cases e : lookS st (m.str, ssn) with
        | none => rfl
        | some p => exact absurd (.inl ⟨p, e⟩) hd
      obtain ⟨mm, st', x', rd', hmm, t, sub, sm, hx', hmem⟩ := tel_ex m.str (st.length + 1) (st ++ [((m.str, ssn), m)]) x rd (by simp) hx16
      rw [sumS_snoc] at sm
      have sm : sumS st' + mts rd' = sumS st + m.dt.length + mts rd := sm
      refine ResQ.mono (w_keepO j hv hu hz hx (fun e => hd (.inr e)) hssn hx16 t (by omega) (by omega)) ?_
      rintro _ h' ⟨ro', j', p⟩
      have i2 : JI L nx ch (st ++ [((m.str, ssn), m)]) rd held 0 K := ⟨i.L64, i.len, i.nx, i.chs, i.chn, fun y hy => by
        rcases List.mem_append.1 hy with h | h
        · exact i.sts y h
        · rw [List.mem_singleton.1 h]; exact ⟨hs, hssn, hm⟩, by
        rw [List.map_append, List.nodup_append]
        refine ⟨i.stn, by simp, fun a ha b hb e => ?_⟩
        have hb : b = (m.str, ssn) := by simpa using hb
        obtain ⟨p, hp, e2⟩ := List.mem_map.1 ha
        have := List.find?_eq_none.1 hz p hp
        exact this (by rw [e2, e, hb]; simp), i.rds, by rw [sumS_snoc]; show held = sumC ch + (sumS st + m.dt.length) + mts rd + 0; omega, hle, by rw [List.length_append]; show ch.length + (st.length + 1) + min 0 1 ≤ K; omega⟩
      exact ⟨ro', ⟨nx.set m.str x', ch, st', rd', held, j', (i2.told sub (by omega) hle hmem).set hx', Nat.le_refl _⟩, p⟩
theorem w_addI (j : Jn h N nx ch st rd held ro) (i : JI L nx ch st rd held 0 K) {c : Ck} (wc : c.wf) (hd0 : c.dt ≠ []) {o : Option Addr} {cap : Nat} (hrow : Row h 1 o c.dt.length (u8s c.dt)) (hout : c.out < L) (hz : look ch c.A = none) (hfull : held + c.dt.length ≤ 65536) (hn : 300000 ≤ n) :
    ResQ (callN Try.prog G0 n (.call 11 [.pointer (some ⟨N + 3, 0, none⟩), .agg (ckv c o cap).toArray]) h) (fun v h' => v = .int .i64 0 ∧ ∃ ro', JS L N (held + c.dt.length) (K + 1) h' ro' ∧ Pres N h ro h' ro') := by
  have hsum := i.sum
  have hchl := i.chl
  have hfew := i.few
  have i2 : JI L nx (ch ++ [(c.A, c)]) st rd (held + c.dt.length) 0 (K + 1) := ⟨i.L64, i.len, i.nx, fun y hy => by
    rcases List.mem_append.1 hy with h | h
    · exact i.chs y h
    · rw [List.mem_singleton.1 h]; exact ⟨rfl, wc, hd0, hout⟩, by
    rw [List.map_append, List.nodup_append]
    refine ⟨i.chn, by simp, fun a ha b hb e => ?_⟩
    have hb : b = c.A := by simpa using hb
    obtain ⟨p, hp, e2⟩ := List.mem_map.1 ha
    have := List.find?_eq_none.1 hz p hp
    exact this (by rw [e2, e, hb]; simp), i.sts, i.stn, i.rds, by rw [sumC_snoc]; show held + c.dt.length = sumC ch + c.dt.length + sumS st + mts rd + 0; omega, hfull, by rw [List.length_append]; show ch.length + 1 + st.length + min 0 1 ≤ K + 1; omega⟩
  have hchl2 := i2.chl
  have hsum2 := i2.sum
  generalize hch : ch ++ [(c.A, c)] = ch2 at *
  have hc2 : ∀ p ∈ ch2, p.1 = p.2.A ∧ p.2.wf := fun p hp => ⟨(i2.chs p hp).1, (i2.chs p hp).2.1⟩
  have hmc : ∃ p ∈ ch2, p.2 = c := ⟨(c.A, c), by rw [← hch]; simp, rfl⟩
  obtain ⟨m1, r1, hm1, hb1, hp1⟩ := back_all hc2 (by omega) wc
  have hnone : ∀ h', Jn h' N nx ch2 st rd (held + c.dt.length) ro → JS L N (held + c.dt.length) (K + 1) h' ro := fun h' j' => ⟨nx, ch2, st, rd, _, j', i2, Nat.le_refl _⟩
  cases r1 with
  | none =>
    refine w_add j wc hd0 hrow (by rw [i.len]; exact hout) hz hfull (r := none) (by omega) (fun m h' v e j' hv => ?_) (S := JS L N (held + c.dt.length) (K + 1)) (fun _ h' j' => hnone h' (hch ▸ j')) (fun l e => by cases e)
    rw [hch] at j'
    exact w_runB j' hv wc hb1 (by omega)
  | some b =>
    obtain ⟨hb2, hbf⟩ := hp1 b rfl
    have hb3 : ∃ p ∈ ch2, p.2 = b := by
      rcases hb2 with rfl | h
      · exact hmc
      · exact h
    have wb : b.wf := by obtain ⟨p, hp, rfl⟩ := hb3; exact (hc2 p hp).2
    obtain ⟨m2, r2, hm2, hf2, hl2⟩ := forth_all hc2 (by omega) wb
    refine w_add j wc hd0 hrow (by rw [i.len]; exact hout) hz hfull (r := r2.map (b :: ·)) (by omega) (fun m h' v e j' hv => ?_) (S := JS L N (held + c.dt.length) (K + 1)) (fun _ h' j' => hnone h' (hch ▸ j')) (fun l e => ?_)
    · rw [hch] at j'
      exact w_runF j' hv wc hb1 wb hf2 (by omega) (by omega)
    · cases r2 with
      | none => cases e
      | some l' =>
        cases e
        obtain ⟨⟨q1, q2, q3⟩, q4⟩ := hl2 l' rfl
        have hin : ∀ x ∈ b :: l', ∃ p ∈ ch2, p.2 = x := fun x hx => by
          rcases List.mem_cons.1 hx with rfl | hx
          · exact hb3
          · exact q2 x hx
        have hall : ∀ x ∈ b :: l', look ch2 x.A = some (x.A, x) ∧ x.wf ∧ x.dt ≠ [] ∧ x.out < L := fun x hx => by
          obtain ⟨p, hp, rfl⟩ := hin x hx
          obtain ⟨e1, e2, e3, e4⟩ := i2.chs p hp
          refine ⟨?_, e2, e3, e4⟩
          have := look_of i2.chn hp
          rw [e1] at this
          rw [this]
          congr 1
          exact Prod.ext e1 rfl
        have hsm := delAll_sum (b :: l') ch2 (q1.nodup wb.A (by omega)) (fun x hx => (hall x hx).1)
        have hbd : (dts (b :: l')).length ≤ 65536 := by omega
        have hbne : dts (b :: l') ≠ [] := by
          have := (hall b (by simp)).2.2.1
          intro e
          exact this (by have e := congrArg List.length e; simp [dts] at e; exact List.length_eq_zero_iff.1 (by rw [e.1]; rfl))
        refine ⟨b, l', rfl, fun x hx => ⟨(hall x hx).2.1, (hall x hx).2.2.1⟩, q1, hbf, q3, Nat.le_trans hbd (by decide), Nat.le_trans q4 (by decide), by omega, fun m h' v e j' hv => ?_⟩
        rw [hch] at j'
        have i3 : JI L nx (delAll (b :: l') ch2) st rd (held + c.dt.length) (whole b l').dt.length (K + 1) := ⟨i2.L64, i2.len, i2.nx, fun p hp => i2.chs p ((delAll_sub _ _).subset hp), List.Pairwise.sublist ((delAll_sub _ _).map _) i2.chn, i2.sts, i2.stn, i2.rds, by show _ = _ + _ + _ + (dts (b :: l')).length; omega, i2.le, by have := delAll_len (l := l') (hall b (by simp)).1; have := i2.few; omega⟩
        exact w_keepI j' i3 hv hbne (hall b (by simp)).2.2.2 wb.inn (by omega)
end
end Go.Proofs.Ytnffglfpjcbfaaa

/-! Add where nothing is taken. -/
set_option linter.unusedVariables false
namespace Go.Proofs.Ytnffglfpjcbfaaa
open Go Vm
section
variable {h : Heap} {n : Nat} {N L : Nat} {nx : List Nat} {ch : List (Nat × Ck)} {st : List ((Nat × Nat) × Mg)} {rd : List Mg} {held pend : Nat} {ro : Option Addr}
theorem w_knowsB (j : Jn h N nx ch st rd held ro) {s : Nat} (hs : s < 65536) (hn : 1 ≤ n) :
    ResQ (callN Try.prog G0 n (.call 19 [.pointer (some ⟨N + 3, 0, none⟩), .int .u16 (s : Int)]) h) (fun v h' => v = .bool (decide (s < nx.length)) ∧ h = h') := by
  have top := j.top
  obtain ⟨n, rfl⟩ : ∃ m, n = m + 1 := ⟨n - 1, by omega⟩
  refine res_enter rfl d19 rfl ?_; simp only [c19]
  refine gg ?_; repeat (refine i_ldown (by exact sel_of rfl) (by assumption) (by rfl) ?_; refine gg ?_)
  refine ⟨congrArg Value.bool ?_, rfl⟩
  rw [decide_eq_decide]
  omega
theorem w_addArg {k d cap : Nat} {o : Option Addr} {x1 x2 x3 x4 x5 x6 x7 x8 x9 x10 : Value} {q : Addr} (hbad : k ≠ 0 ∨ d = 0) (hn : 1 ≤ n) :
    ResQ (callN Try.prog G0 n (.call 11 [.pointer (some q), .agg #[.int .u8 (k : Int), x1, x2, x3, x4, x5, x6, x7, x8, x9, x10, .slice o d cap]]) h) (fun v h' => v = .int .i64 1 ∧ Keeps h h') := by
  obtain ⟨n, rfl⟩ : ∃ m, n = m + 1 := ⟨n - 1, by omega⟩
  refine res_enter rfl d11 rfl ?_; simp only [c11]
  refine o_cut (fun f h1 => (Keeps h h1 ∧ h1.get h.next = some (.cells 42 [.int .u8 (k : Int), x1, x2, x3, x4, x5, x6, x7, x8, x9, x10, .slice o d cap] (.own false))) ∧ Sl [(0, .pointer (some q)), (3, .pointer (some ⟨h.next, 0, none⟩)), (4, .int .i64 0)] f) ?_ ?_
  · refine gg ?_
    exact ⟨rfl, ⟨Keeps.new h _, by rw [Heap.get_new, if_pos rfl]⟩, sel_of rfl, sel_of rfl, sel_of rfl, trivial⟩
  rintro f1 h1 ⟨⟨k1, g1⟩, hs⟩
  obtain ⟨f0, rfl⟩ := hs.puts
  clear hs
  refine gg ?_; repeat (refine i_ldown (by exact sel_of rfl) (by assumption) (by rfl) ?_; refine gg ?_)
  by_cases hk : k = 0
  · have hd : d = 0 := by omega
    rw [decide_eq_false (p := ((k : Nat) : Int) ≠ 0) (by omega)]
    refine gg ?_; repeat (refine i_ldown (by exact sel_of rfl) (by assumption) (by rfl) ?_; refine gg ?_)
    exact ⟨rfl, k1⟩
  · rw [decide_eq_true (p := ((k : Nat) : Int) ≠ 0) (by omega)]
    refine gg ?_; repeat (refine i_ldown (by exact sel_of rfl) (by assumption) (by rfl) ?_; refine gg ?_)
    exact ⟨rfl, k1⟩
set_option maxHeartbeats 2000000 in
theorem w_addErr (j : Jn h N nx ch st rd held ro) {c : Ck} (wc : c.wf) (hd0 : c.dt ≠ []) {o : Option Addr} {cap : Nat} (hbad : ¬ c.out < nx.length ∨ (∃ p, look ch c.A = some p) ∨ 65536 < held + c.dt.length) (hh : held ≤ 65536) (hbig : c.dt.length ≤ 4611686018427387904) (hn : 4 ≤ n) :
    ResQ (callN Try.prog G0 n (.call 11 [.pointer (some ⟨N + 3, 0, none⟩), .agg (ckv c o cap).toArray]) h) (fun v h' => (∃ e : Int, v = .int .i64 e ∧ e ≠ 0) ∧ Keeps h h') := by
  have jup := j.up
  have top := j.top
  obtain ⟨es, cc, gm, hes⟩ := j.chs
  obtain ⟨n, rfl⟩ : ∃ m, n = m + 1 := ⟨n - 1, by omega⟩
  refine res_enter rfl d11 rfl ?_; simp only [c11]
  refine o_cut (fun f h1 => (Keeps h h1 ∧ h1.next = h.next + 1 ∧ h1.get h.next = some (.cells 42 (ckv c o cap) (.own false))) ∧ Sl [(0, .pointer (some ⟨N + 3, 0, none⟩)), (3, .pointer (some ⟨h.next, 0, none⟩)), (4, .int .i64 0)] f) ?_ ?_
  · refine gg ?_
    exact ⟨rfl, ⟨Keeps.new h _, rfl, by rw [Heap.get_new, if_pos rfl]⟩, sel_of rfl, sel_of rfl, sel_of rfl, trivial⟩
  rintro f1 h1 ⟨⟨k1, n1, g1⟩, hs⟩
  obtain ⟨f0, rfl⟩ := hs.puts
  clear hs
  have hdl : c.dt.length ≠ 0 := fun e => hd0 (List.length_eq_zero_iff.1 e)
  refine o_cut (fun f h2 => h2 = h1 ∧ Sl [(0, .pointer (some ⟨N + 3, 0, none⟩)), (3, .pointer (some ⟨h.next, 0, none⟩)), (4, .int .i64 0)] f) ?_ ?_
  · refine gg ?_; repeat (refine i_ldown (by exact sel_of rfl) (by assumption) (by rfl) ?_; refine gg ?_)
    rw [decide_eq_false (p := ((c.dt.length : Nat) : Int) = 0) (by omega)]
    refine gg ?_; repeat (refine i_ldown (by exact sel_of rfl) (by assumption) (by rfl) ?_; refine gg ?_)
    exact ⟨rfl, rfl, sel_of rfl, sel_of rfl, sel_of rfl, trivial⟩
  rintro f2 h2 ⟨e, hs⟩
  subst e
  obtain ⟨f0, rfl⟩ := hs.puts
  clear hs
  have top1 := (k1.get _ (by omega)).trans top
  have gm1 := (k1.get _ (by omega)).trans gm
  refine o_cut (fun f h3 => Keeps h2 h3 ∧ ∃ b : Bool, (b = true ↔ ∃ p, look ch c.A = some p) ∧ Sl [(0, .pointer (some ⟨N + 3, 0, none⟩)), (3, .pointer (some ⟨h.next, 0, none⟩)), (4, .int .i64 0), (6, .bool b)] f) ?_ ?_
  · refine gg ?_; repeat (refine i_ldown (by exact sel_of rfl) (by assumption) (by rfl) ?_; refine gg ?_)
    cases hz : look ch c.A with
    | none =>
      refine i_lookup (ok := true) (res := none) (by exact sel_of rfl) gm1 (kv := .int .u32 (c.A : Int)) (by rw [sel_of rfl]) rfl ((hes.find _).1 hz) ?_
      show ItQ (runItems _ _ (puts ((32, .tuple #[zck, .bool false]) :: _) _) _) _
      refine gg ?_
      refine i_storeF (vs := [.int .u8 0, .int .u8 0, .int .u32 0, .int .u32 0, .int .u16 0, .int .u16 0, .int .u32 0, .slice none 0 0, .slice none 0 0, .slice none 0 0, .slice none 0 0, .slice none 0 0]) (Keeps.new h2 _) (Nat.le_refl _) (by exact sel_of rfl) (by rw [sel_of rfl]; rfl) (by rw [Heap.get_new, if_pos rfl]) rfl rfl (Nat.lt_succ_self _) fun h3 k3 g3 lt3 => ?_
      refine gg ?_
      exact ⟨rfl, k3, false, by simp, sel_of rfl, sel_of rfl, sel_of rfl, sel_of rfl, trivial⟩
    | some p =>
      obtain ⟨vx, sx, fe, ox, cx, rfl, dx⟩ := (hes.find _).2 _ hz
      refine i_lookup (ok := true) (res := some (.agg (ckv p.2 ox cx).toArray, sx)) (by exact sel_of rfl) gm1 (kv := .int .u32 (c.A : Int)) (by rw [sel_of rfl]) rfl fe ?_
      show ItQ (runItems _ _ (puts ((32, .tuple #[.agg (ckv p.2 ox cx).toArray, .bool true]) :: _) _) _) _
      refine gg ?_
      refine i_storeF (vs := ckv p.2 ox cx) (Keeps.new h2 _) (Nat.le_refl _) (by exact sel_of rfl) (by rw [sel_of rfl]; rfl) (by rw [Heap.get_new, if_pos rfl]) rfl rfl (Nat.lt_succ_self _) fun h3 k3 g3 lt3 => ?_
      refine gg ?_
      exact ⟨rfl, k3, true, by simp, sel_of rfl, sel_of rfl, sel_of rfl, sel_of rfl, trivial⟩
  rintro f3 h3 ⟨k3, b, hb, hs⟩
  obtain ⟨f0, rfl⟩ := hs.puts
  clear hs
  have k03 := k1.trans k3
  have j3 := j.keeps k03
  have g3 := (k3.get _ (by omega : h.next < h2.next)).trans g1
  clear top top1 gm gm1
  have top := j3.top
  refine gg ?_; repeat (refine i_ldown (by exact sel_of rfl) (by assumption) (by rfl) ?_; refine gg ?_)
  refine i_call2 (by exact sel_of rfl) (by exact sel_of rfl) (w_knowsB j3 wc.out (by omega)) ?_
  rintro _ _ ⟨rfl, rfl⟩
  by_cases ho : c.out < nx.length
  · rw [decide_eq_true ho]
    refine gg ?_; repeat (refine i_ldown (by exact sel_of rfl) (by assumption) (by rfl) ?_; refine gg ?_)
    cases b with
    | true =>
      refine gg ?_; repeat (refine i_ldown (by exact sel_of rfl) (by assumption) (by rfl) ?_; refine gg ?_)
      exact ⟨⟨_, rfl, by decide⟩, k03⟩
    | false =>
      have hf : 65536 < held + c.dt.length := by
        rcases hbad with h | h | h
        · exact absurd ho h
        · have := hb.2 h; cases this
        · exact h
      refine gg ?_; repeat (refine i_ldown (by exact sel_of rfl) (by assumption) (by rfl) ?_; refine gg ?_)
      exact ⟨⟨_, rfl, by decide⟩, k03⟩
  · rw [decide_eq_false ho]
    refine gg ?_; repeat (refine i_ldown (by exact sel_of rfl) (by assumption) (by rfl) ?_; refine gg ?_)
    exact ⟨⟨_, rfl, by decide⟩, k03⟩
end
end Go.Proofs.Ytnffglfpjcbfaaa

