/- Part of a proof by an abstract run of the program's code: FI. No condition. -/
import Derived.Test.YtnffglfpjcbfaaaFH
/-! JoinOrders: the messages and their chunks are made. -/
set_option linter.unusedVariables false
namespace Go.Proofs.Ytnffglfpjcbfaaa
open Go Vm
def intsC (l : List Int) : List Value := l.map fun x => Value.int .i64 x
theorem ints_of : ∀ (els : List (List Value)) {h : Heap}, (∀ c ∈ els, Rep h (.int .i64) c) → ∃ l : List Int, els.flatten = intsC l ∧ l.length = els.length
  | [], _, _ => ⟨[], rfl, rfl⟩
  | x :: els, h, hx => by
    obtain ⟨l, hl, hn⟩ := ints_of els (fun c hc => hx c (by simp [hc]))
    cases hx x (by simp) with
    | @int k n w => exact ⟨n :: l, by rw [List.flatten_cons, hl]; rfl, by simp [hn]⟩
theorem repV_ints {h : Heap} {v : Value} (r : RepV h (.slice (.int .i64)) v) : ∃ (o : Option Addr) (c : Nat) (l : List Int), v = .slice o l.length c ∧ Row h 1 o l.length (intsC l) := by
  obtain ⟨o, m, c, els, h1, h2, h3, h4, h5, h6, h7⟩ := Rep.row r
  obtain ⟨l, hl, hn⟩ := ints_of els h5
  have : m = l.length := by rw [hn, h3]
  subst this
  exact ⟨o, c, l, h1, by rw [← hl]; exact h2⟩
/-! data apart from two rows -/
def Cl (h : Heap) (oa ol : Option Addr) (o : Option Addr) (bs : List UInt8) : Prop := Row h 1 o bs.length (u8s bs) ∧ ∀ q, o = some q → (∀ r, oa = some r → q.block ≠ r.block) ∧ ∀ r, ol = some r → q.block ≠ r.block
def MsX (h : Heap) (oa ol : Option Addr) : List Value → List Mg → Prop
  | cs, [] => cs = []
  | cs, m :: l => ∃ o cap cs', cs = mgv m o cap ++ cs' ∧ Cl h oa ol o m.dt ∧ MsX h oa ol cs' l
def CkX (h : Heap) (oa ol : Option Addr) : List Value → List Ck → Prop
  | cs, [] => cs = []
  | cs, c :: l => ∃ o cap cs', cs = ckv c o cap ++ cs' ∧ Cl h oa ol o c.dt ∧ CkX h oa ol cs' l
structure St2 (h : Heap) (oa ol : Option Addr) (h' : Heap) (oa' ol' : Option Addr) : Prop where
  next : h.next ≤ h'.next
  get : ∀ d, d < h.next → (∀ r, oa = some r → d ≠ r.block) → (∀ r, ol = some r → d ≠ r.block) → h'.get d = h.get d
  na : ∀ r, oa' = some r → oa = some r ∨ h.next ≤ r.block
  nl : ∀ r, ol' = some r → ol = some r ∨ h.next ≤ r.block
section
variable {h h' h'' : Heap} {oa ol oa' ol' oa'' ol'' : Option Addr}
theorem St2.keeps (k : Keeps h h') : St2 h oa ol h' oa ol := ⟨k.next, fun d hd _ _ => k.get d hd, fun r e => .inl e, fun r e => .inl e⟩
theorem St2.apart (s : St2 h oa ol h' oa' ol') {d : Nat} (hd : d < h.next) (a : ∀ r, oa = some r → d ≠ r.block) (b : ∀ r, ol = some r → d ≠ r.block) : (∀ r, oa' = some r → d ≠ r.block) ∧ ∀ r, ol' = some r → d ≠ r.block :=
  ⟨fun r e => (s.na r e).elim (a r) (fun e' => by omega), fun r e => (s.nl r e).elim (b r) (fun e' => by omega)⟩
theorem St2.cl (s : St2 h oa ol h' oa' ol') {o : Option Addr} {bs : List UInt8} (c : Cl h oa ol o bs) : Cl h' oa' ol' o bs := by
  obtain ⟨r, a⟩ := c
  cases o with
  | none => exact ⟨r, fun q e => by cases e⟩
  | some q =>
    obtain ⟨h1, h2, h3, h4⟩ := r
    obtain ⟨a1, a2⟩ := a q rfl
    refine ⟨⟨h1, Nat.lt_of_lt_of_le h2 s.next, h3, ?_⟩, fun q' e => by cases e; exact s.apart h2 a1 a2⟩
    rw [← h4]
    simp only [loadN, s.get _ h2 a1 a2]
theorem MsX.mono (s : St2 h oa ol h' oa' ol') : ∀ {l : List Mg} {cs : List Value}, MsX h oa ol cs l → MsX h' oa' ol' cs l
  | [], _, e => e
  | _ :: _, _, ⟨o, cap, cs', e, c, x⟩ => ⟨o, cap, cs', e, s.cl c, MsX.mono s x⟩
theorem CkX.mono (s : St2 h oa ol h' oa' ol') : ∀ {l : List Ck} {cs : List Value}, CkX h oa ol cs l → CkX h' oa' ol' cs l
  | [], _, e => e
  | _ :: _, _, ⟨o, cap, cs', e, c, x⟩ => ⟨o, cap, cs', e, s.cl c, CkX.mono s x⟩
theorem MsX.snoc {m : Mg} {o : Option Addr} {cap : Nat} (c : Cl h oa ol o m.dt) : ∀ {l : List Mg} {cs : List Value}, MsX h oa ol cs l → MsX h oa ol (cs ++ mgv m o cap) (l ++ [m])
  | [], _, e => ⟨o, cap, [], by rw [show _ = _ from e]; simp, c, rfl⟩
  | _ :: _, _, ⟨o', cap', cs', e, c', x⟩ => ⟨o', cap', cs' ++ mgv m o cap, by rw [e, List.append_assoc], c', MsX.snoc c x⟩
theorem CkX.append {l2 : List Ck} {cs2 : List Value} (y : CkX h oa ol cs2 l2) : ∀ {l : List Ck} {cs : List Value}, CkX h oa ol cs l → CkX h oa ol (cs ++ cs2) (l ++ l2)
  | [], _, e => by rw [show _ = _ from e]; exact y
  | _ :: _, _, ⟨o', cap', cs', e, c', x⟩ => ⟨o', cap', cs' ++ cs2, by rw [e, List.append_assoc], c', CkX.append y x⟩
theorem CkS.ckx {P : Nat → Prop} (hP : ∀ d, P d → (∀ r, oa = some r → d ≠ r.block) ∧ ∀ r, ol = some r → d ≠ r.block) : ∀ {l : List Ck} {cs : List Value}, CkS h P cs l → CkX h oa ol cs l
  | [], _, e => e
  | _ :: _, _, ⟨v, cs', e, ⟨o, cap, ev, r, p⟩, x⟩ => ⟨o, cap, cs', by rw [e, ev], ⟨r, fun q eq => hP _ (p q eq)⟩, CkS.ckx hP x⟩
theorem flat_le : ∀ {Ls : List (List Ck)}, (∀ L ∈ Ls, L.length ≤ 32) → Ls.flatten.length ≤ 32 * Ls.length
  | [], _ => Nat.le_refl _
  | L :: Ls, h => by
    have := flat_le (Ls := Ls) (fun M hM => h M (List.mem_cons_of_mem _ hM))
    have h0 := h L (List.mem_cons_self ..)
    rw [List.flatten_cons, List.length_append, List.length_cons]
    omega
end
/-- what is made when i messages are -/
structure P1 (h : Heap) (tsn most i : Nat) (oa ol : Option Addr) (Ms : List Mg) (Ls : List (List Ck)) (h' : Heap) : Prop where
  kk : Keeps h h'
  ra : ∃ ca, Ap h.next h' 30 4 oa i i ca ∧ MsX h' oa ol ca Ms
  rl : ∃ cl, Ap h.next h' 42 12 ol Ls.flatten.length Ls.flatten.length cl ∧ CkX h' oa ol cl Ls.flatten
  fa : ∀ q, oa = some q → h.next ≤ q.block
  fl : ∀ q, ol = some q → h.next ≤ q.block
  ne : ∀ q r, oa = some q → ol = some r → q.block ≠ r.block
  lm : Ms.length = i
  ll : Ls.length = i
  ms : ∀ (k : Nat) (M : Mg), Ms[k]? = some M → M.str = 1 ∧ M.un = false ∧ M.pp = k ∧ 1 ≤ M.dt.length ∧ M.dt.length ≤ 32
  ls : ∀ (k : Nat) (M : Mg), Ms[k]? = some M → Ls[k]? = some (cuts M ((tsn + (Ls.take k).flatten.length) % 4294967296) k most)
theorem P1.len {h : Heap} {tsn most i : Nat} {oa ol : Option Addr} {Ms : List Mg} {Ls : List (List Ck)} {h' : Heap} (p : P1 h tsn most i oa ol Ms Ls h') (h1 : 1 ≤ most) : Ls.flatten.length ≤ 32 * i := by
  have := flat_le (Ls := Ls) (fun L hL => by
    obtain ⟨k, hk⟩ := List.getElem?_of_mem hL
    have hkl := (List.getElem?_eq_some_iff.1 hk).1
    obtain ⟨M, hM⟩ : ∃ M, Ms[k]? = some M := ⟨_, List.getElem?_eq_getElem (by rw [p.lm, ← p.ll]; exact hkl)⟩
    have a := p.ls k M hM
    rw [hk] at a
    have := cuts_len (m := M) (tsn := (tsn + (Ls.take k).flatten.length) % 4294967296) (ssn := k) h1
    rw [← Option.some.inj a] at this
    have := (p.ms k M hM).2.2.2.2
    omega)
  rw [p.ll] at this
  exact this
theorem Ap.move {B : Nat} {h h' : Heap} {e sz : Nat} {o : Option Addr} {n c : Nat} {cs : List Value} (p : Ap B h e sz o n c cs) (hn : h.next ≤ h'.next) (hg : ∀ q, o = some q → h'.get q.block = h.get q.block) : Ap B h' e sz o n c cs := by
  obtain ⟨p1, p2, p3⟩ := p
  refine ⟨p1, ⟨p2.1, ?_⟩, fun q hq => ?_⟩
  · cases o with
    | none => exact p2.2
    | some q =>
      obtain ⟨h1, h2, h3, h4⟩ := p2
      refine ⟨Nat.lt_of_lt_of_le h2 hn, h3, ?_⟩
      rw [← h4]
      simp only [loadN, hg q rfl]
  · rcases p3 q hq with hs | ⟨k, e1, e2, e3⟩
    · exact .inl hs
    · refine .inr ⟨k, e1, e2, ?_⟩
      have := hg q hq
      rw [e1] at this
      rw [show h'.get k = h.get k from this]
      exact e3
section
variable {h : Heap} {n : Nat}
set_option maxHeartbeats 2000000 in
theorem w_made {f : Fr} {tsn most : Nat} {sz : List Int} {os : Option Addr} {cs : Nat} {pk : Value} (hr : Row h 1 os sz.length (intsC sz)) (hs20 : sz.length ≤ 20) (h1 : 1 ≤ most) (h2 : most ≤ 1172) (ht : tsn < 4294967296) (hn : 1000 ≤ n)
    (hsl : Sl [(12, .int .i64 ((0 : Nat) : Int)), (10, .slice none 0 0), (11, .slice none 0 0), (0, .int .u32 (tsn : Int)), (1, .slice os sz.length cs), (2, .int .i64 (most : Int)), (3, pk), (9, .bool true)] f) :
    OutQ ((sBlock 0 (sLoop c3_0)).f (callN Try.prog G0 n) n f h) (fun e f' h' => e = .normal ∧ ∃ oa ol Ms Ls, P1 h tsn most sz.length oa ol Ms Ls h' ∧ Sl [(10, .slice oa sz.length sz.length), (11, .slice ol Ls.flatten.length Ls.flatten.length), (3, pk), (9, .bool true)] f') := by
  refine o_up sz.length (fun i f h' => ∃ oa ol Ms Ls, P1 h tsn most i oa ol Ms Ls h' ∧ Sl [(12, .int .i64 (i : Int)), (10, .slice oa i i), (11, .slice ol Ls.flatten.length Ls.flatten.length), (0, .int .u32 (tsn : Int)), (1, .slice os sz.length cs), (2, .int .i64 (most : Int)), (3, pk), (9, .bool true)] f) (by omega) ?_ ?_
  · exact ⟨none, none, [], [], ⟨Keeps.refl h, ⟨[], Ap.nil _ _ _ _, rfl⟩, ⟨[], Ap.nil _ _ _ _, rfl⟩, (fun q e => by cases e), (fun q e => by cases e), (fun q r e => by cases e), rfl, rfl, (fun k M e => by simp at e), (fun k M e => by simp at e)⟩, hsl⟩
  clear hsl f
  rintro i f h' hi ⟨oa, ol, Ms, Ls, p, hs⟩
  obtain ⟨f0, rfl⟩ := hs.puts
  clear hs
  have hpl := p.len h1
  simp only [c3_0]
  refine gg ?_
  refine out_if (by exact sel_of rfl) (fun hif => ?_) (fun hif => ?_)
  · have hi' : i < sz.length := by omega
    obtain ⟨z, hz⟩ : ∃ z, sz[i]? = some z := ⟨_, List.getElem?_eq_getElem hi'⟩
    obtain ⟨u, rfl⟩ : ∃ u, os = some u := by
      cases os with
      | none => exact absurd (show sz.length = 0 from hr.2) (by omega)
      | some u => exact ⟨u, rfl⟩
    refine gg ?_
    refine i_cut 8 (fun f h1 => ∃ N, (1 ≤ N ∧ N ≤ 32 ∧ Keeps h' h1 ∧ h'.next + 1 < h1.next ∧ h1.get h'.next = some (.cells 5 (u8s (List.replicate N 0)) (.own false)) ∧ h1.get (h'.next + 1) = some (.cells 30 [.int .u16 ((1 : Nat) : Int), .bool false, .int .u32 (i : Int), .slice (some ⟨h'.next, 0, none⟩) N N] (.own false))) ∧ Sl [(13, .pointer (some ⟨h'.next + 1, 0, none⟩)), (12, .int .i64 (i : Int)), (10, .slice oa i i), (11, .slice ol Ls.flatten.length Ls.flatten.length), (0, .int .u32 (tsn : Int)), (1, .slice (some u) sz.length cs), (2, .int .i64 (most : Int)), (3, pk), (9, .bool true)] f) ?_ ?_
    · simp only [List.take]
      refine i_idx (by exact sel_of rfl) (hr.keeps p.kk) (i := i) (by exact sel_of rfl) hi' fun q hq => ?_
      cases hq
      refine gg ?_
      refine i_load1 (v := .int .i64 z) (by exact sel_of rfl) (((hr.keeps p.kk).cell (i := i * 1) (by omega) _).trans (by rw [Nat.mul_one]; simp [intsC, hz])) ?_
      refine i_mask (q := 31) (by exact sel_of rfl) (by rfl) (by decide) fun w hw => ?_
      refine gg ?_
      refine items_cons (it_a (mk_slice (l := 1 + w) (c := 1 + w) (by exact sel_of rfl) (by exact sel_of rfl) (Nat.le_refl _) (by omega) (by omega)) ?_)
      show ItQ (runItems _ _ (puts ((47, .slice (some ⟨h'.next, 0, none⟩) (1 + w) (1 + w)) :: _) _) _) _
      rw [rep_zero]
      have kd : Keeps h' (h'.new (.cells 5 (u8s (List.replicate (1 + w) 0)) (.own false))) := Keeps.new h' _
      have nd : (h'.new (.cells 5 (u8s (List.replicate (1 + w) 0)) (.own false))).next = h'.next + 1 := rfl
      have gd : (h'.new (.cells 5 (u8s (List.replicate (1 + w) 0)) (.own false))).get h'.next = some (.cells 5 (u8s (List.replicate (1 + w) 0)) (.own false)) := by rw [Heap.get_new, if_pos rfl]
      generalize h'.new (.cells 5 (u8s (List.replicate (1 + w) 0)) (.own false)) = hd at *
      refine gg ?_
      refine i_storeF (vs := [.int .u16 ((1 : Nat) : Int), .bool false, .int .u32 (i : Int), .slice (some ⟨h'.next, 0, none⟩) (1 + w) (1 + w)]) (Keeps.new hd _) (Nat.le_refl _) (by exact sel_of rfl) (by rw [sel_of rfl]; rfl) (by rw [Heap.get_new, if_pos rfl]) rfl rfl (Nat.lt_succ_self _) fun h1 k1 g1 lt1 => ?_
      have gd1 := (k1.get h'.next (by omega)).trans gd
      rw [nd] at g1 lt1
      refine gg ?_
      exact ⟨1 + w, ⟨by omega, by omega, kd.trans k1, lt1, gd1, g1⟩, (sel_of rfl).trans (by rw [nd]), sel_of rfl, sel_of rfl, sel_of rfl, sel_of rfl, sel_of rfl, sel_of rfl, sel_of rfl, sel_of rfl, trivial⟩
    simp only [List.drop]
    rintro f1 h1' ⟨N, ⟨hN1, hN32, k1, lt1, gd1, gb1⟩, hs⟩
    obtain ⟨f0, rfl⟩ := hs.puts
    clear hs
    refine i_nil (then_n ?_)
    obtain ⟨dt, hdt⟩ : ∃ dt, dt = UInt8.ofNat i :: List.replicate (N - 1) 0 := ⟨_, rfl⟩
    have hdl : dt.length = N := by rw [hdt]; simp; omega
    have hset : (u8s (List.replicate N 0)).set 0 (.int .u8 (i : Int)) = u8s dt := by
      obtain ⟨N', rfl⟩ : ∃ N', N = N' + 1 := ⟨N - 1, by omega⟩
      rw [hdt, Nat.add_sub_cancel, List.replicate_succ]
      show _ :: u8s (List.replicate N' 0) = _ :: u8s (List.replicate N' 0)
      congr 2
      show (i : Int) = ((UInt8.ofNat i).toNat : Int)
      rw [UInt8.toNat_ofNat']
      omega
    refine o_cut (fun f h2 => (Keeps h' h2 ∧ h'.next + 1 < h2.next ∧ h2.get h'.next = some (.cells 5 (u8s dt) (.own false)) ∧ h2.get (h'.next + 1) = some (.cells 30 [.int .u16 ((1 : Nat) : Int), .bool false, .int .u32 (i : Int), .slice (some ⟨h'.next, 0, none⟩) N N] (.own false))) ∧ Sl [(13, .pointer (some ⟨h'.next + 1, 0, none⟩)), (12, .int .i64 (i : Int)), (10, .slice oa i i), (11, .slice ol Ls.flatten.length Ls.flatten.length), (0, .int .u32 (tsn : Int)), (1, .slice (some u) sz.length cs), (2, .int .i64 (most : Int)), (3, pk), (9, .bool true)] f) ?_ ?_
    · refine gg ?_
      refine i_load1 (v := .slice (some ⟨h'.next, 0, none⟩) N N) (by exact sel_of rfl) ((load1_own gb1).trans (by rfl)) ?_
      refine gg ?_
      have hr1 : Row h1' 1 (some ⟨h'.next, 0, none⟩) N (u8s (List.replicate N 0)) := ⟨by rw [u8s_length]; simp, by show h'.next < _; omega, .inl rfl, loadN_all gd1 (by rw [u8s_length]; simp)⟩
      refine i_idx (by exact sel_of rfl) hr1 (i := 0) (by rfl) (by omega) fun q hq => ?_
      cases hq
      refine gg ?_
      refine i_store1 (u := ⟨h'.next, 0 + 0 * 1, some 0⟩) (v := .int .u8 (i : Int)) (by exact sel_of rfl) (by rw [sel_of rfl]; rfl) gd1 (by rw [u8s_length]; simp; omega) ?_
      refine gg ?_
      exact ⟨rfl, ⟨k1.put (b := h'.next) (Nat.le_refl _) _, lt1, by rw [Heap.get_put, if_pos rfl, ← hset], by rw [Heap.get_put, if_neg (by show h'.next + 1 ≠ h'.next; omega)]; exact gb1⟩, sel_of rfl, sel_of rfl, sel_of rfl, sel_of rfl, sel_of rfl, sel_of rfl, sel_of rfl, sel_of rfl, sel_of rfl, trivial⟩
    clear hset k1 lt1 gd1 gb1
    rintro f2 h2' ⟨⟨k2, lt2, gd2, gb2⟩, hs⟩
    obtain ⟨f0, rfl⟩ := hs.puts
    clear hs
    obtain ⟨M, hM⟩ : ∃ M : Mg, M = ⟨1, false, i, dt⟩ := ⟨_, rfl⟩
    have hMd : M.dt = dt := by rw [hM]
    have hmv : mgv M (some ⟨h'.next, 0, none⟩) N = [.int .u16 ((1 : Nat) : Int), .bool false, .int .u32 (i : Int), .slice (some ⟨h'.next, 0, none⟩) N N] := by rw [mgv, hMd, hdl, hM]
    rw [← hmv] at gb2
    have hrd : Row h2' 1 (some ⟨h'.next, 0, none⟩) M.dt.length (u8s M.dt) := by
      rw [hMd]
      exact ⟨by rw [u8s_length]; omega, by show h'.next < _; omega, .inl rfl, loadN_all gd2 (by rw [u8s_length]; omega)⟩
    refine gg ?_
    refine i_loadN (v := mgv M (some ⟨h'.next, 0, none⟩) N) (by exact sel_of rfl) (loadN_all gb2 rfl) ?_
    refine gg ?_
    refine i_addW (by exact sel_of rfl) (by exact sel_of rfl) (add32 tsn Ls.flatten.length) ?_
    refine gg ?_
    refine i_call4 (by exact sel_of rfl) (by exact sel_of rfl) (by exact sel_of rfl) (by exact sel_of rfl) (w_rsplit (Keeps.refl h2') (fun d => d = h'.next) (m := M) (tsn := (tsn + Ls.flatten.length) % 4294967296) (ssn := i) (most := most) hrd (fun q e => by cases e; rfl) (by rw [hMd]; omega) (fun e => by rw [hMd] at e; rw [e] at hdl; simp at hdl; omega) (by rw [hMd]; omega) h1 h2 (Nat.mod_lt _ (by decide)) (by omega) (by rw [hMd]; omega)) ?_
    rintro _ h3 ⟨q, cs3, rfl, k3, ap3, fl3, hcs⟩
    have hLlen := cuts_len (m := M) (tsn := (tsn + Ls.flatten.length) % 4294967296) (ssn := i) h1
    have hLne := cuts_ne (m := M) (tsn := (tsn + Ls.flatten.length) % 4294967296) (ssn := i) (most := most) (fun e => by rw [hMd] at e; rw [e] at hdl; simp at hdl; omega)
    obtain ⟨L, hL⟩ : ∃ L, L = cuts M ((tsn + Ls.flatten.length) % 4294967296) i most := ⟨_, rfl⟩
    rw [← hL] at ap3 hcs hLlen hLne ⊢
    rw [hMd, hdl] at hLlen
    have hLpos : 0 < L.length := List.length_pos_iff.2 hLne
    have hqb : q.block < h3.next := Row.low ap3.row q rfl
    have g3 := (k3.get _ lt2).trans gb2
    obtain ⟨ca, apa, hma⟩ := p.ra
    obtain ⟨cl, apl, hcl⟩ := p.rl
    have hal : ∀ r, oa = some r → r.block < h'.next := fun r e => Row.low apa.row r e
    have hll : ∀ r, ol = some r → r.block < h'.next := fun r e => Row.low apl.row r e
    have k23 := k2.trans k3
    have n23 := k23.next
    have n3 := k3.next
    refine gg ?_
    refine i_loadN (v := mgv M (some ⟨h'.next, 0, none⟩) N) (by exact sel_of rfl) (loadN_all g3 rfl) ?_
    refine i_bslice (cs := mgv M (some ⟨h'.next, 0, none⟩) N) (by rfl) ?_
    have k4 : Keeps h3 (h3.new (.cells 30 (mgv M (some ⟨h'.next, 0, none⟩) N) (.own false))) := Keeps.new h3 _
    have r4 : Row (h3.new (.cells 30 (mgv M (some ⟨h'.next, 0, none⟩) N) (.own false))) 4 (some ⟨h3.next, 0, none⟩) 1 (mgv M (some ⟨h'.next, 0, none⟩) N) := Row.new (by simp) rfl (.inl rfl)
    generalize h3.new (.cells 30 (mgv M (some ⟨h'.next, 0, none⟩) N) (.own false)) = h4 at *
    have k04 := k23.trans k4
    have n34 := k4.next
    have kk := p.kk
    have nk := kk.next
    refine i_appF (B := h.next) (m := 1) (t := i + 1) (es := ca ++ mgv M (some ⟨h'.next, 0, none⟩) N) (by decide) (kk.trans k04).next (by exact sel_of rfl) (apa.keeps k04) (by rw [sel_of rfl]; exact r4.src) rfl (by omega) rfl rfl fun h5 n5 e5 ap5 => ?_
    have s45 : St2 h4 oa ol h5 (some ⟨h4.next, 0, some 4⟩) ol := ⟨by omega, fun d hd a b => e5 d hd (fun q e => .inl (a q e)), fun r e => by cases e; exact .inr (Nat.le_refl _), fun r e => .inl e⟩
    have s05 : St2 h' oa ol h5 (some ⟨h4.next, 0, some 4⟩) ol := ⟨by omega, fun d hd a b => (s45.get d (by omega) a b).trans (k04.get d hd), fun r e => by cases e; exact .inr (by show h'.next ≤ h4.next; omega), fun r e => .inl e⟩
    have apl5 : Ap h.next h5 42 12 ol Ls.flatten.length Ls.flatten.length cl := Ap.move apl (by omega) (fun r e => by
      have hb := hll r e
      exact (e5 r.block (by omega) (fun r' e' => .inl (fun eb => p.ne r' r e' e eb.symm))).trans (k04.get _ hb))
    have rq5 : Row h5 12 (some q) L.length cs3 := by
      have := Ap.move ap3 (h' := h5) (by omega) (fun r e => by
        cases e
        exact (e5 q.block (by omega) (fun r' e' => .inl (fun eb => by have := hal r' e'; omega))).trans (k4.get _ hqb))
      exact this.row
    have k05 : Keeps h h5 := ⟨by omega, fun d hd => (e5 d (by omega) (fun r e => .inl (fun eb => by have := p.fa r e; omega))).trans ((kk.trans k04).get d hd)⟩
    have hf : (Ls ++ [L]).flatten = Ls.flatten ++ L := by simp
    have hfl : (Ls ++ [L]).flatten.length = Ls.flatten.length + L.length := by rw [hf, List.length_append]
    have hcL := Ap.row ap3
    refine gg ?_
    refine i_appF (B := h.next) (m := L.length) (t := (Ls ++ [L]).flatten.length) (es := cl ++ cs3) hLpos k05.next (by exact sel_of rfl) apl5 (by rw [sel_of rfl]; exact rq5.src) rq5.1 (by omega) hfl.symm rfl fun h6 n6 e6 ap6 => ?_
    have s56 : St2 h5 (some ⟨h4.next, 0, some 4⟩) ol h6 (some ⟨h4.next, 0, some 4⟩) (some ⟨h5.next, 0, some 12⟩) := ⟨by omega, fun d hd a b => e6 d hd (fun q e => .inl (b q e)), fun r e => .inl e, fun r e => by cases e; exact .inr (Nat.le_refl _)⟩
    have apa6 : Ap h.next h6 30 4 (some ⟨h4.next, 0, some 4⟩) (i + 1) (i + 1) (ca ++ mgv M (some ⟨h'.next, 0, none⟩) N) := Ap.move ap5 (by omega) (fun r e => by
      cases e
      exact e6 h4.next (by omega) (fun r' e' => .inl (fun eb => by have := hll r' e'; omega)))
    have k06 : Keeps h h6 := ⟨by omega, fun d hd => (e6 d (by omega) (fun r e => .inl (fun eb => by have := p.fl r e; omega))).trans (k05.get d hd)⟩
    have hcx : CkX h2' oa ol cs3 L := CkS.ckx (fun d hd => by subst hd; exact ⟨fun r e => by have := hal r e; omega, fun r e => by have := hll r e; omega⟩) hcs
    have hcm : Cl h2' oa ol (some ⟨h'.next, 0, none⟩) M.dt := ⟨hrd, fun q e => by cases e; exact ⟨fun r e => by have := hal r e; show h'.next ≠ _; omega, fun r e => by have := hll r e; show h'.next ≠ _; omega⟩⟩
    have s25 : St2 h2' oa ol h5 (some ⟨h4.next, 0, some 4⟩) ol := ⟨by omega, fun d hd a b => (s45.get d (by omega) a b).trans ((k3.trans k4).get d hd), fun r e => by cases e; exact .inr (by show h2'.next ≤ h4.next; omega), fun r e => .inl e⟩
    refine gg ?_
    refine rnd_up hi' ⟨_, _, Ms ++ [M], Ls ++ [L], ⟨k06, ⟨_, apa6, ((hma.mono s05).snoc (s25.cl hcm)).mono s56⟩, ⟨_, ap6, ?_⟩, (fun r e => by cases e; show h.next ≤ h4.next; omega), (fun r e => by cases e; show h.next ≤ h5.next; omega), (fun r r' e e' => by cases e; cases e'; show h4.next ≠ h5.next; omega), by rw [List.length_append, p.lm]; rfl, by rw [List.length_append, p.ll]; rfl, fun k M' hk => ?_, fun k M' hk => ?_⟩, sel_of rfl, sel_of rfl, sel_of rfl, sel_of rfl, sel_of rfl, sel_of rfl, sel_of rfl, sel_of rfl, trivial⟩
    · rw [hf]
      exact (CkX.append (hcx.mono s25) (hcl.mono s05)).mono s56
    · rw [List.getElem?_append] at hk
      split at hk
      · exact p.ms k M' hk
      · rename_i hnk
        have hk0 : k - Ms.length = 0 := by
          have := (List.getElem?_eq_some_iff.1 hk).1
          simp at this
          omega
        rw [hk0] at hk
        cases hk
        have hki : k = i := by have := p.lm; omega
        subst hki
        rw [hM]
        exact ⟨rfl, rfl, rfl, by show 1 ≤ dt.length; omega, by show dt.length ≤ 32; omega⟩
    · rw [List.getElem?_append] at hk ⊢
      have hll' := p.ll
      have hlm' := p.lm
      split at hk
      · rename_i hnk
        rw [if_pos (by omega), List.take_append_of_le_length (by omega)]
        exact p.ls k M' hk
      · rename_i hnk
        have hk0 : k - Ms.length = 0 := by
          have := (List.getElem?_eq_some_iff.1 hk).1
          simp at this
          omega
        rw [hk0] at hk
        cases hk
        have hki : k = i := by omega
        subst hki
        rw [if_neg (by omega), show k - Ls.length = 0 by omega, List.take_append_of_le_length (by omega), List.take_of_length_le (by omega), hL]
        rfl
  · have hil : i = sz.length := by omega
    subst hil
    refine gg ?_
    exact ⟨rfl, oa, ol, Ms, Ls, p, sel_of rfl, sel_of rfl, sel_of rfl, sel_of rfl, trivial⟩
end
end Go.Proofs.Ytnffglfpjcbfaaa

/-! JoinOrders: what was made, as chains. -/
set_option linter.unusedVariables false
namespace Go.Proofs.Ytnffglfpjcbfaaa
open Go Vm
/-- the chunks of the i-th message -/
def csOf (Ls : List (List Ck)) (i : Nat) : List Ck := (Ls[i]?).getD []
theorem flat_A {tsn : Nat} : ∀ (Ls : List (List Ck)) (off : Nat), (∀ (k : Nat) (L : List Ck), Ls[k]? = some L → ∀ (j : Nat) (c : Ck), L[j]? = some c → c.A = (tsn + off + (Ls.take k).flatten.length + j) % 4294967296) →
    ∀ (p : Nat) (c : Ck), Ls.flatten[p]? = some c → c.A = (tsn + off + p) % 4294967296
  | [], _, _, p, c, h => by simp at h
  | L :: Ls, off, hA, p, c, h => by
    rw [List.flatten_cons, List.getElem?_append] at h
    split at h
    · have := hA 0 L rfl p c h
      simpa using this
    · rename_i hp
      have := flat_A (tsn := tsn) Ls (off + L.length) (fun k M hk j d hd => by
        have := hA (k + 1) M (by simpa using hk) j d hd
        rw [List.take_succ_cons, List.flatten_cons, List.length_append] at this
        rw [this]
        congr 1
        omega) (p - L.length) c h
      rw [this]
      congr 1
      omega
theorem dts_flat : ∀ (Ls : List (List Ck)) (Ms : List Mg), Ls.length = Ms.length → (∀ (k : Nat) (M : Mg), Ms[k]? = some M → ∃ L, Ls[k]? = some L ∧ dts L = M.dt) → (dts Ls.flatten).length = mts Ms
  | [], [], _, _ => rfl
  | L :: Ls, M :: Ms, hl, h => by
    obtain ⟨L', e, hd⟩ := h 0 M rfl
    cases e
    have ih := dts_flat Ls Ms (by simpa using hl) (fun k M hk => by simpa using h (k + 1) M (by simpa using hk))
    rw [List.flatten_cons]
    show (dts (L ++ Ls.flatten)).length = _
    rw [show dts (L ++ Ls.flatten) = dts L ++ dts Ls.flatten by simp [dts], List.length_append, ih, hd]
    simp [mts]
  | [], _ :: _, hl, _ => by simp at hl
  | _ :: _, [], hl, _ => by simp at hl
theorem mts_le : ∀ (Ms : List Mg), (∀ (k : Nat) (M : Mg), Ms[k]? = some M → M.dt.length ≤ 32) → mts Ms ≤ 32 * Ms.length
  | [], _ => Nat.le_refl _
  | M :: Ms, h => by
    have ih := mts_le Ms (fun k M hk => h (k + 1) M (by simpa using hk))
    have := h 0 M rfl
    simp only [mts, List.map_cons, List.sum_cons, List.length_cons] at ih ⊢
    omega
theorem take_flat_le {Ls : List (List Ck)} {k k' : Nat} {L : List Ck} (hk : Ls[k]? = some L) (h : k < k') : (Ls.take k).flatten.length + L.length ≤ (Ls.take k').flatten.length := by
  have h1 : Ls.take (k + 1) = Ls.take k ++ [L] := by rw [List.take_add_one, hk]; rfl
  have h2 : Ls.take k' = Ls.take (k + 1) ++ (Ls.take k').drop (k + 1) := by
    conv => lhs; rw [← List.take_append_drop (k + 1) (Ls.take k'), List.take_take, Nat.min_eq_left h]
  rw [h2, h1]
  simp
theorem mem_csOf {Ls : List (List Ck)} {c : Ck} (h : c ∈ Ls.flatten) : ∃ (i k : Nat), i < Ls.length ∧ (csOf Ls i)[k]? = some c := by
  obtain ⟨L, hL, hc⟩ := List.mem_flatten.1 h
  obtain ⟨i, hi⟩ := List.getElem?_of_mem hL
  obtain ⟨k, hk⟩ := List.getElem?_of_mem hc
  exact ⟨i, k, (List.getElem?_eq_some_iff.1 hi).1, by unfold csOf; rw [hi]; exact hk⟩
theorem csOf_mem {Ls : List (List Ck)} {i : Nat} {c : Ck} (h : c ∈ csOf Ls i) : c ∈ Ls.flatten := by
  unfold csOf at h
  cases hi : Ls[i]? with
  | none => rw [hi] at h; simp at h
  | some L => rw [hi] at h; exact List.mem_flatten.2 ⟨L, List.mem_of_getElem? hi, h⟩
section
variable {h h' : Heap} {tsn most n : Nat} {oa ol : Option Addr} {Ms : List Mg} {Ls : List (List Ck)}
theorem P1.cs (p : P1 h tsn most n oa ol Ms Ls h') {i : Nat} (hi : i < n) : ∃ M, Ms[i]? = some M ∧ csOf Ls i = cuts M ((tsn + (Ls.take i).flatten.length) % 4294967296) i most ∧ Ls[i]? = some (csOf Ls i) := by
  obtain ⟨M, hM⟩ : ∃ M, Ms[i]? = some M := ⟨_, List.getElem?_eq_getElem (by rw [p.lm]; exact hi)⟩
  have := p.ls i M hM
  refine ⟨M, hM, ?_, ?_⟩ <;> unfold csOf <;> rw [this] <;> rfl
theorem P1.A (p : P1 h tsn most n oa ol Ms Ls h') (h1 : 1 ≤ most) {i : Nat} (hi : i < n) {k : Nat} {c : Ck} (hk : (csOf Ls i)[k]? = some c) : c.A = (tsn + 0 + (Ls.take i).flatten.length + k) % 4294967296 := by
  obtain ⟨M, hM, e, _⟩ := p.cs hi
  rw [e] at hk
  rw [(cuts_at h1 hk).1]
  omega
theorem P1.mes (p : P1 h tsn most n oa ol Ms Ls h') (h1 : 1 ≤ most) (hn : n ≤ 20) : Mes n (csOf Ls) Ms := by
  have hlen := p.len h1
  refine ⟨hn, p.lm, fun i hi => ?_, fun i b l hi e => ?_, fun i j k l x y hi hj hk hl ea => ?_, fun i hi c hc => ?_, fun i hi => ?_, fun i hi => ?_⟩
  · obtain ⟨M, hM, e, _⟩ := p.cs hi
    obtain ⟨m1, m2, m3, m4, m5⟩ := p.ms i M hM
    rw [e]
    exact cuts_chn h1 (by omega) (by omega) (by omega) (Nat.mod_lt _ (by decide))
  · obtain ⟨M, hM, e', _⟩ := p.cs hi
    obtain ⟨m1, m2, m3, m4, m5⟩ := p.ms i M hM
    rw [e'] at e
    rw [cuts_whole h1 e]
    refine ⟨hM, m1, m2, ?_⟩
    have := (cuts_at (m := M) (tsn := (tsn + (Ls.take i).flatten.length) % 4294967296) (ssn := i) (most := most) h1 (j := 0) (x := b) (by rw [e]; rfl)).2.2.1
    rw [m2] at this
    exact this
  · have a := p.A h1 hi hk
    have b := p.A h1 hj hl
    rw [a, b] at ea
    obtain ⟨_, _, _, gi⟩ := p.cs hi
    obtain ⟨_, _, _, gj⟩ := p.cs hj
    have li := (List.getElem?_eq_some_iff.1 hk).1
    have lj := (List.getElem?_eq_some_iff.1 hl).1
    have bi := take_flat_le gi (show i < n from hi)
    have bj := take_flat_le gj (show j < n from hj)
    have tn : Ls.take n = Ls := List.take_of_length_le (by rw [p.ll]; exact Nat.le_refl _)
    rw [tn] at bi bj
    rcases Nat.lt_trichotomy i j with hij | rfl | hij
    · have := take_flat_le gi hij
      omega
    · exact ⟨rfl, by omega⟩
    · have := take_flat_le gj hij
      omega
  · obtain ⟨M, hM, e, _⟩ := p.cs hi
    obtain ⟨m1, m2, m3, m4, m5⟩ := p.ms i M hM
    rw [e] at hc
    obtain ⟨k, hk⟩ := List.getElem?_of_mem hc
    rw [(cuts_at h1 hk).2.1, m1]
  · obtain ⟨M, hM, e, _⟩ := p.cs hi
    obtain ⟨m1, m2, m3, m4, m5⟩ := p.ms i M hM
    rw [e, cuts_dts h1]
    exact m5
  · obtain ⟨M, hM, e, _⟩ := p.cs hi
    obtain ⟨m1, m2, m3, m4, m5⟩ := p.ms i M hM
    have := cuts_len (m := M) (tsn := (tsn + (Ls.take i).flatten.length) % 4294967296) (ssn := i) h1
    rw [e]
    omega
theorem P1.tot (p : P1 h tsn most n oa ol Ms Ls h') (h1 : 1 ≤ most) (hn : n ≤ 20) : (dts Ls.flatten).length = mts Ms ∧ mts Ms ≤ 640 := by
  refine ⟨dts_flat Ls Ms (by rw [p.lm, p.ll]) fun k M hM => ⟨_, p.ls k M hM, cuts_dts h1⟩, ?_⟩
  have := mts_le Ms (fun k M hM => (p.ms k M hM).2.2.2.2)
  rw [p.lm] at this
  omega
theorem P1.oi (p : P1 h tsn most n oa ol Ms Ls h') (h1 : 1 ≤ most) (hn : n ≤ 20) : OI n (csOf Ls) Ms Ls.flatten [] [] 0 [] 0 (dts Ls.flatten).length 0 := by
  have hin : ∀ i, i < n → ¬Dn (csOf Ls i) (ks Ls.flatten) := fun i hi hd => by
    obtain ⟨M, hM, e, _⟩ := p.cs hi
    obtain ⟨m1, m2, m3, m4, m5⟩ := p.ms i M hM
    have hne : csOf Ls i ≠ [] := by
      rw [e]
      exact cuts_ne (fun e => by rw [e] at m4; simp at m4)
    obtain ⟨c, l, hcl⟩ := List.exists_cons_of_ne_nil hne
    have hc : c ∈ csOf Ls i := by rw [hcl]; exact List.mem_cons_self ..
    exact hd c hc (List.mem_map.2 ⟨c, csOf_mem hc, rfl⟩)
  have hlen := p.len h1
  refine ⟨fun c hc => ?_, ?_, fun i hi _ c hc => ?_, List.nodup_nil, Nat.zero_le _, rfl, fun h => hin 0 h, fun i h => absurd h (Nat.not_lt_zero _), fun i => ?_, List.nodup_nil, Nat.le_refl _, by omega, by omega⟩
  · obtain ⟨i, k, hi, hk⟩ := mem_csOf hc
    exact ⟨i, k, by rw [← p.ll]; exact hi, hk⟩
  · have hA := flat_A (tsn := tsn) Ls 0 (fun k L hk j c hj => p.A h1 (i := k) (by rw [← p.ll]; exact (List.getElem?_eq_some_iff.1 hk).1) (by unfold csOf; rw [hk]; exact hj))
    unfold ks
    show List.Pairwise _ _
    rw [List.pairwise_iff_getElem]
    intro a b ha hb hab
    rw [List.length_map] at ha hb
    rw [List.getElem_map, List.getElem_map]
    have ea := hA a _ (List.getElem?_eq_getElem ha)
    have eb := hA b _ (List.getElem?_eq_getElem hb)
    omega
  · rw [if_pos (List.mem_map.2 ⟨c, csOf_mem hc, rfl⟩)]
    rfl
  · rw [if_neg (fun h => hin i h.1 h.2.2)]
    rfl
end
theorem OI.fin {n : Nat} {Cs : Nat → List Ck} {Ms : List Mg} {ch : List (Nat × Ck)} {st : List ((Nat × Nat) × Mg)} {x : Nat} {rd : List Mg} {held tot e : Nat} (M : Mes n Cs Ms) (o : OI n Cs Ms [] ch st x rd held tot e) : rd = Ms ∧ tot ≤ held := by
  have hx : x = n := by
    rcases Nat.lt_or_ge x n with h | h
    · exact absurd (fun c hc => by simp) (o.dx h)
    · have := o.xn; omega
  refine ⟨by rw [o.rdx, hx, List.take_of_length_le (by rw [M.len]; exact Nat.le_refl _)], ?_⟩
  have := o.lo
  simpa [dts] using this
end Go.Proofs.Ytnffglfpjcbfaaa

