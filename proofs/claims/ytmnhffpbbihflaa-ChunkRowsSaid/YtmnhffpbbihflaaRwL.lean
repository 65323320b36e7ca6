/- Part of a proof by an abstract run of the program's code: RwL. No condition. -/
import Derived.Test.YtmnhffpbbihflaaChkA
import Derived.Test.YtmnhffpbbihflaaLwA
/-! Chunks one behind the other: the law ChunkRows, walked. -/
set_option linter.unusedVariables false
namespace Vm
open Go
theorem flat_get {sz : Nat} : ∀ (els : List (List Value)) (i : Nat) {v : List Value}, (∀ c ∈ els, c.length = sz) → els[i]? = some v → (els.flatten.drop (i * sz)).take sz = v
  | [], i, v, _, h => by simp at h
  | x :: els, 0, v, hx, h => by
    simp at h; subst h
    rw [Nat.zero_mul, List.drop_zero, List.flatten_cons, List.take_left' (hx x (by simp))]
  | x :: els, i + 1, v, hx, h => by
    have h1 := hx x (by simp)
    rw [List.flatten_cons, show (i + 1) * sz = x.length + i * sz by rw [h1, Nat.add_mul]; omega, List.drop_append]
    rw [List.drop_eq_nil_of_le (by omega), List.nil_append, show x.length + i * sz - x.length = i * sz by omega]
    exact flat_get els i (fun c hc => hx c (by simp [hc])) (by simpa using h)
theorem flat_cell {sz : Nat} {els : List (List Value)} {i j : Nat} {v : List Value} (hx : ∀ c ∈ els, c.length = sz) (h : els[i]? = some v) (hj : j < sz) : els.flatten[i * sz + j]? = v[j]? := by
  rw [← flat_get els i hx h, List.getElem?_take, if_pos hj, List.getElem?_drop]
end Vm
namespace Go.Proofs.Ytmnhffpbbihflaa
open Go Vm
/-- the cells of chunks -/
def ChE (h : Heap) (l : List Chk) (els : List (List Value)) : Prop := els.length = l.length ∧ (∀ c ∈ els, c.length = 12) ∧ ∀ (i : Nat) (x : Chk) (v : List Value), l[i]? = some x → els[i]? = some v → ChV h x v
theorem ChE.nil (h : Heap) : ChE h [] [] := ⟨rfl, (fun c hc => by cases hc), fun i x v hx => by simp at hx⟩
theorem ChE.snoc {h : Heap} {l : List Chk} {els : List (List Value)} {x : Chk} {v : List Value} (r : ChE h l els) (hx : ChV h x v) : ChE h (l ++ [x]) (els ++ [v]) := by
  obtain ⟨h1, h2, h3⟩ := r
  refine ⟨by rw [List.length_append, List.length_append, h1]; rfl, fun c hc => ?_, fun i y w hy hw => ?_⟩
  · rcases List.mem_append.1 hc with hc | hc
    · exact h2 c hc
    · simp at hc; subst hc; exact hx.len
  · by_cases hi : i < l.length
    · rw [List.getElem?_append_left hi] at hy
      rw [List.getElem?_append_left (by omega)] at hw
      exact h3 i y w hy hw
    · rw [List.getElem?_append_right (by omega)] at hy
      rw [List.getElem?_append_right (by omega), h1] at hw
      have e : i - l.length = 0 := by
        have := (List.getElem?_eq_some_iff.1 hy).1
        simp at this; omega
      rw [e] at hy hw
      simp at hy hw
      subst hy hw
      exact hx
theorem ChE.at {h : Heap} {l : List Chk} {els : List (List Value)} (r : ChE h l els) {i : Nat} {x : Chk} (hx : l[i]? = some x) : ∃ v, els[i]? = some v ∧ ChV h x v := by
  have hi := (List.getElem?_eq_some_iff.1 hx).1
  have : els[i]? = some (els[i]'(by rw [r.1]; exact hi)) := List.getElem?_eq_getElem _
  exact ⟨_, this, r.2.2 i x _ hx this⟩
theorem RepV.chunks {h : Heap} {v : Value} (r : RepV h (.slice PTc) v) : ∃ (o : Option Addr) (m c : Nat) (l : List Chk) (els : List (List Value)), v = .slice o m c ∧ Row h 12 o m els.flatten ∧ l.length = m ∧ ChE h l els ∧ (∀ x ∈ l, x.Ok) ∧ m ≤ c := by
  obtain ⟨o, m, c, els, h1, h2, h3, h4, h5, h6, h7⟩ := Rep.row r
  have key : ∀ (els : List (List Value)), (∀ c ∈ els, c.length = 12) → (∀ c ∈ els, Rep h PTc c) → ∃ l : List Chk, ChE h l els ∧ ∀ x ∈ l, x.Ok := by
    intro els
    induction els with
    | nil => intro _ _; exact ⟨[], ChE.nil h, fun x hx => by cases hx⟩
    | cons e els ih =>
      intro hl he
      obtain ⟨l, q1, q2⟩ := ih (fun c hc => hl c (by simp [hc])) (fun c hc => he c (by simp [hc]))
      obtain ⟨x, hx, ho⟩ := rep_chunk (he e (by simp))
      refine ⟨x :: l, ⟨by rw [List.length_cons, List.length_cons, q1.1], hl, fun i y w hy hw => ?_⟩, fun y hy => ?_⟩
      · cases i with
        | zero => simp at hy hw; subst hy hw; exact hx
        | succ i => exact q1.2.2 i y w (by simpa using hy) (by simpa using hw)
      · rcases List.mem_cons.1 hy with rfl | hy
        · exact ho
        · exact q2 y hy
  obtain ⟨l, hl, ho⟩ := key els h4 h5
  exact ⟨o, m, c, l, els, h1, h2, by rw [← hl.1, h3], hl, ho, h6⟩
/-- the octets of chunks, one behind the other -/
def encs (l : List Chk) : List UInt8 := l.flatMap fun x => (encC x).1
theorem encs_snoc (l : List Chk) (x : Chk) : encs (l ++ [x]) = encs l ++ (encC x).1 := by simp [encs, List.flatMap_append]
theorem encs_len : ∀ (l : List Chk), (∀ x ∈ l, x.shaped) → (encs l).length ≤ 42010 * l.length
  | [], _ => Nat.le_refl _
  | x :: l, h => by
    have h1 := encs_len l (fun y hy => h y (by simp [hy]))
    have h2 := (encC_len (h x (by simp))).2.2
    simp only [encs, List.flatMap_cons, List.length_append, List.length_cons] at h1 ⊢
    omega
set_option maxHeartbeats 8000000 in
theorem w_lrows {h : Heap} {o : Option Addr} {m c : Nat} {l : List Chk} {els : List (List Value)} (hr : Row h 12 o m els.flatten) (hl : l.length = m) (he : ChE h l els) (ho : ∀ x ∈ l, x.Ok) (n : Nat) (hn : 101000 ≤ n) :
    ResQ (callN Try.prog G0 n (.call 9 [.slice o m c]) h) (fun u h' => u = .bool true) := by
  subst hl
  obtain ⟨n, rfl⟩ : ∃ m, n = m + 1 := ⟨n - 1, by omega⟩
  refine res_enter rfl d9 rfl ?_; simp only [c9]
  refine gg ?_
  refine i_call0 (w_awake h n (by omega)) ?_
  rintro _ _ ⟨rfl, rfl⟩
  refine gg ?_
  refine out_if (by exact sel_of rfl) (fun hif => ?_) (fun hif => ?_)
  · refine gg ?_
    rfl
  have hl20 : l.length ≤ 20 := by omega
  refine gg ?_
  refine o_up l.length (fun i f h' => ∃ (acc : List Chk) (ob oc : Option Addr) (es : List (List Value)), Sl [(6, .int .i64 (i : Int)), (0, .slice o l.length c), (3, .bool true), (4, .slice ob (encs acc).length (encs acc).length), (5, .slice oc acc.length acc.length)] f ∧ Keeps h h' ∧ Ap h.next h' 5 1 ob (encs acc).length (encs acc).length (u8s (encs acc)) ∧ Ap h.next h' 30 12 oc acc.length acc.length es.flatten ∧ ChE h acc es ∧ (∀ x ∈ acc, x.shaped ∧ x.Ok) ∧ acc.length ≤ i ∧ (∀ q q', ob = some q → oc = some q' → q.block ≠ q'.block)) (by omega) ?_ ?_
  · exact ⟨[], none, none, [], ⟨sel_of rfl, sel_of rfl, sel_of rfl, sel_of rfl, sel_of rfl, trivial⟩, Keeps.refl h, Ap.nil _ _ _ _, Ap.nil _ _ _ _, ChE.nil h, (fun x hx => by cases hx), Nat.le_refl _, fun q q' e => by cases e⟩
  rintro i f h' hi ⟨acc, ob, oc, es, hs, k, apb, apo, hes, hacc, hai, hdis⟩
  obtain ⟨f0, rfl⟩ := hs.puts
  have hbl := encs_len acc (fun x hx => (hacc x hx).1)
  have kn := k.next
  simp only [c9_0]
  refine gg ?_
  refine out_if (by exact sel_of rfl) (fun hif => ?_) (fun hif => ?_)
  · obtain ⟨x, hx⟩ : ∃ x, l[i]? = some x := ⟨_, List.getElem?_eq_getElem (by omega)⟩
    obtain ⟨v, hv, cv⟩ := he.at hx
    have hox := ho x (List.mem_of_getElem? hx)
    have cv0 := cv
    have rr := hr.keeps k
    have hld : ∀ (j : Nat) (s : Option Nat) (u : Addr), o = some u → j < 12 → load1 h'.get ⟨u.block, u.off + i * 12 + j, s⟩ = v[j]? := by
      intro j s u hu hj
      subst hu
      have := rr.cell (i := i * 12 + j) (by omega) s
      rw [flat_cell he.2.1 hv hj] at this
      rw [Nat.add_assoc]; exact this
    obtain ⟨o1, c1, o2, c2, o3, c3, o4, c4, o5, c5, ps, rfl, _⟩ := cv
    refine gg ?_
    refine i_idx (by exact sel_of rfl) rr (i := i) (by exact sel_of rfl) (by omega) fun u hu => ?_
    refine gg ?_
    refine i_load1 (v := .slice o5 x.da.length c5) (by exact sel_of rfl) (hld 11 _ u hu (by decide)) ?_
    refine gg ?_
    by_cases hd : 1300 < x.da.length
    · rw [decide_eq_true (p := (1300 : Int) < ((x.da.length : Nat) : Int)) (by omega)]
      refine gg ?_
      rfl
    rw [decide_eq_false (p := (1300 : Int) < ((x.da.length : Nat) : Int)) (by omega)]
    refine gg ?_
    refine i_idx (by exact sel_of rfl) rr (i := i) (by exact sel_of rfl) (by omega) fun u2 hu2 => ?_
    refine gg ?_
    refine i_load1 (v := .slice o4 x.pa.length c4) (by exact sel_of rfl) (hld 10 _ u2 hu2 (by decide)) ?_
    refine gg ?_
    refine i_idx (by exact sel_of rfl) rr (i := i) (by exact sel_of rfl) (by omega) fun u3 hu3 => ?_
    refine gg ?_
    refine i_load1 (v := .slice o1 x.bl.length c1) (by exact sel_of rfl) (hld 7 _ u3 hu3 (by decide)) ?_
    refine gg ?_
    refine i_v (int2w _ (by exact sel_of rfl) (by exact sel_of rfl) rfl) ?_
    refine gg ?_
    refine i_idx (by exact sel_of rfl) rr (i := i) (by exact sel_of rfl) (by omega) fun u4 hu4 => ?_
    refine gg ?_
    refine i_load1 (v := .slice o2 x.du.length c2) (by exact sel_of rfl) (hld 8 _ u4 hu4 (by decide)) ?_
    refine gg ?_
    refine i_v (int2w _ (by exact sel_of rfl) (by exact sel_of rfl) rfl) ?_
    refine gg ?_
    refine i_idx (by exact sel_of rfl) rr (i := i) (by exact sel_of rfl) (by omega) fun u5 hu5 => ?_
    refine gg ?_
    refine i_load1 (v := .slice o3 x.sk.length c3) (by exact sel_of rfl) (hld 9 _ u5 hu5 (by decide)) ?_
    refine gg ?_
    refine i_v (int2w _ (by exact sel_of rfl) (by exact sel_of rfl) rfl) ?_
    generalize wrap .i64 (wrap .i64 (wrap .i64 (((x.pa.length : Nat) : Int) + ((x.bl.length : Nat) : Int)) + ((x.du.length : Nat) : Int)) + ((x.sk.length : Nat) : Int)) = S
    refine gg ?_
    by_cases hS : (100 : Int) < S
    · rw [decide_eq_true hS]
      refine gg ?_
      rfl
    rw [decide_eq_false hS]
    refine gg ?_
    refine i_idx (by exact sel_of rfl) rr (i := i) (by exact sel_of rfl) (by omega) fun u6 hu6 => ?_
    have hwhole : loadN h'.get ⟨u6.block, u6.off + i * 12, some 0⟩ 12 = some [.int .u8 (x.k : Int), .int .u8 (x.fl : Int), .int .u32 (x.a : Int), .int .u32 (x.b : Int), .int .u16 (x.o : Int), .int .u16 (x.i : Int), .int .u32 (x.p : Int), .slice o1 x.bl.length c1, .slice o2 x.du.length c2, .slice o3 x.sk.length c3, .slice o4 x.pa.length c4, .slice o5 x.da.length c5] := by
      have hr2 := rr
      subst hu6
      rw [hr2.cells (by omega) (some 0), flat_get els i he.2.1 hv]
    refine i_loadN (by exact sel_of rfl) hwhole ?_
    refine i_call1 (by exact sel_of rfl) (w_cencodeG (cv0.keeps k) n (by omega)) ?_
    rintro _ h2 ⟨k2, oE, cE, rfl, rE, hcE⟩
    have apb := apb.keeps k2
    have apo := apo.keeps k2
    have n2 := k2.next
    by_cases hsh : x.shaped
    case neg =>
      obtain ⟨e1, e2⟩ := encC_bad hsh
      generalize encC x = E at *
      refine gg ?_
      exact rnd_up (by omega) ⟨acc, ob, oc, es, ⟨sel_of rfl, sel_of rfl, sel_of rfl, sel_of rfl, sel_of rfl, trivial⟩, k.trans k2, apb, apo, hes, hacc, by omega, hdis⟩
    have e2 := (encC_ok hsh).2
    obtain ⟨e3, e4, e5⟩ := encC_len hsh
    have es1 := encs_snoc acc x
    generalize hE : encC x = E at *
    refine gg ?_
    have hB : (encs acc).length + E.1.length ≤ 1000000 := by omega
    have k02 := k.trans k2
    refine i_appF (t := (encs (acc ++ [x])).length) (es := u8s (encs (acc ++ [x]))) (by omega) (B := h.next) (by omega) (by exact sel_of rfl) apb (rE.src8) (by rw [u8s_length, Nat.mul_one]) (by omega) (by rw [es1, List.length_append]) (by rw [es1, u8s_append]) fun h3 nx3 fr3 ap3 => ?_
    have k3 : Keeps h h3 := ⟨by omega, fun d hd => (fr3 d (by omega) (fun q e => by
      rcases apb.2.2 q e with h0 | ⟨j, h1, h2', _⟩
      · exact .inr h0
      · left; rw [h1]; show d ≠ j; omega)).trans (k02.get d hd)⟩
    have apo3 : Ap h.next h3 30 12 oc acc.length acc.length es.flatten := by
      obtain ⟨z1, z2, z3⟩ := apo
      have hrow : ∀ q, oc = some q → h3.get q.block = h2.get q.block := fun q e => by
        have hlt : q.block < h2.next := by subst e; exact z2.2.1
        exact fr3 _ hlt (fun q2 e2 => .inl (fun e' => hdis q2 q e2 e e'.symm))
      refine ⟨rfl, row_low z2 (by omega) hrow, fun q e => ?_⟩
      rcases z3 q e with h0 | ⟨j, h1, h2', h3'⟩
      · exact .inl h0
      · refine .inr ⟨j, h1, h2', ?_⟩
        have := hrow q e
        rw [h1] at this
        exact this.trans h3'
    refine gg ?_
    have rr3 := hr.keeps k3
    refine i_idx (by exact sel_of rfl) rr3 (i := i) (by exact sel_of rfl) (by omega) fun u7 hu7 => ?_
    have hwhole3 : loadN h3.get ⟨u7.block, u7.off + i * 12, some 0⟩ 12 = some [.int .u8 (x.k : Int), .int .u8 (x.fl : Int), .int .u32 (x.a : Int), .int .u32 (x.b : Int), .int .u16 (x.o : Int), .int .u16 (x.i : Int), .int .u32 (x.p : Int), .slice o1 x.bl.length c1, .slice o2 x.du.length c2, .slice o3 x.sk.length c3, .slice o4 x.pa.length c4, .slice o5 x.da.length c5] := by
      subst hu7
      rw [rr3.cells (by omega) (some 0), flat_get els i he.2.1 hv]
    refine i_loadN (by exact sel_of rfl) hwhole3 ?_
    refine i_bslice (cs := [.int .u8 (x.k : Int), .int .u8 (x.fl : Int), .int .u32 (x.a : Int), .int .u32 (x.b : Int), .int .u16 (x.o : Int), .int .u16 (x.i : Int), .int .u32 (x.p : Int), .slice o1 x.bl.length c1, .slice o2 x.du.length c2, .slice o3 x.sk.length c3, .slice o4 x.pa.length c4, .slice o5 x.da.length c5]) (by rfl) ?_
    have k4 : Keeps h3 (h3.new (.cells 30 [.int .u8 (x.k : Int), .int .u8 (x.fl : Int), .int .u32 (x.a : Int), .int .u32 (x.b : Int), .int .u16 (x.o : Int), .int .u16 (x.i : Int), .int .u32 (x.p : Int), .slice o1 x.bl.length c1, .slice o2 x.du.length c2, .slice o3 x.sk.length c3, .slice o4 x.pa.length c4, .slice o5 x.da.length c5] (.own false))) := Keeps.new h3 _
    have row4 : Row (h3.new (.cells 30 [.int .u8 (x.k : Int), .int .u8 (x.fl : Int), .int .u32 (x.a : Int), .int .u32 (x.b : Int), .int .u16 (x.o : Int), .int .u16 (x.i : Int), .int .u32 (x.p : Int), .slice o1 x.bl.length c1, .slice o2 x.du.length c2, .slice o3 x.sk.length c3, .slice o4 x.pa.length c4, .slice o5 x.da.length c5] (.own false))) 12 (some ⟨h3.next, 0, none⟩) 1 [.int .u8 (x.k : Int), .int .u8 (x.fl : Int), .int .u32 (x.a : Int), .int .u32 (x.b : Int), .int .u16 (x.o : Int), .int .u16 (x.i : Int), .int .u32 (x.p : Int), .slice o1 x.bl.length c1, .slice o2 x.du.length c2, .slice o3 x.sk.length c3, .slice o4 x.pa.length c4, .slice o5 x.da.length c5] := Row.new (by simp) rfl (.inl rfl)
    have nx4 : (h3.new (.cells 30 [.int .u8 (x.k : Int), .int .u8 (x.fl : Int), .int .u32 (x.a : Int), .int .u32 (x.b : Int), .int .u16 (x.o : Int), .int .u16 (x.i : Int), .int .u32 (x.p : Int), .slice o1 x.bl.length c1, .slice o2 x.du.length c2, .slice o3 x.sk.length c3, .slice o4 x.pa.length c4, .slice o5 x.da.length c5] (.own false))).next = h3.next + 1 := rfl
    generalize (h3.new (.cells 30 [.int .u8 (x.k : Int), .int .u8 (x.fl : Int), .int .u32 (x.a : Int), .int .u32 (x.b : Int), .int .u16 (x.o : Int), .int .u16 (x.i : Int), .int .u32 (x.p : Int), .slice o1 x.bl.length c1, .slice o2 x.du.length c2, .slice o3 x.sk.length c3, .slice o4 x.pa.length c4, .slice o5 x.da.length c5] (.own false))) = h4 at *
    have es2 : es.flatten ++ ([.int .u8 (x.k : Int), .int .u8 (x.fl : Int), .int .u32 (x.a : Int), .int .u32 (x.b : Int), .int .u16 (x.o : Int), .int .u16 (x.i : Int), .int .u32 (x.p : Int), .slice o1 x.bl.length c1, .slice o2 x.du.length c2, .slice o3 x.sk.length c3, .slice o4 x.pa.length c4, .slice o5 x.da.length c5] : List Value) = (es ++ [([.int .u8 (x.k : Int), .int .u8 (x.fl : Int), .int .u32 (x.a : Int), .int .u32 (x.b : Int), .int .u16 (x.o : Int), .int .u16 (x.i : Int), .int .u32 (x.p : Int), .slice o1 x.bl.length c1, .slice o2 x.du.length c2, .slice o3 x.sk.length c3, .slice o4 x.pa.length c4, .slice o5 x.da.length c5] : List Value)]).flatten := by rw [List.flatten_append]; simp
    refine i_appF (t := (acc ++ [x]).length) (es := (es ++ [([.int .u8 (x.k : Int), .int .u8 (x.fl : Int), .int .u32 (x.a : Int), .int .u32 (x.b : Int), .int .u16 (x.o : Int), .int .u16 (x.i : Int), .int .u32 (x.p : Int), .slice o1 x.bl.length c1, .slice o2 x.du.length c2, .slice o3 x.sk.length c3, .slice o4 x.pa.length c4, .slice o5 x.da.length c5] : List Value)]).flatten) (by decide) (B := h.next) (by omega) (by exact sel_of rfl) (apo3.keeps k4) (row4.src) rfl (by omega) (by rw [List.length_append]; rfl) es2 fun h5 nx5 fr5 ap5 => ?_
    have k04 := k3.trans k4
    have k5 : Keeps h h5 := ⟨by omega, fun d hd => (fr5 d (by omega) (fun q e => by
      rcases apo3.2.2 q e with h0 | ⟨j, h1, h2', _⟩
      · exact .inr h0
      · left; rw [h1]; show d ≠ j; omega)).trans (k04.get d hd)⟩
    have ap35 : Ap h.next h5 5 1 (some ⟨h2.next, 0, some 1⟩) (encs (acc ++ [x])).length (encs (acc ++ [x])).length (u8s (encs (acc ++ [x]))) := by
      obtain ⟨z1, z2, z3⟩ := ap3.keeps k4
      have hrow : h5.get h2.next = h4.get h2.next := fr5 _ (by omega) (fun q2 e2 => .inl (by
        have hlt : q2.block < h2.next := by subst e2; exact apo.2.1.2.1
        omega))
      refine ⟨rfl, row_low z2 (by omega) (fun q e => by cases e; exact hrow), fun q e => ?_⟩
      rcases z3 q e with h0 | ⟨j, h1, h2', h3'⟩
      · exact .inl h0
      · refine .inr ⟨j, h1, h2', ?_⟩
        cases e
        cases h1
        exact hrow.trans h3'
    refine gg ?_
    refine rnd_up (by omega) ⟨acc ++ [x], _, _, es ++ [([.int .u8 (x.k : Int), .int .u8 (x.fl : Int), .int .u32 (x.a : Int), .int .u32 (x.b : Int), .int .u16 (x.o : Int), .int .u16 (x.i : Int), .int .u32 (x.p : Int), .slice o1 x.bl.length c1, .slice o2 x.du.length c2, .slice o3 x.sk.length c3, .slice o4 x.pa.length c4, .slice o5 x.da.length c5] : List Value)], ⟨sel_of rfl, sel_of rfl, sel_of rfl, sel_of rfl, sel_of rfl, trivial⟩, k5, ap35, ap5, hes.snoc cv0, fun y hy => ?_, by rw [List.length_append]; show acc.length + 1 ≤ i + 1; omega, fun q q' e e' => by cases e; cases e'; show h2.next ≠ h4.next; omega⟩
    rcases List.mem_append.1 hy with hy | hy
    · exact hacc y hy
    · simp at hy; subst hy; exact ⟨hsh, hox⟩
  have kb := apb.row
  have ko := apo.row
  clear apb apo hdis
  refine gg ?_
  refine o_up acc.length (fun j f h'' => ∃ (ob' : Option Addr) (cb : Nat), Sl [(9, .int .i64 (j : Int)), (3, .bool true), (4, .slice ob' (encs (acc.drop j)).length cb), (5, .slice oc acc.length acc.length)] f ∧ Keeps h' h'' ∧ Row h'' 1 ob' (encs (acc.drop j)).length (u8s (encs (acc.drop j))) ∧ (encs (acc.drop j)).length ≤ cb) (by omega) ?_ ?_
  · exact ⟨ob, (encs acc).length, ⟨sel_of rfl, sel_of rfl, sel_of rfl, sel_of rfl, trivial⟩, Keeps.refl _, kb, Nat.le_refl _⟩
  rintro j f h'' hj ⟨ob', cb, hs, k2, rb, hcb⟩
  obtain ⟨f0, rfl⟩ := hs.puts
  simp only [c9_1]
  refine gg ?_
  refine out_if (by exact sel_of rfl) (fun hif => ?_) (fun hif => ?_)
  · obtain ⟨x, hx⟩ : ∃ x, acc[j]? = some x := ⟨_, List.getElem?_eq_getElem (by omega)⟩
    obtain ⟨v, hv, cv⟩ := hes.at hx
    obtain ⟨hsh, hox⟩ := hacc x (List.mem_of_getElem? hx)
    have hdr : encs (acc.drop j) = (encC x).1 ++ encs (acc.drop (j + 1)) := by rw [drop_cons hx]; rfl
    have hlen2 : (encs (acc.drop j)).length ≤ 1000000 := by
      have := encs_len (acc.drop j) (fun y hy => (hacc y (List.mem_of_mem_drop hy)).1)
      rw [List.length_drop] at this
      omega
    have hd := decC_enc hsh hox (encs (acc.drop (j + 1)))
    obtain ⟨e3, e4, e5⟩ := encC_len hsh
    have few : x.Few := by
      obtain ⟨_, _, s10, s11, s12, s13, s14, _⟩ := hsh
      obtain ⟨_, hp32, hp12⟩ := encR_ok s10
      exact ⟨by omega, by omega, by omega, by omega, by omega, fun p hp => by have := hp12 p hp; omega⟩
    rw [hdr] at rb hcb hlen2 ⊢
    generalize (encC x).1 = E at *
    generalize hrest : encs (acc.drop (j + 1)) = rest at *
    have hlr : (E ++ rest).length = E.length + rest.length := List.length_append
    refine gg ?_
    refine i_call1 (by exact sel_of rfl) (w_cdecode rb hlen2 n (by omega)) ?_
    rintro _ h3 ⟨k3, w, rfl, cw⟩
    have lw := cw.len
    simp only [hd] at cw ⊢
    refine gg ?_
    refine i_storeF (vs := w) (Keeps.new h3 _) (Nat.le_refl _) (by exact sel_of rfl) (by rfl) (by rw [Heap.get_new, if_pos rfl]) lw rfl (Nat.lt_succ_self _) fun h4 k4 g4 lt4 => ?_
    refine gg ?_
    refine i_loadN (by exact sel_of rfl) (loadN_all (by assumption) (by first | rfl | assumption)) ?_
    refine gg ?_
    have k24 := k2.trans (k3.trans k4)
    have ro := ko.keeps k24
    refine i_idx (by exact sel_of rfl) ro (i := j) (by exact sel_of rfl) (by omega) fun u hu => ?_
    refine gg ?_
    have hwhole : loadN h4.get ⟨u.block, u.off + j * 12, some 0⟩ 12 = some v := by
      subst hu
      rw [ro.cells (by omega) (some 0), flat_get es j hes.2.1 hv]
    refine i_loadN (by exact sel_of rfl) hwhole ?_
    refine gg ?_
    refine i_call2 (by exact sel_of rfl) (by exact sel_of rfl) (w_csame (cw.keeps k4) (cv.keeps (k.trans k24)) few n (by omega)) ?_
    rintro _ h5 ⟨rfl, k5⟩
    rw [decide_eq_true (rfl : x = x)]
    refine gg ?_
    refine i_sl_lo (by exact sel_of rfl) (rb.keeps (k3.trans (k4.trans k5))) hcb (by exact sel_of rfl) (by omega) fun o2 hn2 r2 => ?_
    refine gg ?_
    have hr2 : (E ++ rest).length - E.length = rest.length := by omega
    rw [Nat.mul_one, ← u8s_drop, List.drop_left' rfl, hr2] at r2
    rw [hr2]
    subst hrest
    exact rnd_up (by omega) ⟨o2, cb - E.length, ⟨sel_of rfl, sel_of rfl, sel_of rfl, sel_of rfl, trivial⟩, k24.trans k5, r2, by omega⟩
  · have e0 : encs (acc.drop j) = [] := by rw [List.drop_eq_nil_of_le (by omega)]; rfl
    rw [e0]
    refine gg ?_
    rfl
end Go.Proofs.Ytmnhffpbbihflaa

