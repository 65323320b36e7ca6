/- Part of a proof by an abstract run of the program's code: VmB. No condition. -/
import Derived.Laws.IdiomStrings
import Derived.Laws.MakeOwn
import Derived.Laws.CopyRow
import Derived.Test.YtoeienklpfbfmaaGreatDoorVmA
/-! Operations that make one block. -/
set_option linter.unusedVariables false
namespace Vm
open Go
section
variable {P : Program} {w : World} {ρ : Ren} {a : Fr} {E : Operand → Value} {B : Nat} {g : G}

theorem rep_succ (n : Nat) (z : List Value) : rep (n + 1) z = z ++ rep n z := rfl
theorem rep_length (n : Nat) (z : List Value) : (rep n z).length = n * z.length := by
  induction n with
  | zero => rw [Nat.zero_mul]; rfl
  | succ n ih => rw [rep_succ, List.length_append, ih, Nat.add_mul, Nat.one_mul, Nat.add_comm]
theorem rep_get (n : Nat) (z : List Value) : ∀ j, j < n * z.length → (rep n z)[j]? = z[j % z.length]? := by
  induction n with
  | zero => intro j hj; simp at hj
  | succ n ih =>
    intro j hj
    rw [rep_succ, List.getElem?_append]
    by_cases h : j < z.length
    · rw [if_pos h, Nat.mod_eq_of_lt h]
    · rw [if_neg h, ih _ (by rw [Nat.add_mul] at hj; omega), ← Nat.mod_eq_sub_mod (by omega)]
theorem VRs.at {l l' : List Value} (h : VRs ρ l l') (h1 : ∀ v ∈ l', v.oneCell' = true) (i : Nat) (v : Value) (hv : l[i]? = some v) : ∃ v', l'[i]? = some v' ∧ VR ρ v v' ∧ v'.oneCell' = true := by
  obtain ⟨v', h2, h3⟩ := h.get i v hv
  exact ⟨v', h2, h3, h1 v' (List.mem_of_getElem? h2)⟩
theorem made_get {z : Array Value} {n : Nat} {cs : List Value} (hz : VRs ρ cs z.toList) (h1 : ∀ v ∈ z.toList, v.oneCell' = true) (j : Nat) (v : Value) (h : (rep n cs)[j]? = some v) :
    ∃ v', (madeCells z (n * cs.length))[j]? = some v' ∧ VR ρ v v' ∧ v'.oneCell' = true := by
  have hj : j < n * cs.length := by
    have := (List.getElem?_eq_some_iff.1 h).1
    rw [rep_length] at this
    exact this
  rw [rep_get n cs j hj] at h
  obtain ⟨v', h2, h3, h4⟩ := hz.at h1 _ v h
  have hlen : cs.length = z.size := by simpa using hz.length
  refine ⟨v', ?_, h3, h4⟩
  have h5 : z[j % z.size]? = some v' := by rw [← hlen]; simpa using h2
  simp only [madeCells, Array.getElem?_map, Array.getElem?_range, hj, if_true, Option.map_some]
  rw [getElem!_def, h5]
/-- a new row -/
theorem row_new {σ : Ren} {i : Inf} (rc : Array Value) (e : TypeId) (fz : Nat × Nat) (hr : i.r = w.heap.size) (ho : i.o = 0) (hn : i.n = rc.size) {cs : List Value} (hl : cs.length ≤ rc.size)
    (hv : ∀ (j : Nat) v, cs[j]? = some v → ∃ v', rc[j]? = some v' ∧ VR σ v v' ∧ v'.oneCell' = true) {ok : TypeId → Nat × Nat → Prop} (hok : ok e fz) (n : Nat) :
    RowR σ (World.alloc { w with drawn := n } (.cells rc e fz)) i cs ok :=
  ⟨rc, e, fz, by rw [hr]; show (w.heap.push _)[w.heap.size]? = _; simp, hok, hn, by omega, fun j v h => by rw [ho, Nat.zero_add]; exact hv j v h⟩
theorem ptr_new {b : Nat} {i : Inf} (ho : i.o = 0) (hc : i.c = true) : VR (ρ.with b i) (ptrTo b) (.pointer (some ⟨i.r, 0, none⟩)) :=
  .ptr ⟨i, Ren.with_self ρ b i, by simp [ho]⟩ (fun _ j hj => by rw [Ren.with_self] at hj; cases hj; exact hc)
theorem slice_new {b : Nat} {i : Inf} (ho : i.o = 0) (l c : Nat) : VR (ρ.with b i) (sliceTo l c none b) (.slice (some ⟨i.r, 0, none⟩) l c) :=
  .slice (.inl ⟨i, Ren.with_self ρ b i, by simp [ho]⟩) (fun _ => rfl) (fun z h => by cases h)

theorem run_newRow (e : TypeId) (c : Array Value) : (Go.newRow e c).run P w = .ok ⟨w.heap.size, 0, none⟩ (World.alloc { w with drawn := w.drawn } (.cells c e)) := by
  simp [Go.newRow, -World.alloc_eq]
  rfl
/-- what an operation that makes a block does -/
def Makes (P : Program) (ρ : Ren) (B : Nat) (w : World) (s : Go.Sem Value) (b : Nat) (blk : Blk) (v : Nat → Value) : Prop :=
  ∃ v' n obj i, s.run P w = .ok v' (World.alloc { w with drawn := n } obj) ∧ i.r = w.heap.size ∧ BlkR (ρ.with b i) B (World.alloc { w with drawn := n } obj) i blk ∧ VR (ρ.with b i) (v b) v'
theorem drawn_self (w : World) : { w with drawn := w.drawn } = w := rfl
theorem own_new (hB : B ≤ w.heap.size) {b : Nat} (hb : ρ b = none) (rc : Array Value) (e : TypeId) {cs : List Value} (hl : cs.length = rc.size)
    (hv : ∀ (j : Nat) v, cs[j]? = some v → ∃ v', rc[j]? = some v' ∧ VR ρ v v' ∧ v'.oneCell' = true) :
    BlkR (ρ.with b ⟨w.heap.size, 0, rc.size, true⟩) B (World.alloc { w with drawn := w.drawn } (.cells rc e)) ⟨w.heap.size, 0, rc.size, true⟩ (.cells e cs (.own false)) :=
  ⟨hB, rfl, row_new (i := ⟨w.heap.size, 0, rc.size, true⟩) rc e (0, 0) rfl rfl rfl (by omega) (fun j v h => let ⟨v', h1, h2, h3⟩ := hv j v h; ⟨v', h1, h2.mono (Ren.le_with ρ _ hb), h3⟩) ⟨rfl, rfl⟩ _⟩
theorem own_newO (opn : Bool) (hB : B ≤ w.heap.size) {b : Nat} (hb : ρ b = none) (rc : Array Value) (e : TypeId) {cs : List Value} (hl : cs.length = rc.size)
    (hv : ∀ (j : Nat) v, cs[j]? = some v → ∃ v', rc[j]? = some v' ∧ VR ρ v v' ∧ v'.oneCell' = true) :
    BlkR (ρ.with b ⟨w.heap.size, 0, rc.size, !opn⟩) B (World.alloc { w with drawn := w.drawn } (.cells rc e)) ⟨w.heap.size, 0, rc.size, !opn⟩ (.cells e cs (.own opn)) :=
  ⟨hB, rfl, row_new (i := ⟨w.heap.size, 0, rc.size, !opn⟩) rc e (0, 0) rfl rfl rfl (by omega) (fun j v h => let ⟨v', h1, h2, h3⟩ := hv j v h; ⟨v', h1, h2.mono (Ren.le_with ρ _ hb), h3⟩) ⟨rfl, rfl⟩ _⟩
theorem sim_alloc {e : TypeId} {z : List Value} (hz : zCells P e = some z) (H : HR ρ B g w) {b : Nat} (hb : ρ b = none) : Makes P ρ B w (Instr.alloc e true (.tuple #[])) b (.cells e z (.own false)) ptrTo := by
  obtain ⟨v, h1, h2, h3, h4, h5⟩ := run_zCells (w := w) (ρ := ρ) hz
  refine ⟨.pointer (some ⟨w.heap.size, 0, none⟩), w.drawn, .cells v.cells e, ⟨w.heap.size, 0, v.cells.size, true⟩, ?_, rfl, own_new H.base hb v.cells e (by rw [← h2]; simp) (fun j u hj => ?_), ptr_new rfl rfl⟩
  · simp [Instr.alloc, h1, newVar, run_newRow]
  · rw [← h2] at hj
    have := (h2 ▸ h3 : VRs ρ v.cells.toList v.cells.toList).at (h2 ▸ h4) j u hj
    simpa using this
theorem sim_box {e : TypeId} {x : Operand} {l : List Value} (hl : cellsL ((evB x).f a) = some l) (hx : VR ρ ((evB x).f a) (E x)) (H : HR ρ B g w) {b : Nat} (hb : ρ b = none) :
    Makes P ρ B w (Instr.box e (E x)) b (.cells e l (.own false)) ptrTo := by
  obtain ⟨h1, h2⟩ := hx.cells hl
  refine ⟨.pointer (some ⟨w.heap.size, 0, none⟩), w.drawn, .cells (E x).cells e, ⟨w.heap.size, 0, (E x).cells.size, true⟩, ?_, rfl, own_new H.base hb _ e (by simpa using h1.length) (fun j u hj => by simpa using h1.at h2 j u hj), ptr_new rfl rfl⟩
  simp [Instr.box, newVar, run_newRow]
theorem fillL_length {q : List (Nat × Nat × Sel)} : ∀ {z l : List Value}, fillL a q z = some l → l.length = z.length := by
  induction q with
  | nil => intro z l h; cases h; rfl
  | cons p q ih =>
    intro z l h
    rw [fillL_cons] at h
    split at h
    · rename_i c hc
      cases hb : Nat.beq c.length p.2.1 with
      | false => simp [hb] at h
      | true =>
        cases hb' : Nat.ble (p.1 + p.2.1) z.length with
        | false => simp [hb, hb'] at h
        | true =>
          simp only [hb, hb', cond_true] at h
          have e1 := Nat.eq_of_beq_eq_true hb
          have e2 := Nat.le_of_ble_eq_true hb'
          rw [ih h, putAt_length c z p.1 (by omega)]
    · cases h
theorem VRs.ofAt {l l' : List Value} (hl : l.length = l'.length) (h : ∀ (i : Nat) (v : Value), l[i]? = some v → ∃ v', l'[i]? = some v' ∧ VR ρ v v' ∧ v'.oneCell' = true) : VRs ρ l l' ∧ ∀ v ∈ l', v.oneCell' = true := by
  refine ⟨VRs.ofGet hl fun i v v' h1 h2 => ?_, fun v hv => ?_⟩
  · obtain ⟨u, h3, h4, _⟩ := h i v h1
    rw [h2] at h3
    cases h3
    exact h4
  · obtain ⟨i, hi⟩ := List.getElem?_of_mem hv
    have hlt : i < l.length := by have := (List.getElem?_eq_some_iff.1 hi).1; omega
    obtain ⟨u, h3, _, h5⟩ := h i l[i] (by simp [hlt])
    rw [hi] at h3
    cases h3
    exact h5
theorem sim_buildSlice {opn : Bool} {t e : TypeId} {len : Nat} {ps : Array (Nat × Operand)} {z l : List Value} {q : List (Nat × Nat × Sel)} (hu : und P t = .slice e) (hz : zCells P e = some z) (hlen : len * z.length ≤ 16777216) (h0 : 0 < z.length)
    (hq : partsL ps.toList (fun i => some (i * z.length, z.length)) = some q) (hl : fillL a q (rep len z) = some l) (hp : ∀ p ∈ ps.toList, VR ρ ((evB p.2).f a) (E p.2)) (H : HR ρ B g w) {b : Nat} (hb : ρ b = none) :
    Makes P ρ B w (Instr.buildSlice t len (ps.map fun (i, x) => (i, E x))) b (.cells e l (.own opn)) (sliceTo len len none) := by
  obtain ⟨v, h1, h2, h3, h4, h5⟩ := run_zCells (w := w) (ρ := ρ) hz
  have hzl : z.length = v.cells.size := by rw [← h2]; simp
  have hmade := VRs.ofAt (ρ := ρ) (l := rep len z) (l' := (madeCells v.cells (len * z.length)).toList) (by rw [rep_length]; simp [size_madeCells]) (fun j u hj => by
    have := made_get (n := len) (h2.symm ▸ h3 : VRs ρ z v.cells.toList) (by rw [h2]; exact h4) j u hj
    simpa using this)
  obtain ⟨cs', e1, e2, e3⟩ := sim_fill (E := E) (cs := madeCells v.cells (len * z.length)) hq hl hp hmade.1 hmade.2
  have hls : l.length = cs'.size := by simpa using e2.length
  refine ⟨.slice (some ⟨w.heap.size, 0, none⟩) len len, w.drawn, .cells cs' e, ⟨w.heap.size, 0, cs'.size, !opn⟩, ?_, rfl, own_newO opn H.base hb _ e hls (fun j u hj => by simpa using e2.at e3 j u hj), slice_new rfl _ _⟩
  unfold Instr.buildSlice
  simp only [Sem.run_bind, run_und hu (show TypeDesc.slice e ≠ .invalid by simp), Result.andThen_ok, run_sz h5]
  rw [if_neg (by simpa using hlen)]
  by_cases h : len * z.length = 0
  · have hm : madeCells v.cells (len * z.length) = (Array.range (len * z.length)).map ((#[] : Array Value)[· % (#[] : Array Value).size]!) := by rw [h]; simp [madeCells]
    rw [hm] at e1
    rw [if_pos h]
    simp only [Sem.run_bind, Sem.run_pure, Result.andThen_ok]
    simp only [e1, Array.toList_map] at *
    simp [run_newRow]
  · rw [if_neg h]
    simp only [Sem.run_bind, Sem.run_pure, Result.andThen_ok, h1]
    have e1' : Instr.fill (fun i => some (i * z.length, z.length)) ((Array.range (len * z.length)).map (v.cells[· % v.cells.size]!)) (Array.map (fun x : Nat × Operand => (x.1, E x.2)) ps).toList = some cs' := by
      simpa [madeCells] using e1
    simp only [e1']
    simp [run_newRow]
theorem sim_makeMap {t : TypeId} (H : HR ρ B g w) {b : Nat} (hb : ρ b = none) : Makes P ρ B w (Instr.makeMap t none) b (.map [] 0) (fun b => .map (some b)) := by
  refine ⟨.map (some w.heap.size), w.drawn, .map #[] 0, ⟨w.heap.size, 0, 0, false⟩, ?_, rfl, ⟨H.base, rfl, #[], ?_, .nil⟩, .map (i := ⟨w.heap.size, 0, 0, false⟩) (Ren.with_self _ _ _)⟩
  · simp [Instr.makeMap, -World.alloc_eq]
    rfl
  · show (w.heap.push _)[w.heap.size]? = _
    simp
theorem sim_makeSlice {t e : TypeId} {x y : Operand} {z : List Value} {by_ l c : Nat} (hu : und P t = .slice e) (hby : bytesO P e = some by_) (hz : zCells P e = some z) (hx : VR ρ ((evB x).f a) (E x)) (hy : VR ρ ((evB y).f a) (E y))
    (hlx : (evB x).f a = .int .i64 (.ofNat l)) (hcy : (evB y).f a = .int .i64 (.ofNat c)) (hlc : l ≤ c) (hbytes : c * by_ ≤ 140737488355328) (h63 : c ≤ 9223372036854775807) (H : HR ρ B g w) {b : Nat} (hb : ρ b = none) :
    Makes P ρ B w (Instr.makeSlice t (E x) (E y)) b (.cells e (rep c z) (.own false)) (sliceTo l c none) := by
  obtain ⟨v, h1, h2, h3, h4, h5⟩ := run_zCells (w := w) (ρ := ρ) hz
  obtain ⟨i, hi, hib⟩ := run_bytes hby
  rw [hlx] at hx
  rw [hcy] at hy
  rw [hx.int, hy.int]
  have hzl : z.length = v.cells.size := by rw [← h2]; simp
  have hsz : i.size = z.length := by simpa [szO, hi] using h5
  have hzero : ∃ zv, i.zero = some zv ∧ v = zv := by
    unfold zCells at hz
    split at hz
    · rename_i u hu'
      have := (run_zero (w := w) hu').1
      rw [h1] at this
      cases this
      unfold zO at hu'
      cases hiz : i.zero with
      | none => simp [hi, hiz] at hu'
      | some q =>
        simp only [hi, Option.bind_some, hiz] at hu'
        cases hc : constB q with
        | false => simp [hc] at hu'
        | true => simp [hc] at hu'; exact ⟨q, rfl, hu'.symm⟩
    · cases hz
  obtain ⟨zv, hzv, rfl⟩ := hzero
  have hr := run_make (P := P) w t e i v (und_some hu (by simp)) hi hzv .i64 .i64 (l : Int) (c : Int) (Int.natCast_nonneg l) (Int.ofNat_le.2 hlc) (by
    rw [hib]
    have : by_ * c ≤ 140737488355328 := by rw [Nat.mul_comm]; exact hbytes
    have h' : ((by_ * c : Nat) : Int) ≤ 281474976710656 := by omega
    rwa [Int.natCast_mul] at h') (by omega)
  simp only [Int.toNat_natCast] at hr
  refine ⟨_, w.drawn, _, ⟨w.heap.size, 0, (madeCells v.cells (c * i.size)).size, true⟩, hr, rfl, ?_, slice_new rfl _ _⟩
  refine own_new H.base hb _ e (by rw [rep_length, size_madeCells, hsz]) (fun j u hj => ?_)
  rw [hsz]
  exact made_get (h2.symm ▸ h3 : VRs ρ z v.cells.toList) (by rw [h2]; exact h4) j u hj
theorem u8s_eq (l : List UInt8) : u8s l = l.map fun b => Value.int .u8 b.toNat := by
  induction l with
  | nil => rfl
  | cons b l ih => rw [List.map_cons, ← ih]; rfl
theorem sim_strBytes {s d e : TypeId} {x : Operand} {st : ByteArray} (hs : und P s = .string) (hd : und P d = .slice e) (he : und P e = .int .u8) (hx : VR ρ ((evB x).f a) (E x)) (hxs : (evB x).f a = .string st) (H : HR ρ B g w) {b : Nat} (hb : ρ b = none) :
    Makes P ρ B w (convert s d (E x)) b (.cells e (u8s st.data.toList) .fix) (sliceTo st.data.toList.length st.data.toList.length (some 1)) := by
  rw [hxs] at hx
  rw [hx.string]
  have hr := run_bytes_of_string (P := P) w s d e st (und_some hs (by simp)) (und_some hd (by simp)) (und_some he (by simp))
  have hcap := grownCap_ge w st.size 0 e
  generalize hC : grownCap w st.size 0 e = cap at *
  have hlen : st.data.toList.length = st.size := rfl
  have hsz : (bytesRow st cap).size = cap := by simp [bytesRow]; have : st.data.size = st.size := rfl; omega
  refine ⟨_, w.drawn + 1, _, ⟨w.heap.size, 0, cap, false⟩, hr, rfl, ⟨H.base, rfl, ?_⟩, ?_⟩
  · refine row_new (i := ⟨w.heap.size, 0, cap, false⟩) (bytesRow st cap) e _ rfl rfl hsz.symm (by rw [u8s_eq, List.length_map, hlen, hsz]; exact hcap) (fun j v hj => ?_) trivial _
    rw [u8s_eq] at hj
    have hj' : j < st.data.size := by have := (List.getElem?_eq_some_iff.1 hj).1; simpa using this
    refine ⟨v, ?_, ?_⟩
    · rw [bytesRow, Array.getElem?_append_left (by simpa using hj')]
      simpa using hj
    · simp [List.getElem?_map] at hj
      obtain ⟨q, _, rfl⟩ := hj
      exact ⟨.same rfl, rfl⟩
  · refine .slice (.inl ⟨⟨w.heap.size, 0, cap, false⟩, Ren.with_self _ _ _, rfl⟩) (fun h => by cases h) (fun z hz => ?_)
    cases hz
    refine ⟨hcap, fun i hi => ?_⟩
    rw [Ren.with_self] at hi
    cases hi
    simp
/-- every operation that makes a block -/
theorem simA {o : Oper} {s : ASem} (hd : denOp P o.op = .a s) {blk : Blk} {val : Nat → Value} (h : s.f a = some (blk, val)) (H : HR ρ B g w) (hE : Ops ρ a E o.op.operands.toList) {b : Nat} (hb : ρ b = none) :
    ∃ v' n obj i, (execOp E o).run P w = .ok (.value v') (World.alloc { w with drawn := n } obj) ∧ i.r = w.heap.size ∧ BlkR (ρ.with b i) B (World.alloc { w with drawn := n } obj) i blk ∧ VR (ρ.with b i) (val b) v' := by
  have lift : ∀ s : Go.Sem Value, Makes P ρ B w s b blk val → ∃ v' n obj i, (do pure (Next.value (← s)) : Go.Sem Next).run P w = .ok (.value v') (World.alloc { w with drawn := n } obj) ∧ i.r = w.heap.size ∧ BlkR (ρ.with b i) B (World.alloc { w with drawn := n } obj) i blk ∧ VR (ρ.with b i) (val b) v' := by
    rintro s ⟨v', n, obj, i, h1, h2⟩
    exact ⟨v', n, obj, i, run_v h1, h2⟩
  unfold execOp
  cases ho : o.op <;> rw [ho] at hd hE <;> simp only [denOp] at hd <;> simp only [Op.operands] at hE
  case alloc e =>
    split at hd
    · rename_i z hz
      simp only [OSem.a.injEq] at hd
      subst hd
      cases h
      exact lift _ (sim_alloc hz H hb)
    · cases hd
  case box e x =>
    simp only [OSem.a.injEq] at hd
    subst hd
    simp only [aBox] at h
    split at h
    · rename_i l hl
      cases h
      exact lift _ (sim_box hl (hE x (by simp)) H hb)
    · cases h
  case build t ps =>
    unfold denBuild at hd
    split at hd
    · rename_i z fs _ _
      cases hb' : allSz P fs.toList <;> simp only [hb', cond_true, cond_false] at hd
      · cases hd
      · split at hd <;> cases hd
    · split at hd
      · split at hd <;> cases hd
      · cases hd
    · cases hd
  case buildSlice t len ps =>
    unfold denBuildSlice at hd
    split at hd
    · rename_i e hu
      split at hd
      · rename_i z hz
        cases hb' : (Nat.ble (len * z.length) 16777216 && Nat.blt 0 z.length) <;> simp only [hb', cond_true, cond_false] at hd
        · cases hd
        · split at hd
          · rename_i q hq
            simp only [OSem.a.injEq] at hd
            subst hd
            simp only [aBuildSlice] at h
            split at h
            · rename_i l hl
              cases h
              simp only [Bool.and_eq_true] at hb'
              exact lift _ (sim_buildSlice hu hz (Nat.le_of_ble_eq_true hb'.1) (by simpa using hb'.2) hq hl (fun p hp => hE p.2 (by simp; exact ⟨p.1, by simpa using hp⟩)) H hb)
            · cases h
          · cases hd
      · cases hd
    · cases hd
  case load t x => split at hd <;> cases hd
  case store t x y => split at hd <;> cases hd
  case binOp op t x y p =>
    cases op <;> simp only [denBin] at hd <;> first | (cases hd; done) | (split at hd <;> cases hd)
  case unOp op t x => cases op <;> simp only [] at hd <;> cases hd
  case convert s' d x =>
    unfold denConvert at hd
    split at hd
    · split at hd <;> cases hd
    · split at hd
      · cases hd
      · cases hb : Nat.beq s' d <;> simp only [hb, cond_true, cond_false] at hd <;> cases hd
      · cases hd
    · rename_i hs
      split at hd
      · rename_i e hk
        split at hd
        · rename_i he
          simp only [OSem.a.injEq] at hd
          subst hd
          simp only [aStrBytes] at h
          split at h
          · rename_i st hst
            cases h
            exact lift _ (sim_strBytes hs hk he (hE x (by simp)) hst H hb)
          · cases h
        · cases hd
      · cases hd
      · cases hd
    · cases hd
  case makeInterface t x => split at hd <;> cases hd
  case makeFunc fn first cap => split at hd <;> cases hd
  case makeMap t r =>
    cases r <;> simp only [] at hd
    · simp only [OSem.a.injEq] at hd
      subst hd
      cases h
      exact lift _ (sim_makeMap H hb)
    · cases hd
  case makeSlice t l c =>
    split at hd
    · rename_i e hu
      split at hd
      · rename_i by_ z hby hz
        cases hb' : (Nat.blt 0 z.length) <;> simp only [hb', cond_true, cond_false] at hd
        · cases hd
        · simp only [OSem.a.injEq] at hd
          subst hd
          simp only [aMakeSlice] at h
          split at h
          · rename_i l' hl'
            split at h
            · rename_i c' hc'
              cases h1 : Nat.ble l' c' with
              | false => simp [h1] at h
              | true =>
                cases h2 : Nat.ble (c' * by_) 140737488355328 with
                | false => simp [h1, h2] at h
                | true =>
                  cases h3 : Nat.ble c' 9223372036854775807 with
                  | false => simp [h1, h2, h3] at h
                  | true =>
                    simp only [h1, h2, h3, cond_true] at h
                    cases h
                    exact lift _ (sim_makeSlice hu hby hz (hE l (by simp)) (hE c (by simp)) hl' hc' (Nat.le_of_ble_eq_true h1) (Nat.le_of_ble_eq_true h2) (Nat.le_of_ble_eq_true h3) H hb)
            · cases h
          · cases h
      · cases hd
    · cases hd
  case slice t x lo hi mx =>
    unfold denSlice at hd
    cases hb' : ((optB hi).isNone && (optB mx).isSome) <;> simp only [hb', cond_true, cond_false] at hd
    · split at hd
      · split at hd <;> cases hd
      · split at hd <;> cases hd
      · split at hd <;> cases hd
      · cases hd
    · cases hd
  case fieldAddr t x f =>
    unfold denFieldAddr at hd
    split at hd
    · split at hd
      · rename_i off n _
        cases hb' : Nat.beq n 0 <;> simp only [hb', cond_true, cond_false] at hd <;> cases hd
      · cases hd
    · cases hd
  case field t x f =>
    unfold denField at hd
    split at hd
    · split at hd
      · split at hd <;> cases hd
      · cases hd
    · cases hd
  case indexAddr t x y =>
    unfold denIndexAddr at hd
    split at hd
    · split at hd <;> cases hd
    · split at hd <;> cases hd
    · cases hd
  case index t x y =>
    unfold denIndex at hd
    split at hd
    · split at hd <;> cases hd
    · cases hd
    · cases hd
  case lookup t x y ok =>
    unfold denMap at hd
    split at hd
    · split at hd <;> cases hd
    · cases hd
  case mapUpdate t m k x =>
    unfold denMap at hd
    split at hd
    · split at hd <;> cases hd
    · cases hd
  case insert t m k x =>
    unfold denMap at hd
    split at hd
    · split at hd <;> cases hd
    · cases hd
  case mapEntry t m k =>
    unfold denMap at hd
    split at hd
    · split at hd <;> cases hd
    · cases hd
  case call c =>
    cases hc : c.callee <;> rw [hc] at hd <;> simp only at hd
    case value f => cases f <;> cases hd
    case builtin bu =>
      unfold denBuiltin at hd
      split at hd
      · split at hd
        · unfold denLen at hd
          split at hd
          · cases hd
          · split at hd <;> cases hd
          · cases hd
          · cases hd
          · cases hd
          · cases hd
        · cases hd
      · split at hd
        · unfold denAppend at hd
          split at hd
          · split at hd
            · rename_i sz by_ z _ _ _
              cases hb' : (Nat.blt 0 sz && Nat.blt 0 by_) <;> simp only [hb', cond_true, cond_false] at hd <;> cases hd
            · cases hd
          · split at hd
            · rename_i sz by_ z _ _ _
              cases hb' : (Nat.blt 0 sz && Nat.blt 0 by_) <;> simp only [hb', cond_true, cond_false] at hd <;> cases hd
            · cases hd
          · cases hd
        · cases hd
      · split at hd
        · split at hd
          · split at hd <;> cases hd
          · cases hd
        · cases hd
      · split at hd
        · split at hd
          · split at hd
            · rename_i z _
              cases hb' : (Nat.blt 0 z.length) <;> simp only [hb', cond_true, cond_false] at hd <;> cases hd
            · cases hd
          · cases hd
          · cases hd
        · cases hd
      · split at hd
        · split at hd
          · split at hd <;> cases hd
          · cases hd
        · cases hd
      · split at hd <;> cases hd
      · split at hd <;> cases hd
      · cases hd
    case invoke => cases hd
  case range t x => unfold denRange at hd; split at hd <;> cases hd
  case next x s => cases s <;> cases hd
  all_goals cases hd
end
end Vm

/-! Operations that turn the heap: rows. -/
set_option linter.unusedVariables false
namespace Vm
open Go

/-- the heap below M, and what else there is from M on -/
noncomputable def mix (M : Nat) (h : Heap) (x : G) : G := fun b => if b < M then h.get b else x b
theorem mix_get {M : Nat} {h : Heap} {x : G} {b : Nat} {y : Blk} (wf : h.wf) (hM : h.next ≤ M) (hb : h.get b = some y) : mix M h x b = some y := by
  have := Heap.get_lt wf hb
  unfold mix
  rw [if_pos (by omega)]
  exact hb
theorem mix_put {M : Nat} {h : Heap} {x : G} {b : Nat} {y : Blk} (hb : b < M) : mix M (h.put b y) x = fun j => if j = b then some y else mix M h x j := by
  funext j
  unfold mix
  by_cases e : j = b
  · subst e; rw [if_pos hb, if_pos rfl, Heap.get_put, if_pos rfl]
  · rw [if_neg e, Heap.get_put, if_neg e]
theorem mix_new {M : Nat} {h : Heap} {x : G} {y : Blk} (hb : h.next < M) : mix M (h.new y) x = fun j => if j = h.next then some y else mix M h x j := by
  funext j
  unfold mix
  by_cases e : j = h.next
  · subst e; rw [if_pos hb, if_pos rfl, Heap.get_new, if_pos rfl]
  · rw [if_neg e, Heap.get_new, if_neg e]
/-- the tie between an abstract heap and a world, blocks from M on aside -/
structure Tie (ρ : Ren) (B M : Nat) (x : G) (h : Heap) (w : World) : Prop where
  hr : HR ρ B (mix M h x) w
  wf : h.wf
  le : h.next ≤ M
  gap : ∀ b, h.next ≤ b → b < M → ρ b = none
/-- what a step of the one has become of the other -/
def Did (ρ : Ren) (B M : Nat) (x : G) (h h' : Heap) (w w' : World) (v v' : Value) : Prop :=
  ∃ σ, Grew ρ σ h.next h'.next w w' ∧ Kept ρ B w w' ∧ HeapKept ρ h h' ∧ HR σ B (mix M h' x) w' ∧ VR σ v v'

section
variable {P : Program} {w w' : World} {ρ σ : Ren} {a : Fr} {E : Operand → Value} {B M : Nat} {x : G} {h h' : Heap}

theorem Tie.next (T : Tie ρ B M x h w) (g : Grew ρ σ h.next h'.next w w') (k : HeapKept ρ h h') (hr : HR σ B (mix M h' x) w') (hM : h'.next ≤ M) : Tie σ B M x h' w' :=
  ⟨hr, k.wf, hM, fun b hb hb' => by
    cases hs : σ b with
    | none => rfl
    | some i =>
      cases hr : ρ b with
      | some j => rw [T.gap b (Nat.le_trans k.next hb) hb'] at hr; cases hr
      | none => have := (g.fresh b i hs hr).2.1; omega⟩
theorem Tie.get (T : Tie ρ B M x h w) {b : Nat} {y : Blk} (hb : h.get b = some y) : mix M h x b = some y := mix_get T.wf T.le hb
theorem Tie.lt (T : Tie ρ B M x h w) {b : Nat} {y : Blk} (hb : h.get b = some y) : b < M := Nat.lt_of_lt_of_le (Heap.get_lt T.wf hb) T.le
theorem Tie.drew (T : Tie ρ B M x h w) (n : Nat) : Tie ρ B M x h { w with drawn := n } := ⟨T.hr.drew n, T.wf, T.le, T.gap⟩
theorem row_other (w : World) (r k : Nat) (c : Array Value) (hk : k ≠ r) : (w.setRow r c).heap[k]? = w.heap[k]? := by
  simp [World.setRow, Array.getElem?_modify, Ne.symm hk]
theorem row_size (w : World) (r : Nat) (c : Array Value) : (w.setRow r c).heap.size = w.heap.size := by simp [World.setRow]
/-- the world's row, turned -/
theorem Tie.setRow (T : Tie ρ B M x h w) {b : Nat} {i : Inf} (hb : ρ b = some i) {e : TypeId} {cs : List Value} {o : Bool} (hg : h.get b = some (.cells e cs (.own o))) {cs' : List Value} {rc : Array Value} {fe : TypeId} {fz : Nat × Nat}
    (hw : w.heap[i.r]? = some (.cells rc fe fz)) (rc' : Array Value) (hs : rc'.size = rc.size) (hl : cs'.length = cs.length)
    (hv : ∀ (j : Nat) v, cs'[j]? = some v → ∃ v', rc'[i.o + j]? = some v' ∧ VR ρ v v' ∧ v'.oneCell' = true) :
    Kept ρ B w (w.setRow i.r rc') ∧ HeapKept ρ h (h.put b (.cells e cs' (.own o))) ∧ HR ρ B (mix M (h.put b (.cells e cs' (.own o))) x) (w.setRow i.r rc') := by
  obtain ⟨y, hy, hr⟩ := T.hr.blk b i hb
  rw [T.get hg] at hy
  cases hy
  obtain ⟨hB, hc, rc0, fe0, fz0, h1, ⟨rfl, rfl⟩, h3, h4, h5⟩ := hr
  rw [h1] at hw
  cases hw
  have hlt := Heap.get_lt T.wf hg
  refine ⟨Kept.put hb hB rfl rfl rfl (fun k hk => row_other w i.r k rc' hk) (row_size w i.r rc'), HeapKept.put T.wf hb hlt _, ?_⟩
  rw [mix_put (T.lt hg)]
  refine T.hr.put hb (T.get hg) rfl (fun k hk => row_other w i.r k rc' hk) (row_size w i.r rc') ⟨hB, hc, rc', _, (0, 0), setRow_heap w i.r _ rc' _ (0, 0) h1, ⟨rfl, rfl⟩, by rw [h3, hs], by rw [hs, hl]; exact h4, hv⟩
theorem storeN_some {p : Addr} {vs : List Value} (hs : storeN h p vs = some h') : ∃ e cs o, h.get p.block = some (.cells e cs (.own o)) ∧ p.off + vs.length ≤ cs.length ∧ h' = h.put p.block (.cells e (putAt cs p.off vs) (.own o)) := by
  unfold storeN at hs
  split at hs
  · rename_i e cs o hg
    cases hb : Nat.ble (p.off + vs.length) cs.length with
    | false => simp [hb] at hs
    | true => simp [hb] at hs; exact ⟨e, cs, o, hg, Nat.le_of_ble_eq_true hb, hs.symm⟩
  · cases hs
/-- cells are stored -/
theorem Tie.store (T : Tie ρ B M x h w) {p p' : Addr} (hp : AddrR ρ p p') {vs vs' : List Value} (hs : storeN h p vs = some h') (hv : VRs ρ vs vs') (h1 : ∀ v ∈ vs', v.oneCell' = true) :
    ∃ w', (storeCells p' vs').run P w = .ok () w' ∧ Kept ρ B w w' ∧ HeapKept ρ h h' ∧ HR ρ B (mix M h' x) w' ∧ h'.next = h.next := by
  obtain ⟨e, cs, o, hg, hle, rfl⟩ := storeN_some hs
  obtain ⟨i, hi, rfl⟩ := hp
  obtain ⟨y, hy, hr⟩ := T.hr.blk p.block i hi
  rw [T.get hg] at hy
  cases hy
  obtain ⟨hB, hc, rc, fe, fz, hw, ⟨rfl, rfl⟩, h3, h4, h5⟩ := hr
  have hlen := hv.length
  have hrun := run_storeCells_at P i.r (i.o + p.off) fe vs' 0 rc w hw (by omega) h1
  simp only [Nat.add_zero] at hrun
  have hsz : (rc.toList.take (i.o + p.off) ++ vs' ++ rc.toList.drop (i.o + p.off + vs'.length)).length = rc.size := by simp; omega
  have hget : ∀ k, (rc.toList.take (i.o + p.off) ++ vs' ++ rc.toList.drop (i.o + p.off + vs'.length))[k]? = if i.o + p.off ≤ k ∧ k < i.o + p.off + vs'.length then vs'[k - (i.o + p.off)]? else rc[k]? := by
    intro k
    have ht : (rc.toList.take (i.o + p.off)).length = i.o + p.off := by simp; omega
    by_cases hk : k < i.o + p.off
    · rw [if_neg (by omega), List.append_assoc, List.getElem?_append_left (by omega), List.getElem?_take, if_pos hk]; simp
    · by_cases hk2 : k < i.o + p.off + vs'.length
      · rw [if_pos ⟨by omega, hk2⟩, List.append_assoc, List.getElem?_append_right (by omega), List.getElem?_append_left (by omega), ht]
      · rw [if_neg (by omega), List.getElem?_append_right (by simp; omega), List.getElem?_drop]
        simp only [List.length_append, ht]
        rw [show i.o + p.off + vs'.length + (k - (i.o + p.off + vs'.length)) = k by omega]
        simp
  obtain ⟨k1, k2, k3⟩ := T.setRow hi hg hw (cs' := putAt cs p.off vs) (rc.toList.take (i.o + p.off) ++ vs' ++ rc.toList.drop (i.o + p.off + vs'.length)).toArray (by simpa using hsz) (putAt_length vs cs p.off hle) (fun j v hj => by
    rw [putAt_get vs cs p.off hle] at hj
    rw [List.getElem?_toArray, hget]
    by_cases hc' : p.off ≤ j ∧ j < p.off + vs.length
    · rw [if_pos hc'] at hj
      rw [if_pos (by omega), show i.o + j - (i.o + p.off) = j - p.off by omega]
      obtain ⟨v', e1, e2⟩ := hv.get _ _ hj
      exact ⟨v', e1, e2, h1 v' (List.mem_of_getElem? e1)⟩
    · rw [if_neg hc'] at hj
      rw [if_neg (by omega)]
      exact h5 j v hj)
  exact ⟨_, hrun, k1, k2, k3, rfl⟩
/-- what an operation does, of whatever outcome -/
def DidOp (P : Program) (ρ : Ren) (B M : Nat) (x : G) (h h' : Heap) (w : World) (s : Go.Sem Next) (v : Value) : Prop :=
  ∃ nx v' w', s.run P w = .ok nx w' ∧ (nx = .value v' ∨ (nx = .skip ∧ v' = Go.undef)) ∧ Did ρ B M x h h' w w' v v'
theorem did_same (g : Kept ρ B w w') (k : HeapKept ρ h h') (r : HR ρ B (mix M h' x) w') {v v' : Value} (hv : VR ρ v v') : Did ρ B M x h h' w w' v v' :=
  ⟨ρ, Grew.refl ρ _ _ _ _, g, k, r, hv⟩
theorem did_v {s : Go.Sem Value} {v v' : Value} {w' : World} (hr : s.run P w = .ok v' w') (hd : Did ρ B M x h h' w w' v v') : DidOp P ρ B M x h h' w (do pure (Next.value (← s))) v :=
  ⟨.value v', v', w', run_v hr, .inl rfl, hd⟩
theorem did_u {s : Go.Sem Unit} {v : Value} {w' : World} (hr : s.run P w = .ok () w') (hd : Did ρ B M x h h' w w' v Go.undef) : DidOp P ρ B M x h h' w (do s; pure Next.skip) v :=
  ⟨.skip, Go.undef, w', by simp [hr], .inr ⟨rfl, rfl⟩, hd⟩
theorem VR.undef' : VR ρ Vm.undef Go.undef := .tuple .nil
theorem sim_store {t : TypeId} {n : Nat} {p q : Operand} {rec : Rec} {v : Value} (hn : szO P t = some n) (T : Tie ρ B M x h w) (hr : (eStore n (evB p) (evB q)).f rec a h = .ok v h') (hp : VR ρ ((evB p).f a) (E p)) (hq : VR ρ ((evB q).f a) (E q)) :
    DidOp P ρ B M x h h' w (do Instr.storeAt t (E p) (E q); pure Next.skip) v := by
  simp only [eStore] at hr
  split at hr
  · rename_i ad hpp
    rw [hpp] at hp
    obtain ⟨ad', e, had, _⟩ := hp.ptr_inv
    split at hr
    · rename_i c hc
      cases hb : Nat.beq c.length n with
      | false => simp [hb] at hr
      | true =>
        simp only [hb, cond_true] at hr
        split at hr
        · rename_i h2 hs
          cases hr
          obtain ⟨hv, h1⟩ := hq.cells hc
          obtain ⟨w', r1, r2, r3, r4, _⟩ := T.store (P := P) had hs hv h1
          refine did_u (w' := w') ?_ (did_same r2 r3 r4 .undef')
          rw [e]
          have hsz : (E q).cells.size = n := by
            have := hv.length
            have := Nat.eq_of_beq_eq_true hb
            simp at *
            omega
          simp [Instr.storeAt, Instr.sureAddr, storeVar, run_sz hn, hsz, r1]
        · cases hr
    · cases hr
  · cases hr
theorem sim_fix {d e : TypeId} {q : Operand} {rec : Rec} {v : Value} (hd : und P d = .slice e) (he : und P e = .int .u8) (T : Tie ρ B M x h w) (hr : (eFix (evB q)).f rec a h = .ok v h') (hq : VR ρ ((evB q).f a) (E q)) :
    DidOp P ρ B M x h h' w (do pure (Next.value (← convert d d (E q)))) v := by
  simp only [eFix] at hr
  split at hr
  · rename_i p n c hp
    rw [hp] at hq
    cases hn : Nat.beq n 0 with
    | true => simp [hn] at hr
    | false =>
      simp only [hn, cond_false] at hr
      have hn0 : n ≠ 0 := fun e => by subst e; simp at hn
      split at hr
      · rename_i e1 cs hg
        cases hr
        have hq0 := hq
        obtain ⟨p', c', e2, hpa, _⟩ := hq.slice_inv
        have hpa' : AddrR ρ p p' := by
          rcases hpa with h | ⟨h, _⟩
          · exact h
          · exact absurd h hn0
        obtain ⟨i, hi, rfl⟩ := hpa'
        obtain ⟨y, hy, hb⟩ := T.hr.blk p.block i hi
        rw [T.get hg] at hy
        cases hy
        obtain ⟨hB, hc, rc, fe, fz, hw, ⟨rfl, rfl⟩, h3, h4, h5⟩ := hb
        have hlt := Heap.get_lt T.wf hg
        have hne : ∀ k, k ≠ i.r → (w.freeze ⟨i.r, rc.size, none⟩ 1).heap[k]? = w.heap[k]? := fun k hk => by
          simp [World.freeze, Array.getElem?_modify, Ne.symm hk]
        have hsz : (w.freeze ⟨i.r, rc.size, none⟩ 1).heap.size = w.heap.size := by simp [World.freeze]
        have hself : (w.freeze ⟨i.r, rc.size, none⟩ 1).heap[i.r]? = some (.cells rc fe (rc.size, rc.size + 1)) := by
          simp [World.freeze, Array.getElem?_modify, hw]
        refine did_v (v' := E q) (w' := w.freeze ⟨i.r, rc.size, none⟩ 1) ?_ (did_same (Kept.put (w := w) (w' := w.freeze ⟨i.r, rc.size, none⟩ 1) hi hB rfl rfl rfl hne hsz) (HeapKept.put T.wf hi hlt _) ?_ hq0)
        · rw [e2]
          have hsh : w.shape? i.r = some (fe, rc.size) := by simp [World.shape?, hw]
          simp [convert, run_und hd (show TypeDesc.slice e ≠ .invalid by simp), run_und he (show TypeDesc.int .u8 ≠ .invalid by simp), markStringish, shape, freeze]
          have hrun : Sem.run P (Sem.shape i.r Sem.pure) w = .ok (some (fe, rc.size)) w := by show Sem.run P (Sem.pure (w.shape? i.r)) w = _; rw [hsh]; rfl
          rw [hrun]
          rfl
        · rw [mix_put (T.lt hg)]
          exact T.hr.put hi (T.get hg) rfl hne hsz ⟨hB, hc, rc, _, _, hself, trivial, h3, h4, h5⟩
      · cases hr
  · cases hr
end
end Vm

/-! Operations that turn the heap: maps. -/
set_option linter.unusedVariables false
namespace Vm
open Go
section
variable {P : Program} {w w' : World} {ρ σ : Ren} {a : Fr} {E : Operand → Value} {B M : Nat} {x : G} {h h' : Heap}

/-- one cell of a kind that is a key's -/
def plain1 : Value → Bool
  | .bool _ => true
  | .int _ _ => true
  | .string _ => true
  | .pointer _ => true
  | _ => false
theorem eqP_true {k : Nat} {u v u' v' : Value} (he : eqP k u v = some true) (hk : k ≤ 3) (hu : VR ρ u u') (hv : VR ρ v v') : u' = v' ∧ plain1 u' = true := by
  unfold eqP at he
  split at he
  · rename_i i n j m
    obtain ⟨_, he⟩ := beq_k he
    cases hkk : Nat.beq (kc i) (kc j) with
    | false => simp [hkk] at he
    | true =>
      have h2 : eqI n m = true := by simpa [hkk] using he
      have := kc_inj hkk
      subst this
      rw [eqI_eq, beq_iff_eq] at h2
      subst h2
      rw [hu.int, hv.int]
      exact ⟨rfl, rfl⟩
  · rename_i p q
    obtain ⟨_, he⟩ := beq_k he
    rw [hu.bool, hv.bool]
    cases p <;> cases q <;> first | exact ⟨rfl, rfl⟩ | (cases he; done)
  · rename_i p q
    obtain ⟨_, he⟩ := beq_k he
    simp only [Option.some.injEq] at he
    rw [eqB_eq, beq_iff_eq] at he
    have : p = q := ByteArray.ext (Array.toList_inj.mp he)
    subst this
    rw [hu.string, hv.string]
    exact ⟨rfl, rfl⟩
  · rw [hu.nilPtr, hv.nilPtr]; exact ⟨rfl, rfl⟩
  · obtain ⟨_, he⟩ := beq_k he; cases he
  · obtain ⟨_, he⟩ := beq_k he; cases he
  · rename_i p q
    obtain ⟨_, he⟩ := beq_k he
    split at he
    · split at he
      · simp only [Option.some.injEq] at he
        rw [eqA_eq, decide_eq_true_eq] at he
        obtain ⟨p', e1, ⟨i, hi, rfl⟩, _⟩ := hu.ptr_inv
        obtain ⟨q', e2, ⟨j, hj, rfl⟩, _⟩ := hv.ptr_inv
        rw [he.1, hj] at hi
        cases hi
        rw [e1, e2, he.2]
        exact ⟨rfl, rfl⟩
      · cases he
    · cases he
  all_goals first | (obtain ⟨_, he⟩ := beq_k he; omega) | (cases he; done)
theorem same_plain {n : Nat} {v : Value} (h : plain1 v = true) : Instr.sameBits n v v = true := by
  cases v <;> simp_all [plain1] <;> cases n <;> simp [Instr.sameBits, bytes_eq, eqB_eq]
theorem eqL_true : ∀ {ks : List Nat} {l r l' r' : List Value}, eqL ks l r = some true → (∀ k ∈ ks, k ≤ 3) → VRs ρ l l' → VRs ρ r r' → l' = r' ∧ ∀ v ∈ l', plain1 v = true
  | [], l, r, l', r', he, _, hl, hr => by
    obtain ⟨rfl, rfl, _⟩ := eqL_nil he
    cases hl
    cases hr
    exact ⟨rfl, by simp⟩
  | k :: ks, l, r, l', r', he, hk, hl, hr => by
    obtain ⟨u, l1, v, r1, rfl, rfl, c, hc, hrest⟩ := eqL_cons he
    rcases hrest with ⟨_, h⟩ | ⟨rfl, hrest⟩
    · cases h
    · cases hl with
      | cons h1 hl =>
        cases hr with
        | cons h2 hr =>
          obtain ⟨e1, e2⟩ := eqP_true hc (hk k (by simp)) h1 h2
          obtain ⟨e3, e4⟩ := eqL_true hrest (fun k hk' => hk k (by simp [hk'])) hl hr
          subst e1 e3
          exact ⟨rfl, by simpa using ⟨e2, e4⟩⟩
/-- a key that is found is the key -/
theorem eqV_true {t : TypeId} {K : KT} (hK : ktKey P t = some K) {u v u' v' : Value} (he : eqV K u v = some true) (hu : VR ρ u u') (hv : VR ρ v v') : u' = v' ∧ Instr.sameBits 10000 u' u' = true := by
  rcases (ktKey_some hK).2 with ⟨k, rfl, hk⟩ | ⟨ks, rfl, hk⟩
  · have he' : eqP k u v = some true := by
      unfold eqV at he
      split at he
      · cases he
      · exact he
    obtain ⟨e1, e2⟩ := eqP_true he' hk hu hv
    exact ⟨e1, same_plain e2⟩
  · have he' : ∃ X Y, u = .agg X ∧ v = .agg Y ∧ eqL ks X.toList Y.toList = some true := by
      unfold eqV at he
      split at he
      · exact ⟨_, _, rfl, rfl, he⟩
      · cases he
    obtain ⟨X, Y, rfl, rfl, he'⟩ := he'
    obtain ⟨X', rfl, hX, _⟩ := hu.agg_inv
    obtain ⟨Y', rfl, hY, _⟩ := hv.agg_inv
    obtain ⟨e1, e2⟩ := eqL_true he' hk hX hY
    have : X' = Y' := Array.toList_inj.mp e1
    subst this
    refine ⟨rfl, ?_⟩
    simp only [Instr.sameBits, Bool.and_eq_true, beq_self_eq_true, true_and]
    rw [List.all_eq_true]
    intro p hp
    have : p.1 = p.2 ∧ p.1 ∈ X'.toList := by
      obtain ⟨p1, p2⟩ := p
      have := List.of_mem_zip hp
      refine ⟨?_, this.1⟩
      obtain ⟨i, hi⟩ := List.getElem?_of_mem hp
      rw [List.getElem?_zip_eq_some] at hi
      rw [hi.1] at hi
      simpa using hi.2
    obtain ⟨p1, p2⟩ := p
    obtain ⟨h1, h2⟩ := this
    simp only at h1 h2
    subst h1
    exact same_plain (e2 p1 h2)
theorem EntsR.set {l : List Ent} {l' : List MapEntry} (h : EntsR ρ l l') : ∀ (i : Nat) (y : Ent) (e : MapEntry), EntR ρ y e → EntsR ρ (l.set i y) (l'.set i e) := by
  induction h with
  | nil => intro i y e _; exact .nil
  | cons h hr ih =>
    intro i y e he
    cases i with
    | zero => exact .cons he hr
    | succ i => exact .cons h (ih i y e he)
theorem EntsR.push {l : List Ent} {l' : List MapEntry} (h : EntsR ρ l l') {y : Ent} {e : MapEntry} (he : EntR ρ y e) : EntsR ρ (l ++ [y]) (l' ++ [e]) := by
  induction h with
  | nil => exact .cons he .nil
  | cons h _ ih => exact .cons h ih
theorem EntsR.erase {l : List Ent} {l' : List MapEntry} (h : EntsR ρ l l') : ∀ (i : Nat), EntsR ρ (l.eraseIdx i) (l'.eraseIdx i) := by
  induction h with
  | nil => intro i; exact .nil
  | cons h hr ih =>
    intro i
    cases i with
    | zero => exact hr
    | succ i => exact .cons h (ih i)
/-- a map is turned -/
theorem Tie.setMap (T : Tie ρ B M x h w) {b : Nat} {i : Inf} (hb : ρ b = some i) {es : List Ent} {c : Nat} (hg : h.get b = some (.map es c)) {es' : List Ent} {c' : Nat} {re' : Array MapEntry} (he : EntsR ρ es' re'.toList) :
    Kept ρ B w (setBlk w i.r (.map re' c')) ∧ HeapKept ρ h (h.put b (.map es' c')) ∧ HR ρ B (mix M (h.put b (.map es' c')) x) (setBlk w i.r (.map re' c')) := by
  obtain ⟨hB, hc, re, h1, h2⟩ := T.hr.ents hb (T.get hg)
  have hlt := T.hr.size b i hb
  refine ⟨Kept.put hb hB rfl rfl rfl (fun k hk => setBlk_ne w _ hk) (by simp [setBlk]), HeapKept.put T.wf hb (Heap.get_lt T.wf hg) _, ?_⟩
  rw [mix_put (T.lt hg)]
  exact T.hr.put hb (T.get hg) rfl (fun k hk => setBlk_ne w _ hk) (by simp [setBlk]) ⟨hB, hc, re', setBlk_self w _ hlt, he⟩
theorem Tie.map (T : Tie ρ B M x h w) {b : Nat} {es : List Ent} {c : Nat} (hg : h.get b = some (.map es c)) {v' : Value} (hv : VR ρ (.map (some b)) v') :
    ∃ i re, ρ b = some i ∧ v' = .map (some i.r) ∧ w.heap[i.r]? = some (.map re c) ∧ EntsR ρ es re.toList := by
  obtain ⟨i, hi, e⟩ := hv.map_inv
  obtain ⟨hB, hc, re, h1, h2⟩ := T.hr.ents hi (T.get hg)
  exact ⟨i, re, hi, e, h1, h2⟩
theorem modify_set (re : Array MapEntry) (i : Nat) (f : MapEntry → MapEntry) {e : MapEntry} (he : re.toList[i]? = some e) : (re.modify i f).toList = re.toList.set i (f e) := by
  apply List.ext_getElem?
  intro j
  have he' : re[i]? = some e := by simpa using he
  rw [Array.getElem?_toList, Array.getElem?_modify, List.getElem?_set]
  by_cases h : i = j
  · subst h
    have : i < re.toList.length := (List.getElem?_eq_some_iff.1 he).1
    simp [he']
    simpa using this
  · simp [h]
theorem Found.det {K : KT} {k : Value} {l : List Ent} {i : Nat} {v : Value} {s : Nat} (h : Found K k l i v s) : ∀ {j : Nat} {u : Value} {t : Nat}, Found K k l j u t → i = j ∧ v = u ∧ s = t := by
  induction h with
  | here h =>
    intro j u t h'
    cases h' with
    | here h' => exact ⟨rfl, rfl, rfl⟩
    | there h' _ => rw [h] at h'; cases h'
  | there h _ ih =>
    intro j u t h'
    cases h' with
    | here h' => rw [h] at h'; cases h'
    | there h' h2 => obtain ⟨rfl, rfl, rfl⟩ := ih h2; exact ⟨rfl, rfl, rfl⟩
theorem Lacks.not_found {K : KT} {k : Value} {l : List Ent} (h : Lacks K k l) : ∀ {j : Nat} {u : Value} {t : Nat}, Found K k l j u t → False := by
  induction h with
  | nil => intro j u t h'; cases h'
  | cons h _ ih =>
    intro j u t h'
    cases h' with
    | here h' => rw [h] at h'; cases h'
    | there h' h2 => exact ih h2
theorem sim_mapUpdate {t : TypeId} {m k q : Operand} {s : ESem} {rec : Rec} {v : Value} (hd : denMap P t (fun n _ => .e (eMapUpdate n (evB m) (evB k) (evB q))) = .e s) (T : Tie ρ B M x h w) (hr : s.f rec a h = .ok v h')
    (hm : VR ρ ((evB m).f a) (E m)) (hk : VR ρ ((evB k).f a) (E k)) (hq : VR ρ ((evB q).f a) (E q)) :
    DidOp P ρ B M x h h' w (do Instr.mapUpdate t (E m) (E k) (E q); pure Next.skip) v := by
  unfold denMap at hd
  split at hd
  · rename_i kt et hu
    split at hd
    · rename_i K z hK hz
      have hK' := (ktKey_some hK).1
      simp only [OSem.e.injEq] at hd
      subst hd
      simp only [eMapUpdate] at hr
      split at hr
      · rename_i r hmm
        rw [hmm] at hm
        split at hr
        · rename_i es c hg
          cases hko : keyOk K ((evB k).f a) with
          | false => simp [hko] at hr
          | true =>
            simp only [hko, cond_true] at hr
            split at hr
            · rename_i es' c' hp
              cases hr
              obtain ⟨i, re, hi, e1, e2, e3⟩ := T.map hg hm
              have hc := run_checkKey (P := P) (w := w) hK' hk hko false
              rcases mPut_some hp with ⟨j, u, st, h1, rfl, rfl⟩ | ⟨h1, rfl, rfl⟩
              · obtain ⟨en, f1, f2⟩ := find_found T.hr hK' hk h1 e3
                obtain ⟨a0, f3, f4⟩ := h1.get
                obtain ⟨en', f5, f6⟩ := e3.get _ _ f3
                rw [f1] at f5
                cases f5
                obtain ⟨q1, q2⟩ := eqV_true hK f4 hk f6.1
                obtain ⟨k1, k2, k3⟩ := T.setMap hi hg (c' := c') (re' := re.modify j fun e => { e with key := E k, val := E q }) (by
                  rw [modify_set re j _ f1]
                  exact e3.set j ((evB k).f a, (evB q).f a, st) { en with key := E k, val := E q } ⟨hk, hq, f6.2.2⟩)
                refine did_u ?_ (did_same k1 k2 k3 .undef')
                rw [e1]
                have f1' : re[j]? = some en := by simpa using f1
                have q3 : Instr.sameBits 10000 en.key (E k) = true := by rw [← q1]; exact q2
                simp [Instr.mapUpdate, run_und hu (show TypeDesc.map kt et ≠ .invalid by simp), run_getObj e2, hc, f2, MapKept.run_setObj_map _ e2, f1', Instr.keyThatStays, q3]
                rfl
              · have f2 := find_lacks T.hr hK' hk h1 e3
                obtain ⟨k1, k2, k3⟩ := T.setMap hi hg (c' := c + 1) (re' := re.push { key := E k, val := E q, born := c }) (by simpa using e3.push (y := ((evB k).f a, (evB q).f a, c)) (e := { key := E k, val := E q, born := c }) ⟨hk, hq, rfl⟩)
                refine did_u ?_ (did_same k1 k2 k3 .undef')
                rw [e1]
                simp [Instr.mapUpdate, run_und hu (show TypeDesc.map kt et ≠ .invalid by simp), run_getObj e2, hc, f2, MapKept.run_setObj_map _ e2]
                rfl
            · cases hr
        · cases hr
      · cases hr
    · cases hd
  · cases hd
theorem sim_mapEntry {t : TypeId} {m k : Operand} {s : ESem} {rec : Rec} {v : Value} (hd : denMap P t (fun n z => .e (eMapEntry n z (evB m) (evB k))) = .e s) (T : Tie ρ B M x h w) (hr : s.f rec a h = .ok v h')
    (hm : VR ρ ((evB m).f a) (E m)) (hk : VR ρ ((evB k).f a) (E k)) :
    DidOp P ρ B M x h h' w (do pure (Next.value (← Instr.mapEntry t (E m) (E k)))) v := by
  unfold denMap at hd
  split at hd
  · rename_i kt et hu
    split at hd
    · rename_i K z hK hz
      have hK' := (ktKey_some hK).1
      simp only [OSem.e.injEq] at hd
      subst hd
      simp only [eMapEntry] at hr
      split at hr
      · rename_i r hmm
        rw [hmm] at hm
        split at hr
        · rename_i es c hg
          cases hko : keyOk K ((evB k).f a) with
          | false => simp [hko] at hr
          | true =>
            simp only [hko, cond_true] at hr
            obtain ⟨i, re, hi, e1, e2, e3⟩ := T.map hg hm
            have hc := run_checkKey (P := P) (w := w) hK' hk hko false
            split at hr
            · rename_i u st hf
              split at hr
              · rename_i es' c' hp
                cases hr
                obtain ⟨j0, hfd⟩ := mFind_some hf
                rcases mPut_some hp with ⟨j, u', st', h1, rfl, rfl⟩ | ⟨h1, rfl, rfl⟩
                · obtain ⟨rfl, rfl, rfl⟩ := hfd.det h1
                  obtain ⟨en, f1, f2⟩ := find_found T.hr hK' hk h1 e3
                  obtain ⟨a0, f3, f4⟩ := h1.get
                  obtain ⟨en', f5, f6⟩ := e3.get _ _ f3
                  rw [f1] at f5
                  cases f5
                  obtain ⟨q1, q2⟩ := eqV_true hK f4 hk f6.1
                  obtain ⟨k1, k2, k3⟩ := T.setMap hi hg (c' := c') (re' := re.modify j0 fun e => { e with key := E k }) (by
                    rw [modify_set re j0 _ f1]
                    exact e3.set j0 ((evB k).f a, u, st) { en with key := E k } ⟨hk, f6.2.1, f6.2.2⟩)
                  have f1' : re[j0]? = some en := by simpa using f1
                  have q3 : Instr.sameBits 10000 en.key (E k) = true := by rw [← q1]; exact q2
                  refine did_v (v' := .tuple #[en.val, goInt en.born]) ?_ (did_same k1 k2 k3 (.tuple (.cons f6.2.1 (.cons ?_ .nil))))
                  · rw [e1]
                    simp [Instr.mapEntry, run_und hu (show TypeDesc.map kt et ≠ .invalid by simp), run_getObj e2, hc, f2, MapKept.run_setObj_map _ e2, f1', Instr.keyThatStays, q3]
                    rfl
                  · rw [f6.2.2]; exact .same rfl
                · exact (h1.not_found hfd).elim
              · cases hr
            · rename_i hf
              split at hr
              · rename_i es' c' hp
                cases hr
                have hl := mFind_none hf
                rcases mPut_some hp with ⟨j, u', st', h1, rfl, rfl⟩ | ⟨h1, rfl, rfl⟩
                · exact (hl.not_found h1).elim
                · have f2 := find_lacks T.hr hK' hk h1 e3
                  obtain ⟨hz1, hz2⟩ := run_zero (w := w) hz
                  obtain ⟨k1, k2, k3⟩ := T.setMap hi hg (c' := c + 1) (re' := re.push { key := E k, val := z, born := c }) (by simpa using e3.push (y := ((evB k).f a, z, c)) (e := { key := E k, val := z, born := c }) ⟨hk, .const hz2, rfl⟩)
                  refine did_v (v' := .tuple #[z, goInt c]) ?_ (did_same k1 k2 k3 (.tuple (.cons (.const hz2) (.cons (.same rfl) .nil))))
                  rw [e1]
                  simp [Instr.mapEntry, run_und hu (show TypeDesc.map kt et ≠ .invalid by simp), run_getObj e2, hc, f2, MapKept.run_setObj_map _ e2, hz1]
                  rfl
              · cases hr
            · cases hr
        · cases hr
      · cases hr
    · cases hd
  · cases hd
theorem mSet_cons (b : Nat) (v : Value) (a u : Value) (n : Nat) (r : List Ent) : mSet b v ((a, u, n) :: r) = bif Nat.beq n b then some ((a, v, n) :: r) else (match mSet b v r with | some r => some ((a, u, n) :: r) | none => none) := rfl
theorem mSet_some {b : Nat} {v v' : Value} (hv : VR ρ v v') : ∀ {l l2 : List Ent} {re : List MapEntry}, mSet b v l = some l2 → EntsR ρ l re →
    ∃ i e, re.findIdx? (fun e => (e.born : Int) == (b : Int)) = some i ∧ re[i]? = some e ∧ EntsR ρ l2 (re.set i { e with val := v' })
  | [], l2, re, hs, hl => by cases hs
  | (p, u, n) :: l, l2, re, hs, hl => by
    cases hl with
    | cons he hl =>
      rename_i e re
      rw [mSet_cons] at hs
      have hborn : e.born = n := he.2.2
      cases hb : Nat.beq n b with
      | true =>
        have : n = b := Nat.eq_of_beq_eq_true hb
        simp [hb] at hs
        subst hs
        refine ⟨0, e, ?_, rfl, .cons ⟨he.1, hv, hborn⟩ hl⟩
        rw [List.findIdx?_cons, if_pos (by rw [hborn, this]; simp)]
      | false =>
        simp only [hb, cond_false] at hs
        split at hs
        · rename_i r hr
          cases hs
          obtain ⟨i, e', h1, h2, h3⟩ := mSet_some hv hr hl
          refine ⟨i + 1, e', ?_, h2, .cons he h3⟩
          have hne : n ≠ b := fun e => by subst e; simp at hb
          rw [List.findIdx?_cons, if_neg (by rw [hborn]; simp; omega), h1]
          rfl
        · cases hs
theorem sim_entryStore {t : TypeId} {m k q : Operand} {rec : Rec} {v : Value} (T : Tie ρ B M x h w) (hr : (eEntryStore (evB m) (evB k) (evB q)).f rec a h = .ok v h')
    (hm : VR ρ ((evB m).f a) (E m)) (hk : VR ρ ((evB k).f a) (E k)) (hq : VR ρ ((evB q).f a) (E q)) :
    DidOp P ρ B M x h h' w (do Instr.entryStore t (E m) (E k) (E q); pure Next.skip) v := by
  simp only [eEntryStore] at hr
  split at hr
  · rename_i r hmm
    rw [hmm] at hm
    split at hr
    · rename_i es c hg
      split at hr
      · rename_i kk b hkk
        rw [hkk] at hk
        split at hr
        · rename_i es' hs
          cases hr
          obtain ⟨i, re, hi, e1, e2, e3⟩ := T.map hg hm
          obtain ⟨j, en, f1, f2, f3⟩ := mSet_some hq hs e3
          obtain ⟨k1, k2, k3⟩ := T.setMap hi hg (c' := c) (re' := re.modify j fun e => { e with val := E q }) (by rw [modify_set re j _ f2]; exact f3)
          refine did_u ?_ (did_same k1 k2 k3 .undef')
          rw [e1, hk.int]
          have f1' : re.findIdx? (fun e => (e.born : Int) == (b : Int)) = some j := by
            obtain ⟨re⟩ := re; simpa using f1
          simp [Instr.entryStore, run_getObj e2, asInt, asIntOf, f1', MapKept.run_setObj_map _ e2]
          rfl
        · cases hr
      · cases hr
    · cases hr
  · cases hr
theorem sim_delete {t kt et u ty : TypeId} {K : KT} {m k : Operand} {rec : Rec} {v : Value} (hu : und P t = .map kt et) (hK : ktKey P kt = some K) (T : Tie ρ B M x h w) (hr : (eDelete K (evB m) (evB k)).f rec a h = .ok v h')
    (hm : VR ρ ((evB m).f a) (E m)) (hk : VR ρ ((evB k).f a) (E k)) (ts : Array TypeId) (hts : ts[0]? = some t) :
    DidOp P ρ B M x h h' w (do pure (Next.value (← Builtin.delete_ ts ty #[E m, E k]))) v := by
  have hK' := (ktKey_some hK).1
  simp only [eDelete] at hr
  split at hr
  · rename_i hmm
    rw [hmm] at hm
    cases hko : keyOk K ((evB k).f a) with
    | false => simp [hko] at hr
    | true =>
      simp only [hko, cond_true] at hr
      cases hr
      have hc := run_checkKey (P := P) (w := w) hK' hk hko true
      refine did_v (v' := .tuple #[]) (w' := w) ?_ (did_same (Kept.refl _ _ _) (HeapKept.refl T.wf) T.hr (.tuple .nil))
      rw [hm.nilMap]
      simp [Builtin.delete_, hts, run_und hu (show TypeDesc.map kt et ≠ .invalid by simp), hc]
  · rename_i r hmm
    rw [hmm] at hm
    split at hr
    · rename_i es c hg
      cases hko : keyOk K ((evB k).f a) with
      | false => simp [hko] at hr
      | true =>
        simp only [hko, cond_true] at hr
        split at hr
        · rename_i es' hp
          cases hr
          obtain ⟨i, re, hi, e1, e2, e3⟩ := T.map hg hm
          have hc := run_checkKey (P := P) (w := w) hK' hk hko re.isEmpty
          rcases mDel_some hp with ⟨j, u, st, h1, rfl⟩ | ⟨h1, rfl⟩
          · obtain ⟨en, f1, f2⟩ := find_found T.hr hK' hk h1 e3
            have hj : j < re.size := by have := (List.getElem?_eq_some_iff.1 f1).1; simpa using this
            obtain ⟨k1, k2, k3⟩ := T.setMap hi hg (c' := c) (re' := re.eraseIdxIfInBounds j) (by
              have : (re.eraseIdxIfInBounds j).toList = re.toList.eraseIdx j := by
                unfold Array.eraseIdxIfInBounds
                rw [dif_pos hj, Array.toList_eraseIdx]
              rw [this]
              exact e3.erase j)
            refine did_v (v' := .tuple #[]) ?_ (did_same k1 k2 k3 (.tuple .nil))
            rw [e1]
            simp [Builtin.delete_, hts, run_und hu (show TypeDesc.map kt et ≠ .invalid by simp), run_getObj e2, hc, f2, MapKept.run_setObj_map _ e2]
            rfl
          · have f2 := find_lacks T.hr hK' hk h1 e3
            obtain ⟨k1, k2, k3⟩ := T.setMap hi hg (c' := c) (re' := re) e3
            refine did_v (v' := .tuple #[]) ?_ (did_same k1 k2 k3 (.tuple .nil))
            rw [e1]
            simp [Builtin.delete_, hts, run_und hu (show TypeDesc.map kt et ≠ .invalid by simp), run_getObj e2, hc, f2, MapKept.run_setObj_map _ e2]
            rfl
        · cases hr
    · cases hr
  · cases hr
theorem sim_clearM {t kt et ty : TypeId} {m : Operand} {rec : Rec} {v : Value} (hu : und P t = .map kt et) (T : Tie ρ B M x h w) (hr : (eClearM (evB m)).f rec a h = .ok v h') (hm : VR ρ ((evB m).f a) (E m)) :
    DidOp P ρ B M x h h' w (do pure (Next.value (← Builtin.clear_ #[t] ty #[E m]))) v := by
  simp only [eClearM] at hr
  split at hr
  · rename_i hmm
    rw [hmm] at hm
    cases hr
    refine did_v (v' := .tuple #[]) (w' := w) ?_ (did_same (Kept.refl _ _ _) (HeapKept.refl T.wf) T.hr (.tuple .nil))
    rw [hm.nilMap]
    simp [Builtin.clear_, run_und hu (show TypeDesc.map kt et ≠ .invalid by simp)]
  · rename_i r hmm
    rw [hmm] at hm
    split at hr
    · rename_i es c hg
      cases hr
      obtain ⟨i, re, hi, e1, e2, e3⟩ := T.map hg hm
      obtain ⟨k1, k2, k3⟩ := T.setMap hi hg (c' := c) (es' := []) (re' := #[]) .nil
      refine did_v (v' := .tuple #[]) ?_ (did_same k1 k2 k3 (.tuple .nil))
      rw [e1]
      simp [Builtin.clear_, run_und hu (show TypeDesc.map kt et ≠ .invalid by simp), run_getObj e2, MapKept.run_setObj_map _ e2]
      rfl
    · cases hr
  · cases hr
end
end Vm

/-! Ranges over maps: a beginning, a step, an entry once more. -/
set_option linter.unusedVariables false
namespace Vm
open Go
/-- what a step of a range was -/
theorem eNext_some {it : Sel} {rec : Rec} {a : Fr} {h h' : Heap} {v : Value} (hr : (eNext it).f rec a h = .ok v h') : h.next = h'.next ∧ ∃ p m since seen last, it.f a = .pointer (some p) ∧ p.off = 0 ∧ h.get p.block = some (.iter m since seen last) ∧
    ((m = none ∧ v = .tuple #[.bool false] ∧ h' = h) ∨ ∃ r es c, m = some r ∧ h.get r = some (.map es c) ∧ stale seen last es = false ∧
      ((leftE seen es = [] ∧ v = .tuple #[.bool false] ∧ h' = h) ∨ ∃ e, leftE seen es = [e] ∧ e.2.2 < since ∧ v = .tuple #[.bool true, e.1, e.2.1] ∧ h' = h.put p.block (.iter (some r) since (seen ++ [e.2.2]) c))) := by
  simp only [eNext] at hr
  split at hr
  · rename_i p hp
    cases hb : Nat.beq p.off 0 <;> simp only [hb, cond_true, cond_false] at hr
    · cases hr
    · have hp0 : p.off = 0 := Nat.eq_of_beq_eq_true hb
      split at hr
      · rename_i m since seen last hg
        split at hr
        · cases hr
          exact ⟨rfl, p, none, since, seen, last, hp, hp0, hg, .inl ⟨rfl, rfl, rfl⟩⟩
        · rename_i r
          split at hr
          · rename_i es c hg2
            cases hs : stale seen last es <;> simp only [hs, cond_true, cond_false] at hr
            · split at hr
              · rename_i hl
                cases hr
                exact ⟨rfl, p, some r, since, seen, last, hp, hp0, hg, .inr ⟨r, es, c, rfl, hg2, hs, .inl ⟨hl, rfl, rfl⟩⟩⟩
              · rename_i e l hl
                split at hr
                · cases hlt : Nat.blt e.2.2 since <;> simp only [hlt, cond_true, cond_false] at hr
                  · cases hr
                  · cases hr
                    exact ⟨rfl, p, some r, since, seen, last, hp, hp0, hg, .inr ⟨r, es, c, rfl, hg2, hs, .inr ⟨e, hl, by simpa using hlt, rfl, rfl⟩⟩⟩
                · cases hr
            · cases hr
          · cases hr
      · cases hr
  · cases hr
theorem hasN_eq (s : Nat) : ∀ l : List Nat, hasN s l = l.contains s
  | [] => rfl
  | x :: l => by
    show (bif Nat.beq s x then true else hasN s l) = _
    rw [hasN_eq s l, List.contains_cons]
    cases h : Nat.beq s x with
    | true => simp [Nat.eq_of_beq_eq_true h]
    | false =>
      have : (s == x) = false := by
        rw [← Bool.not_eq_true, beq_iff_eq]
        intro e; subst e; simp at h
      rw [this]; rfl
theorem leftE_cons (seen : List Nat) (e : Ent) (l : List Ent) : leftE seen (e :: l) = bif hasN e.2.2 seen then leftE seen l else e :: leftE seen l := rfl
section
variable {P : Program} {w w' : World} {ρ σ : Ren} {a : Fr} {E : Operand → Value} {B M : Nat} {x : G} {h h' : Heap} {g : G}
theorem EntsR.left {l : List Ent} {l' : List MapEntry} (hl : EntsR ρ l l') (seen : List Nat) : EntsR ρ (leftE seen l) (l'.filter fun e => !seen.toArray.contains e.born) := by
  induction hl with
  | nil => exact .nil
  | @cons e e' l l' h _ ih =>
    rw [leftE_cons, hasN_eq, List.filter_cons]
    have hb := h.2.2
    simp only [hb, List.contains_toArray]
    cases hc : seen.contains e.2.2 with
    | true => simpa [hb] using ih
    | false => simpa [hb] using EntsR.cons h ih
theorem allNew_eq {l : List Ent} {l' : List MapEntry} (hl : EntsR ρ l l') (last : Nat) : allNew last l = l'.all (fun e => decide (e.born ≥ last)) := by
  induction hl with
  | nil => rfl
  | @cons e e' l l' h _ ih =>
    show (bif Nat.ble last e.2.2 then allNew last l else false) = _
    rw [ih, List.all_cons, h.2.2]
    cases hb : Nat.ble last e.2.2 with
    | true => simp [Nat.le_of_ble_eq_true hb]
    | false =>
      have : ¬last ≤ e.2.2 := fun h => by rw [Nat.ble_eq_true_of_le h] at hb; cases hb
      simp [this]
theorem stale_eq {l : List Ent} {re : Array MapEntry} (hl : EntsR ρ l re.toList) (seen : List Nat) (last : Nat) : stale seen last l = (!seen.toArray.isEmpty && !re.isEmpty && re.all (fun e => decide (e.born ≥ last))) := by
  have h1 := allNew_eq hl last
  have h2 : re.all (fun e => decide (e.born ≥ last)) = re.toList.all (fun e => decide (e.born ≥ last)) := by simp
  rw [h2, ← h1]
  have h3 : re.isEmpty = l.isEmpty := by
    have := hl.length
    cases l with
    | nil =>
      have h0 : re.size = 0 := by simpa using this.symm
      simp [Array.isEmpty, h0]
    | cons e l =>
      have h0 : re.size = l.length + 1 := by simpa using this.symm
      simp [Array.isEmpty, h0]
  rw [h3]
  cases seen with
  | nil => rfl
  | cons s seen =>
    cases l with
    | nil => rfl
    | cons e l => simp [stale]
/-- a range's block -/
theorem Tie.iter (T : Tie ρ B M x h w) {b : Nat} {i : Inf} (hi : ρ b = some i) {m : Option Nat} {since last : Nat} {seen : List Nat} (hg : h.get b = some (.iter m since seen last)) :
    B ≤ i.r ∧ i.o = 0 ∧ i.c = false ∧ ∃ m', w.heap[i.r]? = some (.mapIter m' since seen.toArray last) ∧ ((m = none ∧ m' = none) ∨ ∃ r j, m = some r ∧ ρ r = some j ∧ m' = some j.r) := by
  obtain ⟨y, hy, hr⟩ := T.hr.blk b i hi
  rw [T.get hg] at hy
  cases hy
  exact hr
/-- one block more -/
theorem did_new (T : Tie ρ B M x h w) (hM : h.next + 1 ≤ M) (obj : Obj) (i : Inf) (hi : i.r = w.heap.size) (blk : Blk) (hblk : BlkR (ρ.with h.next i) B (w.alloc obj) i blk) {v v' : Value} (hv : VR (ρ.with h.next i) v v') :
    Did ρ B M x h (h.new blk) w (w.alloc obj) v v' := by
  have hb : ρ h.next = none := T.gap h.next (Nat.le_refl _) (by omega)
  have hlt : h.next < (h.new blk).next := Nat.lt_succ_self _
  refine ⟨ρ.with h.next i, Grew.new hb obj i hi (Nat.le_refl _) hlt, Kept.new ρ T.hr.base _, HeapKept.new T.wf _, ?_, hv⟩
  rw [mix_new (by omega)]
  exact T.hr.new hb obj i hi blk hblk
theorem sim_rangeM {t kt et : TypeId} {p : Operand} {rec : Rec} {v : Value} (hu : und P t = .map kt et) (T : Tie ρ B M x h w) (hM : h'.next ≤ M) (hr : (eRange (evB p)).f rec a h = .ok v h') (hp : VR ρ ((evB p).f a) (E p)) :
    DidOp P ρ B M x h h' w (do pure (Next.value (← Instr.range t (E p)))) v := by
  simp only [eRange] at hr
  split at hr
  · rename_i hpp
    rw [hpp] at hp
    cases hr
    refine did_v (v' := .pointer (some ⟨w.heap.size, 0, none⟩)) (w' := w.alloc (.mapIter none 0 #[] 0)) ?_ (did_new T hM _ ⟨w.heap.size, 0, 0, false⟩ rfl _ ?_ ?_)
    · rw [hp.nilMap]
      simp [Instr.range, run_und hu (show TypeDesc.map kt et ≠ .invalid by simp)]
    · refine ⟨T.hr.base, rfl, rfl, none, ?_, .inl ⟨rfl, rfl⟩⟩
      show (w.alloc _).heap[w.heap.size]? = _
      rw [heap_alloc, if_pos rfl]
    · exact .ptr ⟨⟨w.heap.size, 0, 0, false⟩, Ren.with_self _ _ _, rfl⟩ (fun hs => by cases hs)
  · rename_i r hpp
    rw [hpp] at hp
    split at hr
    · rename_i es c hg
      cases hr
      obtain ⟨j, re, hj, e1, e2, e3⟩ := T.map hg hp
      have hb : ρ h.next = none := T.gap h.next (Nat.le_refl _) hM
      refine did_v (v' := .pointer (some ⟨w.heap.size, 0, none⟩)) (w' := w.alloc (.mapIter (some j.r) c #[] c)) ?_ (did_new T hM _ ⟨w.heap.size, 0, 0, false⟩ rfl _ ?_ ?_)
      · rw [e1]
        simp [Instr.range, run_und hu (show TypeDesc.map kt et ≠ .invalid by simp), run_getObj e2]
      · refine ⟨T.hr.base, rfl, rfl, some j.r, ?_, .inr ⟨r, j, rfl, Ren.le_with ρ _ hb _ _ hj, rfl⟩⟩
        show (w.alloc _).heap[w.heap.size]? = _
        rw [heap_alloc, if_pos rfl]
      · exact .ptr ⟨⟨w.heap.size, 0, 0, false⟩, Ren.with_self _ _ _, rfl⟩ (fun hs => by cases hs)
    · cases hr
  · cases hr
theorem run_setIter {k : Nat} {m : Option Nat} {since last : Nat} {seen : Array Nat} (o : Obj) (h : w.heap[k]? = some (.mapIter m since seen last)) : (setObj k o).run P w = .ok () (setBlk w k o) := by
  simp [setObj, Sem.run, h]
  rfl
theorem sim_next {p : Operand} {ty : TypeId} {rec : Rec} {v : Value} (T : Tie ρ B M x h w) (hr : (eNext (evB p)).f rec a h = .ok v h') (hp : VR ρ ((evB p).f a) (E p)) :
    DidOp P ρ B M x h h' w (do pure (Next.value (← Instr.next (E p) false ty))) v := by
  obtain ⟨_, q, m, since, seen, last, hq, hq0, hg, hc⟩ := eNext_some hr
  rw [hq] at hp
  obtain ⟨q', e, ⟨i, hi, hq'⟩, _⟩ := hp.ptr_inv
  obtain ⟨hB, ho, hcf, m', hm1, hm2⟩ := T.iter hi hg
  have hE : E p = .pointer (some ⟨i.r, 0, none⟩) := by rw [e, hq', ho, hq0]
  rcases hc with ⟨rfl, rfl, rfl⟩ | ⟨r, es, c, rfl, hg2, hst, hc⟩
  · rcases hm2 with ⟨_, rfl⟩ | ⟨_, _, h0, _⟩
    · refine did_v (v' := .tuple #[.bool false]) (w' := w) ?_ (did_same (Kept.refl _ _ _) (HeapKept.refl T.wf) T.hr (.tuple (.cons (.same rfl) .nil)))
      rw [hE]
      simp [Instr.next, run_getIter hm1]
    · cases h0
  · rcases hm2 with ⟨h0, _⟩ | ⟨r', j, h0, hj, rfl⟩
    · cases h0
    · cases h0
      obtain ⟨_, _, re, e2, e3⟩ := T.hr.ents hj (T.get hg2)
      have hs2 := stale_eq e3 seen last
      rw [hst] at hs2
      have hl := e3.left seen
      rcases hc with ⟨hl0, rfl, rfl⟩ | ⟨en, hl1, hlt, rfl, rfl⟩
      · rw [hl0] at hl
        have hf : (re.filter fun e => !seen.toArray.contains e.born) = #[] := by
          apply Array.toList_inj.mp
          rw [Array.toList_filter]
          revert hl
          generalize (re.toList.filter fun e => !seen.toArray.contains e.born) = z
          intro hl
          cases hl
          rfl
        refine did_v (v' := .tuple #[.bool false]) (w' := w) ?_ (did_same (Kept.refl _ _ _) (HeapKept.refl T.wf) T.hr (.tuple (.cons (.same rfl) .nil)))
        rw [hE]
        simp only [Instr.next, Sem.run_bind, run_getIter hm1, Result.andThen_ok, run_getObj e2]
        rw [if_neg (by rw [← hs2]; simp)]
        simp only [hf]
        have h1 : ((#[] : Array MapEntry).filter fun x => decide (x.born < since)) = #[] := by simp
        have h2 : ((#[] : Array MapEntry).filter fun x => decide (x.born ≥ since)) = #[] := by simp
        simp only [h1, h2]
        simp [Question.forced, run_choose]
      · rw [hl1] at hl
        obtain ⟨en', hf, hen⟩ : ∃ en', (re.filter fun e => !seen.toArray.contains e.born) = #[en'] ∧ EntR ρ en en' := by
          revert hl
          generalize hz : (re.toList.filter fun e => !seen.toArray.contains e.born) = z
          intro hl
          cases hl with
          | cons h1 h2 =>
            cases h2
            exact ⟨_, Array.toList_inj.mp (by rw [Array.toList_filter, hz]), h1⟩
        obtain ⟨hk, hv, hbn⟩ := hen
        have hltI := T.hr.size _ i hi
        refine did_v (v' := .tuple #[.bool true, en'.key, en'.val]) (w' := setBlk w i.r (.mapIter (some j.r) since (seen.toArray.push en'.born) c)) ?_ (did_same ?_ ?_ ?_ (.tuple (.cons (.same rfl) (.cons hk (.cons hv .nil)))))
        · rw [hE]
          simp only [Instr.next, Sem.run_bind, run_getIter hm1, Result.andThen_ok, run_getObj e2]
          rw [if_neg (by rw [← hs2]; simp)]
          simp only [hf]
          have h1 : (#[en'].filter fun x => decide (x.born < since)) = #[en'] := by simp [hbn, hlt]
          have h2 : (#[en'].filter fun x => decide (x.born ≥ since)) = #[] := by simp [hbn]; omega
          simp only [h1, h2]
          simp [Question.forced, run_choose, run_setIter _ hm1]
        · exact Kept.put hi hB rfl rfl rfl (fun k hk => setBlk_ne w _ hk) (by simp [setBlk])
        · exact HeapKept.put T.wf hi (Heap.get_lt T.wf hg) _
        · rw [mix_put (T.lt hg)]
          refine T.hr.put hi (T.get hg) rfl (fun k hk => setBlk_ne w _ hk) (by simp [setBlk]) ⟨hB, ho, hcf, some j.r, ?_, .inr ⟨_, j, rfl, hj, rfl⟩⟩
          rw [setBlk_self w _ hltI, hbn]
          simp
end
end Vm

/-! Operations that turn the heap: append, copy, clear. -/
set_option linter.unusedVariables false
namespace Vm
open Go
section
variable {P : Program} {w w' : World} {ρ σ : Ren} {a : Fr} {E : Operand → Value} {B M : Nat} {x : G} {h h' : Heap} {g : G}

theorem cells_at {p : Addr} (hp : p.spot = none) (j : Nat) : p.add j = ⟨p.block, p.off + j, none⟩ := addr_add hp j
/-- what is appended -/
theorem src_some (H : HR ρ B g w) {sz : Nat} {v v' : Value} {n : Nat} {l : List Value} (hs : srcCells g sz v = some (n, l)) (hv : VR ρ v v') {tx : TypeId}
    (ht : (∃ e', P.underlying tx = some (.slice e')) ∨ (P.underlying tx = some .string)) : ∃ l', VRs ρ l l' ∧ Src P sz tx v' n l' w := by
  unfold srcCells at hs
  split at hs
  · rename_i p n' c
    split at hs
    · rename_i l0 hl
      cases hs
      obtain ⟨p', c', e, hp, _⟩ := hv.slice_inv
      obtain ⟨l', h1, h2, h3, h4, h5⟩ := readS (P := P) H hp hl
      have hd : ∀ j u, l'[j]? = some u → w.cell? (p'.add j) = some u := fun j u hj => by
        rcases hp.plain with hpl | ⟨hn0, _, _⟩
        · rw [cells_at hpl]; exact h5 j u hj
        · rw [hn0, Nat.zero_mul] at h3
          rw [List.length_eq_zero_iff.1 h3] at hj
          simp at hj
      refine ⟨l', h1, ⟨ht, fun w' => by rw [e]; rfl, ?_, ?_, h3, h2⟩⟩
      · rw [e]; exact run_firstCells_some w sz n p' n c' l' h3 hd
      · rw [e]; exact run_firstCells_some w.drew sz n p' n c' l' h3 (by simpa using hd)
    · cases hs
  · rename_i n' c
    cases hb : Nat.beq n' 0 with
    | false => simp [hb] at hs
    | true =>
      simp [hb] at hs
      obtain ⟨rfl, rfl⟩ := hs
      have : n' = 0 := Nat.eq_of_beq_eq_true hb
      subst this
      rw [hv.nilSlice]
      exact ⟨[], .nil, ⟨ht, fun _ => rfl, run_firstCells_none w sz 0 0 c, run_firstCells_none w.drew sz 0 0 c, by simp, by simp⟩⟩
  · rename_i st
    cases hb : Nat.beq sz 1 with
    | false => simp [hb] at hs
    | true =>
      simp [hb] at hs
      obtain ⟨rfl, rfl⟩ := hs
      have : sz = 1 := Nat.eq_of_beq_eq_true hb
      subst this
      rw [hv.string]
      have hby : byteCells st = u8s st.data.toList := by rw [u8s_eq]; rfl
      refine ⟨byteCells st, ?_, ⟨ht, fun _ => rfl, firstCells_string st w, firstCells_string st w.drew, by rw [byteCells_length, Nat.mul_one], fun u hu => by
        obtain ⟨_, _, rfl⟩ := List.mem_map.1 hu
        rfl⟩⟩
      rw [hby]
      refine VRs.lits (List.all_eq_true.2 fun v hv => ?_)
      rw [u8s_eq] at hv
      obtain ⟨_, _, rfl⟩ := List.mem_map.1 hv
      rfl
  · cases hs
/-- there is room -/
theorem app_room {t tx ty e : TypeId} {i : TypeInfo} (ht : P.underlying t = some (.slice e)) (hi : P.info? e = some i) {p : Addr} {sLen sCap n : Nat} {v : Value} {news : List Value} (hs : Src P i.size tx v n news w) (hroom : sLen + n ≤ sCap)
    (hst : (storeCells (p.add (sLen * i.size)) news).run P w = .ok () w') :
    (Builtin.append_ #[t, tx] ty #[.slice (some p) sLen sCap, v]).run P w = .ok (.slice (some p) (sLen + n) sCap) w' := by
  rcases hs.kind with ⟨e', hk⟩ | hk <;> simp [Builtin.append_, run_underlying ht, run_underlying hk, Go.sizeOf, typeInfo, hi, hs.len, hroom, hs.cells, hst]
theorem app_room_nil {t tx ty e : TypeId} {i : TypeInfo} (ht : P.underlying t = some (.slice e)) (hi : P.info? e = some i) {sLen sCap n : Nat} {v : Value} {news : List Value} (hs : Src P i.size tx v n news w) (hroom : sLen + n ≤ sCap) :
    (Builtin.append_ #[t, tx] ty #[.slice none sLen sCap, v]).run P w = .ok (.slice none (sLen + n) sCap) w := by
  rcases hs.kind with ⟨e', hk⟩ | hk <;> simp [Builtin.append_, run_underlying ht, run_underlying hk, Go.sizeOf, typeInfo, hi, hs.len, hroom, hs.cells]
/-- a new row behind old cells -/
theorem Tie.grow (T : Tie ρ B M x h w) {e : TypeId} {sz : Nat} {l l' : List Value} (hl : VRs ρ l l') (h1 : ∀ v ∈ l', v.oneCell' = true) {h2 : Heap} (hn2 : h2.next = h.next) (hk2 : HeapKept ρ h h2) (hr2 : HR ρ B (mix M h2 x) w)
    (hM : h.next + 1 ≤ M) (rest : Array Value) (need cap : Nat) (hc : need ≤ cap) (hsz : l'.length + rest.size = cap * sz) :
    Did ρ B M x h (h2.new (.cells e l (.own true))) w (World.alloc { w with drawn := w.drawn + 1 } (.cells (l'.toArray ++ rest) e)) (.slice (some ⟨h.next, 0, some sz⟩) need need) (.slice (some ⟨w.heap.size, 0, none⟩) need cap) := by
  have hfree : ρ h.next = none := T.gap h.next (Nat.le_refl _) (by omega)
  let i : Inf := ⟨w.heap.size, 0, (l'.toArray ++ rest).size, false⟩
  have hrow : BlkR (ρ.with h.next i) B (World.alloc { w with drawn := w.drawn + 1 } (.cells (l'.toArray ++ rest) e)) i (.cells e l (.own true)) := by
    refine ⟨T.hr.base, rfl, row_new (i := i) _ e (0, 0) rfl rfl rfl (by simp; have := hl.length; omega) (fun j v hj => ?_) ⟨rfl, rfl⟩ _⟩
    obtain ⟨v', e1, e2, e3⟩ := hl.at h1 j v hj
    refine ⟨v', ?_, e2.mono (Ren.le_with ρ i hfree), e3⟩
    rw [Array.getElem?_append_left (by have := (List.getElem?_eq_some_iff.1 e1).1; simpa using this)]
    simpa using e1
  have hlt : h2.next < M := by omega
  refine ⟨ρ.with h.next i, ?_, ?_, ?_, ?_, ?_⟩
  · have hlt' : h.next < (h2.new (.cells e l (.own true))).next := by rw [Heap.next_new, hn2]; omega
    have G := Grew.new (w := { w with drawn := w.drawn + 1 }) hfree (.cells (l'.toArray ++ rest) e) i rfl (Nat.le_refl _) hlt'
    exact ⟨G.le, G.fresh⟩
  · exact (Kept.drew ρ B w (w.drawn + 1)).trans (Grew.refl ρ 0 0 _ _) (Kept.new (w := { w with drawn := w.drawn + 1 }) ρ T.hr.base _)
  · refine ⟨by rw [Heap.next_new, hn2]; omega, Heap.wf_new hk2.wf _, fun b hb hr => ?_⟩
    rw [Heap.get_new, if_neg (by omega)]
    exact hk2.same b hb hr
  · rw [mix_new hlt, hn2]
    exact (hr2.drew (w.drawn + 1)).new hfree _ i rfl _ hrow
  · refine .slice (.inl ⟨i, Ren.with_self _ _ _, rfl⟩) (fun h => by cases h) (fun z hz => ⟨hc, fun j hj => ?_⟩)
    cases hz
    rw [Ren.with_self] at hj
    cases hj
    show 0 + cap * sz ≤ (l'.toArray ++ rest).size
    simp
    omega
theorem zc_size (z : Array Value) (n : Nat) : (Builtin.zeroCells z n).size = n * z.size := by simp [Builtin.zeroCells]
/-- append -/
theorem sim_append {t tx ty e : TypeId} {sz by_ : Nat} {z : List Value} {p q : Operand} {rec : Rec} {v : Value} (hu : und P t = .slice e) (hux : (∃ e', und P tx = .slice e') ∨ und P tx = .string) (hsz : szO P e = some sz) (hby : bytesO P e = some by_)
    (hz : zCells P e = some z) (hsz0 : 0 < sz) (hby0 : 0 < by_) (T : Tie ρ B M x h w) (hM : h'.next ≤ M) (hr : (eAppend e sz by_ (evB p) (evB q)).f rec a h = .ok v h') (hp : VR ρ ((evB p).f a) (E p)) (hq : VR ρ ((evB q).f a) (E q)) :
    DidOp P ρ B M x h h' w (do pure (Next.value (← Builtin.append_ #[t, tx] ty #[E p, E q]))) v := by
  obtain ⟨i, hi, hib⟩ := run_bytes hby
  have his : i.size = sz := by simpa [szO, hi] using hsz
  obtain ⟨zv, hz1, hz2, hz3, hz4, hz5⟩ := run_zCells (w := w) (ρ := ρ) hz
  have hzv : i.zero = some zv := by
    have : (zeroValue e).run P w = .ok zv w := hz1
    simp only [zeroValue, Sem.run_bind, typeInfo, run_program, Result.andThen_ok, hi, Sem.run_pure] at this
    cases hiz : i.zero with
    | none => rw [hiz] at this; simp at this
    | some u => rw [hiz] at this; simp at this; rw [this]
  have hzs : zv.cells.size = sz := by
    have h1 : zv.cells.size = z.length := by rw [← hz2]; simp
    rw [hsz] at hz5
    cases hz5
    exact h1
  have ht := und_some hu (by simp)
  have htx : (∃ e', P.underlying tx = some (.slice e')) ∨ P.underlying tx = some .string := by
    rcases hux with ⟨e', hux⟩ | hux
    · exact .inl ⟨e', und_some hux (by simp)⟩
    · exact .inr (und_some hux (by simp))
  have up : ∀ {b y}, h.get b = some y → mix M h x b = some y := fun hb => T.get hb
  have upl : ∀ {p n l}, loadN h.get p n = some l → loadN (mix M h x) p n = some l := by
    intro p n l hl
    obtain ⟨e, cs, st, hg, hs, hle, rfl⟩ := loadN_some hl
    unfold loadN at hl ⊢
    rw [hg] at hl
    rw [up hg]
    exact hl
  have ups : ∀ {v n l}, srcCells h.get sz v = some (n, l) → srcCells (mix M h x) sz v = some (n, l) := by
    intro v n l hs
    unfold srcCells at hs ⊢
    split at hs
    · split at hs
      · rename_i l0 hl; rw [upl hl]; exact hs
      · cases hs
    · exact hs
    · exact hs
    · cases hs
  simp only [eAppend] at hr
  split at hr
  · rename_i base len cap hpp
    rw [hpp] at hp
    split at hr
    · cases hr
    · rename_i n new hsrc
      obtain ⟨new', hv, hS⟩ := src_some (P := P) T.hr (ups hsrc) hq htx
      have hnl : new.length = n * sz := by rw [hv.length]; exact hS.newsLen
      rw [← his] at hS
      have hnl' : new'.length = n * sz := by rw [← his]; exact hS.newsLen
      cases hbig : Nat.ble ((len + n) * by_) 140737488355328 with
      | false => simp [hbig] at hr
      | true =>
        simp only [hbig, cond_true] at hr
        have hbig' : (len + n) * by_ ≤ 140737488355328 := Nat.le_of_ble_eq_true hbig
        have h63 : ((len + n : Nat) : Int) ≤ 9223372036854775807 := by
          have : (len + n) * 1 ≤ (len + n) * by_ := Nat.mul_le_mul_left _ hby0
          omega
        cases hroom : Nat.ble (len + n) cap with
        | true =>
          have hroom' : len + n ≤ cap := Nat.le_of_ble_eq_true hroom
          simp only [hroom, cond_true] at hr
          split at hr
          · -- nil
            cases hr
            rw [hp.nilSlice]
            exact did_v (app_room_nil ht hi hS hroom') (did_same (Kept.refl _ _ _) (HeapKept.refl T.wf) T.hr (.same rfl))
          · rename_i pa
            obtain ⟨p', c', e1, hpa, hc0, hc1⟩ := hp.slice_inv
            have hcc : cap ≤ c' := by
              cases hs : pa.spot with
              | none => rw [hc0 hs]; exact Nat.le_refl _
              | some z => exact (hc1 z hs).1
            rw [e1]
            cases hn0 : Nat.beq n 0 with
            | true =>
              have hn : n = 0 := Nat.eq_of_beq_eq_true hn0
              subst hn
              simp only [hn0, cond_true] at hr
              cases hr
              have hnil : new' = [] := by rw [← List.length_eq_zero_iff, hnl', Nat.zero_mul]
              subst hnil
              exact did_v (app_room ht hi hS (by omega) (by rfl)) (did_same (Kept.refl _ _ _) (HeapKept.refl T.wf) T.hr (.slice hpa hc0 hc1))
            | false =>
              simp only [hn0, cond_false] at hr
              have hn : n ≠ 0 := fun e => by subst e; simp at hn0
              split at hr
              · rename_i h2 hst
                cases hr
                have hpa' : AddrR ρ pa p' := by
                  rcases hpa with h | ⟨_, h, _⟩
                  · exact h
                  · omega
                obtain ⟨w', r1, r2, r3, r4, r5⟩ := T.store (P := P) (hpa'.plus (len * sz) none) hst hv hS.one
                refine did_v (app_room ht hi hS (by omega) (by rw [his]; exact r1)) (did_same r2 r3 r4 (.slice (.inl hpa') hc0 hc1))
              · cases hr
        | false =>
          have hroom' : cap < len + n := by
            rcases Nat.lt_or_ge cap (len + n) with h | h
            · exact h
            · rw [Nat.ble_eq_true_of_le h] at hroom; cases hroom
          simp only [hroom, cond_false] at hr
          -- what a growing append does in the model
          have grows : ∀ (ao : Option Addr) (c' : Nat) (olds : List Value), (Builtin.firstCells i.size len (.slice ao len c')).run P w.drew = .ok olds.toArray w.drew → c' < len + n →
              (Builtin.append_ #[t, tx] ty #[.slice ao len c', E q]).run P w = .ok (.slice (some ⟨w.heap.size, 0, none⟩) (len + n) (grownCap w (len + n) c' e))
                (w.drew.alloc (.cells ((olds ++ new').toArray ++ Builtin.zeroCells zv.cells (grownCap w (len + n) c' e - (len + n))) e)) := by
            intro ao c' olds ho hlt
            exact run_append_grow_src w t tx ty e i zv ht hi hzv ao len c' olds ho (E q) n new' hS hlt h63 (growslice_fits hlt (by rw [hib]; exact hbig'))
          split at hr
          · -- of nothing
            cases hl0 : Nat.beq len 0 with
            | false => simp [hl0] at hr
            | true =>
              have hlen0 : len = 0 := Nat.eq_of_beq_eq_true hl0
              simp only [hl0, cond_true] at hr
              cases hr
              rw [hp.nilSlice]
              have hrun := grows none cap [] (run_firstCells_none _ _ _ _ _) hroom'
              have hge := grownCap_ge w (len + n) cap e
              refine did_v hrun ?_
              have hM' : h.next + 1 ≤ M := hM
              have := T.grow (e := e) (sz := sz) hv hS.one (h2 := h) rfl (HeapKept.refl T.wf) T.hr hM' (Builtin.zeroCells zv.cells (grownCap w (len + n) cap e - (len + n))) (len + n) (grownCap w (len + n) cap e) hge (by
                rw [zc_size, hzs, hnl', ← Nat.add_mul]; congr 1; omega)
              simpa [Vm.newRow] using this
          · rename_i pa
            obtain ⟨p', c', e1, hpa, hc0, hc1⟩ := hp.slice_inv
            rw [e1]
            split at hr
            · cases hr
            · rename_i old hold
              obtain ⟨old', g1, g2, g3, _, g5⟩ := readS (P := P) T.hr hpa (upl hold)
              have hold' : (Builtin.firstCells i.size len (.slice (some p') len c')).run P w.drew = .ok old'.toArray w.drew := by
                rw [his]
                exact run_firstCells_some w.drew sz len p' len c' old' g3 (fun j u hj => by
                  rcases hpa.plain with hpl | ⟨hn0, _, _⟩
                  · rw [cells_at hpl]; exact g5 j u hj
                  · rw [hn0, Nat.zero_mul] at g3
                    rw [List.length_eq_zero_iff.1 g3] at hj
                    simp at hj)
              have hall : VRs ρ (old ++ new) (old' ++ new') := g1.append hv
              have hone : ∀ v ∈ old' ++ new', v.oneCell' = true := fun v hm => by
                rcases List.mem_append.1 hm with h | h
                · exact g2 v h
                · exact hS.one v h
              have hrest : ∀ C, len + n ≤ C → (old' ++ new').length + (Builtin.zeroCells zv.cells (C - (len + n))).size = C * sz := by
                intro C hC
                rw [zc_size, hzs, List.length_append, g3, hnl', ← Nat.add_mul, ← Nat.add_mul]
                congr 1
                omega
              split at hr
              · rename_i hsp
                cases hr
                have hcc : c' = cap := hc0 hsp
                have hrun := grows (some p') c' old' hold' (by omega)
                have hge := grownCap_ge w (len + n) c' e
                refine did_v hrun ?_
                have hM' : h.next + 1 ≤ M := hM
                exact T.grow (e := e) (sz := sz) hall hone (h2 := h) rfl (HeapKept.refl T.wf) T.hr hM' _ (len + n) _ hge (hrest _ hge)
              · rename_i zm hsp
                obtain ⟨hcle, hbnd⟩ := hc1 zm hsp
                split at hr
                · rename_i be cs hg
                  cases hbb : (Nat.beq zm sz && Nat.beq be e) with
                  | false => simp [hbb] at hr
                  | true =>
                    simp only [hbb, cond_true] at hr
                    simp only [Bool.and_eq_true] at hbb
                    have hzm : zm = sz := Nat.eq_of_beq_eq_true hbb.1
                    have hbe : be = e := Nat.eq_of_beq_eq_true hbb.2
                    subst hzm hbe
                    cases hr
                    -- the old block is dead
                    obtain ⟨iB, hiB⟩ := hpa.dom
                    obtain ⟨yB, hyB, hrB⟩ := T.hr.blk pa.block iB hiB
                    rw [up hg] at hyB
                    cases hyB
                    obtain ⟨hB, hcB, rc, fe, fz, hw, ⟨rfl, rfl⟩, hn, hlen4, hcells⟩ := hrB
                    have hltb := Heap.get_lt T.wf hg
                    have hk2 : HeapKept ρ h (h.put pa.block (.cells fe cs .dead)) := HeapKept.put T.wf hiB hltb _
                    have hr2 : ∀ w2 : World, (∀ k, k ≠ iB.r → w2.heap[k]? = w.heap[k]?) → w2.heap.size = w.heap.size → HR ρ B (mix M (h.put pa.block (.cells fe cs .dead)) x) w2 := by
                      intro w2 h1 h2
                      rw [mix_put (T.lt hg)]
                      exact T.hr.put hiB (up hg) rfl h1 h2 (by simpa [BlkR] using hcB)
                    have hM' : h.next + 1 ≤ M := hM
                    by_cases hin : len + n ≤ c'
                    · -- in place
                      have hpb : p'.block = iB.r := by
                        rcases hpa with ⟨j, hj, rfl⟩ | ⟨_, _, j, hj, hb | ⟨_, hb⟩⟩
                        · rw [hiB] at hj; cases hj; rfl
                        · rw [hsp] at hb; cases hb
                        · rw [hiB] at hj; cases hj; exact hb
                      have hbd := hbnd iB hiB
                      have hfit : p'.off + (len + n) * zm ≤ rc.size := by
                        have : (len + n) * zm ≤ c' * zm := Nat.mul_le_mul_right _ hin
                        omega
                      have hrow0 : w.heap[p'.block]? = some (.cells rc fe (0, 0)) := by rw [hpb]; exact hw
                      have hfit1 : p'.off + len * zm + new'.length ≤ rc.size := by rw [hnl', Nat.add_assoc, ← Nat.add_mul]; exact hfit
                      have hst := run_storeCells_at P p'.block (p'.off + len * zm) fe new' 0 rc w hrow0 (by simpa using hfit1) hS.one
                      simp only [Nat.add_zero] at hst
                      have hpl : p'.spot = none := by
                        rcases hpa.plain with hpl | ⟨_, _, hs⟩
                        · exact hpl
                        · rw [hsp] at hs; cases hs
                      have hst' : (storeCells (p'.add (len * i.size)) new').run P w = .ok () (w.setRow p'.block (rc.toList.take (p'.off + len * zm) ++ new' ++ rc.toList.drop (p'.off + len * zm + new'.length)).toArray) := by rw [his, cells_at hpl]; exact hst
                      refine did_v (app_room ht hi hS hin hst') ?_
                      have hfree : ρ h.next = none := T.gap h.next (Nat.le_refl _) (by omega)
                      let i2 : Inf := ⟨iB.r, p'.off, iB.n, false⟩
                      let rc' := (rc.toList.take (p'.off + len * zm) ++ new' ++ rc.toList.drop (p'.off + len * zm + new'.length)).toArray
                      have hrcs : rc'.size = rc.size := by
                        show (rc.toList.take (p'.off + len * zm) ++ new' ++ rc.toList.drop (p'.off + len * zm + new'.length)).toArray.size = _
                        simp
                        omega
                      have hrcg : ∀ k, rc'[k]? = if p'.off + len * zm ≤ k ∧ k < p'.off + len * zm + new'.length then new'[k - (p'.off + len * zm)]? else rc[k]? := by
                        intro k
                        show (rc.toList.take (p'.off + len * zm) ++ new' ++ rc.toList.drop (p'.off + len * zm + new'.length)).toArray[k]? = _
                        rw [List.getElem?_toArray]
                        have htl : (rc.toList.take (p'.off + len * zm)).length = p'.off + len * zm := by simp; omega
                        by_cases hk : k < p'.off + len * zm
                        · rw [if_neg (by omega), List.append_assoc, List.getElem?_append_left (by omega), List.getElem?_take, if_pos hk]; simp
                        · by_cases hk2 : k < p'.off + len * zm + new'.length
                          · rw [if_pos ⟨by omega, hk2⟩, List.append_assoc, List.getElem?_append_right (by omega), List.getElem?_append_left (by omega), htl]
                          · rw [if_neg (by omega), List.getElem?_append_right (by simp; omega), List.getElem?_drop]
                            simp only [List.length_append, htl]
                            rw [show p'.off + len * zm + new'.length + (k - (p'.off + len * zm + new'.length)) = k by omega]
                            simp
                      have hw2r : (w.setRow p'.block rc').heap[iB.r]? = some (.cells rc' fe (0, 0)) := by rw [hpb]; exact setRow_heap w iB.r rc rc' fe (0, 0) hw
                      have hw2o : ∀ k, k ≠ iB.r → (w.setRow p'.block rc').heap[k]? = w.heap[k]? := fun k hk => row_other w p'.block k rc' (by rw [hpb]; exact hk)
                      have hw2s : (w.setRow p'.block rc').heap.size = w.heap.size := row_size w _ _
                      have hrow2 : BlkR (ρ.with h.next i2) B (w.setRow p'.block rc') i2 (.cells fe (old ++ new) (.own true)) := by
                        refine ⟨hB, rfl, rc', fe, (0, 0), hw2r, ⟨rfl, rfl⟩, by rw [hrcs]; exact hn, ?_, fun j v hj => ?_⟩
                        · have hol : old.length = len * zm := by rw [g1.length]; exact g3
                          rw [hrcs, List.length_append, hnl, hol, ← Nat.add_mul]
                          exact hfit
                        · obtain ⟨v', f1, f2, f3⟩ := hall.at hone j v hj
                          refine ⟨v', ?_, f2.mono (Ren.le_with ρ i2 hfree), f3⟩
                          show rc'[p'.off + j]? = some v'
                          rw [hrcg]
                          by_cases hjl : j < len * zm
                          · rw [if_neg (by omega)]
                            rw [List.getElem?_append_left (by omega)] at f1
                            have := g5 j v' f1
                            rw [World.cell?, hrow0] at this
                            exact this
                          · rw [List.getElem?_append_right (by omega), g3] at f1
                            have hjn : j - len * zm < new'.length := (List.getElem?_eq_some_iff.1 f1).1
                            rw [if_pos (by omega), show p'.off + j - (p'.off + len * zm) = j - len * zm by omega]
                            exact f1
                      have hr3 := hr2 (w.setRow p'.block rc') hw2o hw2s
                      refine ⟨ρ.with h.next i2, ⟨Ren.le_with ρ i2 hfree, fun b j hbj hrb => ?_⟩, ?_, ?_, ?_, ?_⟩
                      · unfold Ren.with at hbj
                        by_cases hbn : b = h.next
                        · subst hbn
                          rw [if_pos rfl] at hbj
                          cases hbj
                          exact ⟨Nat.le_refl _, by simp, by rw [hw2s]; exact T.hr.size pa.block iB hiB, .inr ⟨pa.block, iB, hiB, rfl⟩⟩
                        · rw [if_neg hbn, hrb] at hbj; cases hbj
                      · exact Kept.put hiB hB rfl rfl rfl hw2o hw2s
                      · exact hk2.trans (Grew.refl ρ _ _ w w) (HeapKept.new hk2.wf _)
                      · rw [mix_new (by show h.next < M; omega)]
                        show HR (ρ.with h.next i2) B (fun j => if j = h.next then some (.cells fe (old ++ new) (.own true)) else mix M (h.put pa.block (.cells fe cs .dead)) x j) _
                        refine ⟨fun b j hbj => ?_, fun b c j k y1 y2 hne hbj hck hy1 hy2 ho1 ho2 => ?_, fun b j hbj => ?_, by rw [hw2s]; exact T.hr.base⟩
                        · unfold Ren.with at hbj
                          by_cases hbn : b = h.next
                          · subst hbn
                            rw [if_pos rfl] at hbj
                            cases hbj
                            exact ⟨_, if_pos rfl, hrow2⟩
                          · rw [if_neg hbn] at hbj
                            obtain ⟨y, hy, hry⟩ := hr3.blk b j hbj
                            exact ⟨y, by rw [if_neg hbn]; exact hy, hry.mono (Ren.le_with ρ i2 hfree) (fun _ => rfl)⟩
                        · -- the dead block's row is the new block's now
                          have other : ∀ b j y, ρ b = some j → b ≠ h.next → mix M (h.put pa.block (.cells fe cs .dead)) x b = some y → y.own = true → j.r ≠ iB.r := by
                            intro b j y hbj hbn hy hyo
                            have hbp : b ≠ pa.block := by
                              intro e
                              subst e
                              rw [mix_put (T.lt hg)] at hy
                              simp only [if_true] at hy
                              cases hy
                              cases hyo
                            rw [mix_put (T.lt hg)] at hy
                            simp only [if_neg hbp] at hy
                            exact T.hr.apart b pa.block j iB y _ hbp hbj hiB hy (up hg) hyo rfl
                          unfold Ren.with at hbj hck
                          by_cases hbn : b = h.next
                          · subst hbn
                            rw [if_pos rfl] at hbj
                            cases hbj
                            have hcn : c ≠ h.next := Ne.symm hne
                            rw [if_neg hcn] at hck hy2
                            exact Ne.symm (other c k y2 hck hcn hy2 ho2)
                          · rw [if_neg hbn] at hbj hy1
                            by_cases hcn : c = h.next
                            · subst hcn
                              rw [if_pos rfl] at hck
                              cases hck
                              exact other b j y1 hbj hbn hy1 ho1
                            · rw [if_neg hcn] at hck hy2
                              exact hr3.apart b c j k y1 y2 hne hbj hck hy1 hy2 ho1 ho2
                        · unfold Ren.with at hbj
                          rw [hw2s]
                          by_cases hbn : b = h.next
                          · subst hbn; rw [if_pos rfl] at hbj; cases hbj; exact T.hr.size pa.block iB hiB
                          · rw [if_neg hbn] at hbj; exact T.hr.size _ _ hbj
                      · refine .slice (.inl ⟨i2, Ren.with_self _ _ _, ?_⟩) (fun h => by cases h) (fun z hz => ⟨hin, fun j hj => ?_⟩)
                        · obtain ⟨pb, po, ps⟩ := p'
                          simp only at hpl hpb
                          subst hpl hpb
                          rfl
                        · cases hz
                          rw [Ren.with_self] at hj
                          cases hj
                          exact hbd
                    · -- a new row
                      have hrun := grows (some p') c' old' hold' (by omega)
                      have hge := grownCap_ge w (len + n) c' fe
                      refine did_v hrun ?_
                      exact T.grow (e := fe) (sz := zm) hall hone (h2 := h.put pa.block (.cells fe cs .dead)) rfl hk2 (hr2 w (fun _ _ => rfl) rfl) hM' _ (len + n) _ hge (hrest _ hge)
                · cases hr
  · cases hr
end
end Vm

/-! Copy, clear; every operation that turns the heap, calls aside. -/
set_option linter.unusedVariables false
namespace Vm
open Go
section
variable {P : Program} {w w' : World} {ρ σ : Ren} {a : Fr} {E : Operand → Value} {B M : Nat} {x : G} {h h' : Heap} {g : G}

/-- what of a source is copied -/
theorem src_first (H : HR ρ B g w) {sz : Nat} {v v' : Value} {m : Nat} {l : List Value} (hs : srcCells g sz v = some (m, l)) (hv : VR ρ v v') {k : Nat} (hk : k ≤ m) :
    ∃ l', VRs ρ (l.take (k * sz)) l' ∧ (∀ v ∈ l', v.oneCell' = true) ∧ (Builtin.lenOf v').run P w = .ok m w ∧ (Builtin.firstCells sz k v').run P w = .ok l'.toArray w := by
  unfold srcCells at hs
  split at hs
  · rename_i p n' c
    split at hs
    · rename_i l0 hl
      cases hs
      obtain ⟨p', c', e, hp, _⟩ := hv.slice_inv
      obtain ⟨l', h1, h2, h3, h4, h5⟩ := readS (P := P) H hp hl
      have hle : k * sz ≤ m * sz := Nat.mul_le_mul_right _ hk
      refine ⟨l'.take (k * sz), h1.take _, fun v hv => h2 v (List.mem_of_mem_take hv), by rw [e]; rfl, ?_⟩
      rw [e]
      refine run_firstCells_some w sz k p' m c' _ (by rw [List.length_take, h3]; omega) (fun j u hj => ?_)
      have hpl : p'.spot = none := by
        rcases hp.plain with hpl | ⟨hn0, _, _⟩
        · exact hpl
        · have hk0 : k = 0 := by omega
          rw [hk0, Nat.zero_mul, List.take_zero] at hj
          simp at hj
      rw [cells_at hpl]
      rw [List.getElem?_take] at hj
      split at hj
      · exact h5 j u hj
      · cases hj
    · cases hs
  · rename_i n' c
    cases hb : Nat.beq n' 0 with
    | false => simp [hb] at hs
    | true =>
      simp [hb] at hs
      obtain ⟨rfl, rfl⟩ := hs
      have : n' = 0 := Nat.eq_of_beq_eq_true hb
      subst this
      rw [hv.nilSlice]
      exact ⟨[], by simpa using VRs.nil, by simp, rfl, run_firstCells_none w sz k 0 c⟩
  · rename_i st
    cases hb : Nat.beq sz 1 with
    | false => simp [hb] at hs
    | true =>
      simp [hb] at hs
      obtain ⟨rfl, rfl⟩ := hs
      have : sz = 1 := Nat.eq_of_beq_eq_true hb
      subst this
      rw [hv.string]
      have hall : ∀ v ∈ u8s st.data.toList, lit v = true := fun v hv => by
        rw [u8s_eq] at hv
        obtain ⟨_, _, rfl⟩ := List.mem_map.1 hv
        rfl
      refine ⟨(u8s st.data.toList).take (k * 1), VRs.lits (List.all_eq_true.2 fun v hv => hall v (List.mem_of_mem_take hv)), fun v hv => lit_one (hall v (List.mem_of_mem_take hv)), rfl, ?_⟩
      rw [u8s_eq, Nat.mul_one]
      simp only [Builtin.firstCells, Sem.run_pure]
      congr 1
      apply Array.ext'
      rw [ByteArray.data_extract]
      simp
  · cases hs
theorem sim_copy {t tx ty e : TypeId} {sz : Nat} {p q : Operand} {rec : Rec} {v : Value} (hu : und P t = .slice e) (hsz : szO P e = some sz) (T : Tie ρ B M x h w)
    (hr : (eCopy sz (evB p) (evB q)).f rec a h = .ok v h') (hp : VR ρ ((evB p).f a) (E p)) (hq : VR ρ ((evB q).f a) (E q)) :
    DidOp P ρ B M x h h' w (do pure (Next.value (← Builtin.copy_ #[t, tx] ty #[E p, E q]))) v := by
  have upl : ∀ {p n l}, loadN h.get p n = some l → loadN (mix M h x) p n = some l := by
    intro p n l hl
    obtain ⟨e, cs, st, hg, hs, hle, rfl⟩ := loadN_some hl
    unfold loadN at hl ⊢
    rw [hg] at hl
    rw [T.get hg]
    exact hl
  have ups : ∀ {v n l}, srcCells h.get sz v = some (n, l) → srcCells (mix M h x) sz v = some (n, l) := by
    intro v n l hs
    unfold srcCells at hs ⊢
    split at hs
    · split at hs
      · rename_i l0 hl; rw [upl hl]; exact hs
      · cases hs
    · exact hs
    · exact hs
    · cases hs
  simp only [eCopy] at hr
  split at hr
  · rename_i d n c hpp
    rw [hpp] at hp
    split at hr
    · cases hr
    · rename_i m l hsrc
      have hkm : (bif Nat.ble n m then n else m) = Nat.min m n := by
        cases hb : Nat.ble n m with
        | true => have := Nat.le_of_ble_eq_true hb; simp only [cond_true]; exact (Nat.min_eq_right this).symm
        | false =>
          have : ¬ n ≤ m := fun h => by rw [Nat.ble_eq_true_of_le h] at hb; cases hb
          simp only [cond_false]; exact (Nat.min_eq_left (by omega : m ≤ n)).symm
      rw [hkm] at hr
      generalize hk : Nat.min m n = k at hr
      have hk' : k ≤ m ∧ k ≤ n := by subst hk; exact ⟨Nat.min_le_left _ _, Nat.min_le_right _ _⟩
      obtain ⟨l', g1, g2, g3, g4⟩ := src_first (P := P) T.hr (ups hsrc) hq hk'.1
      have gst : (Builtin.lenOf (E q)).run P w = .ok m w := g3
      split at hr
      · cases hr
        rw [hp.nilSlice]
        refine did_v (v' := goInt k) (w' := w) ?_ (did_same (Kept.refl _ _ _) (HeapKept.refl T.wf) T.hr (.same rfl))
        simp [Builtin.copy_, run_und hu (show TypeDesc.slice e ≠ .invalid by simp), gst, run_sz hsz, hk, g4]
      · rename_i pa
        obtain ⟨p', c', e1, hpa, _⟩ := hp.slice_inv
        rw [e1]
        cases hk0 : Nat.beq k 0 with
        | true =>
          have hkz : k = 0 := Nat.eq_of_beq_eq_true hk0
          simp only [hk0, cond_true] at hr
          cases hr
          subst hkz
          have hnil : l' = [] := by
            have := g1.length
            rw [Nat.zero_mul] at this
            exact List.length_eq_zero_iff.1 (by simpa using this.symm)
          subst hnil
          refine did_v (v' := goInt 0) (w' := w) ?_ (did_same (Kept.refl _ _ _) (HeapKept.refl T.wf) T.hr (.same rfl))
          simp [Builtin.copy_, run_und hu (show TypeDesc.slice e ≠ .invalid by simp), gst, run_sz hsz, hk, g4, storeCells]
        | false =>
          simp only [hk0, cond_false] at hr
          have hkz : k ≠ 0 := fun e => by subst e; simp at hk0
          split at hr
          · rename_i h2 hst
            cases hr
            have hpa' : AddrR ρ pa p' := by
              rcases hpa with h | ⟨h, _⟩
              · exact h
              · omega
            have hpa2 : AddrR ρ ⟨pa.block, pa.off, none⟩ p' := by
              obtain ⟨i, hi, rfl⟩ := hpa'
              exact ⟨i, hi, rfl⟩
            obtain ⟨w', r1, r2, r3, r4, r5⟩ := T.store (P := P) hpa2 hst g1 g2
            refine did_v (v' := goInt k) (w' := w') ?_ (did_same r2 r3 r4 (.same rfl))
            simp [Builtin.copy_, run_und hu (show TypeDesc.slice e ≠ .invalid by simp), gst, run_sz hsz, hk, g4, r1]
          · cases hr
  · cases hr
theorem sim_clearS {t e ty : TypeId} {z : List Value} {p : Operand} {rec : Rec} {v : Value} (hu : und P t = .slice e) (hz : zCells P e = some z) (T : Tie ρ B M x h w)
    (hr : (eClearS z (evB p)).f rec a h = .ok v h') (hp : VR ρ ((evB p).f a) (E p)) :
    DidOp P ρ B M x h h' w (do pure (Next.value (← Builtin.clear_ #[t] ty #[E p]))) v := by
  obtain ⟨zv, hz1, hz2, hz3, hz4, hz5⟩ := run_zCells (w := w) (ρ := ρ) hz
  simp only [eClearS] at hr
  split at hr
  · rename_i n c hpp
    rw [hpp] at hp
    cases hr
    rw [hp.nilSlice]
    refine did_v (v' := .tuple #[]) (w' := w) ?_ (did_same (Kept.refl _ _ _) (HeapKept.refl T.wf) T.hr (.tuple .nil))
    simp [Builtin.clear_, run_und hu (show TypeDesc.slice e ≠ .invalid by simp)]
  · rename_i pa n c hpp
    rw [hpp] at hp
    obtain ⟨p', c', e1, hpa, _⟩ := hp.slice_inv
    rw [e1]
    cases hn0 : Nat.beq n 0 with
    | true =>
      have hnz : n = 0 := Nat.eq_of_beq_eq_true hn0
      simp only [hn0, cond_true] at hr
      cases hr
      subst hnz
      refine did_v (v' := .tuple #[]) (w' := w) ?_ (did_same (Kept.refl _ _ _) (HeapKept.refl T.wf) T.hr (.tuple .nil))
      simp [Builtin.clear_, run_und hu (show TypeDesc.slice e ≠ .invalid by simp)]
    | false =>
      simp only [hn0, cond_false] at hr
      have hnz : n ≠ 0 := fun e => by subst e; simp at hn0
      split at hr
      · rename_i h2 hst
        cases hr
        have hpa' : AddrR ρ pa p' := by
          rcases hpa with h | ⟨h, _⟩
          · exact h
          · omega
        have hpa2 : AddrR ρ ⟨pa.block, pa.off, none⟩ p' := by
          obtain ⟨i, hi, rfl⟩ := hpa'
          exact ⟨i, hi, rfl⟩
        have hzl : z.length = zv.cells.size := by rw [← hz2]; simp
        have hmade := VRs.ofAt (ρ := ρ) (l := rep n z) (l' := (Builtin.zeroCells zv.cells n).toList) (by rw [rep_length]; simp [zc_size, hzl]) (fun j u hj => by
          have := made_get (n := n) (hz2.symm ▸ hz3 : VRs ρ z zv.cells.toList) (by rw [hz2]; exact hz4) j u hj
          rw [hzl] at this
          rw [Array.getElem?_toList]
          exact this)
        obtain ⟨w', r1, r2, r3, r4, r5⟩ := T.store (P := P) hpa2 hst hmade.1 hmade.2
        refine did_v (v' := .tuple #[]) (w' := w') ?_ (did_same r2 r3 r4 (.tuple .nil))
        obtain ⟨m, rfl⟩ : ∃ m, n = m + 1 := ⟨n - 1, by omega⟩
        simp [Builtin.clear_, run_und hu (show TypeDesc.slice e ≠ .invalid by simp), hz1, r1]
      · cases hr
  · cases hr
end
end Vm

/-! Every operation that turns the heap, calls aside. -/
set_option linter.unusedVariables false
namespace Vm
open Go
/-- does an operation call a function of the text? -/
def callOp : Op → Bool
  | .call c => (match c.callee with | .value _ => true | _ => false)
  | _ => false
section
variable {P : Program} {w w' : World} {ρ σ : Ren} {a : Fr} {E : Operand → Value} {B M : Nat} {x : G} {h h' : Heap} {g : G}

theorem sim_builtinE {b : Builtin} {c : Call} {ty : TypeId} {cs : Array Bool} {f : ESem} {rec : Rec} (hd : denBuiltin P b c.args.toList c.argTypes.toList = .e f) {v : Value} (T : Tie ρ B M x h w) (hM : h'.next ≤ M)
    (hr : f.f rec a h = .ok v h') (hx : Ops ρ a E c.args.toList) : DidOp P ρ B M x h h' w (Go.builtin b c.argTypes ty cs (c.args.map E)) v := by
  unfold denBuiltin at hd
  split at hd
  · split at hd
    · unfold denLen at hd
      split at hd
      · cases hd
      · split at hd <;> cases hd
      · cases hd
      · cases hd
      · cases hd
      · cases hd
    · cases hd
  · split at hd
    · rename_i s y t u ha ht
      have ea : c.args = #[s, y] := Array.toList_inj.mp (by rw [ha])
      have et : c.argTypes = #[t, u] := Array.toList_inj.mp (by rw [ht])
      have h1 := hx s (by rw [ha]; simp)
      have h2 := hx y (by rw [ha]; simp)
      rw [ea, et, show Array.map E #[s, y] = #[E s, E y] by simp]
      unfold denAppend at hd
      split at hd
      · rename_i e e' hu hu'
        split at hd
        · rename_i sz by_ z q1 q2 q3
          cases hb : (Nat.blt 0 sz && Nat.blt 0 by_) <;> simp only [hb, cond_true, cond_false] at hd
          · cases hd
          · simp only [OSem.e.injEq] at hd
            subst hd
            simp only [Bool.and_eq_true] at hb
            exact sim_append hu (.inl ⟨e', hu'⟩) q1 q2 q3 (by simpa using hb.1) (by simpa using hb.2) T hM hr h1 h2
        · cases hd
      · rename_i e hu hu'
        split at hd
        · rename_i sz by_ z q1 q2 q3
          cases hb : (Nat.blt 0 sz && Nat.blt 0 by_) <;> simp only [hb, cond_true, cond_false] at hd
          · cases hd
          · simp only [OSem.e.injEq] at hd
            subst hd
            simp only [Bool.and_eq_true] at hb
            exact sim_append hu (.inr hu') q1 q2 q3 (by simpa using hb.1) (by simpa using hb.2) T hM hr h1 h2
        · cases hd
      · cases hd
    · cases hd
  · split at hd
    · rename_i s y t u ha ht
      have ea : c.args = #[s, y] := Array.toList_inj.mp (by rw [ha])
      have et : c.argTypes = #[t, u] := Array.toList_inj.mp (by rw [ht])
      have h1 := hx s (by rw [ha]; simp)
      have h2 := hx y (by rw [ha]; simp)
      rw [ea, et, show Array.map E #[s, y] = #[E s, E y] by simp]
      split at hd
      · rename_i e hu
        split at hd
        · rename_i sz hsz
          simp only [OSem.e.injEq] at hd
          subst hd
          exact sim_copy hu hsz T hr h1 h2
        · cases hd
      · cases hd
    · cases hd
  · split at hd
    · rename_i s t ha ht
      have ea : c.args = #[s] := Array.toList_inj.mp (by rw [ha])
      have et : c.argTypes = #[t] := Array.toList_inj.mp (by rw [ht])
      have h1 := hx s (by rw [ha]; simp)
      rw [ea, et, show Array.map E #[s] = #[E s] by simp]
      split at hd
      · rename_i e hu
        split at hd
        · rename_i z hz
          cases hb : (Nat.blt 0 z.length) <;> simp only [hb, cond_true, cond_false] at hd
          · cases hd
          · simp only [OSem.e.injEq] at hd
            subst hd
            exact sim_clearS hu hz T hr h1
        · cases hd
      · rename_i k e hu
        simp only [OSem.e.injEq] at hd
        subst hd
        exact sim_clearM hu T hr h1
      · cases hd
    · cases hd
  · split at hd
    · rename_i m k t ts ha ht
      have ea : c.args = #[m, k] := Array.toList_inj.mp (by rw [ha])
      have et : c.argTypes[0]? = some t := by
        have : c.argTypes.toList[0]? = some t := by rw [ht]; rfl
        simpa using this
      have h1 := hx m (by rw [ha]; simp)
      have h2 := hx k (by rw [ha]; simp)
      rw [ea, show Array.map E #[m, k] = #[E m, E k] by simp]
      split at hd
      · rename_i kt e hu
        split at hd
        · rename_i K hK
          simp only [OSem.e.injEq] at hd
          subst hd
          exact sim_delete (u := 0) hu hK T hr h1 h2 c.argTypes et
        · cases hd
      · cases hd
    · cases hd
  · split at hd <;> cases hd
  · split at hd <;> cases hd
  · cases hd
theorem simE {o : Oper} {s : ESem} {rec : Rec} (hd : denOp P o.op = .e s) (hnc : callOp o.op = false) {v : Value} (T : Tie ρ B M x h w) (hM : h'.next ≤ M) (hr : s.f rec a h = .ok v h') (hE : Ops ρ a E o.op.operands.toList) :
    DidOp P ρ B M x h h' w (execOp E o) v := by
  unfold execOp
  cases ho : o.op <;> rw [ho] at hd hE hnc <;> simp only [denOp] at hd <;> simp only [Op.operands] at hE
  case alloc e => split at hd <;> cases hd
  case build t ps =>
    unfold denBuild at hd
    split at hd
    · rename_i z fs _ _
      cases hb' : allSz P fs.toList <;> simp only [hb', cond_true, cond_false] at hd
      · cases hd
      · split at hd <;> cases hd
    · split at hd
      · split at hd <;> cases hd
      · cases hd
    · cases hd
  case buildSlice t len ps =>
    unfold denBuildSlice at hd
    split at hd
    · split at hd
      · rename_i z _
        cases hb : (Nat.ble (len * z.length) 16777216 && Nat.blt 0 z.length) <;> simp only [hb, cond_true, cond_false] at hd
        · cases hd
        · split at hd <;> cases hd
      · cases hd
    · cases hd
  case load t x => split at hd <;> cases hd
  case store t p q =>
    split at hd
    · rename_i n hn
      simp only [OSem.e.injEq] at hd
      subst hd
      exact sim_store hn T hr (hE p (by simp)) (hE q (by simp))
    · cases hd
  case binOp op t p q z =>
    cases op <;> simp only [denBin] at hd <;> first | (cases hd; done) | (split at hd <;> cases hd)
  case unOp op t p => cases op <;> simp only at hd <;> cases hd
  case convert s' d p =>
    unfold denConvert at hd
    split at hd
    · split at hd <;> cases hd
    · rename_i e hs
      split at hd
      · cases hd
      · rename_i hd' he
        cases hb : Nat.beq s' d <;> simp only [hb, cond_true, cond_false] at hd
        · cases hd
        · simp only [OSem.e.injEq] at hd
          subst hd
          obtain rfl := Nat.eq_of_beq_eq_true hb
          exact sim_fix hs he T hr (hE p (by simp))
      · cases hd
    · split at hd
      · split at hd <;> cases hd
      · cases hd
      · cases hd
    · cases hd
  case makeInterface t p => split at hd <;> cases hd
  case makeFunc fn first cap => split at hd <;> cases hd
  case makeMap t r => cases r <;> simp only at hd <;> cases hd
  case makeSlice t l c =>
    split at hd
    · split at hd
      · rename_i z _ _
        cases hb : (Nat.blt 0 z.length) <;> simp only [hb, cond_true, cond_false] at hd <;> cases hd
      · cases hd
    · cases hd
  case slice t p lo hi mx =>
    unfold denSlice at hd
    cases hb' : ((optB hi).isNone && (optB mx).isSome) <;> simp only [hb', cond_true, cond_false] at hd
    · split at hd
      · split at hd <;> cases hd
      · split at hd <;> cases hd
      · split at hd <;> cases hd
      · cases hd
    · cases hd
  case fieldAddr t p f =>
    unfold denFieldAddr at hd
    split at hd
    · split at hd
      · rename_i off n _
        cases hb' : Nat.beq n 0 <;> simp only [hb', cond_true, cond_false] at hd <;> cases hd
      · cases hd
    · cases hd
  case field t p f =>
    unfold denField at hd
    split at hd
    · split at hd
      · split at hd <;> cases hd
      · cases hd
    · cases hd
  case indexAddr t p q =>
    unfold denIndexAddr at hd
    split at hd
    · split at hd <;> cases hd
    · split at hd <;> cases hd
    · cases hd
  case index t p q =>
    unfold denIndex at hd
    split at hd
    · split at hd <;> cases hd
    · cases hd
    · cases hd
  case lookup t p q ok =>
    unfold denMap at hd
    split at hd
    · split at hd <;> cases hd
    · cases hd
  case mapUpdate t m k q =>
    exact sim_mapUpdate (a := a) (rec := rec) hd T hr (hE m (by simp)) (hE k (by simp)) (hE q (by simp))
  case insert t m k q =>
    exact sim_mapUpdate (a := a) (rec := rec) hd T hr (hE m (by simp)) (hE k (by simp)) (hE q (by simp))
  case mapEntry t m k =>
    exact sim_mapEntry (a := a) (rec := rec) hd T hr (hE m (by simp)) (hE k (by simp))
  case entryStore t m k q =>
    simp only [OSem.e.injEq] at hd
    subst hd
    exact sim_entryStore T hr (hE m (by simp)) (hE k (by simp)) (hE q (by simp))
  case range t p =>
    unfold denRange at hd
    split at hd
    · rename_i kt et hu
      simp only [OSem.e.injEq] at hd
      subst hd
      exact sim_rangeM hu T hM hr (hE p (by simp))
    · cases hd
  case next p isS =>
    cases isS
    · have hd' : OSem.e (eNext (evB p)) = .e s := hd
      simp only [OSem.e.injEq] at hd'
      subst hd'
      exact sim_next T hr (hE p (by simp))
    · cases hd
  case call c =>
    cases hc : c.callee <;> rw [hc] at hd <;> simp only at hd
    case value f => simp [callOp, hc] at hnc
    case builtin b =>
      have := sim_builtinE (P := P) (ty := o.type) (cs := (c.args.map fun | .const _ => true | _ => false)) hd T hM hr (fun y hy => hE y (by simp [Call.operands, hc]; simpa using hy))
      simp only [resolve, hc]
      exact this
    case invoke => cases hd
  all_goals cases hd
end
end Vm

/-! What forms the operations have; what is so of each form. -/
set_option linter.unusedVariables false
namespace Vm
open Go

/-- operations that reckon, or read -/
inductive VForm : VSem → Prop
  | pure (f : Fr → Option Value) : VForm ⟨fun a _ => f a⟩
  | toString (x : Sel) : VForm (oToString x)
  | load1 (x : Sel) : VForm (oLoad1 x)
  | loadN (n : Nat) (x : Sel) : VForm (oLoadN n x)
  | lookup (n : KT) (z : Value) (ok : Bool) (x i : Sel) : VForm (oLookup n z ok x i)
  | lenM (x : Sel) : VForm (oLenM x)
  | entry (it : Sel) : VForm (oEntry it)
inductive EForm : ESem → Prop
  | fix (x : Sel) : EForm (eFix x)
  | store (n : Nat) (x y : Sel) : EForm (eStore n x y)
  | mapUpdate (n : KT) (m k x : Sel) : EForm (eMapUpdate n m k x)
  | mapEntry (n : KT) (z : Value) (m k : Sel) : EForm (eMapEntry n z m k)
  | entryStore (m s x : Sel) : EForm (eEntryStore m s x)
  | delete (n : KT) (m k : Sel) : EForm (eDelete n m k)
  | call (f : Sel) (args : List Sel) : EForm (eCall f args)
  | callF (g : FuncId) (args : List Sel) : EForm (eCallF g args)
  | append (e : TypeId) (sz by_ : Nat) (s x : Sel) : EForm (eAppend e sz by_ s x)
  | copy (sz : Nat) (x y : Sel) : EForm (eCopy sz x y)
  | clearM (x : Sel) : EForm (eClearM x)
  | clearS (z : List Value) (x : Sel) : EForm (eClearS z x)
  | range (x : Sel) : EForm (eRange x)
  | next (it : Sel) : EForm (eNext it)
def OForm : OSem → Prop
  | .v rd s => VForm s ∧ (rd = false → ∃ f : Fr → Option Value, s = ⟨fun a _ => f a⟩)
  | .a _ => True
  | .e s => EForm s
theorem OForm.vp (f : Fr → Option Value) : OForm (.v false ⟨fun a _ => f a⟩) := ⟨.pure f, fun _ => ⟨f, rfl⟩⟩
theorem OForm.vr {s : VSem} (h : VForm s) : OForm (.v true s) := ⟨h, fun h => by cases h⟩
theorem OForm.no : OForm oNo := OForm.vp fun _ => none
theorem den_bin (P : Program) (op : BinOp) (t : TypeId) (x y : Sel) : OForm (denBin P op t x y) := by
  cases op <;> simp only [denBin]
  case eql => split; · exact OForm.vp _
              · exact OForm.no
  case neq => split; · exact OForm.vp _
              · exact OForm.no
  all_goals exact OForm.vp _
theorem den_conv (P : Program) (s d : TypeId) (x : Sel) : OForm (denConvert P s d x) := by
  unfold denConvert
  split
  · split
    · exact OForm.vp _
    · exact OForm.no
  · split
    · exact OForm.vr (.toString x)
    · cases hb : Nat.beq s d <;> simp only [cond_true, cond_false]
      · exact OForm.no
      · exact EForm.fix x
    · exact OForm.no
  · split
    · split
      · exact True.intro
      · exact OForm.no
    · exact OForm.vp _
    · exact OForm.no
  · exact OForm.no
theorem den_len (P : Program) (t : TypeId) (x : Sel) : OForm (denLen P t x) := by
  unfold denLen
  split
  · exact OForm.vp _
  · split
    · exact OForm.vp _
    · exact OForm.no
  · exact OForm.vp _
  · exact OForm.vp _
  · exact OForm.vr (.lenM x)
  · exact OForm.no
theorem den_append (P : Program) (t u : TypeId) (s x : Sel) : OForm (denAppend P t u s x) := by
  unfold denAppend
  split
  · split
    · rename_i sz by_ z _ _ _
      cases hb : (Nat.blt 0 sz && Nat.blt 0 by_) <;> simp only [cond_true, cond_false]
      · exact OForm.no
      · exact EForm.append _ _ _ s x
    · exact OForm.no
  · split
    · rename_i sz by_ z _ _ _
      cases hb : (Nat.blt 0 sz && Nat.blt 0 by_) <;> simp only [cond_true, cond_false]
      · exact OForm.no
      · exact EForm.append _ _ _ s x
    · exact OForm.no
  · exact OForm.no
theorem den_builtin (P : Program) (b : Builtin) (args : List Operand) (ts : List TypeId) : OForm (denBuiltin P b args ts) := by
  unfold denBuiltin
  split
  · split
    · exact den_len P _ _
    · exact OForm.no
  · split
    · exact den_append P _ _ _ _
    · exact OForm.no
  · split
    · split
      · split
        · exact EForm.copy _ _ _
        · exact OForm.no
      · exact OForm.no
    · exact OForm.no
  · split
    · split
      · split
        · rename_i z _
          cases hb : (Nat.blt 0 z.length) <;> simp only [cond_true, cond_false]
          · exact OForm.no
          · exact EForm.clearS _ _
        · exact OForm.no
      · exact EForm.clearM _
      · exact OForm.no
    · exact OForm.no
  · split
    · split
      · split
        · exact EForm.delete _ _ _
        · exact OForm.no
      · exact OForm.no
    · exact OForm.no
  · split
    · exact OForm.vp _
    · exact OForm.no
  · split
    · exact OForm.vp _
    · exact OForm.no
  · exact OForm.no
theorem den_map (P : Program) (t : TypeId) (k : KT → Value → OSem) (h : ∀ n z, OForm (k n z)) : OForm (denMap P t k) := by
  unfold denMap
  split
  · split
    · exact h _ _
    · exact OForm.no
  · exact OForm.no
theorem den_form (P : Program) (op : Op) : OForm (denOp P op) := by
  cases op <;> simp only [denOp]
  case move => exact OForm.vp _
  case assign => exact OForm.vp _
  case pick => exact OForm.vp _
  case alloc => split; · exact True.intro
                · exact OForm.no
  case box => exact True.intro
  case build t ps =>
    unfold denBuild
    split
    · rename_i z fs _ _
      cases hb' : allSz P fs.toList <;> simp only [cond_true, cond_false]
      · exact OForm.no
      · split
        · exact OForm.vp _
        · exact OForm.no
    · split
      · split
        · exact OForm.vp _
        · exact OForm.no
      · exact OForm.no
    · exact OForm.no
  case buildSlice t len ps =>
    unfold denBuildSlice
    split
    · split
      · rename_i z _
        cases hb : (Nat.ble (len * z.length) 16777216 && Nat.blt 0 z.length) <;> simp only [cond_true, cond_false]
        · exact OForm.no
        · split
          · exact True.intro
          · exact OForm.no
      · exact OForm.no
    · exact OForm.no
  case load t x =>
    split
    · exact OForm.vr (.loadN _ _)
    · exact OForm.vr (.load1 _)
    · exact OForm.no
  case store =>
    split
    · exact EForm.store _ _ _
    · exact OForm.no
  case nilCheck => exact OForm.vp _
  case binOp => exact den_bin P _ _ _ _
  case unOp op t x => cases op <;> simp only [] <;> first | exact OForm.no | exact OForm.vp _
  case convert => exact den_conv P _ _ _
  case makeInterface =>
    split
    · exact OForm.no
    · exact OForm.no
    · exact OForm.vp _
  case makeFunc =>
    split
    · exact OForm.vp _
    · exact OForm.no
  case makeMap t r => cases r <;> simp only [] <;> first | exact OForm.no | exact True.intro
  case makeSlice =>
    split
    · split
      · rename_i z _ _
        cases hb : (Nat.blt 0 z.length) <;> simp only [cond_true, cond_false]
        · exact OForm.no
        · exact True.intro
      · exact OForm.no
    · exact OForm.no
  case slice t p lo hi mx =>
    unfold denSlice
    cases hb' : ((optB hi).isNone && (optB mx).isSome) <;> simp only [cond_true, cond_false]
    · split
      · split
        · exact OForm.vp _
        · exact OForm.no
      · split
        · exact OForm.vp _
        · exact OForm.no
      · split
        · exact OForm.vp _
        · exact OForm.no
      · exact OForm.no
    · exact OForm.no
  case fieldAddr t p f =>
    unfold denFieldAddr
    split
    · split
      · rename_i off n _
        cases hb' : Nat.beq n 0 <;> simp only [cond_true, cond_false]
        · exact OForm.vp _
        · exact OForm.no
      · exact OForm.no
    · exact OForm.no
  case field t p f =>
    unfold denField
    split
    · split
      · split
        · exact OForm.vp _
        · exact OForm.vp _
        · exact OForm.no
      · exact OForm.no
    · exact OForm.no
  case indexAddr t p q =>
    unfold denIndexAddr
    split
    · split
      · exact OForm.vp _
      · exact OForm.no
    · split
      · exact OForm.vp _
      · exact OForm.no
    · exact OForm.no
  case index t p q =>
    unfold denIndex
    split
    · split
      · exact OForm.vp _
      · exact OForm.no
    · exact OForm.vp _
    · exact OForm.no
  case lookup => exact den_map P _ _ fun n z => OForm.vr (.lookup _ _ _ _ _)
  case mapUpdate => exact den_map P _ _ fun n z => EForm.mapUpdate _ _ _ _
  case insert => exact den_map P _ _ fun n z => EForm.mapUpdate _ _ _ _
  case mapEntry => exact den_map P _ _ fun n z => EForm.mapEntry _ _ _ _
  case entryStore => exact EForm.entryStore _ _ _
  case extract => exact OForm.vp _
  case range t x =>
    unfold denRange
    split
    · exact EForm.range _
    · exact OForm.no
  case next it s =>
    cases s
    · exact EForm.next _
    · exact OForm.no
  case entry => exact OForm.vr (.entry _)
  case call c =>
    split
    · split
      · exact EForm.callF _ _
      · exact EForm.call _ _
    · exact den_builtin P _ _ _
    · exact OForm.no
  all_goals exact OForm.no

/-- a heap that knows more -/
def G.le (g g' : G) : Prop := ∀ b y, g b = some y → g' b = some y
theorem G.le_load {g g' : G} (hle : G.le g g') {p : Addr} {n : Nat} {l : List Value} (h : loadN g p n = some l) : loadN g' p n = some l := by
  obtain ⟨e, cs, st, hg, hs, hl, rfl⟩ := loadN_some h
  unfold loadN at h ⊢
  rw [hg] at h
  rw [hle _ _ hg]
  exact h
theorem VForm.mono {s : VSem} (hf : VForm s) {g g' : G} (hle : G.le g g') {a : Fr} {v : Value} (h : s.f a g = some v) : s.f a g' = some v := by
  have hm : ∀ {r es}, mapOf g r = some es → mapOf g' r = some es := by
    intro r es h
    rcases mapOf_some h with ⟨rfl, rfl⟩ | ⟨b, c, rfl, hg⟩
    · rfl
    · simp only [mapOf, hle _ _ hg]
  cases hf with
  | pure f => exact h
  | toString x =>
    simp only [oToString] at h ⊢
    split at h
    · exact h
    · split at h
      · rename_i l hl
        rw [G.le_load hle hl]
        exact h
      · cases h
    · cases h
  | load1 x =>
    simp only [oLoad1] at h ⊢
    split at h
    · obtain ⟨e, cs, st, hg, hs, hc⟩ := load1_some h
      unfold Vm.load1 at h ⊢
      rw [hg] at h
      rw [hle _ _ hg]
      exact h
    · cases h
  | loadN n x =>
    simp only [oLoadN] at h ⊢
    split at h
    · split at h
      · rename_i l hl
        rw [G.le_load hle hl]
        exact h
      · cases h
    · cases h
  | lookup n z ok x i =>
    simp only [oLookup] at h ⊢
    split at h
    · split at h
      · rename_i es hes
        rw [hm hes]
        exact h
      · cases h
    · cases h
  | entry it =>
    simp only [oEntry] at h ⊢
    split at h
    · rename_i p _
      cases hb : Nat.beq p.off 0 <;> simp only [hb, cond_true, cond_false] at h ⊢
      · cases h
      · split at h
        · rename_i r _ seen last hg
          rw [hle _ _ hg]
          split at h
          · rename_i s hs
            simp only [hs]
            split at h
            · rename_i es c hg2
              rw [hle _ _ hg2]
              exact h
            · cases h
          · cases h
        · cases h
    · cases h
  | lenM x =>
    simp only [oLenM] at h ⊢
    split at h
    · split at h
      · rename_i es hes
        rw [hm hes]
        exact h
      · cases h
    · cases h

/-- a call's heap only grows -/
def Rec.mono (rec : Rec) : Prop := ∀ j h v h', rec j h = .ok v h' → h.next ≤ h'.next
theorem storeN_next {h h' : Heap} {p : Addr} {vs : List Value} (hs : storeN h p vs = some h') : h'.next = h.next := by
  obtain ⟨e, cs, o, _, _, rfl⟩ := storeN_some hs
  rfl
theorem EForm.mono {s : ESem} (hf : EForm s) {rec : Rec} (hrec : rec.mono) {a : Fr} {h h' : Heap} {v : Value} (hr : s.f rec a h = .ok v h') : h.next ≤ h'.next := by
  cases hf with
  | fix x =>
    simp only [eFix] at hr
    split at hr
    · rename_i p n c hp
      cases hn : Nat.beq n 0 <;> simp only [hn, cond_true, cond_false] at hr
      · split at hr
        · cases hr; exact Nat.le_refl _
        · cases hr
      · cases hr
    · cases hr
  | store n x y =>
    simp only [eStore] at hr
    split at hr
    · split at hr
      · rename_i c _
        cases hb : Nat.beq c.length n <;> simp only [hb, cond_true, cond_false] at hr
        · cases hr
        · split at hr
          · rename_i h2 hs; cases hr; rw [storeN_next hs]; exact Nat.le_refl _
          · cases hr
      · cases hr
    · cases hr
  | mapUpdate n m k x =>
    simp only [eMapUpdate] at hr
    split at hr
    · split at hr
      · cases hb : keyOk n (k.f a) <;> simp only [hb, cond_true, cond_false] at hr
        · cases hr
        · split at hr
          · cases hr; exact Nat.le_refl _
          · cases hr
      · cases hr
    · cases hr
  | mapEntry n z m k =>
    simp only [eMapEntry] at hr
    split at hr
    · split at hr
      · cases hb : keyOk n (k.f a) <;> simp only [hb, cond_true, cond_false] at hr
        · cases hr
        · split at hr
          · split at hr
            · cases hr; exact Nat.le_refl _
            · cases hr
          · split at hr
            · cases hr; exact Nat.le_refl _
            · cases hr
          · cases hr
      · cases hr
    · cases hr
  | entryStore m s x =>
    simp only [eEntryStore] at hr
    split at hr
    · split at hr
      · split at hr
        · split at hr
          · cases hr; exact Nat.le_refl _
          · cases hr
        · cases hr
      · cases hr
    · cases hr
  | delete n m k =>
    simp only [eDelete] at hr
    split at hr
    · cases hb : keyOk n (k.f a) <;> simp only [hb, cond_true, cond_false] at hr
      · cases hr
      · cases hr; exact Nat.le_refl _
    · split at hr
      · cases hb : keyOk n (k.f a) <;> simp only [hb, cond_true, cond_false] at hr
        · cases hr
        · split at hr
          · cases hr; exact Nat.le_refl _
          · cases hr
      · cases hr
    · cases hr
  | call f args =>
    simp only [eCall] at hr
    split at hr
    · exact hrec _ _ _ _ hr
    · exact hrec _ _ _ _ hr
    · cases hr
  | callF g args => exact hrec _ _ _ _ hr
  | append e sz by_ s x =>
    simp only [eAppend] at hr
    split at hr
    · split at hr
      · cases hr
      · rename_i base len cap _ _ n new _
        cases hb : Nat.ble ((len + n) * by_) 140737488355328 <;> simp only [hb, cond_true, cond_false] at hr
        · cases hr
        · cases hb2 : Nat.ble (len + n) cap <;> simp only [hb2, cond_true, cond_false] at hr
          · split at hr
            · cases hb3 : Nat.beq len 0 <;> simp only [hb3, cond_true, cond_false] at hr
              · cases hr
              · cases hr; exact Nat.le_succ _
            · split at hr
              · cases hr
              · split at hr
                · cases hr; exact Nat.le_succ _
                · split at hr
                  · rename_i z _ _ be cs _
                    cases hb4 : (Nat.beq z sz && Nat.beq be e) <;> simp only [hb4, cond_true, cond_false] at hr
                    · cases hr
                    · cases hr; exact Nat.le_succ _
                  · cases hr
          · split at hr
            · cases hr; exact Nat.le_refl _
            · cases hb3 : Nat.beq n 0 <;> simp only [hb3, cond_true, cond_false] at hr
              · split at hr
                · rename_i h2 hs; cases hr; rw [storeN_next hs]; exact Nat.le_refl _
                · cases hr
              · cases hr; exact Nat.le_refl _
    · cases hr
  | copy sz x y =>
    simp only [eCopy] at hr
    split at hr
    · split at hr
      · cases hr
      · rename_i d n _ _ _ m l _
        generalize (bif Nat.ble n m then n else m) = k at hr
        split at hr
        · cases hr; exact Nat.le_refl _
        · cases hb3 : Nat.beq k 0 <;> simp only [hb3, cond_true, cond_false] at hr
          · split at hr
            · rename_i h2 hs; cases hr; rw [storeN_next hs]; exact Nat.le_refl _
            · cases hr
          · cases hr; exact Nat.le_refl _
    · cases hr
  | clearM x =>
    simp only [eClearM] at hr
    split at hr
    · cases hr; exact Nat.le_refl _
    · split at hr
      · cases hr; exact Nat.le_refl _
      · cases hr
    · cases hr
  | range x =>
    simp only [eRange] at hr
    split at hr
    · cases hr; exact Nat.le_succ _
    · split at hr
      · cases hr; exact Nat.le_succ _
      · cases hr
    · cases hr
  | next it =>
    obtain ⟨h1, _⟩ := eNext_some hr
    exact Nat.le_of_eq h1
  | clearS z x =>
    simp only [eClearS] at hr
    split at hr
    · cases hr; exact Nat.le_refl _
    · rename_i p n _ _
      cases hb3 : Nat.beq n 0 <;> simp only [hb3, cond_true, cond_false] at hr
      · split at hr
        · rename_i h2 hs; cases hr; rw [storeN_next hs]; exact Nat.le_refl _
        · cases hr
      · cases hr; exact Nat.le_refl _
    · cases hr
end Vm

/-! The abstract heap's numbers only grow. -/
set_option linter.unusedVariables false
namespace Vm
open Go

theorem iop_mono {P : Program} {op : Op} {d : Put} {rec : Rec} (hrec : rec.mono) {a a' : Fr} {h h' : Heap} (hr : (iOp d (denOp P op)).f rec a h = .mk a' h') : h.next ≤ h'.next := by
  have hf := den_form P op
  cases hd : denOp P op with
  | v rd s =>
    rw [hd] at hr
    simp only [iOp] at hr
    split at hr
    · cases hr
    · cases hr; exact Nat.le_refl _
  | a s =>
    rw [hd] at hr
    simp only [iOp] at hr
    split at hr
    · cases hr
    · cases hr; exact Nat.le_succ _
  | e s =>
    rw [hd] at hr hf
    simp only [iOp] at hr
    split at hr
    · cases hr
    · rename_i v h2 he
      cases hr
      exact EForm.mono hf hrec he
theorem guard_mono {s : Sel} {want : Bool} {d : Put} {i : ISem} {rec : Rec} {a a' : Fr} {h h' : Heap} (hi : ∀ {a a' h h'}, i.f rec a h = .mk a' h' → h.next ≤ h'.next) (hr : (iGuard s want d i).f rec a h = .mk a' h') : h.next ≤ h'.next := by
  simp only [iGuard] at hr
  split at hr
  · rename_i b _
    cases b <;> cases want <;> first | (cases hr; exact Nat.le_refl _) | exact hi hr
  · cases hr; exact Nat.le_refl _
theorem item_mono {P : Program} {nt : Nat} {ops : List Oper} {o : Oper} {rec : Rec} (hrec : rec.mono) {a a' : Fr} {h h' : Heap} (hr : (denItem P nt ops o).f rec a h = .mk a' h') : h.next ≤ h'.next := by
  unfold denItem at hr
  cases hb : okOper nt o <;> simp only [hb, cond_true, cond_false] at hr
  · cases hr
  · split at hr
    · exact iop_mono hrec hr
    · split at hr
      · exact guard_mono (fun h => iop_mono hrec h) hr
      · cases hr
theorem runItems_cons (rec : Rec) (i : ISem) (l : List ISem) (a : Fr) (h : Heap) : runItems rec (i :: l) a h = match i.f rec a h with | .no => .no | .mk a h => runItems rec l a h := rfl
theorem runItems_mono {P : Program} {nt : Nat} {ops : List Oper} {rec : Rec} (hrec : rec.mono) : ∀ {l : List Oper} {a a' : Fr} {h h' : Heap}, runItems rec (l.map (denItem P nt ops)) a h = .mk a' h' → h.next ≤ h'.next
  | [], a, a', h, h', hr => by cases hr; exact Nat.le_refl _
  | o :: l, a, a', h, h', hr => by
    rw [List.map_cons, runItems_cons] at hr
    split at hr
    · cases hr
    · rename_i a1 h1 h2
      exact Nat.le_trans (item_mono hrec h2) (runItems_mono hrec hr)
theorem runStates_cons (rec : Rec) (i : ISem) (l : List ISem) (a : Fr) (h : Heap) : runStates rec (i :: l) a h = match i.f rec a h with | .no => none | .mk a' h' => (match runStates rec l a' h' with | some l => some ((a, h) :: l) | none => none) := rfl
theorem runStates_last {rec : Rec} : ∀ {l : List ISem} {a : Fr} {h : Heap} {st : List (Fr × Heap)}, runStates rec l a h = some st → ∃ a' h', st.getLast? = some (a', h') ∧ runItems rec l a h = .mk a' h'
  | [], a, h, st, hr => by cases hr; exact ⟨a, h, rfl, rfl⟩
  | i :: l, a, h, st, hr => by
    rw [runStates_cons] at hr
    split at hr
    · cases hr
    · rename_i a1 h1 he
      split at hr
      · rename_i st' hs
        cases hr
        obtain ⟨a', h', h3, h4⟩ := runStates_last hs
        refine ⟨a', h', ?_, by rw [runItems_cons, he]; exact h4⟩
        cases st' with
        | nil => simp at h3
        | cons p q => simpa [List.getLast?_cons_cons] using h3
      · cases hr
def Sem.mono (s : Vm.Sem) : Prop := ∀ rec : Rec, rec.mono → ∀ n a h e a' h', s.f rec n a h = .mk e a' h' → h.next ≤ h'.next
theorem region_mono {P : Program} {nt : Nat} {ops l : List Oper} : Sem.mono (sRegion (l.map (denItem P nt ops))) := by
  intro rec hrec n a h e a' h' hr
  simp only [sRegion] at hr
  split at hr
  · cases hr
  · rename_i a1 h1 he
    cases hr
    exact runItems_mono hrec he
theorem draw_mono {P : Program} {nt : Nat} {ops : Array Oper} : Sem.mono (denDraw P nt ops) := by
  intro rec hrec n a h e a' h' hr
  unfold denDraw at hr
  cases hb : okDraw P nt ops.toList <;> simp only [hb, cond_true, cond_false] at hr
  · cases hr
  · split at hr
    · exact region_mono rec hrec n a h e a' h' hr
    · simp only [sDraw] at hr
      split at hr
      · cases hr
      · rename_i st hst
        generalize (checks P ops.toList).all (checkOne P nt ops.toList st) = q at hr
        cases q <;> simp only [cond_true, cond_false] at hr
        · cases hr
        · obtain ⟨a1, h1, h2, h3⟩ := runStates_last hst
          rw [h2] at hr
          cases hr
          exact runItems_mono hrec h3
theorem loopGo_succ (x : Fr → Heap → Out) (n : Nat) (a : Fr) (h : Heap) : loopGo x (n + 1) a h = match x a h with
  | .no => .no
  | .mk e a h => match e with
    | .normal => loopGo x n a h
    | e => .mk e a h := rfl
theorem loop_mono {x : Fr → Heap → Out} (hx : ∀ a h e a' h', x a h = .mk e a' h' → h.next ≤ h'.next) : ∀ n a h e a' h', loopGo x n a h = .mk e a' h' → h.next ≤ h'.next
  | 0, a, h, e, a', h', hr => by cases hr
  | n + 1, a, h, e, a', h', hr => by
    rw [loopGo_succ] at hr
    split at hr
    · cases hr
    · rename_i e1 a1 h1 he
      have h2 := hx _ _ _ _ _ he
      split at hr
      · exact Nat.le_trans h2 (loop_mono hx n _ _ _ _ _ hr)
      · cases hr; exact h2
theorem range_mono {nt : Nat} {f : Sel} {ps : List Tmp} {s b : Code} : Sem.mono (sRangeFunc nt f ps s b) := by
  intro rec hrec n a h e a' h' hr
  simp only [sRangeFunc] at hr
  split at hr
  · split at hr
    · rename_i v h1 hc
      have h2 := hrec _ _ _ _ hc
      rw [Heap.next_new] at h2
      split at hr
      · split at hr
        · cases hr
        · split at hr
          · cases hr; rw [Heap.next_put]; omega
          · split at hr
            · cases hr; rw [Heap.next_put]; omega
            · cases hr; rw [Heap.next_put]; omega
            · cases hr
      · cases hr
    · cases hr
  · cases hr
theorem code_mono (P : Program) (nt : Nat) (ir : Bool) (c : Code) : Sem.mono (den0 P nt ir c) := by
  have hno : Sem.mono sNo := fun rec hrec n a h e a' h' hr => by cases hr
  have hex : ∀ x, Sem.mono (sEx x) := fun x rec hrec n a h e a' h' hr => by cases hr; exact Nat.le_refl _
  induction c with
  | skip => exact hex _
  | region id ops draw =>
    cases draw with
    | false => exact region_mono
    | true => exact draw_mono
  | seq x y ihx ihy =>
    intro rec hrec n a h e a' h' hr
    simp only [den0, sSeq] at hr
    split at hr
    · cases hr
    · rename_i e1 a1 h1 he
      have h2 := ihx rec hrec _ _ _ _ _ _ he
      split at hr
      · exact Nat.le_trans h2 (ihy rec hrec _ _ _ _ _ _ hr)
      · cases hr; exact h2
  | cond c x y ihx ihy =>
    intro rec hrec n a h e a' h' hr
    simp only [den0] at hr
    cases hb : okX nt c <;> simp only [hb, cond_true, cond_false] at hr
    · cases hr
    · simp only [sCond] at hr
      split at hr
      · rename_i b _
        cases b
        · exact ihy rec hrec _ _ _ _ _ _ hr
        · exact ihx rec hrec _ _ _ _ _ _ hr
      · cases hr
  | block id b ih =>
    intro rec hrec n a h e a' h' hr
    simp only [den0, sBlock] at hr
    split at hr
    · cases hr
    · rename_i e1 a1 h1 he
      have h2 := ih rec hrec _ _ _ _ _ _ he
      split at hr
      · rename_i i
        cases hb : Nat.beq i id <;> simp only [hb, cond_true, cond_false] at hr <;> (cases hr; exact h2)
      · cases hr; exact h2
  | loop b ih =>
    intro rec hrec n a h e a' h' hr
    simp only [den0, sLoop] at hr
    exact loop_mono (fun a h e a' h' hh => ih rec hrec _ _ _ _ _ _ hh) _ _ _ _ _ _ hr
  | rangeFunc f ps s b ihs ihb =>
    simp only [den0]
    cases hb : (!ir && okX nt f && ps.toList.all (fun t => Nat.blt t nt)) <;> simp only [cond_true, cond_false]
    · exact hno
    · exact range_mono
  | exit id => exact hex _
  | label l => exact hex _
  | goto l => exact hex _
  | ret => exact hex _
  | scope b ih => exact hno
  | refuse why => exact hno
theorem scopeGo_succ (P : Program) (nt : Nat) (b : Code) (rec : Rec) (n m : Nat) (c : Code) (a : Fr) (h : Heap) : scopeGo P nt b rec n (m + 1) c a h = match (den0 P nt false c).f rec n a h with
    | .no => .no
    | .mk e a h => match e with
      | .goto l => (match findLabel b l with | some r => scopeGo P nt b rec n m r a h | none => .no)
      | e => .mk e a h := rfl
theorem scope_mono (P : Program) (nt : Nat) (b : Code) : Sem.mono (sScope P nt b) := by
  intro rec hrec n a h e a' h' hr
  have : ∀ m c a h e a' h', scopeGo P nt b rec n m c a h = .mk e a' h' → h.next ≤ h'.next := by
    intro m
    induction m with
    | zero => intro c a h e a' h' hr; cases hr
    | succ m ih =>
      intro c a h e a' h' hr
      rw [scopeGo_succ] at hr
      split at hr
      · cases hr
      · rename_i e1 a1 h1 he
        have h2 := code_mono P nt false c rec hrec _ _ _ _ _ _ he
        split at hr
        · split at hr
          · exact Nat.le_trans h2 (ih _ _ _ _ _ _ hr)
          · cases hr
        · cases hr; exact h2
  exact this n b a h e a' h' hr
theorem den_mono (P : Program) (nt : Nat) (c : Code) : Sem.mono (den P nt c) := by
  cases c with
  | scope b => exact scope_mono P nt b
  | _ => exact code_mono P nt false _
theorem finish_some {rs : List RV} {o : Out} {v : Value} {h' : Heap} (hr : finish rs o = .ok v h') : ∃ e a l, o = .mk e a h' ∧ (e = .normal ∨ e = .ret) ∧ rvs h' a rs = some l ∧ ((∃ u, l = [u] ∧ v = u) ∨ (l.length ≠ 1 ∧ v = .tuple l.toArray)) := by
  unfold finish at hr
  split at hr
  · cases hr
  · rename_i e a h
    split at hr
    · cases hr
    · cases hr
    · rename_i h1 h2
      have he : e = .normal ∨ e = .ret := by
        cases e with
        | normal => exact .inl rfl
        | ret => exact .inr rfl
        | exit i => exact (h1 i rfl).elim
        | goto i => exact (h2 i rfl).elim
      split at hr
      · cases hr
      · rename_i l hl
        split at hr
        · cases hr; exact ⟨e, a, _, rfl, he, hl, .inl ⟨_, rfl, rfl⟩⟩
        · rename_i hne
          cases hr
          refine ⟨e, a, l, rfl, he, hl, .inr ⟨fun hl1 => ?_, rfl⟩⟩
          obtain ⟨u, rfl⟩ := List.length_eq_one_iff.1 hl1
          exact hne u rfl
theorem round_mono {P : Program} {rec : Rec} (hrec : rec.mono) {n nt : Nat} {s b : Code} {l : Nat} {a : Fr} {h h' : Heap} {v : Value} (hr : roundGo P rec n nt s b l a h = .ok v h') : h.next ≤ h'.next := by
  have hend : ∀ {h2 go st p}, roundEnd l h2 go st p = .ok v h' → h2.next ≤ h'.next := by
    intro h2 go st p hr
    unfold roundEnd at hr
    split at hr
    · cases hr; exact Nat.le_refl _
    · cases hr
  unfold roundGo at hr
  split at hr
  · cases hr
  · rename_i e a1 h1 he
    have m1 := code_mono P nt true s rec hrec _ _ _ _ _ _ he
    split at hr
    · split at hr
      · split at hr
        · split at hr
          · cases hr
          · rename_i e2 a2 h2 he2
            have m2 := code_mono P nt true b rec hrec _ _ _ _ _ _ he2
            rw [Heap.next_put] at m2
            split at hr
            · have := hend hr; omega
            · have := hend hr; omega
            · have := hend hr; omega
            · cases hr
        · cases hr
      · cases hr
    · cases hr
/-- summaries' heaps only grow -/
def Sums.mono (Γ : Sums) : Prop := ∀ f s, Γ f = some s → ∀ args h v h', s args h = .ok v h' → h.next ≤ h'.next
theorem callN_call (P : Program) (Γ : Sums) (n : Nat) (f : FuncId) (args : List Value) (h : Heap) : callN P Γ (n + 1) (.call f args) h = match Γ f with
      | some s => s args h
      | none => (match denF P f with
        | none => .no
        | some c => bif Nat.ble args.length c.nt then finish c.rs (c.body.f (callN P Γ n) n (frameOf args) h) else .no) := rfl
theorem callN_yield (P : Program) (Γ : Sums) (n : Nat) (l : Nat) (args : List Value) (h : Heap) : callN P Γ (n + 1) (.yield l args) h = match h.get l with
      | some (.loop nt ps s b a _ _) => bif Nat.beq args.length ps.length then roundGo P (callN P Γ n) n nt s b l (setAll ps args a) h else .no
      | _ => .no := rfl
theorem denF_some {P : Program} {f : FuncId} {c : CF} (h : denF P f = some c) : ∃ fn body, P.funcs[f]? = some fn ∧ fn.body = some body ∧ fn.name ≠ "runtime.NumGoroutine" ∧ fn.ntmps ≤ 512 ∧ fn.results.toList.all (okRV P fn.ntmps) = true ∧
    c = ⟨fn.ntmps, fn.results.toList.map (denRV P), den P fn.ntmps body⟩ := by
  unfold denF at h
  split at h
  · cases h
  · rename_i fn hfn
    split at h
    · cases h
    · rename_i body hb
      cases hc : (!(fn.name == "runtime.NumGoroutine") && Nat.ble fn.ntmps 512 && fn.results.toList.all (okRV P fn.ntmps)) <;> simp only [hc, cond_true, cond_false] at h
      · cases h
      · simp only [Bool.and_eq_true, Bool.not_eq_true'] at hc
        cases h
        exact ⟨fn, body, hfn, hb, by simpa using hc.1.1, Nat.le_of_ble_eq_true hc.1.2, hc.2, rfl⟩
theorem callN_mono (P : Program) (Γ : Sums) (hΓ : Γ.mono) : ∀ n, Rec.mono (callN P Γ n)
  | 0, j, h, v, h', hr => by cases hr
  | n + 1, .call f args, h, v, h', hr => by
    rw [callN_call] at hr
    split at hr
    · rename_i s hs; exact hΓ f s hs _ _ _ _ hr
    · split at hr
      · cases hr
      · rename_i c hc
        obtain ⟨fn, body, _, _, _, _, _, rfl⟩ := denF_some hc
        cases hb : Nat.ble args.length fn.ntmps <;> simp only [hb, cond_true, cond_false] at hr
        · cases hr
        · obtain ⟨e, a, l, ho, _⟩ := finish_some hr
          exact den_mono P _ body _ (callN_mono P Γ hΓ n) _ _ _ _ _ _ ho
  | n + 1, .yield l args, h, v, h', hr => by
    rw [callN_yield] at hr
    split at hr
    · rename_i nt ps s b a _ _ _
      cases hb : Nat.beq args.length ps.length <;> simp only [hb, cond_true, cond_false] at hr
      · cases hr
      · exact round_mono (callN_mono P Γ hΓ n) hr
    · cases hr
end Vm

/-! One operation of a region: what the abstract run does with it, the model's does. -/
set_option linter.unusedVariables false
namespace Vm
open Go

/-- the fence that lets everything in, in a round's frame or not -/
def FW (ro : Option Nat) : Fence := { Fence.wide with round := ro }
/-- what has become of a run -/
structure After (ρ σ : Ren) (B M : Nat) (x : G) (h h' : Heap) (w w' : World) : Prop where
  grew : Grew ρ σ h.next h'.next w w'
  kept : Kept ρ B w w'
  hk : HeapKept ρ h h'
  hr : HR σ B (mix M h' x) w'
/-- blocks for deferred calls that lie in wait -/
def mkD (r : Nat) : Deferred := { target := .collected r, args := #[] }
def Mk (S : Nat) (σ : Ren) (w : World) (ds : List Deferred) : Prop :=
  ∃ rs : List Nat, ds = rs.map mkD ∧ rs.Nodup ∧ ∀ r ∈ rs, S ≤ r ∧ r < w.heap.size ∧ Free σ r ∧ w.heap[r]? = some (.deferred (some []))
def Enters (P : Program) (f : FuncId) : Prop := ∃ fn, P.funcs[f]? = some fn ∧ fn.name ≠ "runtime.NumGoroutine" ∧ fn.body.isNone = false
structure RecOK (P : Program) (B : Nat) (rec : Rec) : Prop where
  mono : rec.mono
  call : ∀ {f args h v h'}, rec (.call f args) h = .ok v h' → Enters P f ∧ ∀ {ρ M x w} {args' : Array Value}, Tie ρ B M x h w → h'.next ≤ M → VRs ρ args args'.toList →
    CallsIn Fence.wide 0 P f args' w fun e w' => ∃ v' σ, e = .returned v' ∧ After ρ σ B M x h h' w w' ∧ VR σ v v'
  yield : ∀ {l args h v h'}, rec (.yield l args) h = .ok v h' → ∀ {ρ M x w} {args' : Array Value} {i}, Tie ρ B M x h w → h'.next ≤ M → VRs ρ args args'.toList → ρ l = some i →
    ∃ fn tmps assign body, (Instr.yield i.r args').run P w = .ok (.round i.r fn tmps assign body) w ∧ RoundIn Fence.wide 0 P i.r fn tmps assign body w fun e w' => ∃ v' σ, e = .returned v' ∧ After ρ σ B M x h h' w w' ∧ VR σ v v'

section
variable {P : Program} {w w' : World} {ρ σ : Ren} {B M : Nat} {x : G} {h h' : Heap}
theorem After.refl (T : Tie ρ B M x h w) : After ρ ρ B M x h h w w := ⟨Grew.refl _ _ _ _ _, Kept.refl _ _ _, HeapKept.refl T.wf, T.hr⟩
theorem After.trans {τ : Ren} {h'' : Heap} {w'' : World} (A : After ρ σ B M x h h' w w') (A' : After σ τ B M x h' h'' w' w'') : After ρ τ B M x h h'' w w'' :=
  ⟨A.grew.trans A'.grew A.hk.next A'.hk.next A.kept.size A'.kept.size, A.kept.trans A.grew A'.kept, A.hk.trans A.grew A'.hk, A'.hr⟩
theorem After.tie (T : Tie ρ B M x h w) (A : After ρ σ B M x h h' w w') (hM : h'.next ≤ M) : Tie σ B M x h' w' := T.next A.grew A.hk A.hr hM
theorem Mk.after {S : Nat} {ds : List Deferred} (m : Mk S ρ w ds) (A : After ρ σ B M x h h' w w') : Mk S σ w' ds := by
  obtain ⟨rs, e, nd, hrs⟩ := m
  refine ⟨rs, e, nd, fun r hr => ?_⟩
  obtain ⟨h1, h2, h3, h4⟩ := hrs r hr
  exact ⟨h1, Nat.lt_of_lt_of_le h2 A.kept.size, A.grew.free h2 h3, by rw [A.kept.free r h2 h3]; exact h4⟩
theorem Did.after {v v' : Value} (d : Did ρ B M x h h' w w' v v') : ∃ σ, After ρ σ B M x h h' w w' ∧ VR σ v v' := by
  obtain ⟨σ, h1, h2, h3, h4, h5⟩ := d
  exact ⟨σ, ⟨h1, h2, h3, h4⟩, h5⟩
theorem put_tmps (a : Act) (dst : Option Tmp) (v : Value) : (a.put dst v).defers = a.defers := by cases dst <;> rfl
theorem FR.dst {nt : Nat} {a : Fr} {act : Act} (hf : FR nt ρ a act.tmps) {d : Option Tmp} (hd : okDst nt d = true) {v v' : Value} (hv : VR ρ v v') : FR nt ρ ((dstB d).f v a) (act.put d v').tmps := by
  cases d with
  | none => exact hf
  | some d => exact hf.put (by simpa [okDst] using hd) hv
/-- the post of one step -/
def Post (ρ : Ren) (B M : Nat) (x : G) (nt : Nat) (h h' : Heap) (w : World) (a' : Fr) (act : Act) (next : Act → World → Prop) : Prop :=
  ∀ σ w' act', After ρ σ B M x h h' w w' → FR nt σ a' act'.tmps → act'.defers = act.defers → next act' w'
theorem callFunc_run {f : FuncId} (he : Enters P f) (args : Array Value) : (callFunc f args).run P w = .ok (.enter f args) w := by
  obtain ⟨fn, h1, h2, h3⟩ := he
  have h3' : fn.body ≠ none := by intro e; rw [e] at h3; cases h3
  simp [callFunc, h1, h2, h3']
/-- a call -/
theorem sim_call {nt : Nat} {ro : Option Nat} {o : Oper} {rec : Rec} (hrec : RecOK P B rec) {s : ESem} (hd : denOp P o.op = .e s) (hc : callOp o.op = true) {v : Value} {a : Fr} (hr : s.f rec a h = .ok v h') {act : Act} (T : Tie ρ B M x h w)
    (hf : FR nt ρ a act.tmps) (hM : h'.next ≤ M) (hx : ∀ y ∈ o.op.operands.toList, okX nt y = true) (hdst : okDst nt o.dst = true) {next : Act → World → Prop} {Q : Exit → Act → World → Prop}
    (hp : Post ρ B M x nt h h' w ((dstB o.dst).f v a) act next) : o.uponIn (FW ro) 0 P act next Q ((execOp act.eval o).run P w) := by
  have hE : Ops ρ a act.eval o.op.operands.toList := fun y hy => hf.eval (hx y hy)
  cases ho : o.op <;> rw [ho] at hc hd hE <;> simp only [callOp] at hc <;> try (cases hc; done)
  rename_i c
  cases hcc : c.callee <;> rw [hcc] at hc <;> simp only at hc <;> try (cases hc; done)
  rename_i f
  simp only [denOp, hcc] at hd
  have hops : (Op.call c).operands.toList = f :: c.args.toList := by simp [Op.operands, Call.operands, hcc]
  rw [hops] at hE
  have hargs : VRs ρ (evs a (selsB c.args)) (c.args.map act.eval).toList := by
    simpa [selsB] using sim_evs (fun y hy => hE y (by simp [hy]))
  -- entering a function
  have enter : ∀ (g : FuncId) (args : List Value) (args' : Array Value), rec (.call g args) h = .ok v h' → VRs ρ args args'.toList → (execOp act.eval o).run P w = .ok (.enter g args') w →
      o.uponIn (FW ro) 0 P act next Q ((execOp act.eval o).run P w) := by
    intro g args args' hr' hv hrun
    rw [hrun, Oper.uponIn_enter]
    refine ⟨fun h => by simp [FW, Fence.wide] at h, ?_⟩
    have := (hrec.call hr').2 T hM hv
    refine CallsIn.mono (show CallsIn (FW ro) 0 P g args' w _ from this) fun e w' hR => ?_
    obtain ⟨v', σ, rfl, A, hvv⟩ := hR
    exact hp σ w' _ A ((hf.mono A.grew.le).dst hdst hvv) (put_tmps _ _ _)
  have hexec : ∀ (fv : Value), act.eval f = fv → (execOp act.eval o).run P w = (do let d ← Deferred.ofValue fv (c.args.map act.eval); invoke d.target d.args : Go.Sem Next).run P w := by
    intro fv hfv
    unfold execOp
    simp only [ho, resolve, hcc, hfv]
  have viaVal : ∀ (hrv : (eCall (evB f) (selsB c.args)).f rec a h = .ok v h'), o.uponIn (FW ro) 0 P act next Q ((execOp act.eval o).run P w) := by
    intro hrv
    have hfE := hE f (by simp)
    simp only [eCall] at hrv
    split at hrv
    · rename_i g first cap hfv
      rw [hfv] at hfE
      obtain ⟨first', cap', e, h1, h2⟩ := hfE.func_inv
      refine enter g _ (first' ++ c.args.map act.eval ++ cap') hrv (by simpa using (h1.append hargs).append h2) ?_
      rw [hexec _ e]
      simp [Deferred.ofValue, invoke, callFunc_run (hrec.call hrv).1]
    · rename_i l first cap hfv
      rw [hfv] at hfE
      obtain ⟨i, first', cap', hi, e, h1, h2⟩ := hfE.yield_inv
      obtain ⟨fn, tmps, as, bd, g1, g2⟩ := hrec.yield hrv T hM (args' := first' ++ c.args.map act.eval) (by simpa using h1.append hargs) hi
      rw [hexec _ e]
      have : (do let d ← Deferred.ofValue (.func (.yield i.r) first' cap') (c.args.map act.eval); invoke d.target d.args : Go.Sem Next).run P w = .ok (.round i.r fn tmps as bd) w := by
        simp [Deferred.ofValue, invoke, g1]
      rw [this, Oper.uponIn_round]
      refine ⟨fun h => by simp [FW, Fence.wide] at h, ?_⟩
      refine RoundIn.mono (show RoundIn (FW ro) 0 P i.r fn tmps as bd w _ from g2) fun e w' hR => ?_
      obtain ⟨v', σ, rfl, A, hvv⟩ := hR
      exact hp σ w' _ A ((hf.mono A.grew.le).dst hdst hvv) (put_tmps _ _ _)
    · cases hrv
  cases f with
  | func g =>
    simp only [OSem.e.injEq] at hd
    subst hd
    refine enter g _ (c.args.map act.eval) hr hargs ?_
    rw [hexec (.func (.func g) #[] #[]) rfl]
    simp [Deferred.ofValue, invoke, callFunc_run (hrec.call hr).1]
  | tmp t => simp only [OSem.e.injEq] at hd; subst hd; exact viaVal hr
  | const u => simp only [OSem.e.injEq] at hd; subst hd; exact viaVal hr
  | global u => simp only [OSem.e.injEq] at hd; subst hd; exact viaVal hr
/-- an operation, unguarded -/
theorem sim_op {nt : Nat} {ro : Option Nat} {o : Oper} {rec : Rec} (hrec : RecOK P B rec) {a a' : Fr} (hr : (iOp (dstB o.dst) (denOp P o.op)).f rec a h = .mk a' h') {act : Act} (T : Tie ρ B M x h w)
    (hf : FR nt ρ a act.tmps) (hM : h'.next ≤ M) (hx : okOper nt o = true) {next : Act → World → Prop} {Q : Exit → Act → World → Prop}
    (hp : Post ρ B M x nt h h' w a' act next) : o.wpIn (FW ro) 0 P act w next Q := by
  simp only [okOper, Bool.and_eq_true, List.all_eq_true] at hx
  have hE : Ops ρ a act.eval o.op.operands.toList := fun y hy => hf.eval (hx.2 y hy)
  have hform := den_form P o.op
  have hnd : ∀ c, o.op ≠ .defer c := by
    intro c e
    rw [e] at hr
    simp only [denOp, oNo, iOp] at hr
    cases hr
  refine ⟨fun _ _ => trivial, ?_⟩
  rw [Oper.semAt_eq _ _ _ hnd]
  cases hd : denOp P o.op with
  | v rd s =>
    rw [hd] at hr hform
    simp only [iOp] at hr
    split at hr
    · cases hr
    · rename_i v hv
      cases hr
      have hv' : s.f a (mix M h x) = some v := hform.1.mono (fun b y hb => T.get hb) hv
      obtain ⟨v', h1, h2⟩ := simV hd hv' T.hr hE
      rw [h1, Oper.uponIn_value]
      exact hp ρ w _ (After.refl T) (hf.dst hx.1 h2) (put_tmps _ _ _)
  | a s =>
    rw [hd] at hr
    simp only [iOp] at hr
    split at hr
    · cases hr
    · rename_i blk val hv
      cases hr
      have hM' : h.next + 1 ≤ M := hM
      have hb : ρ h.next = none := T.gap h.next (Nat.le_refl _) (by omega)
      obtain ⟨v', n, obj, i, h1, h2, h3, h4⟩ := simA hd hv T.hr hE hb
      rw [h1, Oper.uponIn_value]
      have A : After ρ (ρ.with h.next i) B M x h (h.new blk) w (World.alloc { w with drawn := n } obj) := by
        have hlt : h.next < (h.new blk).next := Nat.lt_succ_self _
        have Gr := Grew.new (w := { w with drawn := n }) hb obj i h2 (Nat.le_refl _) hlt
        refine ⟨⟨Gr.le, Gr.fresh⟩, (Kept.drew ρ B w n).trans (Grew.refl ρ 0 0 _ _) (Kept.new (w := { w with drawn := n }) ρ T.hr.base _), HeapKept.new T.wf _, ?_⟩
        rw [mix_new (by omega)]
        exact (T.hr.drew n).new hb obj i h2 blk h3
      exact hp _ _ _ A ((hf.mono A.grew.le).dst hx.1 h4) (put_tmps _ _ _)
  | e s =>
    rw [hd] at hr
    simp only [iOp] at hr
    split at hr
    · cases hr
    · rename_i v h2 hv
      cases hr
      cases hc : callOp o.op with
      | true => exact sim_call hrec hd hc hv T hf hM hx.2 hx.1 hp
      | false =>
        obtain ⟨nx, v', w', h1, h2, h3⟩ := simE hd hc T hM hv hE
        obtain ⟨σ, A, h4⟩ := h3.after
        rw [h1]
        rcases h2 with rfl | ⟨rfl, rfl⟩
        · rw [Oper.uponIn_value]
          exact hp σ w' _ A ((hf.mono A.grew.le).dst hx.1 h4) (put_tmps _ _ _)
        · rw [Oper.uponIn_skip]
          exact hp σ w' _ A ((hf.mono A.grew.le).dst hx.1 h4) (put_tmps _ _ _)
theorem guardSlot_some {ops : List Oper} {n j s : Nat} (hg : guardSlot ops n j = some s) : ∃ p, ops[j]? = some p ∧ p.dst = some s ∧ s < n := by
  unfold guardSlot at hg
  split at hg
  · rename_i p hp
    split at hg
    · rename_i s' hs
      cases hb : Nat.blt s' n <;> simp only [hb, cond_true, cond_false] at hg
      · cases hg
      · cases hg; exact ⟨p, hp, hs, by simpa using hb⟩
    · cases hg
  · cases hg
/-- a guard's say -/
theorem sim_wanted {nt : Nat} {ops : Array Oper} {o : Oper} {j : Nat} {want : Bool} {s : Tmp} (hg : o.guard = some (j, want)) (hs : guardSlot ops.toList nt j = some s) {a : Fr} {act : Act} (hf : FR nt ρ a act.tmps) :
    Region.wanted o (yielded ops act.tmps) = match (sel s).f a with | .bool b => b == want | _ => false := by
  obtain ⟨p, h1, h2, h3⟩ := guardSlot_some hs
  have hv := hf.2.2 s h3
  have hsz : s < act.tmps.size := by rw [hf.1]; exact h3
  have hget : act.tmps.getD s Go.undef = act.tmps[s] := by simp [Array.getD, hsz]
  have hy : ((ops[j]?).bind (·.dst)).bind (act.tmps[·]?) = some act.tmps[s] := by
    have : ops[j]? = some p := by simpa using h1
    rw [this]
    simp only [Option.bind_some, h2]
    rw [Array.getElem?_eq_getElem hsz]
  unfold Region.wanted
  rw [hg]
  simp only [yielded, hy]
  rw [hget] at hv
  generalize act.tmps[s] = u at hv
  cases hab : (sel s).f a with
  | bool b =>
    rw [hab] at hv
    rw [hv.bool]
    cases b <;> cases want <;> rfl
  | _ =>
    rw [hab] at hv
    have : ∀ b, u ≠ .bool b := by
      intro b e
      rw [e] at hv
      have := hv.bool'
      cases this
    split
    · rename_i b hb; exact absurd (Option.some.inj hb) (this b)
    · simp
/-- one item -/
theorem sim_item {nt : Nat} {ro : Option Nat} {ops : Array Oper} {o : Oper} {rec : Rec} (hrec : RecOK P B rec) {a a' : Fr} (hr : (denItem P nt ops.toList o).f rec a h = .mk a' h') {act : Act} (T : Tie ρ B M x h w)
    (hf : FR nt ρ a act.tmps) (hM : h'.next ≤ M) {next : Act → World → Prop} {Q : Exit → Act → World → Prop}
    (hp : Post ρ B M x nt h h' w a' act next) :
    if Region.wanted o (yielded ops act.tmps) then o.wpIn (FW ro) 0 P act w next Q else (∀ f, o.about P w act.eval = some f → (FW ro).fn f) ∧ next (act.put o.dst Go.undef) w := by
  unfold denItem at hr
  cases hb : okOper nt o with
  | false => simp only [hb, cond_false, iBad] at hr; cases hr
  | true =>
    simp only [hb, cond_true] at hr
    have hdst : okDst nt o.dst = true := by simp only [okOper, Bool.and_eq_true] at hb; exact hb.1
    split at hr
    · rename_i hg
      rw [if_pos (by simp [Region.wanted, hg])]
      exact sim_op hrec hr T hf hM hb hp
    · rename_i j want hg
      split at hr
      · rename_i s hs
        rw [sim_wanted hg hs hf]
        have skip : ∀ hr' : It.mk ((dstB o.dst).f Vm.undef a) h = .mk a' h', (∀ f, o.about P w act.eval = some f → (FW ro).fn f) ∧ next (act.put o.dst Go.undef) w := by
          intro hr'
          cases hr'
          exact ⟨fun _ _ => trivial, hp ρ w _ (After.refl T) (hf.dst hdst .undef') (put_tmps _ _ _)⟩
        simp only [iGuard] at hr
        split at hr
        · rename_i b hb'
          rw [hb']
          cases b <;> cases want
          · simp only [beq_self_eq_true, if_true]; exact sim_op hrec hr T hf hM hb hp
          · simpa using skip hr
          · simpa using skip hr
          · simp only [beq_self_eq_true, if_true]; exact sim_op hrec hr T hf hM hb hp
        · rename_i hne
          cases hab : (sel s).f a with
          | bool b => exact absurd hab (hne b)
          | _ => simp only [Bool.false_eq_true, if_false]; exact skip hr
      · simp only [iBad] at hr; cases hr
end
end Vm

