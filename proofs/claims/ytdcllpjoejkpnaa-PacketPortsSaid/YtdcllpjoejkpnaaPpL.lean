/- Part of a proof by an abstract run of the program's code: PpL. No condition. -/
import Derived.Test.YtdcllpjoejkpnaaPkB
import Derived.Test.YtdcllpjoejkpnaaPkD
/-! The law PacketPorts, walked. -/
set_option linter.unusedVariables false
namespace Vm
open Go
theorem i_orN {rec : Rec} {L : List (Nat × Value)} {f : Fr} {dt : Nat} {h : Heap} {K : Fr → Heap → Prop} {rd : Bool} {x y : Sel} {l : List ISem} {k : IntKind} {m q : Nat} (b : Nat) (hx : x.f (puts L f) = .int k (m : Int)) (hy : y.f (puts L f) = .int k (q : Int)) (hb : lim k = 2 ^ b) (hm : m < 2 ^ b) (hq' : q < 2 ^ b)
    (hq : ItQ (runItems rec l (puts ((dt, .int k ((m ||| q : Nat) : Int)) :: L) f) h) K) : ItQ (runItems rec (iOp (put dt) (.v rd (oInt2 fOr x y)) :: l) (puts L f) h) K :=
  i_v (int2w _ hx hy (by
    show some (Value.int k (wrap k (.ofNat (Nat.lor m q)))) = _
    rw [wrap_lt (by rw [hb]; exact Nat.or_lt_two_pow hm hq')]; rfl)) hq
end Vm
namespace Go.Proofs.Ytdcllpjoejkpnaa
open Go Vm
def ckK (k : Nat) : Chk := ⟨k, 0, 0, 0, 0, 0, 0, [], [], [], [], []⟩
def cvK (k : Nat) : List Value := [.int .u8 (k : Int), .int .u8 0, .int .u32 0, .int .u32 0, .int .u16 0, .int .u16 0, .int .u32 0, .slice none 0 0, .slice none 0 0, .slice none 0 0, .slice none 0 0, .slice none 0 0]
theorem ckK_chv (h : Heap) (k : Nat) (hk : k < 256) : ChV h (ckK k) (cvK k) := ⟨none, 0, none, 0, none, 0, none, 0, none, 0, [], rfl, Row.nil _ _, Row.nil _ _, Row.nil _ _, ⟨Row.nil _ _, trivial⟩, Row.nil _ _, ⟨Nat.le_refl _, Nat.le_refl _, Nat.le_refl _, Nat.le_refl _, Nat.le_refl _⟩, hk, (by show 0 < 256; decide)⟩
theorem ckK_ok (k : Nat) (hk : k < 256) : (ckK k).Ok := ⟨hk, (by show 0 < 256; decide), (by show 0 < 4294967296; decide), (by show 0 < 4294967296; decide), (by show 0 < 65536; decide), (by show 0 < 65536; decide), (by show 0 < 4294967296; decide), (fun x hx => by cases hx), (fun x hx => by cases hx), (fun x hx => by cases hx), (fun x hx => by cases hx)⟩
theorem or16 : ∀ k : Fin 256, (k.1 ||| 16) < 256 ∧ 16 ≤ (k.1 ||| 16) ∧ (k.1 ||| 16) ≠ 130 ∧ (k.1 ||| 16) ≠ 192 := by decide +kernel
theorem ckK_shaped (k : Nat) (h0 : k ≠ 0) : (ckK k).shaped := ⟨⟨.inr rfl, .inr rfl, .inr rfl, .inr rfl, .inr rfl⟩, ⟨.inr ⟨rfl, rfl⟩, .inr rfl, .inr rfl, .inr rfl⟩, rfl, (by show 0 ≤ 64; decide), (by show 0 ≤ 64; decide), (by show 0 ≤ 64; decide), (by show 0 ≤ 1200; decide), fun e => absurd e h0⟩
theorem goodK {t : List Nat} (h256 : t.length = 256) {a b tg k : Nat} (ha : a < 65536) (hb : b < 65536) (ht : tg < 4294967296) (hk : k < 256) (h0 : k ≠ 0) (hsz : (encC (ckK k)).1.length ≤ 1188) : goodPk t ⟨a, b, tg, [ckK k]⟩ := by
  refine ⟨⟨?_, ?_⟩, ⟨ha, hb, ht⟩, fun x hx => ?_⟩
  · rintro (h | h | h | h)
    · exact h h256
    · cases h
    · exact Nat.lt_irrefl 1 h.1
    · simp [ckK_shaped k h0] at h
  · rintro (h | h)
    · exact absurd (show 64 < 1 from h) (by decide)
    · have : (encs [ckK k]).length = (encC (ckK k)).1.length := by simp [encs]
      have h' : 1200 < 12 + (encs [ckK k]).length := h
      omega
  · simp at hx; subst hx; exact ckK_ok k hk
theorem lets_K {k : Nat} (h16 : 16 ≤ k) (h1 : k ≠ 130) (h2 : k ≠ 192) : lets k = [68] := by
  unfold lets
  rw [if_neg (by omega), if_neg (by omega), if_neg (by omega), if_neg (by omega), if_neg (by omega), if_neg (by omega), if_neg (by omega)]
theorem encK_len {k : Nat} (h16 : 16 ≤ k) (h1 : k ≠ 130) (h2 : k ≠ 192) : (encC (ckK k)).1.length ≤ 1188 := by
  rw [encC, if_pos (ckK_shaped k (by omega))]
  show (bodyC (ckK k) ++ padding (bodyC (ckK k)).length).length ≤ 1188
  have h4 : (bodyC (ckK k)).length = 4 := by
    rw [bodyC_len]
    simp only [fieldsC, show (ckK k).k = k from rfl, lets_K h16 h1 h2]
    rfl
  rw [List.length_append, h4]
  decide
set_option maxHeartbeats 4000000 in
theorem w_lports {h : Heap} {a b tg k : Nat} (ha : a < 65536) (hb : b < 65536) (htg : tg < 4294967296) (hk : k < 256) (n : Nat) (hn : 103000 ≤ n) :
    ResQ (callN Try.prog G0 n (.call 9 [.int .u16 (a : Int), .int .u16 (b : Int), .int .u32 (tg : Int), .int .u8 (k : Int)]) h) (fun u h' => u = .bool true) := by
  obtain ⟨hK, hK16, hK1, hK2⟩ : (k ||| 16) < 256 ∧ 16 ≤ (k ||| 16) ∧ (k ||| 16) ≠ 130 ∧ (k ||| 16) ≠ 192 := or16 ⟨k, hk⟩
  obtain ⟨n, rfl⟩ : ∃ m, n = m + 1 := ⟨n - 1, by omega⟩
  refine res_enter rfl d9 rfl ?_; simp only [c9]
  refine gg ?_
  refine i_call0 (w_awake h n (by omega)) ?_
  rintro _ _ ⟨rfl, rfl⟩
  refine gg ?_
  refine i_call0 (w_table n (by omega)) ?_
  rintro _ h1 ⟨k1, ot, t, rfl, h256, rt, hbt⟩
  refine gg ?_
  refine i_orN 8 (m := k) (q := 16) (by exact sel_of rfl) (by first | exact sel_of rfl | exact const_of) rfl hk (by decide) ?_
  generalize (k ||| 16) = K at *
  have hgd := goodK h256 ha hb htg hK (by omega : K ≠ 0) (encK_len hK16 hK1 hK2)
  refine gg ?_
  refine i_bslice (cs := cvK K) (by rfl) ?_
  have k2 : Keeps h1 (h1.new (.cells 33 (cvK K) (.own false))) := Keeps.new h1 _
  have row2 : Row (h1.new (.cells 33 (cvK K) (.own false))) 12 (some ⟨h1.next, 0, none⟩) 1 [cvK K].flatten := Row.new (by simp) (by rfl) (.inl rfl)
  generalize (h1.new (.cells 33 (cvK K) (.own false))) = h2 at *
  refine gg ?_
  have hp : PkV h2 ⟨a, b, tg, [ckK K]⟩ [.int .u16 (a : Int), .int .u16 (b : Int), .int .u32 (tg : Int), .slice (some ⟨h1.next, 0, none⟩) 1 1] := ⟨_, 1, [cvK K], rfl, row2, (ChE.nil h2).snoc (ckK_chv h2 K hK), Nat.le_refl _⟩
  refine i_call2 (by exact sel_of rfl) (by exact sel_of rfl) (w_pencode (rt.keeps k2) hbt hp (by show 1 ≤ 80; decide) n (by omega)) ?_
  rintro _ h3 ⟨k3, o3, c3, rfl, r3, hc3⟩
  have he2 : (encPk t ⟨a, b, tg, [ckK K]⟩).2 = 0 := by rw [encPk, if_neg hgd.1.1, if_neg hgd.1.2]
  rw [he2]
  refine gg ?_
  refine i_call2 (by exact sel_of rfl) (by exact sel_of rfl) (w_pdecode (rt.keeps (k2.trans k3)) hbt hgd r3 hc3 n (by omega)) ?_
  rintro _ h4 ⟨k4, pv, rfl, hpv⟩
  have lpv := hpv.len
  refine gg ?_
  refine i_storeF (Keeps.new h4 _) (Nat.le_refl _) (by exact sel_of rfl) (by rfl) (by rw [Heap.get_new, if_pos rfl]) lpv rfl (Nat.lt_succ_self _) fun h5 k5 g5 x5 => ?_
  refine gg ?_
  have hnil : PkV h5 ⟨a, b, tg, []⟩ [.int .u16 (a : Int), .int .u16 (b : Int), .int .u32 (tg : Int), .slice none 0 0] := ⟨none, 0, [], rfl, Row.nil _ _, ChE.nil h5, Nat.le_refl _⟩
  refine i_call2 (by exact sel_of rfl) (by exact sel_of rfl) (w_pencode (rt.keeps (k2.trans (k3.trans (k4.trans k5)))) hbt hnil (by show 0 ≤ 80; decide) n (by omega)) ?_
  rintro _ h6 ⟨k6, o6, c6, rfl, r6, hc6⟩
  have he6 : (encPk t ⟨a, b, tg, []⟩).2 = 1 := by rw [encPk, if_pos (.inr (.inl rfl))]
  rw [he6]
  have g6 := (k6.get _ x5).trans g5
  obtain ⟨oc, cc, els, rfl, rc, ec, hcc⟩ : ∃ (oc : Option Addr) (cc : Nat) (els : List (List Value)), pv = [.int .u16 (a : Int), .int .u16 (b : Int), .int .u32 (tg : Int), .slice oc 1 cc] ∧ Row h6 12 oc 1 els.flatten ∧ ChE h6 [ckK K] els ∧ 1 ≤ cc := hpv.keeps (k5.trans k6)
  obtain ⟨w, hw, cv⟩ := ec.at (i := 0) (x := ckK K) rfl
  have hcell : ∀ u : Addr, oc = some u → load1 h6.get ⟨u.block, u.off + 0 * 12 + 0, some 0⟩ = some (.int .u8 (K : Int)) := fun u e => by
    subst e
    obtain ⟨o1, c1, o2, c2, o3', c3', o4, c4, o5, c5, ps, rfl, _⟩ := cv
    rw [Nat.add_assoc, rc.cell (by decide), flat_cell ec.2.1 hw (by decide)]; rfl
  refine gg ?_
  refine i_cut 0 (fun a2 h' => h6 = h' ∧ Sl [(74, .pointer (some ⟨h4.next, 0 + 0, none⟩)), (73, .bool true), (14, .pointer (some ⟨h4.next, 0, none⟩)), (0, .int .u16 (a : Int)), (1, .int .u16 (b : Int)), (2, .int .u32 (tg : Int)), (11, .int .u8 (K : Int)), (17, .int .i64 1)] a2) ?_ ?_
  · simp only [List.take_zero]
    refine gg ?_
    exact ⟨rfl, sel_of rfl, sel_of rfl, sel_of rfl, sel_of rfl, sel_of rfl, sel_of rfl, sel_of rfl, sel_of rfl, trivial⟩
  simp only [List.drop_zero]
  rintro a2 _ ⟨rfl, hs⟩
  obtain ⟨f2, rfl⟩ := hs.puts
  clear hs cv hw ec hp hgd r3 r6 hc3 hc6 hnil he2 he6 hpv lpv row2 rt hbt g5 k1 k2 k3 k4 k5 k6 x5 hcc h256 hK hK16 hK1 hK2 ha hb htg
  generalize h4.next = A at *
  refine gg ?_; repeat (refine i_ldown (by exact sel_of rfl) (by assumption) (by rfl) ?_; refine gg ?_)
  refine i_idx (by exact sel_of rfl) rc (i := 0) (by first | exact sel_of rfl | exact const_of) (by decide) fun u hu => ?_
  have hl := hcell u hu
  clear rc hcell
  subst hu
  refine gg ?_
  refine i_load1 (v := .int .u8 (K : Int)) (by exact sel_of rfl) hl ?_
  refine gg ?_
  rfl
end Go.Proofs.Ytdcllpjoejkpnaa

