/- Part of a proof by an abstract run of the program's code: TD. No condition. -/
import Derived.Test.YtoeienklpfbfmaaGreatDoorVmD
import Derived.Test.YtoeienklpfbfmaaGreatDoorTC
import Derived.Test.YtoeienklpfbfmaaGreatDoorGx
/-! The checksum's functions, walked; awake, by one computation over their summaries. -/
set_option linter.unusedVariables false
namespace Go.Proofs.YtoeienklpfbfmaaGreatDoor
open Go Vm
abbrev GN : Sums := fun _ => none
theorem mixed : Tryz.prog.follows .mixedOrders = true := by kernel_rfl
theorem i_c1 (v : Nat) : wrap .u32 (.ofNat (Nat.land (bitsOf .u32 (v : Int)) (bitsOf .u32 1))) = ((v % 2 : Nat) : Int) := by
  have e : Nat.land (bitsOf .u32 (v : Int)) (bitsOf .u32 1) = v % 2 := by
    show v &&& 1 = _
    exact Nat.and_one_is_mod v
  rw [e]
  exact wrap_lt (by show _ < 4294967296; omega)
def zT (i : Nat) : List Value := n32 (crcTab.take i) ++ List.replicate (256 - i) (Value.int .u32 0)
theorem zT_len {i : Nat} (h : i ≤ 256) : (zT i).length = 256 := by
  rw [zT, List.length_append, n32_length, List.length_take, crcTab_len, List.length_replicate]; omega
theorem zT_set {i : Nat} (h : i < 256) : (zT i).set i (.int .u32 (entN 8 i : Int)) = zT (i + 1) := by
  have hl : (n32 (crcTab.take i)).length = i := by rw [n32_length, List.length_take, crcTab_len]; omega
  have e : List.replicate (256 - i) (Value.int .u32 0) = Value.int .u32 0 :: List.replicate (256 - (i + 1)) (Value.int .u32 0) := by
    rw [show 256 - i = (256 - (i + 1)) + 1 by omega, List.replicate_succ]
  rw [zT, e, List.set_append_right _ _ (by omega), hl, Nat.sub_self, zT, List.take_add_one, crcTab_get h, n32_app]
  simp [n32]
theorem zT_256 : zT 256 = tabL := by
  rw [zT, tabL_eq, List.take_of_length_le (by rw [crcTab_len]; exact Nat.le_refl _)]; simp
set_option maxRecDepth 50000 in
theorem w_ctab {h : Heap} (n : Nat) (hn : 400 ≤ n) :
    ResQ (callN Tryz.prog GN n (.call 130 []) h) (fun u h' => u = .slice (some ⟨h.next, 0, none⟩) 256 256 ∧ h' = h.new (.cells 296 tabL (.own false))) := by
  obtain ⟨n, rfl⟩ : ∃ m, n = m + 1 := ⟨n - 1, by omega⟩
  refine res_enter rfl d130 rfl ?_; simp only [c130]
  refine gg ?_
  refine o_up 256 (fun i f h' => Sl [(4, .int .i64 (i : Int)), (1, .pointer (some ⟨h.next, 0, none⟩))] f ∧ h' = h.new (.cells 296 (zT i) (.own false))) (by omega) ?_ ?_
  · exact ⟨⟨sel_of rfl, sel_of rfl, trivial⟩, rfl⟩
  rintro i f _ hi ⟨hs, rfl⟩
  obtain ⟨f1, rfl⟩ := hs.puts
  clear hs
  simp only [c130_1]
  refine gg ?_
  refine out_if (by exact sel_of rfl) (fun hif => ?_) (fun hif => ?_)
  · refine gg ?_
    refine o_up 8 (fun j f h' => Sl [(9, .int .i64 (j : Int)), (3, .int .u32 (entN j i : Int)), (2, .int .i64 (i : Int)), (4, .int .i64 (i : Int)), (1, .pointer (some ⟨h.next, 0, none⟩))] f ∧ h' = h.new (.cells 296 (zT i) (.own false))) (by omega) ?_ ?_
    · exact ⟨⟨sel_of rfl, sel_of (by rfl), sel_of rfl, sel_of rfl, sel_of rfl, trivial⟩, rfl⟩
    rintro j f _ hj ⟨hs, rfl⟩
    obtain ⟨f2, rfl⟩ := hs.puts
    clear hs
    have hlt : entN j i < 4294967296 := entN_lt (by omega) j
    have hst : entN (j + 1) i = bitN (entN j i) := rfl
    generalize hvv : entN j i = v at *
    simp only [c130_0]
    refine gg ?_
    refine out_if (by exact sel_of rfl) (fun hif => ?_) (fun hif => ?_)
    · refine gg ?_
      refine i_and (by exact sel_of rfl) (by first | exact sel_of rfl | exact const_of) ?_
      rw [i_c1]
      by_cases hv : v % 2 = 1
      · have e : bitN v = (v / 2 ^ 1) ^^^ 2197175160 := by rw [bitN, if_pos hv]
        rw [hv]
        refine i_v (v := .int .u32 ((4294967295 : Nat) : Int)) (by rfl) ?_
        refine i_v (v := .int .u32 ((2197175160 : Nat) : Int)) (by rfl) ?_
        refine i_xorn 32 (m := v / 2 ^ 1) (q := 2197175160) (by exact sel_of rfl) (by exact sel_of rfl) rfl (by omega) (by decide) ?_
        refine gg ?_
        exact rnd_up (by omega) ⟨⟨sel_of rfl, sel_of (by rw [hst, e]; rfl), sel_of rfl, sel_of rfl, sel_of rfl, trivial⟩, rfl⟩
      · have hv0 : v % 2 = 0 := by omega
        have e : bitN v = (v / 2 ^ 1) ^^^ 0 := by rw [bitN, if_neg hv, Nat.xor_zero]
        rw [hv0]
        refine i_v (v := .int .u32 ((0 : Nat) : Int)) (by rfl) ?_
        refine i_v (v := .int .u32 ((0 : Nat) : Int)) (by rfl) ?_
        refine i_xorn 32 (m := v / 2 ^ 1) (q := 0) (by exact sel_of rfl) (by exact sel_of rfl) rfl (by omega) (by decide) ?_
        refine gg ?_
        exact rnd_up (by omega) ⟨⟨sel_of rfl, sel_of (by rw [hst, e]; rfl), sel_of rfl, sel_of rfl, sel_of rfl, trivial⟩, rfl⟩
    · obtain rfl : j = 8 := by omega
      refine gg ?_
      refine i_idxA (j := i) (by exact sel_of rfl) (by exact sel_of rfl) (by omega) ?_
      refine i_store1 (u := ⟨h.next, 0 + i * 1, none⟩) (v := .int .u32 (v : Int)) (by exact sel_of rfl) (by rfl) (by rw [Heap.get_new, if_pos rfl]) (by show 0 + i * 1 < _; rw [zT_len (by omega)]; omega) ?_
      rw [new_put]
      have ez : (zT i).set (0 + i * 1) (.int .u32 (v : Int)) = zT (i + 1) := by
        rw [Nat.zero_add, Nat.mul_one, ← hvv]; exact zT_set (by omega)
      simp only [ez]
      refine gg ?_
      exact rnd_up (by omega) ⟨⟨sel_of rfl, sel_of rfl, trivial⟩, rfl⟩
  · obtain rfl : i = 256 := by omega
    refine gg ?_
    refine i_v (v := .slice (some ⟨h.next, 0, none⟩) 256 256) (by rfl) ?_
    refine gg ?_
    rw [zT_256]
    exact ⟨rfl, rfl⟩
theorem w_cstep {h : Heap} {ot o : Option Addr} {ct c : Nat} {t : List Nat} {l : List UInt8} (ht : Row h 1 ot t.length (n32 t)) (h256 : t.length = 256) (hb : ∀ v ∈ t, v < 4294967296) (hr : Row h 1 o l.length (u8s l)) {s : Nat} (hs0 : s < 4294967296) (hlen : l.length ≤ 1000000) (n : Nat) (hn : 2 + l.length ≤ n) :
    ResQ (callN Tryz.prog GN n (.call 255 [.slice ot t.length ct, .int .u32 (s : Int), .slice o l.length c]) h) (fun v h' => v = .int .u32 (crcS t s l : Int) ∧ h = h') := by
  obtain ⟨n, rfl⟩ : ∃ m, n = m + 1 := ⟨n - 1, by omega⟩
  refine res_enter rfl d255 rfl ?_; simp only [c255]
  refine gg ?_
  refine o_up l.length (fun i f h' => Sl [(14, .int .i64 (i : Int)), (13, .int .i64 (l.length : Int)), (12, .slice o l.length c), (0, .slice ot t.length ct), (1, .int .u32 (crcS t s (l.take i) : Int))] f ∧ h = h') (by omega) ?_ ?_
  · exact ⟨⟨sel_of rfl, sel_of rfl, sel_of rfl, sel_of rfl, sel_of rfl, trivial⟩, rfl⟩
  rintro i f h' hi ⟨hs, rfl⟩
  obtain ⟨f0, rfl⟩ := hs.puts
  simp only [c255_0]
  refine gg ?_
  refine out_if (by exact sel_of rfl) (fun hif => ?_) (fun hif => ?_)
  · obtain ⟨x, hx⟩ : ∃ x, l[i]? = some x := ⟨_, List.getElem?_eq_getElem (by omega)⟩
    have hS := crcS_lt hb (l.take i) hs0
    obtain ⟨w, hw, e⟩ := tab_get h256 (crcS t s (l.take i)) x
    have hwb := hb w (List.mem_of_getElem? hw)
    have hil := idx_lt (crcS t s (l.take i)) x
    rw [← ofNat_mod256] at hw hil
    have hst := crcS_take (t := t) (s := s) hx
    rw [e] at hst
    generalize crcS t s (l.take i) = S at *
    refine gg ?_
    refine i_idx (by exact sel_of rfl) hr (i := i) (by exact sel_of rfl) (by omega) fun u hu => ?_
    subst hu
    refine i_load1 (v := .int .u8 ((x.toNat : Nat) : Int)) (by exact sel_of rfl) (by rw [hr.cell (by omega), Nat.mul_one, u8s_get, hx]; rfl) ?_
    refine gg ?_
    refine i_xorn 8 (m := (UInt8.ofNat S).toNat) (q := x.toNat) (by exact sel_of rfl) (by exact sel_of rfl) rfl (UInt8.toNat_lt _) (UInt8.toNat_lt _) ?_
    refine i_idx (by exact sel_of rfl) ht (i := (UInt8.ofNat S).toNat ^^^ x.toNat) (by exact sel_of rfl) (by omega) fun u hu => ?_
    subst hu
    refine i_load1 (v := .int .u32 (w : Int)) (by exact sel_of rfl) (by rw [← n32_at hw, ← ht.cell (by omega), Nat.mul_one]) ?_
    refine i_xorn 32 (m := S / 2 ^ 8) (q := w) (by exact sel_of rfl) (by exact sel_of rfl) rfl (by omega) (by omega) ?_
    refine gg ?_
    refine rnd_up (by omega) ⟨⟨sel_of rfl, sel_of rfl, sel_of rfl, sel_of rfl, sel_of (by rw [hst]; rfl), trivial⟩, rfl⟩
  · rw [List.take_of_length_le (by omega)]
    refine gg ?_
    exact ⟨rfl, rfl⟩
/-- the summaries hold -/
theorem crcOK (B : Nat) : SumsOK Tryz.prog B (crcSums 130 255 296) := by
  refine sums_run mixed (Γ := GN) sums_none 100010 fun f s args h v h' hs hr => ?_
  unfold crcSums at hs
  cases hb : Nat.beq f 130 with
  | true =>
    rw [hb] at hs
    cases hs
    have hf := Nat.eq_of_beq_eq_true hb
    subst hf
    unfold sTable at hr
    split at hr
    · cases hr
      obtain ⟨v, h', e, rfl, rfl⟩ := w_ctab (h := h) 100010 (by omega)
      exact e
    · cases hr
  | false =>
    rw [hb] at hs
    cases hb2 : Nat.beq f 255 with
    | false => rw [hb2] at hs; cases hs
    | true =>
      rw [hb2] at hs
      cases hs
      have hf := Nat.eq_of_beq_eq_true hb2
      subst hf
      obtain ⟨ot, ct, s, o, c, l, rfl, hs, hl, rt, rl, rfl, rfl⟩ := sStep_some hr
      have hl2 := crcTab_len
      rw [← hl2] at rt ⊢
      obtain ⟨v, h', e, rfl, rfl⟩ := w_cstep (ct := ct) (c := c) rt crcTab_len crcTab_lt rl hs (by omega) 100010 (by omega)
      exact e
end Go.Proofs.YtoeienklpfbfmaaGreatDoor

