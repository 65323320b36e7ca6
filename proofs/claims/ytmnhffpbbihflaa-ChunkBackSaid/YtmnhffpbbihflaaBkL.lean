/- Part of a proof by an abstract run of the program's code: BkL. No condition. -/
import Derived.Test.YtmnhffpbbihflaaLwA
/-! There and back. -/
set_option linter.unusedVariables false
namespace Go.Proofs.Ytmnhffpbbihflaa
open Go Vm
set_option maxHeartbeats 4000000 in
theorem w_lback {h : Heap} {x : Chk} {v : List Value} {o : Option Addr} {m c : Nat} {l : List UInt8} (hv : ChV h x v) (ho : x.Ok) (hr : Row h 1 o m (u8s l)) (n : Nat) (hn : 101000 ≤ n) :
    ResQ (callN Try.prog G0 n (.call 5 [.agg v.toArray, .slice o m c]) h) (fun u h' => u = .bool true) := by
  have hm : l.length = m := by simpa [u8s_length] using hr.1
  subst hm
  have lv := hv.len
  obtain ⟨n, rfl⟩ : ∃ m, n = m + 1 := ⟨n - 1, by omega⟩
  refine res_enter rfl d5 rfl ?_; simp only [c5]
  obtain ⟨a1, k1, n1⟩ := box_one h (.cells 30 v.toArray.toList (.own false))
  refine o_cut (fun a h' => h' = (h.new (.cells 30 v.toArray.toList (.own false))) ∧ Sl [(2, .pointer (some ⟨h.next, 0, none⟩)), (1, .slice o l.length c)] a) ?_ ?_
  · refine gg ?_
    exact ⟨rfl, rfl, sel_of rfl, sel_of rfl, trivial⟩
  rintro a h1 ⟨hh, hs⟩
  rw [← hh] at a1 k1 n1
  clear hh
  obtain ⟨f0, rfl⟩ := hs.puts
  have x1 : h.next < h1.next := by omega
  refine gg ?_
  refine i_call0 (w_awake h1 n (by omega)) ?_
  rintro _ _ ⟨rfl, rfl⟩
  refine gg ?_
  refine i_loadN (by exact sel_of rfl) (loadN_all (by assumption) (by first | rfl | assumption)) ?_
  refine i_call1 (by exact sel_of rfl) (w_few7 (hv.keeps k1) n (by omega)) ?_
  rintro _ h2 ⟨rfl, k2⟩
  by_cases hf : x.few
  case neg =>
    rw [decide_eq_false hf]
    refine gg ?_
    rfl
  rw [decide_eq_true hf]
  refine gg ?_
  by_cases hl : 500 < l.length
  · refine gg ?_
    rfl
  have a2 := (k2.get _ x1).trans a1
  have x2 := Nat.lt_of_lt_of_le x1 k2.next
  have k12 := k1.trans k2
  have hf40 := hf.1.2.2.2.1
  refine gg ?_
  refine i_loadN (by exact sel_of rfl) (loadN_all (by assumption) (by first | rfl | assumption)) ?_
  refine gg ?_
  refine i_call1 (by exact sel_of rfl) (w_cencode (hv.keeps k12) (by omega) n (by omega)) ?_
  rintro _ h3 ⟨k3, oE, cE, rfl, rE, hcE⟩
  have a3 := (k3.get _ x2).trans a2
  have x3 := Nat.lt_of_lt_of_le x2 k3.next
  have k13 := k12.trans k3
  refine gg ?_
  refine i_loadN (by exact sel_of rfl) (loadN_all (by assumption) (by first | rfl | assumption)) ?_
  refine gg ?_
  refine i_call1 (by exact sel_of rfl) (w_shaped (hv.keeps k13) (by omega) n (by omega)) ?_
  rintro _ h4 ⟨rfl, k4⟩
  by_cases hsh : x.shaped
  case neg =>
    rw [decide_eq_false hsh]
    obtain ⟨e1, e2⟩ := encC_bad hsh
    refine gg ?_
    exact bool_true (by omega)
  rw [decide_eq_true hsh]
  have e2 := (encC_ok hsh).2
  obtain ⟨e3, e4, e5⟩ := encC_len hsh
  have a4 := (k4.get _ x3).trans a3
  have x4 := Nat.lt_of_lt_of_le x3 k4.next
  have k14 := k13.trans k4
  refine gg ?_
  have k5 : Keeps h4 (h4.new (.cells 5 [] (.own false))) := Keeps.new h4 _
  have row0 : Row (h4.new (.cells 5 [] (.own false))) 1 (some ⟨h4.next, 0, none⟩) 0 [] := Row.new (by simp) rfl (.inl rfl)
  show ItQ (runItems _ _ _ (h4.new (.cells 5 [] (.own false)))) _
  have n5 : (h4.new (.cells 5 [] (.own false))).next = h4.next + 1 := rfl
  generalize (h4.new (.cells 5 [] (.own false))) = h5 at *
  refine i_app (o := some ⟨h4.next, 0, none⟩) (cs := []) (t := (encC x).1.length) (es := u8s (encC x).1) k5 (by decide) (by exact sel_of rfl) ⟨rfl, row0, fun q e => .inl (by cases e; rfl)⟩ ((rE.keeps (k4.trans k5)).src8) (by rw [u8s_length, Nat.mul_one]) (by omega) (Nat.zero_add _) (List.nil_append _) fun o6 h6 k6 a6 _ => ?_
  refine gg ?_
  refine i_app (t := ((encC x).1 ++ l).length) (es := u8s ((encC x).1 ++ l)) k6 (by decide) (by exact sel_of rfl) a6 ((hr.keeps (k14.trans k6)).src8) (by rw [u8s_length, Nat.mul_one]) (by omega) (by rw [List.length_append]) (by rw [u8s_append]) fun o7 h7 k7 a7 _ => ?_
  refine gg ?_
  refine i_call1 (by exact sel_of rfl) (w_cdecode a7.row (by rw [List.length_append]; omega) n (by omega)) ?_
  rintro _ h8 ⟨k8, w, rfl, cv⟩
  have lw := cv.len
  simp only [decC_enc hsh ho l] at cv ⊢
  refine gg ?_
  refine i_storeF (vs := w) (Keeps.new h8 _) (Nat.le_refl _) (by exact sel_of rfl) (by rfl) (by rw [Heap.get_new, if_pos rfl]) lw rfl (Nat.lt_succ_self _) fun h9 k9 g9 lt9 => ?_
  refine gg ?_
  refine i_remn ((encC x).1.length % 4) (p := (encC x).1.length) (q := 4) (by exact sel_of rfl) (by first | exact sel_of rfl | exact const_of) (by decide) rfl ?_
  refine gg ?_
  have k49 := k7.trans (k8.trans k9)
  have a9 := (k49.get _ x4).trans a4
  refine i_loadN (by exact sel_of rfl) (loadN_all (by assumption) (by first | rfl | assumption)) ?_
  refine gg ?_
  refine i_loadN (by exact sel_of rfl) (loadN_all (by assumption) (by first | rfl | assumption)) ?_
  refine gg ?_
  refine i_call2 (by exact sel_of rfl) (by exact sel_of rfl) (w_csame (hv.keeps (k14.trans k49)) (cv.keeps k9) (few_Few hf) n (by omega)) ?_
  rintro _ h10 ⟨rfl, k10⟩
  refine gg ?_
  exact bool_true rfl
end Go.Proofs.Ytmnhffpbbihflaa

