/- Part of a proof by an abstract run of the program's code: OnL. No condition. -/
import Derived.Test.YtmnhffpbbihflaaLwA
/-! One way alone. -/
set_option linter.unusedVariables false
namespace Go.Proofs.Ytmnhffpbbihflaa
open Go Vm
set_option maxHeartbeats 4000000 in
theorem w_lonly {h : Heap} {o : Option Addr} {m c : Nat} {l : List UInt8} (hr : Row h 1 o m (u8s l)) (hc : m ≤ c) (n : Nat) (hn : 101000 ≤ n) :
    ResQ (callN Try.prog G0 n (.call 6 [.slice o m c]) h) (fun u h' => u = .bool true) := by
  have hm : l.length = m := by simpa [u8s_length] using hr.1
  subst hm
  obtain ⟨n, rfl⟩ : ∃ m, n = m + 1 := ⟨n - 1, by omega⟩
  refine res_enter rfl d6 rfl ?_; simp only [c6]
  refine gg ?_
  refine i_call0 (w_awake h n (by omega)) ?_
  rintro _ _ ⟨rfl, rfl⟩
  refine gg ?_
  refine out_if (by exact sel_of rfl) (fun hif => ?_) (fun hif => ?_)
  · refine gg ?_
    rfl
  refine gg ?_
  refine i_call1 (by exact sel_of rfl) (w_cdecode hr (by omega) n (by omega)) ?_
  rintro _ h1 ⟨k1, w, rfl, cv⟩
  have hbad := decC_bad (l := l)
  have hinv := fun (c : Chk) (n : Nat) => decC_inv (c := c) (l := l) (n := n)
  have lw := cv.len
  rcases hd : decC l with ⟨x, cnt, en⟩
  simp only [hd] at cv hbad hinv ⊢
  clear hd
  refine gg ?_
  refine i_storeF (vs := w) (Keeps.new h1 _) (Nat.le_refl _) (by exact sel_of rfl) (by rfl) (by rw [Heap.get_new, if_pos rfl]) lw rfl (Nat.lt_succ_self _) fun h2 k2 g2 lt2 => ?_
  refine gg ?_
  by_cases he : en = 0
  case neg =>
    obtain ⟨hz, hn0⟩ := hbad he
    rw [hz] at cv
    obtain ⟨o1, c1, o2, c2, o3, c3, o4, c4, o5, c5, ps, rfl, _⟩ := cv
    subst hn0
    rw [decide_eq_true (p := ((en : Nat) : Int) ≠ 0) (by omega)]
    refine gg ?_; repeat (refine i_ldown (by exact sel_of rfl) (by assumption) (by rfl) ?_; refine gg ?_)
    rfl
  rw [decide_eq_false (p := ((en : Nat) : Int) ≠ 0) (by omega)]
  obtain ⟨hsh, hk, hfl, henc, hnl, henc2⟩ := hinv x cnt (by rw [he])
  have hp := (encR_ok hsh.2.2.1).2.1
  refine gg ?_
  refine i_loadN (by exact sel_of rfl) (loadN_all (by assumption) (by first | rfl | assumption)) ?_
  refine gg ?_
  refine i_call1 (by exact sel_of rfl) (w_cencode (cv.keeps k2) (by omega) n (by omega)) ?_
  rintro _ h3 ⟨k3, oE, cE, rfl, rE, hcE⟩
  have g3 := (k3.get _ lt2).trans g2
  rcases hE : encC x with ⟨bs, e2⟩
  simp only [hE] at rE hcE henc henc2 ⊢
  clear hE
  subst henc2
  refine gg ?_
  refine i_sl_hi (by exact sel_of rfl) (hr.keeps (k1.trans (k2.trans k3))) hc (by exact sel_of rfl) hnl fun r1 => ?_
  rw [Nat.mul_one, ← u8s_take] at r1
  refine gg ?_
  refine i_call2 (by exact sel_of rfl) (by exact sel_of rfl) (w_same rE r1 n (by omega)) ?_
  rintro _ _ ⟨rfl, rfl⟩
  rw [decide_eq_true henc]
  refine gg ?_
  refine i_loadN (by exact sel_of rfl) (loadN_all (by assumption) (by first | rfl | assumption)) ?_
  refine gg ?_
  refine i_call1 (by exact sel_of rfl) (w_shaped (cv.keeps (k2.trans k3)) (by omega) n (by omega)) ?_
  rintro _ h4 ⟨rfl, k4⟩
  rw [decide_eq_true hsh]
  refine gg ?_
  rfl
end Go.Proofs.Ytmnhffpbbihflaa

