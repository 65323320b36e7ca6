/- Part of a proof by an abstract run of the program's code: PutsA. No condition. -/
import Derived.Test.YtedlbgfiehdcbaaOct
/-! OctetPuts and OctetParts in the abstract run. -/
set_option linter.unusedVariables false
namespace Go.Proofs.Ytedlbgfiehdcbaa
open Go Vm
theorem w_awake (h : Heap) (n : Nat) (hn : 1 ≤ n) : ResQ (callN Try.prog G0 n (.call 9 []) h) (fun v h' => v = .bool true ∧ h = h') := by
  obtain ⟨n, rfl⟩ : ∃ m, n = m + 1 := ⟨n - 1, by omega⟩
  exact ⟨_, _, rfl, rfl, rfl⟩
theorem w_same_eq {h : Heap} {o o' : Option Addr} {m m' c c' : Nat} {la : List UInt8} (ha : Row h 1 o m (u8s la)) (hb : Row h 1 o' m' (u8s la)) (n : Nat) (hn : 1 ≤ n) : ResQ (callN Try.prog G0 n (.call 10 [.slice o m c, .slice o' m' c']) h) (fun v h' => v = .bool true ∧ h = h') :=
  (w_same ha hb n hn).mono fun v h' ⟨h1, h2⟩ => ⟨by rw [h1]; simp, h2⟩
theorem w_puts {h : Heap} {o : Option Addr} {m c : Nat} {l : List UInt8} (ha : Row h 1 o m (u8s l)) (v : Nat) (hv : v < 4294967296) (n : Nat) (hn : 20 ≤ n) :
    ResQ (callN Try.prog G0 n (.call 3 [.slice o m c, .int .u32 (v : Int)]) h) (fun r h' => r = .bool true) := by
  have hm : l.length = m := by simpa [u8s_length] using ha.1
  subst hm
  obtain ⟨n, rfl⟩ : ∃ m, n = m + 1 := ⟨n - 1, by omega⟩
  refine res_enter rfl d3 rfl ?_; simp only [c3]
  refine gg ?_
  refine i_call0 (w_awake h n (by omega)) ?_
  rintro _ _ ⟨rfl, rfl⟩
  refine gg ?_
  refine out_if (by exact sel_of rfl) (fun hif => ?_) (fun hif => ?_)
  · refine gg ?_
    rfl
  refine gg ?_
  refine i_call2 (by first | exact sel_of rfl | exact const_of) (by first | exact sel_of rfl | exact const_of) (w_put8 ha (UInt8.ofNat v) (by omega) n (by omega)) ?_
  rintro _ h1 ⟨k1, o1, rfl, a1⟩
  refine gg ?_
  refine i_call3 (by first | exact sel_of rfl | exact const_of) (by first | exact sel_of rfl | exact const_of) (by first | exact sel_of rfl | exact const_of) (w_rput (i := 1) (ha.keeps k1) v (by omega) (by omega) n (by omega)) ?_
  rintro _ h2 ⟨k2, o2, rfl, a2⟩
  refine gg ?_
  refine i_call2 (by first | exact sel_of rfl | exact const_of) (by first | exact sel_of rfl | exact const_of) (w_same_eq (la := l ++ [UInt8.ofNat v]) (a1.row.keeps k2) ?_ n (by omega)) ?_
  · have := a2.row
    simpa [down] using this
  rintro _ _ ⟨rfl, rfl⟩
  refine refr [(20, _), (12, _), (0, _), (1, _)] ⟨sel_of rfl, sel_of rfl, sel_of rfl, sel_of rfl, trivial⟩ fun _ => ?_
  refine gg ?_
  have hp := w_put16 (c := c) ((ha.keeps k1).keeps k2) (v % 65536) (by omega) n (by omega)
  rw [down_2_mod] at hp
  refine i_call2 (by first | exact sel_of rfl | exact const_of) (by first | exact sel_of rfl | exact const_of) hp ?_
  rintro _ h3 ⟨k3, o3, rfl, a3⟩
  refine gg ?_
  refine i_call3 (by first | exact sel_of rfl | exact const_of) (by first | exact sel_of rfl | exact const_of) (by first | exact sel_of rfl | exact const_of) (w_rput (i := 2) (((ha.keeps k1).keeps k2).keeps k3) v (by omega) (by omega) n (by omega)) ?_
  rintro _ h4 ⟨k4, o4, rfl, a4⟩
  refine gg ?_
  refine i_call2 (by first | exact sel_of rfl | exact const_of) (by first | exact sel_of rfl | exact const_of) (w_same_eq (a3.row.keeps k4) a4.row n (by omega)) ?_
  rintro _ _ ⟨rfl, rfl⟩
  refine refr [(30, _), (22, _), (0, _), (1, _)] ⟨sel_of rfl, sel_of rfl, sel_of rfl, sel_of rfl, trivial⟩ fun _ => ?_
  refine gg ?_
  have h04 := ((k1.trans k2).trans k3).trans k4
  refine i_call2 (by first | exact sel_of rfl | exact const_of) (by first | exact sel_of rfl | exact const_of) (w_put32 (ha.keeps h04) v (by omega) n (by omega)) ?_
  rintro _ h5 ⟨k5, o5, rfl, a5⟩
  refine gg ?_
  refine i_call3 (by first | exact sel_of rfl | exact const_of) (by first | exact sel_of rfl | exact const_of) (by first | exact sel_of rfl | exact const_of) (w_rput (i := 4) ((ha.keeps h04).keeps k5) v (by omega) (by omega) n (by omega)) ?_
  rintro _ h6 ⟨k6, o6, rfl, a6⟩
  refine gg ?_
  refine i_call2 (by first | exact sel_of rfl | exact const_of) (by first | exact sel_of rfl | exact const_of) (w_same_eq (a5.row.keeps k6) a6.row n (by omega)) ?_
  rintro _ _ ⟨rfl, rfl⟩
  refine refr [(39, _), (32, _), (0, _), (1, _)] ⟨sel_of rfl, sel_of rfl, sel_of rfl, sel_of rfl, trivial⟩ fun _ => ?_
  refine gg ?_
  have h06 := (h04.trans k5).trans k6
  refine i_call1 (by first | exact sel_of rfl | exact const_of) (w_pad (ha.keeps h06) (by omega) n (by omega)) ?_
  rintro _ h7 ⟨k7, o7, rfl, a7⟩
  refine gg ?_
  refine i_call1 (by first | exact sel_of rfl | exact const_of) (w_rpad ((ha.keeps h06).keeps k7) (by omega) n (by omega)) ?_
  rintro _ h8 ⟨k8, o8, rfl, a8⟩
  refine gg ?_
  refine i_call2 (by first | exact sel_of rfl | exact const_of) (by first | exact sel_of rfl | exact const_of) (w_same_eq (a7.row.keeps k8) a8.row n (by omega)) ?_
  rintro _ _ ⟨rfl, rfl⟩
  refine gg ?_
  rfl
end Go.Proofs.Ytedlbgfiehdcbaa

