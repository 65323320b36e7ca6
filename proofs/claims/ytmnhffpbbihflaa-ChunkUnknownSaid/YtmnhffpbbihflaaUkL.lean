/- Part of a proof by an abstract run of the program's code: UkL. No condition. -/
import Derived.Test.YtmnhffpbbihflaaLwA
/-! A kind that nobody knows. -/
set_option linter.unusedVariables false
namespace Go.Proofs.Ytmnhffpbbihflaa
open Go Vm
set_option maxHeartbeats 4000000 in
theorem w_lunk {h : Heap} {k fl : Nat} (hk : k < 256) (hfl : fl < 256) {o : Option Addr} {m c : Nat} {l : List UInt8} (hr : Row h 1 o m (u8s l)) (hc : m ≤ c) (n : Nat) (hn : 101000 ≤ n) :
    ResQ (callN Try.prog G0 n (.call 8 [.int .u8 (k : Int), .int .u8 (fl : Int), .slice o m c]) h) (fun u h' => u = .bool true) := by
  have hm : l.length = m := by simpa [u8s_length] using hr.1
  subst hm
  obtain ⟨n, rfl⟩ : ∃ m, n = m + 1 := ⟨n - 1, by omega⟩
  refine res_enter rfl d8 rfl ?_; simp only [c8]
  refine gg ?_
  refine i_call0 (w_awake h n (by omega)) ?_
  rintro _ _ ⟨rfl, rfl⟩
  refine gg ?_
  by_cases h15 : k < 15
  · refine gg ?_
    rfl
  refine gg ?_
  by_cases h130 : k = 130
  · refine gg ?_
    rfl
  refine gg ?_
  by_cases h192 : k = 192
  · refine gg ?_
    rfl
  refine gg ?_
  by_cases h13 : 1300 < l.length
  · refine gg ?_
    rfl
  refine gg ?_
  have hl : lets k = [68] := by
    unfold lets
    rw [if_neg (by omega), if_neg (by omega), if_neg (by omega), if_neg (by omega), if_neg (by omega), if_neg (by omega), if_neg (by omega)]
  let x : Chk := { Chk.zero with k := k, fl := fl, da := l }
  refine i_storeF (vs := [.int .u8 (k : Int), .int .u8 (fl : Int), .int .u32 0, .int .u32 0, .int .u16 0, .int .u16 0, .int .u32 0, .slice none 0 0, .slice none 0 0, .slice none 0 0, .slice none 0 0, .slice o l.length c]) (Keeps.new h _) (Nat.le_refl _) (by exact sel_of rfl) (by rfl) (by rw [Heap.get_new, if_pos rfl]) rfl rfl (Nat.lt_succ_self _) fun h2 k2 g2 lt2 => ?_
  have cx : ChV h2 x [.int .u8 (k : Int), .int .u8 (fl : Int), .int .u32 0, .int .u32 0, .int .u16 0, .int .u16 0, .int .u32 0, .slice none 0 0, .slice none 0 0, .slice none 0 0, .slice none 0 0, .slice o l.length c] :=
    ⟨none, 0, none, 0, none, 0, none, 0, o, c, [], rfl, Row.nil _ _, Row.nil _ _, Row.nil _ _, ⟨Row.nil _ _, trivial⟩, hr.keeps k2, ⟨Nat.le_refl _, Nat.le_refl _, Nat.le_refl _, Nat.le_refl _, hc⟩, hk, hfl⟩
  have ho : x.Ok := ⟨hk, hfl, (by show 0 < 4294967296; decide), (by show 0 < 4294967296; decide), (by show 0 < 65536; decide), (by show 0 < 65536; decide), (by show 0 < 4294967296; decide), (fun y hy => by cases hy), (fun y hy => by cases hy), (fun y hy => by cases hy), fun y hy => by cases hy⟩
  refine gg ?_
  refine i_loadN (by exact sel_of rfl) (loadN_all (by assumption) (by first | rfl | assumption)) ?_
  refine gg ?_
  refine i_call1 (by exact sel_of rfl) (w_cencode cx (Nat.zero_le _) n (by omega)) ?_
  rintro _ h3 ⟨k3, oE, cE, rfl, rE, hcE⟩
  by_cases h12 : 1200 < l.length
  · have hns : ¬x.shaped := fun hs => by
      have h := hs.2.2.2.2.2.2.1
      have : x.da.length = l.length := rfl
      omega
    obtain ⟨e1, e2⟩ := encC_bad hns
    refine gg ?_
    exact bool_true (by omega)
  have hsh : x.shaped := by
    refine ⟨⟨.inr rfl, .inr rfl, .inr rfl, .inr rfl, .inr rfl⟩, ⟨.inr ⟨rfl, rfl⟩, .inr rfl, .inr rfl, .inl ?_⟩, rfl, Nat.zero_le _, Nat.zero_le _, Nat.zero_le _, by show l.length ≤ 1200; omega, fun e => absurd e (by show ¬k = 0; omega)⟩
    show 68 ∈ lets k
    rw [hl]; exact List.mem_cons_self
  have e2 := (encC_ok hsh).2
  obtain ⟨e3, e4, e5⟩ := encC_len hsh
  have hd : decC (encC x).1 = (x, (encC x).1.length, 0) := by
    have := decC_enc hsh ho []
    rwa [List.append_nil] at this
  have hxk : x.k = k := rfl
  have hxf : x.fl = fl := rfl
  have hxd : x.da = l := rfl
  clear_value x
  rcases hE : encC x with ⟨bs, en⟩
  simp only [hE] at rE hcE e2 e3 e4 e5 hd ⊢
  clear hE
  subst e2
  refine gg ?_
  refine i_call1 (by exact sel_of rfl) (w_cdecode rE (by omega) n (by omega)) ?_
  rintro _ h4 ⟨k4, w, rfl, cv⟩
  simp only [hd] at cv ⊢
  obtain ⟨o1, c1, o2, c2, o3, c3, o4, c4, o5, c5, ps, rfl, q1, q2, q3, q4, q5, _⟩ := cv
  rw [hxd] at q5
  rw [hxk, hxf, hxd]
  refine gg ?_
  refine i_storeF (vs := [.int .u8 (k : Int), .int .u8 (fl : Int), .int .u32 (x.a : Int), .int .u32 (x.b : Int), .int .u16 (x.o : Int), .int .u16 (x.i : Int), .int .u32 (x.p : Int), .slice o1 x.bl.length c1, .slice o2 x.du.length c2, .slice o3 x.sk.length c3, .slice o4 x.pa.length c4, .slice o5 l.length c5]) (Keeps.new h4 _) (Nat.le_refl _) (by exact sel_of rfl) (by rfl) (by rw [Heap.get_new, if_pos rfl]) rfl rfl (Nat.lt_succ_self _) fun h5 k5 g5 lt5 => ?_
  refine gg ?_; repeat (refine i_ldown (by exact sel_of rfl) (by assumption) (by rfl) ?_; refine gg ?_)
  refine i_call2 (by exact sel_of rfl) (by exact sel_of rfl) (w_same (q5.keeps k5) (hr.keeps (k2.trans (k3.trans (k4.trans k5)))) n (by omega)) ?_
  rintro _ _ ⟨rfl, rfl⟩
  rw [decide_eq_true (rfl : l = l)]
  refine gg ?_; repeat (refine i_ldown (by exact sel_of rfl) (by assumption) (by rfl) ?_; refine gg ?_)
  rfl
end Go.Proofs.Ytmnhffpbbihflaa

