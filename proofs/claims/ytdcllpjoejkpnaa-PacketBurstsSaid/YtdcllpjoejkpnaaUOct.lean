/- Part of a proof by an abstract run of the program's code: UOct. No condition. -/
import Derived.Test.YtdcllpjoejkpnaaVmD
import Derived.Test.YtdcllpjoejkpnaaUB
/-! Layer 1's functions that put, walked in the abstract run. -/
set_option linter.unusedVariables false
namespace Vm
open Go
theorem bytesL_u8s (l : List UInt8) : bytesL (u8s l) = some l := by
  induction l with
  | nil => rfl
  | cons b l ih =>
    show (match bytesL (u8s l) with | some l => some (UInt8.ofNat b.toNat :: l) | none => none) = _
    rw [ih]
    simp
theorem Row.str {h : Heap} {o : Option Addr} {m c : Nat} {l : List UInt8} {a : Fr} {x : Sel} (r : Row h 1 o m (u8s l)) (hx : x.f a = .slice o m c) : (oToString x).f a h.get = some (.string ⟨l.toArray⟩) := by
  have hm : l.length = m := by simpa [u8s_length] using r.1
  cases o with
  | none =>
    have h0 : m = 0 := r.2
    have : l = [] := List.length_eq_zero_iff.1 (by omega)
    subst this
    simp only [oToString, hx]
  | some q =>
    have h3 := r.2.2.2
    rw [Nat.mul_one] at h3
    simp only [oToString, hx, h3, bytesL_u8s]
theorem Row.src8 {h : Heap} {o : Option Addr} {m c : Nat} {l : List UInt8} (r : Row h 1 o m (u8s l)) : srcCells h.get 1 (.slice o m c) = some (l.length, u8s l) := by
  have hm : l.length = m := by simpa [u8s_length] using r.1
  rw [hm]; exact r.src
theorem rep_zero (n : Nat) : rep n [Value.int .u8 0] = u8s (List.replicate n 0) := by
  induction n with
  | zero => rfl
  | succ n ih => rw [rep_succ, ih, List.replicate_succ]; rfl
theorem gap_val (m : Nat) (hm : m ≤ 9223372036854775807) : wrap .i64 (.ofNat (Nat.land (bitsOf .i64 (wrap .i64 (0 - (m : Int)))) (bitsOf .i64 3))) = (((4 - m % 4) % 4 : Nat) : Int) := by
  have e1 : wrap .i64 (0 - (m : Int)) = -(m : Int) := by rw [wrap_i64 (by omega) (by omega)]; omega
  have e2 : Nat.land (bitsOf .i64 (-(m : Int))) (bitsOf .i64 3) = (4 - m % 4) % 4 := by
    have h3 : ∀ x : Nat, Nat.land x (bitsOf .i64 3) = x % 4 := fun x => Nat.and_two_pow_sub_one_eq_mod x 2
    rw [h3]
    cases m with
    | zero => rfl
    | succ k =>
      have : -((k + 1 : Nat) : Int) = Int.negSucc k := rfl
      rw [this]
      have hb : bitsOf .i64 (Int.negSucc k) = (Int.negSucc k % (2 ^ IntKind.i64.bits : Int)).toNat := rfl
      rw [hb, show IntKind.i64.bits = 64 from rfl]
      have h4 : (Int.negSucc k % (2 ^ 64 : Int)) = ((18446744073709551616 - (k + 1) : Nat) : Int) := by
        rw [Int.negSucc_eq]
        omega
      rw [h4, Int.toNat_natCast]
      omega
  rw [e1, e2]
  exact wrap_nat (by show _ < 9223372036854775808; omega)
theorem wrap_u8 (m : Nat) : wrap .u8 (m : Int) = (((UInt8.ofNat m).toNat : Nat) : Int) := by
  rw [wrap_eq]
  unfold IntKind.wrap
  simp [IntKind.bits, IntKind.signed]
theorem i_cv8 {rec : Rec} {L : List (Nat × Value)} {f : Fr} {dt : Nat} {h : Heap} {K : Fr → Heap → Prop} {rd : Bool} {x : Sel} {l : List ISem} {k : IntKind} {m : Nat} (hx : x.f (puts L f) = .int k (m : Int)) (hq : ItQ (runItems rec l (puts ((dt, (.int .u8 (((UInt8.ofNat m).toNat : Nat) : Int))) :: L) f) h) K) : ItQ (runItems rec (iOp (put dt) (.v rd (oConvInt .u8 x)) :: l) (puts L f) h) K := i_v (by simp only [oConvInt, hx, wrap_u8]) hq
theorem i_shr {rec : Rec} {L : List (Nat × Value)} {f : Fr} {dt : Nat} {h : Heap} {K : Fr → Heap → Prop} {rd : Bool} {x y : Sel} {l : List ISem} {k j : IntKind} {m i : Nat} (hx : x.f (puts L f) = .int k (m : Int)) (hy : y.f (puts L f) = .int j (i : Int)) (hi : i ≤ k.bits) (hq : ItQ (runItems rec l (puts ((dt, (.int k (((m / 2 ^ i : Nat)) : Int))) :: L) f) h) K) : ItQ (runItems rec (iOp (put dt) (.v rd (oSh fShr x y)) :: l) (puts L f) h) K := by
  refine i_v ?_ hq
  have hb : Nat.ble i k.bits = true := Nat.ble_eq_true_of_le hi
  have e : fShr.f k (m : Int) (i : Int) = some (.int k (((m / 2 ^ i : Nat)) : Int)) := by
    show some (Value.int k (Int.ofNat (m / 2 ^ (bif Nat.ble i k.bits then i else k.bits)))) = _
    rw [hb]; rfl
  simp only [oSh, hx, hy, e]
end Vm
namespace Go.Proofs.Ytdcllpjoejkpnaa
open Go Vm
/-- awake is taken as said -/
abbrev G0 : Sums := oneSum 10
/-- a number's octets from a place down -/
def down (v : Nat) : Nat → List UInt8
  | 0 => []
  | i + 1 => UInt8.ofNat (v / 2 ^ (8 * i)) :: down v i
theorem down_length (v : Nat) : ∀ i, (down v i).length = i
  | 0 => rfl
  | i + 1 => by rw [down, List.length_cons, down_length v i]
theorem down_1 (v : Nat) : [UInt8.ofNat v] = down v 1 := by simp [down]
theorem down_2 (v : Nat) : [UInt8.ofNat (v / 2 ^ 8), UInt8.ofNat v] = down v 2 := by simp [down]
theorem down_4 (v : Nat) : [UInt8.ofNat (v / 2 ^ 24), UInt8.ofNat (v / 2 ^ 16), UInt8.ofNat (v / 2 ^ 8), UInt8.ofNat v] = down v 4 := by simp [down]
theorem ofNat_mod (m : Nat) (k : Nat) : UInt8.ofNat (m % (256 * k)) = UInt8.ofNat m := by
  rw [← UInt8.toNat_inj, UInt8.toNat_ofNat', UInt8.toNat_ofNat', Nat.mod_mul_right_mod]
theorem down_2_mod (v : Nat) : down (v % 65536) 2 = down v 2 := by
  rw [← down_2, ← down_2, show 65536 = 256 * 256 from rfl, ofNat_mod v 256]
  congr 1
  rw [← UInt8.toNat_inj, UInt8.toNat_ofNat', UInt8.toNat_ofNat']; omega
/-- a result: octets, in a row of their own or in what was there -/
def Res8 (h : Heap) (l : List UInt8) (v : Value) (h' : Heap) : Prop := Keeps h h' ∧ ∃ o, v = .slice o l.length l.length ∧ Ap h.next h' 5 1 o l.length l.length (u8s l)
theorem w_gap (x : Nat) (hx : x ≤ 9223372036854775807) (h : Heap) (n : Nat) (hn : 1 ≤ n) : ResQ (callN Try.prog G0 n (.call 73 [.int .i64 (x:Int)]) h) (fun v h' => v = .int .i64 (((4 - x % 4) % 4 : Nat) : Int) ∧ h = h') := by
  obtain ⟨n, rfl⟩ : ∃ m, n = m + 1 := ⟨n - 1, by omega⟩
  refine res_enter rfl d73 rfl ?_; simp only [c73]
  refine gg ?_
  refine i_and (by exact sel_of rfl) (by first | exact sel_of rfl | exact const_of) ?_
  refine gg ?_
  exact ⟨congrArg (Value.int .i64) (gap_val x hx), rfl⟩
theorem w_same {h : Heap} {o o' : Option Addr} {m m' c c' : Nat} {la lb : List UInt8} (ha : Row h 1 o m (u8s la)) (hb : Row h 1 o' m' (u8s lb)) (n : Nat) (hn : 1 ≤ n) : ResQ (callN Try.prog G0 n (.call 15 [.slice o m c, .slice o' m' c']) h) (fun v h' => v = .bool (decide (la = lb)) ∧ h = h') := by
  obtain ⟨n, rfl⟩ : ∃ m, n = m + 1 := ⟨n - 1, by omega⟩
  refine res_enter rfl d15 rfl ?_; simp only [c15]
  refine gg ?_
  refine i_v (ha.str rfl) ?_
  refine gg ?_
  refine i_v (hb.str rfl) ?_
  refine gg ?_
  exact ⟨rfl, rfl⟩
theorem w_with {h : Heap} {o o' : Option Addr} {m m' c c' : Nat} {la lb : List UInt8} (ha : Row h 1 o m (u8s la)) (hb : Row h 1 o' m' (u8s lb)) (hl : la.length + lb.length ≤ 140737488355328) (n : Nat) (hn : 1 ≤ n) :
    ResQ (callN Try.prog G0 n (.call 52 [.slice o m c, .slice o' m' c']) h) (Res8 h (la ++ lb)) := by
  have hm : la.length = m := by simpa [u8s_length] using ha.1
  have hm' : lb.length = m' := by simpa [u8s_length] using hb.1
  subst hm hm'
  obtain ⟨n, rfl⟩ : ∃ m, n = m + 1 := ⟨n - 1, by omega⟩
  refine res_enter rfl d52 rfl ?_; simp only [c52]
  refine gg ?_
  refine i_a (mk_slice (l := la.length) (c := la.length + lb.length) rfl rfl (by omega) (by omega) (by omega)) ?_
  have k1 : Keeps h (h.new (.cells 5 (rep (la.length + lb.length) [.int .u8 0]) (.own false))) := Keeps.new h _
  have hrl : (rep (la.length + lb.length) [Value.int .u8 0]).length = la.length + lb.length := by rw [rep_length]; simp
  refine gg ?_
  refine i_e1 (copy_row (b := h.next) (n := la.length) (c := la.length + lb.length) (l := la) rfl (ha.keeps k1).src8 rfl (by rw [Heap.get_new, if_pos rfl]) (by rw [hrl]; omega)) fun v h1 t1 => ?_
  have k2 : Keeps h h1 := t1.keeps k1 (Nat.le_refl _)
  refine gg ?_
  refine i_e1 (app_row (b := h.next) (n := la.length) (c := la.length + lb.length) (l := lb) rfl (hb.keeps k2).src8 t1.at_ (by rw [List.length_append, List.length_drop, hrl, u8s_length]; omega) (Nat.le_refl _) (by omega)) ?_
  rintro _ h2 ⟨rfl, t2⟩
  refine gg ?_
  have hcs : (List.take la.length (u8s la ++ List.drop la.length (rep (la.length + lb.length) [Value.int .u8 0])) ++ u8s lb ++ List.drop (la.length + lb.length) (u8s la ++ List.drop la.length (rep (la.length + lb.length) [Value.int .u8 0]))) = u8s (la ++ lb) := by
    rw [List.take_append_of_le_length (by rw [u8s_length]; exact Nat.le_refl _), ← u8s_length la, List.take_length, u8s_length, List.drop_eq_nil_of_le (by rw [List.length_append, List.length_drop, hrl, u8s_length]; omega), List.append_nil, u8s_append]
  have t3 := t2.at_
  rw [hcs] at t3
  refine ⟨t2.keeps k2 (Nat.le_refl _), some ⟨h.next, 0, none⟩, ?_, rfl, ⟨by rw [u8s_length, Nat.mul_one], ?_, .inl rfl, ?_⟩, fun q e => .inl (by cases e; rfl)⟩
  · rw [List.length_append]
  · rw [t2.next, t1.next]; exact Nat.lt_succ_self _
  · rw [Nat.mul_one, loadN_of (q := ⟨h.next, 0, none⟩) t3 (by simp) (by simp [u8s_length]), List.drop_zero, ← u8s_length, List.take_length]
theorem row8 {h : Heap} (l : List UInt8) : Row (h.new (.cells 5 (u8s l) (.own false))) 1 (some ⟨h.next, 0, none⟩) l.length (u8s l) := Row.new (by simp) (by simp [u8s_length]) (.inl rfl)
/-- what follows once a row of octets was made and with is called -/
theorem w_with_new {h : Heap} {o : Option Addr} {m c : Nat} {la : List UInt8} (ha : Row h 1 o m (u8s la)) (lb : List UInt8) (hl : la.length + lb.length ≤ 140737488355328) (n : Nat) (hn : 1 ≤ n) :
    ResQ (callN Try.prog G0 n (.call 52 [.slice o m c, .slice (some ⟨h.next, 0, none⟩) lb.length lb.length]) (h.new (.cells 5 (u8s lb) (.own false)))) (Res8 h (la ++ lb)) := by
  have k1 : Keeps h (h.new (.cells 5 (u8s lb) (.own false))) := Keeps.new h _
  refine (w_with (ha.keeps k1) (row8 lb) hl n hn).mono ?_
  rintro v h' ⟨k2, o', hv, ap⟩
  exact ⟨k1.trans k2, o', hv, ap.mono k1.next⟩
theorem w_put16 {h : Heap} {o : Option Addr} {m c : Nat} {l : List UInt8} (ha : Row h 1 o m (u8s l)) (v : Nat) (hl : l.length ≤ 140737488351300) (n : Nat) (hn : 2 ≤ n) :
    ResQ (callN Try.prog G0 n (.call 30 [.slice o m c, .int .u16 (v : Int)]) h) (Res8 h (l ++ down v 2)) := by
  rw [← down_2]
  obtain ⟨n, rfl⟩ : ∃ m, n = m + 1 := ⟨n - 1, by omega⟩
  refine res_enter rfl d30 rfl ?_; simp only [c30]
  refine gg ?_

  refine i_call2 (by first | exact sel_of rfl | exact const_of) (by first | exact sel_of rfl | exact const_of) (w_with_new ha [UInt8.ofNat (v / 2 ^ 8), UInt8.ofNat v] (by simp; omega) n (by omega)) ?_
  rintro _ h1 ⟨k, o', rfl, ap⟩
  refine gg ?_
  exact ⟨k, o', rfl, ap⟩
theorem w_put32 {h : Heap} {o : Option Addr} {m c : Nat} {l : List UInt8} (ha : Row h 1 o m (u8s l)) (v : Nat) (hl : l.length ≤ 140737488351300) (n : Nat) (hn : 2 ≤ n) :
    ResQ (callN Try.prog G0 n (.call 29 [.slice o m c, .int .u32 (v : Int)]) h) (Res8 h (l ++ down v 4)) := by
  rw [← down_4]
  obtain ⟨n, rfl⟩ : ∃ m, n = m + 1 := ⟨n - 1, by omega⟩
  refine res_enter rfl d29 rfl ?_; simp only [c29]
  refine gg ?_
  refine i_call2 (by first | exact sel_of rfl | exact const_of) (by first | exact sel_of rfl | exact const_of) (w_with_new ha [UInt8.ofNat (v / 2 ^ 24), UInt8.ofNat (v / 2 ^ 16), UInt8.ofNat (v / 2 ^ 8), UInt8.ofNat v] (by simp; omega) n (by omega)) ?_
  rintro _ h1 ⟨k, o', rfl, ap⟩
  refine gg ?_
  exact ⟨k, o', rfl, ap⟩
theorem w_pad {h : Heap} {o : Option Addr} {m c : Nat} {l : List UInt8} (ha : Row h 1 o m (u8s l)) (hl : l.length ≤ 140737488351300) (n : Nat) (hn : 2 ≤ n) :
    ResQ (callN Try.prog G0 n (.call 54 [.slice o m c]) h) (Res8 h (l ++ List.replicate ((4 - l.length % 4) % 4) 0)) := by
  have hm : l.length = m := by simpa [u8s_length] using ha.1
  subst hm
  obtain ⟨n, rfl⟩ : ∃ m, n = m + 1 := ⟨n - 1, by omega⟩
  refine res_enter rfl d54 rfl ?_; simp only [c54]
  refine gg ?_
  refine i_call1 (by first | exact sel_of rfl | exact const_of) (w_gap l.length (by omega) h n (by omega)) ?_
  rintro _ _ ⟨rfl, rfl⟩
  refine gg ?_
  refine i_a (mk_slice (l := (4 - l.length % 4) % 4) (c := (4 - l.length % 4) % 4) rfl rfl (Nat.le_refl _) (by omega) (by omega)) ?_
  rw [rep_zero]
  have := w_with_new (h := h) (c := c) ha (List.replicate ((4 - l.length % 4) % 4) 0) (by rw [List.length_replicate]; omega) n (by omega)
  rw [List.length_replicate] at this
  refine i_call this ?_
  rintro _ h1 ⟨k, o', rfl, ap⟩
  refine gg ?_
  exact ⟨k, o', rfl, ap⟩
theorem w_rput {h : Heap} {o : Option Addr} {m c : Nat} {l : List UInt8} (ha : Row h 1 o m (u8s l)) (v i : Nat) (hi : i ≤ 4) (hl : l.length ≤ 140737488351300) (n : Nat) (hn : 8 ≤ n) :
    ResQ (callN Try.prog G0 n (.call 34 [.slice o m c, .int .u32 (v : Int), .int .i64 (i : Int)]) h) (Res8 h (l ++ down v i)) := by
  have hm : l.length = m := by simpa [u8s_length] using ha.1
  subst hm
  obtain ⟨n, rfl⟩ : ∃ m, n = m + 1 := ⟨n - 1, by omega⟩
  refine res_enter rfl d34 rfl ?_; simp only [c34]
  refine gg ?_
  refine i_app (Keeps.refl h) (by decide) rfl (Ap.nil _ h _ _) (ha.src (c := c)) (by rw [u8s_length, Nat.mul_one]) (by omega) (Nat.zero_add _) (List.nil_append _) fun o1 h1 k1 a1 _ => ?_
  refine gg ?_
  refine o_while (fun j f h' => ∃ o' acc, Sl [(8, .int .i64 ((j : Int) - 1)), (7, .slice o' (acc : List UInt8).length acc.length), (1, .int .u32 (v : Int))] f ∧ j ≤ i ∧ Keeps h h' ∧ Ap h.next h' 5 1 o' acc.length acc.length (u8s acc) ∧ acc ++ down v j = l ++ down v i) i (by omega) ?_ ?_
  · exact ⟨o1, l, ⟨sel_of rfl, sel_of rfl, sel_of rfl, trivial⟩, Nat.le_refl _, k1, a1, rfl⟩
  rintro j f h' ⟨o', acc, hs, hj, k, ap, e⟩
  obtain ⟨f0, rfl⟩ := hs.puts
  simp only [c34_0]
  have hacc : acc.length ≤ 140737488351304 := by
    have := congrArg List.length e
    simp only [List.length_append, down_length] at this
    omega
  refine gg ?_
  refine out_if (by exact sel_of rfl) (fun hif => ?_) (fun hif => ?_)
  · obtain ⟨j, rfl⟩ : ∃ t, j = t + 1 := ⟨j - 1, by omega⟩
    refine gg ?_
    refine i_muln (8 * j) (by first | exact sel_of rfl | exact const_of) (by first | exact sel_of rfl | exact const_of) (by omega) (by omega) ?_
    refine gg ?_
    refine i_shr (by first | exact sel_of rfl | exact const_of) (by first | exact sel_of rfl | exact const_of) (by show 8 * j ≤ 32; omega) ?_
    refine gg ?_
    have kb : Keeps h' (h'.new (.cells 5 (u8s [UInt8.ofNat (v / 2 ^ (8 * j))]) (.own false))) := Keeps.new h' _
    refine i_app (cs := u8s acc) (k.trans kb) (by decide) rfl (ap.keeps kb) ((row8 (h := h') [UInt8.ofNat (v / 2 ^ (8 * j))]).src (c := 1)) rfl (by simp only [List.length_cons, List.length_nil]; omega) (List.length_append.symm) (u8s_append _ _).symm fun o2 h2 k2 a2 _ => ?_
    refine gg ?_
    refine rnd_n j (by omega) ⟨o2, acc ++ [UInt8.ofNat (v / 2 ^ (8 * j))], ⟨(sel_of rfl).trans (congrArg (Value.int .i64) (by omega)), sel_of rfl, sel_of rfl, trivial⟩, by omega, k2, a2, ?_⟩
    · rw [← e, down, List.append_assoc]; rfl
  · refine gg ?_
    have hj0 : j = 0 := by omega
    subst hj0
    rw [down, List.append_nil] at e
    subst e
    exact ⟨k, o', rfl, ap⟩
theorem w_rpad {h : Heap} {o : Option Addr} {m c : Nat} {l : List UInt8} (ha : Row h 1 o m (u8s l)) (hl : l.length ≤ 140737488351300) (n : Nat) (hn : 8 ≤ n) :
    ResQ (callN Try.prog G0 n (.call 58 [.slice o m c]) h) (Res8 h (l ++ List.replicate ((4 - l.length % 4) % 4) 0)) := by
  have hm : l.length = m := by simpa [u8s_length] using ha.1
  subst hm
  obtain ⟨n, rfl⟩ : ∃ m, n = m + 1 := ⟨n - 1, by omega⟩
  refine res_enter rfl d58 rfl ?_; simp only [c58]
  refine gg ?_
  refine i_app (Keeps.refl h) (by decide) rfl (Ap.nil _ h _ _) (ha.src (c := c)) (by rw [u8s_length, Nat.mul_one]) (by omega) (Nat.zero_add _) (List.nil_append _) fun o1 h1 k1 a1 _ => ?_
  refine gg ?_
  refine o_while (fun j f h' => ∃ o' acc, Sl [(3, .slice o' (acc : List UInt8).length acc.length)] f ∧ j = (4 - acc.length % 4) % 4 ∧ Keeps h h' ∧ Ap h.next h' 5 1 o' acc.length acc.length (u8s acc) ∧ acc ++ List.replicate j 0 = l ++ List.replicate ((4 - l.length % 4) % 4) 0) ((4 - l.length % 4) % 4) (by omega) ?_ ?_
  · exact ⟨o1, l, ⟨sel_of rfl, trivial⟩, rfl, k1, a1, rfl⟩
  rintro j f h' ⟨o', acc, hs, hj, k, ap, e⟩
  obtain ⟨f0, rfl⟩ := hs.puts
  simp only [c58_0]
  have hacc : acc.length ≤ 140737488351304 := by
    have := congrArg List.length e
    simp only [List.length_append, List.length_replicate] at this
    omega
  refine gg ?_
  refine i_remn (acc.length % 4) (p := acc.length) (q := 4) (by first | exact sel_of rfl | exact const_of) (by first | exact sel_of rfl | exact const_of) (by decide) rfl ?_
  refine gg ?_
  refine out_if (by exact sel_of rfl) (fun hif => ?_) (fun hif => ?_)
  · obtain ⟨j, rfl⟩ : ∃ t, j = t + 1 := ⟨j - 1, by omega⟩
    refine gg ?_
    have kb : Keeps h' (h'.new (.cells 5 (u8s [0]) (.own false))) := Keeps.new h' _
    refine i_app (cs := u8s acc) (k.trans kb) (by decide) rfl (ap.keeps kb) ((row8 (h := h') [0]).src (c := 1)) rfl (by simp only [List.length_cons, List.length_nil]; omega) (List.length_append.symm) (u8s_append _ _).symm fun o2 h2 k2 a2 _ => ?_
    refine gg ?_
    refine rnd_n j (by omega) ⟨o2, acc ++ [0], ⟨sel_of rfl, trivial⟩, ?_, k2, a2, ?_⟩
    · rw [List.length_append, List.length_singleton]; omega
    · rw [← e, List.replicate_succ, List.append_assoc]; rfl
  · refine gg ?_
    have hj0 : j = 0 := by omega
    subst hj0
    rw [List.replicate_zero, List.append_nil] at e
    rw [← e]
    exact ⟨k, o', rfl, ap⟩
end Go.Proofs.Ytdcllpjoejkpnaa

/-! Facts on the program that every law of this seat needs. -/
namespace Go.Proofs.Ytdcllpjoejkpnaa
open Go Vm
theorem mixed : Try.prog.follows .mixedOrders = true := by kernel_rfl
theorem awakeSays : Vm.says Try.prog (fun _ => none) 400 10 [] = true := by kernel_rfl
theorem sumsAwake (B : Nat) : SumsOK Try.prog B G0 := sums_one (enters_of (by kernel_rfl)) (fun w => Vm.says_true mixed awakeSays w) B
theorem own : ownKnob Try.prog.godebug = none := by kernel_rfl
theorem laidOut : laidOutB Try.prog = true := by kernel_rfl
end Go.Proofs.Ytdcllpjoejkpnaa

