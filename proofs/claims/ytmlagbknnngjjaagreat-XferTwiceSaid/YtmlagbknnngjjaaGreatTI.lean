/- Part of a proof by an abstract run of the program's code: TI. No condition. -/
import Derived.Test.YtmlagbknnngjjaaGreatTH
/-! The law XferTwice, walked. -/
set_option linter.unusedVariables false
namespace Go.Proofs.YtmlagbknnngjjaaGreat
open Go Vm
set_option maxRecDepth 20000 in
set_option maxHeartbeats 8000000 in
theorem w_ltwice {h0 : Heap} {a b : Nat} {o : Option Addr} {m c : Nat} {d : List UInt8} {now : Int} (ha : a < 4294967296) (hb : b < 4294967296) (hr : Row h0 1 o m (u8s d)) (hcm : m ≤ c) (n : Nat) (hn : 5000 ≤ n) :
    ResQ (callN Tryz.prog G0 n (.call 4 [.int .u32 (a : Int), .int .u32 (b : Int), .slice o m c, .int .i64 now]) h0) (fun u h' => u = .bool true) := by
  have hm : m = d.length := by have := hr.1; rw [u8s_length] at this; omega
  subst hm
  obtain ⟨n, rfl⟩ : ∃ m, n = m + 1 := ⟨n - 1, by omega⟩
  refine res_enter rfl d4 rfl ?_; simp only [c4]
  refine gg ?_
  refine i_call0 (w_awakeX _ _ (by omega)) ?_
  rintro _ _ ⟨rfl, rfl⟩
  refine gg ?_
  by_cases hl : d.length = 0 ∨ 1000 < d.length
  · by_cases hl0 : d.length = 0
    · refine gg ?_
      rfl
    · refine gg ?_
      rfl
  have hl1 : 0 < d.length := by omega
  have hl2 : d.length ≤ 1000 := by omega
  have hd0 : d ≠ [] := List.length_pos_iff.1 hl1
  obtain ⟨o, rfl⟩ : ∃ q, o = some q := by
    cases o with
    | none => have : d.length = 0 := hr.2; omega
    | some q => exact ⟨q, rfl⟩
  refine gg ?_
  refine i_call3 (by exact sel_of rfl) (by exact sel_of rfl) (by exact const_of) (w_pair (a := a) (b := b) (mt := 1200) ha hb (by decide) (by decide) (by omega)) ?_
  rintro _ h2 ⟨X, Q, sb, S, M, N, X2, Q2, sb2, S2, M2, N2, h1, rfl, W, W2⟩
  have kW := W.keep
  have k2 := W2.keep
  have nW := kW.next
  have n2 := k2.next
  have hpc : pcs (mostN 1200) d = [d] := pcs_one' (by decide) hd0 (by show d.length ≤ 1172; omega)
  have wxl := W.xl
  have wsbl := W.sbl
  have hWql := W.que.ql
  have gX2' := (k2.get X wxl.1).trans W.gX
  have gsb2' := (k2.get sb wsbl.1).trans W.gsb
  have que2 := W.que.keeps k2
  refine gg ?_
  refine i_call5 (by exact sel_of rfl) ((sel_of (v := .agg #[.int .u16 ((3 : Nat) : Int), .bool false, .int .u32 ((7 : Nat) : Int), .slice (some o) d.length c]) rfl).trans rfl) (by exact const_of) (by exact const_of) (by exact sel_of rfl) (w_sendM (str := 3) (pp := 7) (sl := [0, 0, 0, 0]) (mt := 1200) que2 gX2' (by omega) (endv_sd ..) rfl rfl gsb2' (by omega) (by decide) (by decide) (by decide) (fun z hz => by simp only [List.mem_cons, List.not_mem_nil, or_false] at hz; omega) (by decide) ((hr.keeps kW).keeps k2) hcm hd0 (by omega) (by show 0 + d.length ≤ 65536; omega) (by rw [hpc]; show 0 + 1 ≤ 1024; decide) (by rw [List.length_nil]; omega)) ?_
  rintro _ h3 ⟨rfl, ⟨oq', en, q1, q2, q3, q4⟩, n3, low3, _⟩
  rw [hpc] at q1 q2
  have henl : en.length = 1 := by have := congrArg List.length q2; rw [List.length_map] at this; rw [this]; rfl
  obtain ⟨e, rfl⟩ : ∃ e, en = [e] := by
    cases en with
    | nil => cases henl
    | cons y ks => cases ks with
      | nil => exact ⟨y, rfl⟩
      | cons z ks => simp at henl
  have hec : e.c = ⟨3, a, 3, 0, 7, d, 0, .slice none 0 0, .slice none 0 0, .slice none 0 0, .slice none 0 0⟩ := by
    have h5 := (List.cons.inj q2).1
    rw [h5]
    exact congrArg (fun A => (⟨3, A, 3, 0, 7, d, 0, .slice none 0 0, .slice none 0 0, .slice none 0 0, .slice none 0 0⟩ : Ck)) (show (a + 0) % 4294967296 = a by omega)
  obtain ⟨e0, e1, e2⟩ := q3 e (List.mem_singleton.2 rfl)
  have hesz : e.sz = d.length := by show e.c.dt.length = _; rw [hec]
  have hA1 : (a + (spl 3 [0, 0, 0, 0][3] 7 [d]).length) % 4294967296 = (a + 1) % 4294967296 := rfl
  rw [hA1, List.nil_append] at q1
  have gX3 := (low3 X (by omega) (by have := W.ord; omega) (by have := W.ord; omega) (fun q hq => nomatch hq)).trans gX2'
  refine gg ?_
  have ho1 : octs [1] [e] = 0 := octs_none _ fun x hx => by simp only [List.mem_cons, List.not_mem_nil, or_false] at hx; subst hx; rw [e0]; decide
  refine i_call2 (by exact sel_of rfl) (by exact sel_of rfl) (w_tell q1 gX3 (by omega) (endv_sd ..) rfl (fun y hy => by simp only [List.mem_cons, List.not_mem_nil, or_false] at hy; subst hy; rw [e0]; decide) (fun y hy => by simp only [List.mem_cons, List.not_mem_nil, or_false] at hy; subst hy; rw [e1]; decide) (by decide) (by decide) (by decide) (by decide) (by decide) ⟨by decide, by decide⟩ (by rw [List.length_singleton]; omega)) ?_
  rintro _ h4 ⟨ov, ks, rfl, F⟩
  rw [ho1] at F
  rw [show roomN (3 * 1200) 1200 0 (((65536 : Nat) : Int).toNat - 0) = 3600 by decide] at F
  have htk : takeF (tmI now) 3600 [e] = ([fly (tmI now) e], [e]) := by
    unfold takeF
    rw [if_pos e0, if_neg (by omega)]
    rfl
  obtain ⟨f1, f2, f3, f4, f5, f6, f7⟩ := F
  rw [htk] at f1 f2 f7
  have hk1 : ks.length = 1 := by have := congrArg List.length f2; rw [List.length_map, List.length_map] at this; exact this.symm
  obtain ⟨y, rfl⟩ : ∃ y, ks = [y] := by
    cases ks with
    | nil => cases hk1
    | cons y ks => cases ks with
      | nil => exact ⟨y, rfl⟩
      | cons z ks => simp at hk1
  have hyc : y.2 = e.c := by
    have : [e.c] = [y.2] := f2
    exact (List.cons.inj this).1.symm
  have hal : decide (0 < [y].length ∨ 0 < octs [1] [fly (tmI now) e]) = true := decide_eq_true (.inl Nat.one_pos)
  rw [hal] at f7
  have gX4 : h4.get X = some (.cells 79 (xva Q 65536 sb 4 S (N + 3) (tmI now + (3000 : Nat))) (.own false)) := f7
  rcases f6.2 with ⟨hz, _⟩ | ⟨kb, rfl, b1, b2, b3⟩
  · cases hz
  have row4 : ∀ g : Heap, g.get kb = some (.cells 42 (cksv [y]) (.own true)) → kb < g.next → Row g 12 (some ⟨kb, 0, some 12⟩) 1 (cksv [y]) := fun g h5 h6 => ⟨rfl, h6, .inr rfl, loadN_all h5 rfl⟩
  have hcv : cksv [y] = ckv y.2 (some ⟨y.1, 0, some 1⟩) y.2.dt.length := by show ckv y.2 _ _ ++ [] = _; rw [List.append_nil]
  obtain ⟨yk1, ydat⟩ := f5 y (List.mem_singleton.2 rfl)
  -- the receiver
  have oW := W.ord
  have oW2 := W2.ord
  have wx2 := W2.xl
  have ws2 := W2.sl
  have wq2 := W2.ql
  have wq2l := W2.que.ql
  have Y4 : YS h4 X2 Q2 S2 M2 N2 sb2 b ((a + 4294967295) % 4294967296) false (.slice none 0 0) [0, 0, 0, 0] [] 0 none := YS.new W2 ha (by omega) fun z h5 h6 => by
    rw [f4 z (by omega) (by simp only [List.map_cons, List.map_nil, List.mem_cons, List.not_mem_nil, or_false]; omega) (by omega), low3 z h6 (by omega) (by omega) (fun q hq => nomatch hq)]
  refine gg ?_
  refine i_idx (i := 0) (by exact sel_of rfl) (row4 h4 b3 b2) (by exact const_of) (by decide) fun q hq => ?_
  cases hq
  refine i_loadN (v := ckv y.2 (some ⟨y.1, 0, some 1⟩) y.2.dt.length) (by exact sel_of rfl) ((loadN_all b3 rfl).trans (congrArg some hcv)) ?_
  refine gg ?_
  have hwf : e.c.wf := (f1.en (fly (tmI now) e) (List.mem_singleton.2 rfl)).wf
  obtain ⟨yk, yc⟩ := y
  have hyc : yc = ⟨3, a, 3, 0, 7, d, 0, .slice none 0 0, .slice none 0 0, .slice none 0 0, .slice none 0 0⟩ := hyc.trans hec
  rw [hec] at hwf
  subst hyc
  have yrow : Row h4 1 (some ⟨yk, 0, some 1⟩) d.length (u8s d) := ⟨by rw [u8s_length]; omega, ydat.1, .inr rfl, loadN_all ydat.2 (by rw [u8s_length]; omega)⟩
  refine i_call3 (by exact sel_of rfl) (by exact sel_of rfl) (by exact sel_of rfl) (w_hearD (R := fun v h' => v = .int .i64 0 ∧ ∃ ro, YS h' X2 Q2 S2 M2 N2 sb2 b a true (.slice none 0 0) [0, 0, 0, 1] [⟨3, false, 7, d⟩] d.length ro ∧ YF X2 S2 M2 N2 none h4 h' ∧ ∀ r, ro = some r → h4.next ≤ r.block) (by omega) (fun g m hk hm => (w_data0 (c := ⟨3, a, 3, 0, 7, d, 0, .slice none 0 0, .slice none 0 0, .slice none 0 0, .slice none 0 0⟩) (Y4.keeps hk) hwf (show a = ((a + 4294967295) % 4294967296 + 1) % 4294967296 by omega) rfl rfl rfl hd0 (by show d.length ≤ 1172; omega) (yrow.keeps hk) (by omega)).mono ?_) (by omega)) ?_
  · rintro v g2 ⟨rfl, ro, ys, yf, hro⟩
    have := hk.next
    exact ⟨rfl, ro, ys, ⟨by have := yf.1; omega, fun z hz h5 h6 h7 h8 h9 => (yf.2 z (by omega) h5 h6 h7 h8 h9).trans (hk.get z hz)⟩, fun r hr => by have := hro r hr; omega⟩
  rintro _ h5 ⟨rfl, ro, Y5, F5, hro⟩
  have n5 := F5.1
  have hro5 : ∀ r, ro = some r → r.block < h5.next := fun r hr => by
    obtain ⟨cs, ap, _⟩ := Y5.jn.rdy
    subst hr; exact ap.row.2.1
  refine gg ?_
  refine i_call2 (by exact sel_of rfl) (by exact sel_of rfl) (w_ytell Y5 (by omega)) ?_
  rintro _ h6 ⟨k1, rfl, k1a, k1b, gk1, Y6, F6⟩
  have n6 := F6.1
  have kbA : Apart ro kb := fun r hr e => by have := hro r hr; omega
  have gkb6 : h6.get kb = some (.cells 42 (cksv [(yk, ⟨3, a, 3, 0, 7, d, 0, .slice none 0 0, .slice none 0 0, .slice none 0 0, .slice none 0 0⟩)]) (.own true)) := by
    rw [F6.2 kb (by omega) (by omega) (by omega) (by omega) (by omega) kbA, F5.2 kb b2 (by omega) (by omega) (by omega) (by omega) (fun r hr => nomatch hr)]; exact b3
  refine gg ?_
  refine i_idx (i := 0) (by exact sel_of rfl) (row4 h6 gkb6 (by omega)) (by exact const_of) (by decide) fun q hq => ?_
  cases hq
  refine i_loadN (v := ckv (⟨3, a, 3, 0, 7, d, 0, .slice none 0 0, .slice none 0 0, .slice none 0 0, .slice none 0 0⟩ : Ck) (some ⟨yk, 0, some 1⟩) d.length) (by exact sel_of rfl) ((loadN_all gkb6 rfl).trans (congrArg some hcv)) ?_
  refine gg ?_
  refine i_call3 (by exact sel_of rfl) (by exact sel_of rfl) (by exact sel_of rfl) (w_hearD (R := fun v h' => v = .int .i64 0 ∧ ∃ k, YS h' X2 Q2 S2 M2 N2 sb2 b a true (.slice (some ⟨k, 0, some 1⟩) 1 1) [0, 0, 0, 1] [⟨3, false, 7, d⟩] d.length ro ∧ YF X2 S2 M2 N2 ro h6 h' ∧ h6.next ≤ k ∧ k < h'.next ∧ h'.get k = some (.cells 22 [.int .u32 (a : Int)] (.own true))) (by have := Y6.ord; omega) (fun g m hk hm => (w_data1 (c := ⟨3, a, 3, 0, 7, d, 0, .slice none 0 0, .slice none 0 0, .slice none 0 0, .slice none 0 0⟩) (Y6.keeps hk) rfl (by omega)).mono ?_) (by omega)) ?_
  · rintro v g2 ⟨rfl, k, ys, yf, hk1, hk2, hk3⟩
    have := hk.next
    exact ⟨rfl, k, ys, ⟨by have := yf.1; omega, fun z hz h5 h6 h7 h8 h9 => (yf.2 z (by omega) h5 h6 h7 h8 h9).trans (hk.get z hz)⟩, by omega, hk2, hk3⟩
  rintro _ h7 ⟨rfl, kd, Y7, F7, kd1, kd2, gkd⟩
  have n7 := F7.1
  refine gg ?_
  refine i_call2 (by exact sel_of rfl) (by exact sel_of rfl) (w_ytell Y7 (by omega)) ?_
  rintro _ h8 ⟨k3, rfl, k3a, k3b, gk3, Y8, F8⟩
  have n8 := F8.1
  refine gg ?_
  refine i_call1 (by exact sel_of rfl) (w_ymsgs Y8 (by show d.length + 0 ≤ d.length; omega) (by show 1 ≤ 1000; decide) (by show 1 + 20 ≤ _; omega)) ?_
  rintro _ h9 ⟨rfl, ⟨cs, rcs, lcs⟩, n9, low9⟩
  obtain ⟨v, cs', rfl, ⟨om, cap, rfl, rom, hom⟩, lcs'⟩ := lcs
  have lcs' : cs' = [] := lcs'
  subst lcs'
  rw [List.append_nil] at rcs
  have rom : Row h9 1 om d.length (u8s d) := rom
  have apz : ∀ z, h5.next ≤ z → Apart ro z := fun z hz r hr e => by have := hro5 r hr; omega
  have oY := Y8.ord
  have gk1' : h9.get k1 = some (.cells 42 (sackv a d.length (.slice none 0 0)) (.own false)) := by
    rw [low9 k1 (by omega) (by omega), F8.2 k1 (by omega) (by omega) (by omega) (by omega) (by omega) (apz k1 k1a), F7.2 k1 (by omega) (by omega) (by omega) (by omega) (by omega) (apz k1 k1a)]; exact gk1
  have gkd' : h9.get kd = some (.cells 22 [.int .u32 (a : Int)] (.own true)) := by
    rw [low9 kd (by omega) (by omega), F8.2 kd (by omega) (by omega) (by omega) (by omega) (by omega) (apz kd (by omega))]; exact gkd
  have gk3' : h9.get k3 = some (.cells 42 (sackv a d.length (.slice (some ⟨kd, 0, some 1⟩) 1 1)) (.own false)) := by
    rw [low9 k3 (by omega) (by omega)]; exact gk3
  have old : ∀ z, z < h4.next → z ≠ X2 → z ≠ S2 → z ≠ M2 → (z < N2 ∨ N2 + 4 ≤ z) → h9.get z = h4.get z := fun z hz z1 z2 z3 z4 => by
    have zA : Apart ro z := fun r hr e => by have := hro r hr; omega
    rw [low9 z (by omega) z4, F8.2 z (by omega) z1 z2 z3 z4 zA, F7.2 z (by omega) z1 z2 z3 z4 zA, F6.2 z (by omega) z1 z2 z3 z4 zA, F5.2 z hz z1 z2 z3 z4 (fun r hr => nomatch hr)]
  have X9 := (old X (by omega) (by omega) (by omega) (by omega) (by omega)).trans gX4
  have row3 : ∀ (k : Nat) (dv : Value), h9.get k = some (.cells 42 (sackv a d.length dv) (.own false)) → k < h9.next → Row h9 12 (some ⟨k, 0, none⟩) 1 (sackv a d.length dv) := fun k dv h5 h6 => ⟨rfl, h6, .inl rfl, loadN_all h5 rfl⟩
  have que9 : Que h9 Q oq' ((a + 1) % 4294967296) [fly (tmI now) e] := f1.keepT (by omega) fun z ty cs op hz hg hty hQ => by
    refine old z hz (fun e => ?_) (fun e => ?_) (fun e => ?_) ?_
    · rw [e, Y4.gY] at hg; cases hg; rcases hty with h | h | h | h | h <;> cases h
    · rw [e, Y4.gp.gS] at hg; cases hg; rcases hty with h | h | h | h | h <;> cases h
    · obtain ⟨l, cc, g1, _⟩ := Y4.gp.gM
      rw [e, g1] at hg; cases hg
    · rcases Nat.lt_or_ge z N2 with h | h
      · exact .inl h
      · rcases Nat.lt_or_ge z (N2 + 4) with h' | h'
        · exfalso
          obtain ⟨up, top, nxt, ⟨es, cc, e1, _⟩, ⟨fs, fc, f1, _⟩, _, _⟩ := Y4.jn
          rcases (show z = N2 ∨ z = N2 + 1 ∨ z = N2 + 2 ∨ z = N2 + 3 by omega) with rfl | rfl | rfl | rfl
          · rw [nxt] at hg; cases hg; rcases hty with h | h | h | h | h <;> cases h
          · rw [e1] at hg; cases hg
          · rw [f1] at hg; cases hg
          · rw [top] at hg; cases hg; rcases hty with h | h | h | h | h <;> cases h
        · exact .inr h'
  refine refr [(65, _), (0, _), (2, _), (3, _), (9, _), (10, _), (13, _), (14, _), (15, _), (16, _)] ⟨sel_of rfl, sel_of rfl, sel_of rfl, sel_of rfl, sel_of rfl, sel_of rfl, sel_of rfl, sel_of rfl, sel_of rfl, sel_of rfl, trivial⟩ fun _ => ?_
  refine gg ?_
  have n04 : h0.next ≤ h4.next := by omega
  have wql1 := W.ql
  have ob : o.block < h0.next := hr.2.1
  have hr9 : Row h9 1 (some o) d.length (u8s d) := rowG hr (by omega) fun q hq => by
    cases hq
    rw [old o.block (by omega) (by omega) (by omega) (by omega) (by omega), f4 o.block (by omega) (by simp only [List.map_cons, List.map_nil, List.mem_cons, List.not_mem_nil, or_false]; omega) (by omega), low3 o.block (by omega) (by omega) (by omega) (fun q hq => nomatch hq), k2.get _ (by omega), kW.get _ ob]
  have rowd : Row h9 1 (some ⟨kd, 0, some 1⟩) 1 [.int .u32 (a : Int)] := ⟨rfl, by show kd < h9.next; omega, .inr rfl, loadN_all gkd' rfl⟩
  have ldd : load1 h9.get ⟨k3, 0 + 0 * 12 + 8, some 0⟩ = some (.slice (some ⟨kd, 0, some 1⟩) 1 1) := (load1_own gk3').trans (by rfl)
  refine i_idx (i := 0) (by exact sel_of rfl) (row3 k1 _ gk1' (by omega)) (by exact const_of) (by decide) fun q hq => ?_
  cases hq
  refine gg ?_
  refine i_load1 (v := .slice none 0 0) (by exact sel_of rfl) ((load1_own gk1').trans (by rfl)) ?_
  refine refr [(89, _), (85, _), (0, _), (2, _), (3, _), (10, _), (16, _), (17, _)] ⟨sel_of rfl, sel_of rfl, sel_of rfl, sel_of rfl, sel_of rfl, sel_of rfl, sel_of rfl, sel_of rfl, trivial⟩ fun _ => ?_
  refine gg ?_
  refine i_idx (i := 0) (by exact sel_of rfl) (row3 k3 _ gk3' (by omega)) (by exact const_of) (by decide) fun q hq => ?_
  cases hq
  refine gg ?_
  refine i_load1 (v := .slice (some ⟨kd, 0, some 1⟩) 1 1) (by exact sel_of rfl) ldd ?_
  refine refr [(97, _), (93, _), (0, _), (2, _), (3, _), (10, _), (16, _), (17, _)] ⟨sel_of rfl, sel_of rfl, sel_of rfl, sel_of rfl, sel_of rfl, sel_of rfl, sel_of rfl, sel_of rfl, trivial⟩ fun _ => ?_
  refine gg ?_
  refine i_idx (i := 0) (by exact sel_of rfl) (row3 k3 _ gk3' (by omega)) (by exact const_of) (by decide) fun q hq => ?_
  cases hq
  refine gg ?_
  refine i_load1 (v := .slice (some ⟨kd, 0, some 1⟩) 1 1) (by exact sel_of rfl) ldd ?_
  refine refr [(105, _), (101, _), (0, _), (2, _), (3, _), (10, _), (16, _), (17, _)] ⟨sel_of rfl, sel_of rfl, sel_of rfl, sel_of rfl, sel_of rfl, sel_of rfl, sel_of rfl, sel_of rfl, trivial⟩ fun _ => ?_
  refine gg ?_
  refine i_idx (i := 0) (by exact sel_of rfl) rowd (by exact const_of) (by decide) fun q hq => ?_
  cases hq
  refine gg ?_
  refine i_load1 (v := .int .u32 (a : Int)) (by exact sel_of rfl) ((load1_own gkd').trans (by rfl)) ?_
  refine refr [(107, _), (101, _), (0, _), (2, _), (3, _), (10, _), (16, _), (17, _)] ⟨sel_of rfl, sel_of rfl, sel_of rfl, sel_of rfl, sel_of rfl, sel_of rfl, sel_of rfl, sel_of rfl, trivial⟩ fun _ => ?_
  refine gg ?_
  refine i_idx (i := 0) (by exact sel_of rfl) rcs (by exact const_of) (by show 0 < 1; decide) fun q hq => ?_
  subst hq
  refine gg ?_
  refine i_load1 (v := .slice om d.length cap) (by exact sel_of rfl) ((rcs.cell (i := 3) (by show 3 < 4; decide) _).trans (by rfl)) ?_
  refine refr [(120, _), (116, _), (2, _), (3, _), (10, _), (16, _)] ⟨sel_of rfl, sel_of rfl, sel_of rfl, sel_of rfl, sel_of rfl, sel_of rfl, trivial⟩ fun _ => ?_
  refine gg ?_
  refine i_v (v := .string ⟨d.toArray⟩) (rom.str (by exact sel_of rfl)) ?_
  refine gg ?_
  refine i_v (v := .string ⟨d.toArray⟩) (hr9.str (by exact sel_of rfl)) ?_
  refine gg ?_
  rw [decide_eq_true (rfl : d = d)]
  refine gg ?_
  refine i_idx (i := 0) (by exact sel_of rfl) (row3 k3 _ gk3' (by omega)) (by exact const_of) (by decide) fun q hq => ?_
  cases hq
  refine gg ?_
  refine i_loadN (v := sackv a d.length (.slice (some ⟨kd, 0, some 1⟩) 1 1)) (by exact sel_of rfl) (loadN_all gk3' rfl) ?_
  refine gg ?_
  refine i_call3 (by exact sel_of rfl) (by exact sel_of rfl) (by exact sel_of rfl) (w_hearS (R := fun r h' => r = .int .i64 0 ∧ h'.get X = some (.cells 79 (xvz Q (65536 - d.length) sb 4 S (N + 3)) (.own false)) ∧ ∃ o, h'.get Q = some (.cells 93 [.slice o 0 0, .int .u32 (((a + 1) % 4294967296 : Nat) : Int)] (.own false))) (by omega) (fun g m hk hm => w_sack (que9.keeps hk) ((hk.get X (by omega)).trans X9) (by have := hk.next; omega) rfl (by show e.sent + 1 = 1; rw [e1]) rfl (tmI_b now) (by unfold floorN; omega) (by omega) (by omega)) (by omega)) ?_
  rintro _ h10 ⟨rfl, X10, o3, q10⟩
  refine gg ?_
  refine i_call1 (by exact sel_of rfl) (w_idle X10 rfl rfl q10 (by omega)) ?_
  rintro _ _ ⟨rfl, rfl⟩
  refine gg ?_
  rfl
end Go.Proofs.YtmlagbknnngjjaaGreat

