/- Part of a proof by an abstract run of the program's code: SPgL. No condition. -/
import Derived.Test.YtdcllpjoejkpnaaSPkS
import Derived.Test.YtdcllpjoejkpnaaSPkR
/-! The law PacketBundles, walked. -/
set_option linter.unusedVariables false
namespace Go.Proofs.Ytdcllpjoejkpnaa
open Go Vm
theorem bunL_in {l : List Chk} {z : List Chk} (hz : z ∈ bunL l) : (∀ x ∈ z, x ∈ l) ∧ z.length ≤ l.length := by
  by_cases he0 : bunE l = 0
  · rw [bunL, if_pos he0] at hz
    have hj : (bun l).flatten = l := bunF_join _ l (Nat.le_refl _)
    refine ⟨fun x hx => by rw [← hj]; exact List.mem_flatten.2 ⟨z, hz, hx⟩, ?_⟩
    have := (List.sublist_flatten_of_mem hz).length_le
    rw [hj] at this
    exact this
  · rw [bunL, if_neg he0] at hz
    cases hz
theorem bunF_lenB : ∀ (f : Nat) (l : List Chk), (bunF f l).length ≤ f
  | 0, l => Nat.le_refl _
  | f + 1, l => by
    rw [bunF]
    split
    · exact Nat.zero_le _
    · rw [List.length_cons]; exact Nat.succ_le_succ (bunF_lenB f _)
set_option maxHeartbeats 4000000 in
theorem w_lbundles {h : Heap} {o : Option Addr} {c : Nat} {l : List Chk} {els : List (List Value)} (hr : Row h 12 o l.length els.flatten) (he : ChE h l els) (hok : ∀ x ∈ l, x.Ok) (hc : l.length ≤ c) (n : Nat) (hn : 104000 ≤ n) :
    ResQ (callN Try.prog G0 n (.call 4 [.slice o l.length c]) h) (fun u h' => u = .bool true) := by
  obtain ⟨n, rfl⟩ : ∃ m, n = m + 1 := ⟨n - 1, by omega⟩
  refine res_enter rfl d4 rfl ?_; simp only [c4]
  refine gg ?_
  refine i_call0 (w_awake h n (by omega)) ?_
  rintro _ _ ⟨rfl, rfl⟩
  refine gg ?_
  refine i_call1 (by exact sel_of rfl) (w_pfew hr he n (by omega)) ?_
  rintro _ h1 ⟨rfl, k1⟩
  by_cases hf : fewL l
  case neg =>
    rw [decide_eq_false hf]
    refine gg ?_
    rfl
  rw [decide_eq_true hf]
  have h80 := hf.1
  refine gg ?_
  refine i_call1 (by exact sel_of rfl) (w_bundle (hr.keeps k1) (he.keeps k1) hc (by omega) n (by omega)) ?_
  rintro _ h2 ⟨k2, oa, m, rfl, G, cs, ra, al, hG, rfl⟩
  refine gg ?_
  refine i_call1 (by exact sel_of rfl) (w_rbundle ((hr.keeps k1).keeps k2) ((he.keeps k1).keeps k2) hok hf n (by omega)) ?_
  rintro _ h3 ⟨k3, ob, m, rfl, H, ds, rb, bl, hH, rfl⟩
  have hlen : H.length = G.length := by
    have e1 := congrArg List.length hG
    have e2 := congrArg List.length hH
    rw [List.length_map] at e1 e2
    omega
  have hlt : G.length ≤ 80 := by
    have e1 := congrArg List.length hG
    rw [List.length_map] at e1
    by_cases he0 : bunE l = 0
    · rw [bunL, if_pos he0] at e1
      have := bunF_lenB l.length l
      rw [e1]; exact Nat.le_trans this h80
    · rw [bunL, if_neg he0] at e1
      rw [e1]; exact Nat.zero_le _
  rw [hlen]
  have hE : (bunE l : Nat) = 0 ∨ bunE l = 1 ∨ bunE l = 10 := by
    rw [bunE]
    split
    · exact .inr (.inl rfl)
    · split
      · exact .inr (.inr rfl)
      · exact .inl rfl
  generalize bunE l = E at hE ⊢
  refine gg ?_
  refine o_up G.length (fun i f h' => Sl [(8, .int .i64 (i : Int)), (4, .slice oa G.length G.length), (6, .slice ob G.length G.length), (3, .bool true)] f ∧ Keeps h3 h') (by omega) ?_ ?_
  · exact ⟨⟨sel_of rfl, sel_of rfl, sel_of rfl, sel_of rfl, trivial⟩, Keeps.refl _⟩
  rintro i f h' hi ⟨hs, k⟩
  obtain ⟨f0, rfl⟩ := hs.puts
  simp only [c4_0]
  refine gg ?_
  refine out_if (by exact sel_of rfl) (fun hif => ?_) (fun hif => ?_)
  · obtain ⟨g, hg⟩ : ∃ g, G[i]? = some g := ⟨_, List.getElem?_eq_getElem (by omega)⟩
    obtain ⟨g', hg'⟩ : ∃ g', H[i]? = some g' := ⟨_, List.getElem?_eq_getElem (by omega)⟩
    have hcl := al.1
    have hdl := bl.1
    obtain ⟨v, hv⟩ : ∃ v, cs[i]? = some v := ⟨_, List.getElem?_eq_getElem (by omega)⟩
    obtain ⟨v', hv'⟩ : ∃ v', ds[i]? = some v' := ⟨_, List.getElem?_eq_getElem (by omega)⟩
    obtain ⟨q, rfl, rq, eq⟩ := al.2 i g v hg hv
    obtain ⟨q', rfl, rq', eq'⟩ := bl.2 i g' v' hg' hv'
    have e1 : (bunL l)[i]? = some g.1 := by rw [← hG, List.getElem?_map, hg]; rfl
    have e2 : (bunL l)[i]? = some g'.1 := by rw [← hH, List.getElem?_map, hg']; rfl
    have e12 : g.1 = g'.1 := by rw [e1] at e2; exact Option.some.inj e2
    obtain ⟨hin, hle⟩ := bunL_in (List.mem_of_getElem? e1)
    have ra' := (ra.keeps k3).keeps k
    have rb' := rb.keeps k
    rw [hlen] at rb'
    refine gg ?_
    refine i_idx (by exact sel_of rfl) ra' (i := i) (by exact sel_of rfl) (by omega) fun u hu => ?_
    cases hu
    refine i_load1 (v := .slice (some q) g.1.length g.1.length) (by exact sel_of rfl) (by rw [ra'.cell (by omega), Nat.mul_one, hv]) ?_
    refine gg ?_
    refine i_idx (by exact sel_of rfl) rb' (i := i) (by exact sel_of rfl) (by omega) fun u hu => ?_
    cases hu
    refine i_load1 (v := .slice (some q') g'.1.length g'.1.length) (by exact sel_of rfl) (by rw [rb'.cell (by omega), Nat.mul_one, hv']) ?_
    refine i_call2 (by exact sel_of rfl) (by exact sel_of rfl) (w_schunks ((rq.keeps k3).keeps k) ((eq.keeps k3).keeps k) (rq'.keeps k) (eq'.keeps k) (fun x hx => hf.2 x (hin x hx)) (by omega) n (by omega)) ?_
    rintro _ h5 ⟨rfl, k5⟩
    rw [decide_eq_true e12]
    refine gg ?_
    exact rnd_up (by omega) ⟨⟨sel_of rfl, sel_of rfl, sel_of rfl, sel_of rfl, trivial⟩, k.trans k5⟩
  · refine gg ?_
    rfl
end Go.Proofs.Ytdcllpjoejkpnaa

