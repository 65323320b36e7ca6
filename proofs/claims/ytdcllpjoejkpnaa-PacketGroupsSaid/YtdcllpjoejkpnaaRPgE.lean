/-
  The law PacketGroups holds for every input: chunks in groups fit a packet each, in their order; no group could have had the next one's first chunk.
  No condition.
-/
import Derived.Test.YtdcllpjoejkpnaaRows
import Derived.Test.YtdcllpjoejkpnaaROct
import Derived.Test.YtdcllpjoejkpnaaRPkA
import Derived.Test.YtdcllpjoejkpnaaRPgL
set_option linter.unusedVariables false
namespace Go.Proofs.Ytdcllpjoejkpnaa
open Go Vm Go.ChangeShapes Go.WideShapes Go.ChangeAt Go.RowKit
set_option maxRecDepth 100000 in
theorem packetGroups_lifted (os : Os) (started : os.Started) (H : Type) (enc : TypeId × Value → H) :
    ReturnsInHanded {} Try.checked os 7 .any (Rows.packetGroupsSpec.pre6 enc Try.prog Try.f7 Rows.packetGroupsRow.domain false) (Rows.packetGroupsSpec.post enc Try.prog Try.f7 false true false false) := by
  refine lift_law (C := Try.checked) (tb := 4) own started (by kernel_rfl) Try.func7
    (ChangeSpec.witness6 (enc := enc) (C := Try.checked) false ⟨#[], #[.slice none 0 0], []⟩ 8 (by kernel_rfl) (by kernel_rfl) (by kernel_rfl) (by kernel_rfl))
    laidOut (by kernel_rfl) rfl (by kernel_rfl) (by kernel_rfl) ?_ ?_
  · intro ds hl
    match ds, hl with
    | [d1], _ => exact ⟨rfl, rfl, rfl⟩
  · intro W base args ds ps hv hT hsz hH
    refine law_call (fn := Try.f7) mixed [.slice PTc] (by kernel_rfl) hH hv hT (sumsAwake _) ?_
    · intro h us r
      match us, r with
      | [u1], ⟨r1, _⟩ =>
        obtain ⟨o, m, c, l, els, rfl, hr, hl, he, _, hc⟩ := RepV.chunks r1
        subst hl
        exact ⟨104000, w_lgroups hr he hc 104000 (by omega)⟩
theorem packetGroups_over : Rows.packetGroupsRow.holds Try.pinned (OpenSpec.ofChange Rows.packetGroupsSpec) :=
  OpenClaim.holds_of_wide 7 Try.f7 rfl rfl rfl rfl rfl rfl rfl ⟨rfl, rfl, rfl, rfl, rfl⟩ rfl rfl rfl rfl rfl (by kernel_rfl) Try.func7 (by kernel_rfl)
    (of_decide_eq_true (by kernel_rfl)) (by unfold Func.isWrapper; first | (rw [if_pos (by decide +kernel)]; kernel_rfl) | (rw [if_neg (by decide +kernel)]; exact ⟨rfl, rfl⟩))
    (fun os started H enc _ => packetGroups_lifted os started H enc)
theorem packetGroups_holds : Rows.PacketGroupsSaid := packetGroups_over
end Go.Proofs.Ytdcllpjoejkpnaa
#print axioms Go.Proofs.Ytdcllpjoejkpnaa.packetGroups_holds

