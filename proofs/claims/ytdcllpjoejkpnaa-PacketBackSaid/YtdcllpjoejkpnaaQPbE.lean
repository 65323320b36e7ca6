/-
  The law PacketBack holds for every input: a packet that has octets comes back from them the same.
  No condition.
-/
import Derived.Test.YtdcllpjoejkpnaaRows
import Derived.Test.YtdcllpjoejkpnaaQOct
import Derived.Test.YtdcllpjoejkpnaaQPkA
import Derived.Test.YtdcllpjoejkpnaaQPbL
set_option linter.unusedVariables false
namespace Go.Proofs.Ytdcllpjoejkpnaa
open Go Vm Go.ChangeShapes Go.WideShapes Go.ChangeAt Go.RowKit
set_option maxRecDepth 100000 in
theorem packetBack_lifted (os : Os) (started : os.Started) (H : Type) (enc : TypeId × Value → H) :
    ReturnsInHanded {} Try.checked os 5 .any (Rows.packetBackSpec.pre6 enc Try.prog Try.f5 Rows.packetBackRow.domain false) (Rows.packetBackSpec.post enc Try.prog Try.f5 false true false false) := by
  refine lift_law (C := Try.checked) (tb := 4) own started (by kernel_rfl) Try.func5
    (ChangeSpec.witness6 (enc := enc) (C := Try.checked) false ⟨#[], #[.agg #[.int .u16 0, .int .u16 0, .int .u32 0, .slice none 0 0]], []⟩ 8 (by kernel_rfl) (by kernel_rfl) (by kernel_rfl) (by kernel_rfl))
    laidOut (by kernel_rfl) rfl (by kernel_rfl) (by kernel_rfl) ?_ ?_
  · intro ds hl
    match ds, hl with
    | [d1], _ => exact ⟨rfl, rfl, rfl⟩
  · intro W base args ds ps hv hT hsz hH
    refine law_call (fn := Try.f5) mixed [PTpk] (by kernel_rfl) hH hv hT (sumsAwake _) ?_
    · intro h us r
      match us, r with
      | [u1], ⟨r1, _⟩ =>
        obtain ⟨p, pv, rfl, hp, hpb, hall⟩ := repV_pk r1
        exact ⟨103000, w_lpback hp hpb hall 103000 (by omega)⟩
theorem packetBack_over : Rows.packetBackRow.holds Try.pinned (OpenSpec.ofChange Rows.packetBackSpec) :=
  OpenClaim.holds_of_wide 5 Try.f5 rfl rfl rfl rfl rfl rfl rfl ⟨rfl, rfl, rfl, rfl, rfl⟩ rfl rfl rfl rfl rfl (by kernel_rfl) Try.func5 (by kernel_rfl)
    (of_decide_eq_true (by kernel_rfl)) (by unfold Func.isWrapper; first | (rw [if_pos (by decide +kernel)]; kernel_rfl) | (rw [if_neg (by decide +kernel)]; exact ⟨rfl, rfl⟩))
    (fun os started H enc _ => packetBack_lifted os started H enc)
theorem packetBack_holds : Rows.PacketBackSaid := packetBack_over
end Go.Proofs.Ytdcllpjoejkpnaa
#print axioms Go.Proofs.Ytdcllpjoejkpnaa.packetBack_holds

