/-
  The law PacketPorts holds for every input: a packet's ports, tag and one chunk's kind come back from its octets; a packet of no chunk is none.
  No condition.
-/
import Derived.Test.YtdcllpjoejkpnaaRows
import Derived.Test.YtdcllpjoejkpnaaOct
import Derived.Test.YtdcllpjoejkpnaaPpL
set_option linter.unusedVariables false
namespace Go.Proofs.Ytdcllpjoejkpnaa
open Go Vm Go.ChangeShapes Go.WideShapes Go.ChangeAt Go.RowKit
set_option maxRecDepth 100000 in
theorem packetPorts_lifted (os : Os) (started : os.Started) (H : Type) (enc : TypeId × Value → H) :
    ReturnsInHanded {} Try.checked os 9 .any (Rows.packetPortsSpec.pre6 enc Try.prog Try.f9 Rows.packetPortsRow.domain false) (Rows.packetPortsSpec.post enc Try.prog Try.f9 false true false false) := by
  refine lift_law (C := Try.checked) (tb := 4) own started (by kernel_rfl) Try.func9
    (ChangeSpec.witness6 (enc := enc) (C := Try.checked) false ⟨#[], #[.int .u16 0, .int .u16 0, .int .u32 0, .int .u8 0], []⟩ 8 (by kernel_rfl) (by kernel_rfl) (by kernel_rfl) (by kernel_rfl))
    laidOut (by kernel_rfl) rfl (by kernel_rfl) (by kernel_rfl) ?_ ?_
  · intro ds hl
    match ds, hl with
    | [d1, d2, d3, d4], _ => exact ⟨rfl, rfl, rfl⟩
  · intro W base args ds ps hv hT hsz hH
    refine law_call (fn := Try.f9) mixed [.int .u16, .int .u16, .int .u32, .int .u8] (by kernel_rfl) hH hv hT (sumsAwake _) ?_
    · intro h us r
      match us, r with
      | [u1, u2, u3, u4], ⟨r1, r2, r3, r4, _⟩ =>
        obtain ⟨a, rfl, ha⟩ := r1.u16
        obtain ⟨b, rfl, hb⟩ := r2.u16
        obtain ⟨tg, rfl, ht⟩ := r3.u32
        obtain ⟨k, rfl, hk⟩ := r4.u8
        exact ⟨103000, w_lports ha hb ht hk 103000 (by omega)⟩
theorem packetPorts_over : Rows.packetPortsRow.holds Try.pinned (OpenSpec.ofChange Rows.packetPortsSpec) :=
  OpenClaim.holds_of_wide 9 Try.f9 rfl rfl rfl rfl rfl rfl rfl ⟨rfl, rfl, rfl, rfl, rfl⟩ rfl rfl rfl rfl rfl (by kernel_rfl) Try.func9 (by kernel_rfl)
    (of_decide_eq_true (by kernel_rfl)) (by unfold Func.isWrapper; first | (rw [if_pos (by decide +kernel)]; kernel_rfl) | (rw [if_neg (by decide +kernel)]; exact ⟨rfl, rfl⟩))
    (fun os started H enc _ => packetPorts_lifted os started H enc)
theorem packetPorts_holds : Rows.PacketPortsSaid := packetPorts_over
end Go.Proofs.Ytdcllpjoejkpnaa
#print axioms Go.Proofs.Ytdcllpjoejkpnaa.packetPorts_holds

