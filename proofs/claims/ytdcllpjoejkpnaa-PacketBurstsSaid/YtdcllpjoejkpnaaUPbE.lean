/-
  The law PacketBursts holds for every input: a packet of which four neighbouring octets, all ahead of the checksum, all of it, or all behind it, are turned is told as one whose checksum does not fit.
  No condition.
-/
import Derived.Test.YtdcllpjoejkpnaaRows
import Derived.Test.YtdcllpjoejkpnaaUOct
import Derived.Test.YtdcllpjoejkpnaaUPkA
import Derived.Test.YtdcllpjoejkpnaaUPbL
set_option linter.unusedVariables false
namespace Go.Proofs.Ytdcllpjoejkpnaa
open Go Vm Go.ChangeShapes Go.WideShapes Go.ChangeAt Go.RowKit
set_option maxRecDepth 100000 in
theorem packetBursts_lifted (os : Os) (started : os.Started) (H : Type) (enc : TypeId × Value → H) :
    ReturnsInHanded {} Try.checked os 6 .any (Rows.packetBurstsSpec.pre6 enc Try.prog Try.f6 Rows.packetBurstsRow.domain false) (Rows.packetBurstsSpec.post enc Try.prog Try.f6 false true false false) := by
  refine lift_law (C := Try.checked) (tb := 4) own started (by kernel_rfl) Try.func6
    (ChangeSpec.witness6 (enc := enc) (C := Try.checked) false ⟨#[], #[.agg #[.int .u16 0, .int .u16 0, .int .u32 0, .slice none 0 0], .int .i64 0, .int .u32 0], []⟩ 8 (by kernel_rfl) (by kernel_rfl) (by kernel_rfl) (by kernel_rfl))
    laidOut (by kernel_rfl) rfl (by kernel_rfl) (by kernel_rfl) ?_ ?_
  · intro ds hl
    match ds, hl with
    | [d1, d2, d3], _ => exact ⟨rfl, rfl, rfl⟩
  · intro W base args ds ps hv hT hsz hH
    refine law_call (fn := Try.f6) mixed [PTpk, .int .i64, .int .u32] (by kernel_rfl) hH hv hT (sumsAwake _) ?_
    · intro h us r
      match us, r with
      | [u1, u2, u3], ⟨r1, r2, r3, _⟩ =>
        obtain ⟨p, pv, rfl, hp, hpb, hall⟩ := repV_pk r1
        obtain ⟨a, rfl, _, _⟩ := r2.i64
        obtain ⟨y, rfl, hy⟩ := r3.u32
        exact ⟨103000, w_lbursts hp hpb hy 103000 (by omega)⟩
theorem packetBursts_over : Rows.packetBurstsRow.holds Try.pinned (OpenSpec.ofChange Rows.packetBurstsSpec) :=
  OpenClaim.holds_of_wide 6 Try.f6 rfl rfl rfl rfl rfl rfl rfl ⟨rfl, rfl, rfl, rfl, rfl⟩ rfl rfl rfl rfl rfl (by kernel_rfl) Try.func6 (by kernel_rfl)
    (of_decide_eq_true (by kernel_rfl)) (by unfold Func.isWrapper; first | (rw [if_pos (by decide +kernel)]; kernel_rfl) | (rw [if_neg (by decide +kernel)]; exact ⟨rfl, rfl⟩))
    (fun os started H enc _ => packetBursts_lifted os started H enc)
theorem packetBursts_holds : Rows.PacketBurstsSaid := packetBursts_over
end Go.Proofs.Ytdcllpjoejkpnaa
#print axioms Go.Proofs.Ytdcllpjoejkpnaa.packetBursts_holds

