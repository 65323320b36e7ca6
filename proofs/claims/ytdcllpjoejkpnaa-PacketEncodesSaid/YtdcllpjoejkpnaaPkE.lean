/-
  The law PacketEncodes holds for every input: any packet's octets, by any table, or why there are none, is what the document says; so is each chunk's size, and whether it stands alone.
  No condition.
-/
import Derived.Test.YtdcllpjoejkpnaaRows
import Derived.Test.YtdcllpjoejkpnaaOct
import Derived.Test.YtdcllpjoejkpnaaPkA
import Derived.Test.YtdcllpjoejkpnaaPkL
set_option linter.unusedVariables false
namespace Go.Proofs.Ytdcllpjoejkpnaa
open Go Vm Go.ChangeShapes Go.WideShapes Go.ChangeAt Go.RowKit
set_option maxRecDepth 100000 in
theorem packetEncodes_lifted (os : Os) (started : os.Started) (H : Type) (enc : TypeId × Value → H) :
    ReturnsInHanded {} Try.checked os 3 .any (Rows.packetEncodesSpec.pre6 enc Try.prog Try.f3 Rows.packetEncodesRow.domain false) (Rows.packetEncodesSpec.post enc Try.prog Try.f3 false true false false) := by
  refine lift_law (C := Try.checked) (tb := 4) own started (by kernel_rfl) Try.func3
    (ChangeSpec.witness6 (enc := enc) (C := Try.checked) false ⟨#[], #[.slice none 0 0, .agg #[.int .u16 0, .int .u16 0, .int .u32 0, .slice none 0 0], .agg #[.int .u8 0, .int .u8 0, .int .u32 0, .int .u32 0, .int .u16 0, .int .u16 0, .int .u32 0, .slice none 0 0, .slice none 0 0, .slice none 0 0, .slice none 0 0, .slice none 0 0]], []⟩ 8 (by kernel_rfl) (by kernel_rfl) (by kernel_rfl) (by kernel_rfl))
    laidOut (by kernel_rfl) rfl (by kernel_rfl) (by kernel_rfl) ?_ ?_
  · intro ds hl
    match ds, hl with
    | [d1, d2, d3], _ => exact ⟨rfl, rfl, rfl⟩
  · intro W base args ds ps hv hT hsz hH
    refine law_call (fn := Try.f3) mixed [.slice (.int .u32), PTpk, PTc] (by kernel_rfl) hH hv hT (sumsAwake _) ?_
    · intro h us r
      match us, r with
      | [u1, u2, u3], ⟨r1, r2, r3, _⟩ =>
        obtain ⟨ot, ct, t, rfl, ht, _, hb⟩ := r1.u32s
        obtain ⟨p, pv, rfl, hp, hpb, hall⟩ := repV_pk r2
        obtain ⟨c, cs, rfl, hc, ho⟩ := repV_chunk r3
        exact ⟨102000, w_lpenc ht hb hp ⟨hpb.1, hpb.2.1⟩ hall hc ho 102000 (by omega)⟩
theorem packetEncodes_over : Rows.packetEncodesRow.holds Try.pinned (OpenSpec.ofChange Rows.packetEncodesSpec) :=
  OpenClaim.holds_of_wide 3 Try.f3 rfl rfl rfl rfl rfl rfl rfl ⟨rfl, rfl, rfl, rfl, rfl⟩ rfl rfl rfl rfl rfl (by kernel_rfl) Try.func3 (by kernel_rfl)
    (of_decide_eq_true (by kernel_rfl)) (by unfold Func.isWrapper; first | (rw [if_pos (by decide +kernel)]; kernel_rfl) | (rw [if_neg (by decide +kernel)]; exact ⟨rfl, rfl⟩))
    (fun os started H enc _ => packetEncodes_lifted os started H enc)
theorem packetEncodes_holds : Rows.PacketEncodesSaid := packetEncodes_over
end Go.Proofs.Ytdcllpjoejkpnaa
#print axioms Go.Proofs.Ytdcllpjoejkpnaa.packetEncodes_holds

