/- FrameEncodes is proved: for every input the law returns true and its arguments read as before.  No condition. -/
import Derived.Test.YtdhlibkdcldioaaGreatFk3
import Derived.Test.YtdhlibkdcldioaaGreatRows
import Derived.WalkKit
import Derived.ProofKit
import Derived.OpenShut
set_option linter.unusedSimpArgs false
set_option linter.unusedVariables false
namespace Go.Proofs.YtdhlibkdcldioaaGreat.frameEncodes
open Gx Go Go.ChangeShapes Go.WideShapes Go.ChangeAt Go.RowKit

theorem own : ownKnob Tryz.prog.godebug = none := by kernel_rfl
theorem laid : laidOutB Tryz.prog = true := by kernel_rfl

set_option maxRecDepth 100000 in
theorem lifted (os : Os) (started : os.Started) (H : Type) (enc : TypeId × Value → H) :
    ReturnsInHanded {} Tryz.checked os 5 .any (Rows.frameEncodesSpec.pre6 enc Tryz.prog Tryz.f5 Rows.frameEncodesRow.domain false) (Rows.frameEncodesSpec.post enc Tryz.prog Tryz.f5 false true false false) := by
  refine law_row (C := Tryz.checked) (tb := 4) own started (by kernel_rfl) Tryz.func5 laid (by kernel_rfl) rfl Tryz.underlying4 rfl ?_
    (ChangeSpec.witness6 (enc := enc) (C := Tryz.checked) false ⟨#[], #[.agg #[.int .i64 0, .int .i64 0, .int .i64 0, .int .i64 0, .int .i64 0, .int .i64 0, .slice none 0 0, .slice none 0 0, .slice none 0 0, .slice none 0 0, .slice none 0 0, .slice none 0 0, .slice none 0 0, .int .i64 0, .slice none 0 0]], []⟩ 8 (by kernel_rfl) (by kernel_rfl) (by kernel_rfl) (by kernel_rfl)) ?_
  · intro K ds hd
    rw [show Tryz.f5.params.size = 1 from rfl] at hd
    match ds, hd with
    | [d0], _ => rfl
  · intro W base args ds ps hval hA
    obtain ⟨v0, rfl, h0⟩ := args1 (fn := Tryz.f5) (P := Tryz.prog) rfl hval hA
    obtain ⟨m, ⟨cs⟩, rfl, hm⟩ := h0.agg opens_msg Tryz.underlying39
    exact encodes_law hm.1 hm.2

theorem over : Rows.frameEncodesRow.holds Tryz.pinned (OpenSpec.ofChange Rows.frameEncodesSpec) :=
  OpenClaim.holds_of_wide 5 Tryz.f5 rfl rfl rfl rfl rfl rfl rfl ⟨rfl, rfl, rfl, rfl, rfl⟩ rfl rfl rfl rfl rfl (by kernel_rfl) Tryz.func5 (by kernel_rfl)
    (of_decide_eq_true (by kernel_rfl)) (by unfold Func.isWrapper; first | (rw [if_pos (by decide +kernel)]; kernel_rfl) | (rw [if_neg (by decide +kernel)]; exact ⟨rfl, rfl⟩))
    (fun os started H enc _ => lifted os started H enc)

/-- The statement. -/
theorem proved : Rows.FrameEncodesSaid :=
  over
#print axioms proved
end Go.Proofs.YtdhlibkdcldioaaGreat.frameEncodes
