/- FrameEqual is proved: for every input the law returns true and its arguments read as before.  No condition. -/
import Derived.Test.YtdhlibkdcldioaaGreatFk5
import Derived.Test.YtdhlibkdcldioaaGreatRows
import Derived.WalkKit
import Derived.ProofKit
import Derived.OpenShut
set_option linter.unusedSimpArgs false
set_option linter.unusedVariables false
namespace Go.Proofs.YtdhlibkdcldioaaGreat.frameEqual
open Gx Go Go.ChangeShapes Go.WideShapes Go.ChangeAt Go.RowKit

theorem own : ownKnob Tryz.prog.godebug = none := by kernel_rfl
theorem laid : laidOutB Tryz.prog = true := by kernel_rfl

set_option maxRecDepth 100000 in
theorem lifted (os : Os) (started : os.Started) (H : Type) (enc : TypeId × Value → H) :
    ReturnsInHanded {} Tryz.checked os 7 .any (Rows.frameEqualSpec.pre6 enc Tryz.prog Tryz.f7 Rows.frameEqualRow.domain false) (Rows.frameEqualSpec.post enc Tryz.prog Tryz.f7 false true false false) := by
  refine law_row (C := Tryz.checked) (tb := 4) own started (by kernel_rfl) Tryz.func7 laid (by kernel_rfl) rfl Tryz.underlying4 rfl ?_
    (ChangeSpec.witness6 (enc := enc) (C := Tryz.checked) false ⟨#[], #[.agg #[.int .i64 0, .int .i64 0, .int .i64 0, .int .i64 0, .int .i64 0, .int .i64 0, .slice none 0 0, .slice none 0 0, .slice none 0 0, .slice none 0 0, .slice none 0 0, .slice none 0 0, .slice none 0 0, .int .i64 0, .slice none 0 0], .agg #[.int .i64 0, .int .i64 0, .int .i64 0, .int .i64 0, .int .i64 0, .int .i64 0, .slice none 0 0, .slice none 0 0, .slice none 0 0, .slice none 0 0, .slice none 0 0, .slice none 0 0, .slice none 0 0, .int .i64 0, .slice none 0 0]], []⟩ 8 (by kernel_rfl) (by kernel_rfl) (by kernel_rfl) (by kernel_rfl)) ?_
  · intro K ds hd
    rw [show Tryz.f7.params.size = 2 from rfl] at hd
    match ds, hd with
    | [d0, d1], _ => rfl
  · intro W base args ds ps hval hA
    obtain ⟨v0, v1, rfl, h0, h1⟩ := args2 (fn := Tryz.f7) (P := Tryz.prog) rfl hval hA
    obtain ⟨m, ⟨cs⟩, rfl, hm⟩ := h0.agg opens_msg Tryz.underlying39
    obtain ⟨m', ⟨cs'⟩, rfl, hm'⟩ := h1.agg opens_msg Tryz.underlying39
    exact equal_law hm.1 hm'.1 hm.2 hm'.2

theorem over : Rows.frameEqualRow.holds Tryz.pinned (OpenSpec.ofChange Rows.frameEqualSpec) :=
  OpenClaim.holds_of_wide 7 Tryz.f7 rfl rfl rfl rfl rfl rfl rfl ⟨rfl, rfl, rfl, rfl, rfl⟩ rfl rfl rfl rfl rfl (by kernel_rfl) Tryz.func7 (by kernel_rfl)
    (of_decide_eq_true (by kernel_rfl)) (by unfold Func.isWrapper; first | (rw [if_pos (by decide +kernel)]; kernel_rfl) | (rw [if_neg (by decide +kernel)]; exact ⟨rfl, rfl⟩))
    (fun os started H enc _ => lifted os started H enc)

/-- The statement. -/
theorem proved : Rows.FrameEqualSaid :=
  over
#print axioms proved
end Go.Proofs.YtdhlibkdcldioaaGreat.frameEqual
