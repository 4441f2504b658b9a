/- FrameSum is proved: for every input the law returns true and its arguments read as before.  No condition. -/
import Derived.Test.YtdhlibkdcldioaaGreatFl1
import Derived.Test.YtdhlibkdcldioaaGreatGx14
import Derived.Test.YtdhlibkdcldioaaGreatRows
import Derived.WalkKit
import Derived.ProofKit
import Derived.OpenShut
set_option linter.unusedSimpArgs false
set_option linter.unusedVariables false
namespace Go.Proofs.YtdhlibkdcldioaaGreat.frameSum
open Gx Go Go.ChangeShapes Go.WideShapes Go.ChangeAt Go.RowKit

theorem own : ownKnob Tryz.prog.godebug = none := by kernel_rfl
theorem laid : laidOutB Tryz.prog = true := by kernel_rfl

set_option maxRecDepth 100000 in
theorem lifted (os : Os) (started : os.Started) (H : Type) (enc : TypeId × Value → H) :
    ReturnsInHanded {} Tryz.checked os 3 .any (Rows.frameSumSpec.pre6 enc Tryz.prog Tryz.f3 Rows.frameSumRow.domain false) (Rows.frameSumSpec.post enc Tryz.prog Tryz.f3 false true false false) := by
  refine law_row (C := Tryz.checked) (tb := 4) own started (by kernel_rfl) Tryz.func3 laid (by kernel_rfl) rfl Tryz.underlying4 rfl ?_
    (ChangeSpec.witness6 (enc := enc) (C := Tryz.checked) false ⟨#[], #[.slice none 0 0], []⟩ 8 (by kernel_rfl) (by kernel_rfl) (by kernel_rfl) (by kernel_rfl)) ?_
  · intro K ds hd
    rw [show Tryz.f3.params.size = 1 from rfl] at hd
    match ds, hd with
    | [d0], _ => rfl
  · intro W base args ds ps hval hA
    obtain ⟨v0, rfl, h0⟩ := args1 (fn := Tryz.f3) (P := Tryz.prog) rfl hval hA
    obtain ⟨l0, hl0⟩ := h0.one (opens_bytes Tryz.underlying22 (by kernel_rfl) (by kernel_rfl)) (by kernel_rfl)
    obtain ⟨a0, c0, e0, hc0, hm0, hb0⟩ := hl0
    simp only [List.cons.injEq, and_true] at e0
    subst e0
    exact sum_law hb0 hc0 hm0

theorem over : Rows.frameSumRow.holds Tryz.pinned (OpenSpec.ofChange Rows.frameSumSpec) :=
  OpenClaim.holds_of_wide 3 Tryz.f3 rfl rfl rfl rfl rfl rfl rfl ⟨rfl, rfl, rfl, rfl, rfl⟩ rfl rfl rfl rfl rfl (by kernel_rfl) Tryz.func3 (by kernel_rfl)
    (of_decide_eq_true (by kernel_rfl)) (by unfold Func.isWrapper; first | (rw [if_pos (by decide +kernel)]; kernel_rfl) | (rw [if_neg (by decide +kernel)]; exact ⟨rfl, rfl⟩))
    (fun os started H enc _ => lifted os started H enc)

/-- The statement. -/
theorem proved : Rows.FrameSumSaid :=
  over
#print axioms proved
end Go.Proofs.YtdhlibkdcldioaaGreat.frameSum
