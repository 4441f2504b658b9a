/- FrameLinear is proved: for every input the law returns true and its arguments read as before.  No condition. -/
import Derived.Test.YtdhlibkdcldioaaGreatFl1
import Derived.Test.YtdhlibkdcldioaaGreatGx14
import Derived.Test.YtdhlibkdcldioaaGreatRows
import Derived.WalkKit
import Derived.ProofKit
import Derived.OpenShut
set_option linter.unusedSimpArgs false
set_option linter.unusedVariables false
namespace Go.Proofs.YtdhlibkdcldioaaGreat.frameLinear
open Gx Go Go.ChangeShapes Go.WideShapes Go.ChangeAt Go.RowKit

theorem own : ownKnob Tryz.prog.godebug = none := by kernel_rfl
theorem laid : laidOutB Tryz.prog = true := by kernel_rfl

set_option maxRecDepth 100000 in
theorem lifted (os : Os) (started : os.Started) (H : Type) (enc : TypeId × Value → H) :
    ReturnsInHanded {} Tryz.checked os 10 .any (Rows.frameLinearSpec.pre6 enc Tryz.prog Tryz.f10 Rows.frameLinearRow.domain false) (Rows.frameLinearSpec.post enc Tryz.prog Tryz.f10 false true false false) := by
  refine law_row (C := Tryz.checked) (tb := 4) own started (by kernel_rfl) Tryz.func10 laid (by kernel_rfl) rfl Tryz.underlying4 rfl ?_
    (ChangeSpec.witness6 (enc := enc) (C := Tryz.checked) false ⟨#[], #[.slice none 0 0, .slice none 0 0, .slice none 0 0], []⟩ 8 (by kernel_rfl) (by kernel_rfl) (by kernel_rfl) (by kernel_rfl)) ?_
  · intro K ds hd
    rw [show Tryz.f10.params.size = 3 from rfl] at hd
    match ds, hd with
    | [d0, d1, d2], _ => rfl
  · intro W base args ds ps hval hA
    obtain ⟨v0, v1, v2, rfl, h0, h1, h2⟩ := args3 (fn := Tryz.f10) (P := Tryz.prog) rfl hval hA
    obtain ⟨l0, hl0⟩ := h0.one (opens_bytes Tryz.underlying22 (by kernel_rfl) (by kernel_rfl)) (by kernel_rfl)
    obtain ⟨a0, c0, e0, hc0, hm0, hb0⟩ := hl0
    simp only [List.cons.injEq, and_true] at e0
    subst e0
    obtain ⟨l1, hl1⟩ := h1.one (opens_bytes Tryz.underlying22 (by kernel_rfl) (by kernel_rfl)) (by kernel_rfl)
    obtain ⟨a1, c1, e1, hc1, hm1, hb1⟩ := hl1
    simp only [List.cons.injEq, and_true] at e1
    subst e1
    obtain ⟨l2, hl2⟩ := h2.one (opens_bytes Tryz.underlying22 (by kernel_rfl) (by kernel_rfl)) (by kernel_rfl)
    obtain ⟨a2, c2, e2, hc2, hm2, hb2⟩ := hl2
    simp only [List.cons.injEq, and_true] at e2
    subst e2
    exact linear_law hb0 hb1 hb2 hc0 hc1 hc2 hm0 hm1 hm2

theorem over : Rows.frameLinearRow.holds Tryz.pinned (OpenSpec.ofChange Rows.frameLinearSpec) :=
  OpenClaim.holds_of_wide 10 Tryz.f10 rfl rfl rfl rfl rfl rfl rfl ⟨rfl, rfl, rfl, rfl, rfl⟩ rfl rfl rfl rfl rfl (by kernel_rfl) Tryz.func10 (by kernel_rfl)
    (of_decide_eq_true (by kernel_rfl)) (by unfold Func.isWrapper; first | (rw [if_pos (by decide +kernel)]; kernel_rfl) | (rw [if_neg (by decide +kernel)]; exact ⟨rfl, rfl⟩))
    (fun os started H enc _ => lifted os started H enc)

/-- The statement. -/
theorem proved : Rows.FrameLinearSaid :=
  over
#print axioms proved
end Go.Proofs.YtdhlibkdcldioaaGreat.frameLinear
