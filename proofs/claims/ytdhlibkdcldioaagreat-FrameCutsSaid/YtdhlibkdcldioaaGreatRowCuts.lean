/- FrameCuts is proved: for every input the law returns true and its arguments read as before.  No condition. -/
import Derived.Test.YtdhlibkdcldioaaGreatFk6
import Derived.Test.YtdhlibkdcldioaaGreatRows
import Derived.WalkKit
import Derived.ProofKit
import Derived.OpenShut
set_option linter.unusedSimpArgs false
set_option linter.unusedVariables false
namespace Go.Proofs.YtdhlibkdcldioaaGreat.frameCuts
open Gx Go Go.ChangeShapes Go.WideShapes Go.ChangeAt Go.RowKit

theorem own : ownKnob Tryz.prog.godebug = none := by kernel_rfl
theorem laid : laidOutB Tryz.prog = true := by kernel_rfl

set_option maxRecDepth 100000 in
theorem lifted (os : Os) (started : os.Started) (H : Type) (enc : TypeId × Value → H) :
    ReturnsInHanded {} Tryz.checked os 8 .any (Rows.frameCutsSpec.pre6 enc Tryz.prog Tryz.f8 Rows.frameCutsRow.domain false) (Rows.frameCutsSpec.post enc Tryz.prog Tryz.f8 false true false false) := by
  refine law_row (C := Tryz.checked) (tb := 4) own started (by kernel_rfl) Tryz.func8 laid (by kernel_rfl) rfl Tryz.underlying4 rfl ?_
    (ChangeSpec.witness6 (enc := enc) (C := Tryz.checked) false ⟨#[], #[.agg #[.int .i64 0, .int .i64 0, .int .i64 0, .int .i64 0, .int .i64 0, .int .i64 0, .slice none 0 0, .slice none 0 0, .slice none 0 0, .slice none 0 0, .slice none 0 0, .slice none 0 0, .slice none 0 0, .int .i64 0, .slice none 0 0], .int .i64 0, .slice none 0 0], []⟩ 8 (by kernel_rfl) (by kernel_rfl) (by kernel_rfl) (by kernel_rfl)) ?_
  · intro K ds hd
    rw [show Tryz.f8.params.size = 3 from rfl] at hd
    match ds, hd with
    | [d0, d1, d2], _ => rfl
  · intro W base args ds ps hval hA
    obtain ⟨v0, v1, v2, rfl, h0, h1, h2⟩ := args3 (fn := Tryz.f8) (P := Tryz.prog) rfl hval hA
    obtain ⟨m, ⟨cs⟩, rfl, hm⟩ := h0.agg opens_msg Tryz.underlying39
    obtain ⟨n1, e1, _⟩ := h1.one (opens_int Tryz.underlying3) (by kernel_rfl)
    obtain ⟨l2, hl2⟩ := h2.one (opens_bytes Tryz.underlying22 (by kernel_rfl) (by kernel_rfl)) (by kernel_rfl)
    obtain ⟨a2, c2, e2, hc2, hm2, hb2⟩ := hl2
    simp only [List.cons.injEq, and_true] at e1 e2
    subst e1 e2
    exact cuts_law hb2 (by unfold maxLen at hm2; omega) hm.1 hm.2

theorem over : Rows.frameCutsRow.holds Tryz.pinned (OpenSpec.ofChange Rows.frameCutsSpec) :=
  OpenClaim.holds_of_wide 8 Tryz.f8 rfl rfl rfl rfl rfl rfl rfl ⟨rfl, rfl, rfl, rfl, rfl⟩ rfl rfl rfl rfl rfl (by kernel_rfl) Tryz.func8 (by kernel_rfl)
    (of_decide_eq_true (by kernel_rfl)) (by unfold Func.isWrapper; first | (rw [if_pos (by decide +kernel)]; kernel_rfl) | (rw [if_neg (by decide +kernel)]; exact ⟨rfl, rfl⟩))
    (fun os started H enc _ => lifted os started H enc)

/-- The statement. -/
theorem proved : Rows.FrameCutsSaid :=
  over
#print axioms proved
end Go.Proofs.YtdhlibkdcldioaaGreat.frameCuts
