/- ClockDecodes is proved: for every input the law returns true and its arguments read as before.  No condition. -/
import Derived.Test.YtpoimkhfofpafaaLv
import Derived.Test.YtpoimkhfofpafaaRows
import Derived.WalkKit
import Derived.ProofKit
import Derived.OpenShut
set_option linter.unusedSimpArgs false
set_option linter.unusedVariables false
namespace Go.Proofs.Ytpoimkhfofpafaa.clockDecodes
open Gx Go Go.ChangeShapes Go.WideShapes Go.ChangeAt Go.RowKit

theorem own : ownKnob Try.prog.godebug = none := by kernel_rfl
theorem laid : laidOutB Try.prog = true := by kernel_rfl

set_option maxRecDepth 100000 in
theorem lifted (os : Os) (started : os.Started) (H : Type) (enc : TypeId × Value → H) :
    ReturnsInHanded {} Try.checked os 11 .any (Rows.clockDecodesSpec.pre6 enc Try.prog Try.f11 Rows.clockDecodesRow.domain false) (Rows.clockDecodesSpec.post enc Try.prog Try.f11 false true false false) := by
  refine law_row (C := Try.checked) (tb := 4) own started (by kernel_rfl) Try.func11 laid (by kernel_rfl) rfl Try.underlying4 rfl ?_
    (ChangeSpec.witness6 (enc := enc) (C := Try.checked) false ⟨#[], #[.slice none 0 0, .slice none 0 0], []⟩ 8 (by kernel_rfl) (by kernel_rfl) (by kernel_rfl) (by kernel_rfl)) ?_
  · intro K ds hd
    rw [show Try.f11.params.size = 2 from rfl] at hd
    match ds, hd with
    | [d0, d1], _ => rfl
  · intro W base args ds ps hval hA
    obtain ⟨v0, v1, rfl, h0, h1⟩ := args2 (fn := Try.f11) (P := Try.prog) rfl hval hA
    obtain ⟨l0, hl0⟩ := h0.one opens_ticks (by kernel_rfl)
    obtain ⟨b1, hb1⟩ := h1.one (opens_bytes Try.underlying35 (by kernel_rfl) Try.underlying5) (by kernel_rfl)
    exact decodes_ok (arg_ticks hl0) (arg_bytes hb1)

theorem over : Rows.clockDecodesRow.holds Try.pinned (OpenSpec.ofChange Rows.clockDecodesSpec) :=
  OpenClaim.holds_of_wide 11 Try.f11 rfl rfl rfl rfl rfl rfl rfl ⟨rfl, rfl, rfl, rfl, rfl⟩ rfl rfl rfl rfl rfl (by kernel_rfl) Try.func11 (by kernel_rfl)
    (of_decide_eq_true (by kernel_rfl)) (by unfold Func.isWrapper; first | (rw [if_pos (by decide +kernel)]; kernel_rfl) | (rw [if_neg (by decide +kernel)]; exact ⟨rfl, rfl⟩))
    (fun os started H enc _ => lifted os started H enc)

/-- The statement. -/
theorem proved : Rows.ClockDecodesSaid :=
  over
#print axioms proved
end Go.Proofs.Ytpoimkhfofpafaa.clockDecodes
