import Derived.Test.YtcilkhjadljaaaaB6
import Derived.Test.YtcilkhjadljaaaaRows
import Derived.WalkKit
import Derived.ProofKit
import Derived.OpenShut
/- LatticeEncodes is proved: for every input the law returns true and its arguments read as before.  No condition. -/
set_option linter.unusedSimpArgs false
set_option linter.unusedVariables false
namespace Go.Proofs.Ytcilkhjadljaaaa.latticeEncodes
open Gx Go Go.ChangeShapes Go.WideShapes Go.ChangeAt Go.RowKit

theorem own : ownKnob Try.prog.godebug = none := by kernel_rfl
theorem laid : laidOutB Try.prog = true := by kernel_rfl

set_option maxRecDepth 100000 in
theorem lifted (os : Os) (started : os.Started) (H : Type) (enc : TypeId × Value → H) :
    ReturnsInHanded {} Try.checked os 7 .any (Rows.latticeEncodesSpec.pre6 enc Try.prog Try.f7 Rows.latticeEncodesRow.domain false) (Rows.latticeEncodesSpec.post enc Try.prog Try.f7 false true false false) := by
  refine law_row (C := Try.checked) (tb := 4) own started (by kernel_rfl) Try.func7 laid (by kernel_rfl) rfl Try.underlying4 rfl ?_
    (ChangeSpec.witness6 (enc := enc) (C := Try.checked) false ⟨#[], #[.agg #[.int .i64 0, .int .i64 0, .int .i64 0, .slice none 0 0, .slice none 0 0, .slice none 0 0]], []⟩ 8 (by kernel_rfl) (by kernel_rfl) (by kernel_rfl) (by kernel_rfl)) ?_
  · intro K ds hd
    rw [show Try.f7.params.size = 1 from rfl] at hd
    match ds, hd with
    | [d0], _ => rfl
  · intro W base args ds ps hval hA
    obtain ⟨v0, rfl, h0⟩ := args1 (fn := Try.f7) (P := Try.prog) rfl hval hA
    obtain ⟨l0, c0, rfl, hl0⟩ := h0.agg (R := fun (l : Lt) cs H => LtA H [] l cs) opens_lat Try.underlying26
    have := lencodes_ok hl0
    rw [Array.toArray_toList] at this
    exact this

theorem over : Rows.latticeEncodesRow.holds Try.pinned (OpenSpec.ofChange Rows.latticeEncodesSpec) :=
  OpenClaim.holds_of_wide 7 Try.f7 rfl rfl rfl rfl rfl rfl rfl ⟨rfl, rfl, rfl, rfl, rfl⟩ rfl rfl rfl rfl rfl (by kernel_rfl) Try.func7 (by kernel_rfl)
    (of_decide_eq_true (by kernel_rfl)) (by unfold Func.isWrapper; first | (rw [if_pos (by decide +kernel)]; kernel_rfl) | (rw [if_neg (by decide +kernel)]; exact ⟨rfl, rfl⟩))
    (fun os started H enc _ => lifted os started H enc)

/-- The statement. -/
theorem proved : Rows.LatticeEncodesSaid :=
  over
#print axioms proved
end Go.Proofs.Ytcilkhjadljaaaa.latticeEncodes
