import Derived.Test.YtcilkhjadljaaaaB7
import Derived.Test.YtcilkhjadljaaaaRows
import Derived.WalkKit
import Derived.ProofKit
import Derived.OpenShut
/- LatticeDecodes is proved: for every input the law returns true and its arguments read as before.  No condition. -/
set_option linter.unusedSimpArgs false
set_option linter.unusedVariables false
namespace Go.Proofs.Ytcilkhjadljaaaa.latticeDecodes
open Gx Go Go.ChangeShapes Go.WideShapes Go.ChangeAt Go.RowKit

theorem own : ownKnob Try.prog.godebug = none := by kernel_rfl
theorem laid : laidOutB Try.prog = true := by kernel_rfl

set_option maxRecDepth 100000 in
theorem lifted (os : Os) (started : os.Started) (H : Type) (enc : TypeId × Value → H) :
    ReturnsInHanded {} Try.checked os 8 .any (Rows.latticeDecodesSpec.pre6 enc Try.prog Try.f8 Rows.latticeDecodesRow.domain false) (Rows.latticeDecodesSpec.post enc Try.prog Try.f8 false true false false) := by
  refine law_row (C := Try.checked) (tb := 4) own started (by kernel_rfl) Try.func8 laid (by kernel_rfl) rfl Try.underlying4 rfl ?_
    (ChangeSpec.witness6 (enc := enc) (C := Try.checked) false ⟨#[], #[.slice none 0 0], []⟩ 8 (by kernel_rfl) (by kernel_rfl) (by kernel_rfl) (by kernel_rfl)) ?_
  · intro K ds hd
    rw [show Try.f8.params.size = 1 from rfl] at hd
    match ds, hd with
    | [d0], _ => rfl
  · intro W base args ds ps hval hA
    obtain ⟨v0, rfl, h0⟩ := args1 (fn := Try.f8) (P := Try.prog) rfl hval hA
    obtain ⟨l0, a, c, hl0⟩ := h0.one (opens_bytes Try.underlying36 (by kernel_rfl) Try.underlying5) (by kernel_rfl)
    obtain ⟨e, h3, h1, h2⟩ := hl0
    cases e
    exact ldecodes_ok h2 h3 (Nat.le_trans h3 h1)

theorem over : Rows.latticeDecodesRow.holds Try.pinned (OpenSpec.ofChange Rows.latticeDecodesSpec) :=
  OpenClaim.holds_of_wide 8 Try.f8 rfl rfl rfl rfl rfl rfl rfl ⟨rfl, rfl, rfl, rfl, rfl⟩ rfl rfl rfl rfl rfl (by kernel_rfl) Try.func8 (by kernel_rfl)
    (of_decide_eq_true (by kernel_rfl)) (by unfold Func.isWrapper; first | (rw [if_pos (by decide +kernel)]; kernel_rfl) | (rw [if_neg (by decide +kernel)]; exact ⟨rfl, rfl⟩))
    (fun os started H enc _ => lifted os started H enc)

/-- The statement. -/
theorem proved : Rows.LatticeDecodesSaid :=
  over
#print axioms proved
end Go.Proofs.Ytcilkhjadljaaaa.latticeDecodes
