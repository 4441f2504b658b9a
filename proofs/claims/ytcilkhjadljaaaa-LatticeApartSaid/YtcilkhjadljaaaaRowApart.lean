/- LatticeApart is proved: for every input the law returns true and its arguments read as before.  No condition. -/
import Derived.Test.YtcilkhjadljaaaaLap
import Derived.Test.YtcilkhjadljaaaaRows
import Derived.WalkKit
import Derived.ProofKit
import Derived.OpenShut
set_option linter.unusedSimpArgs false
set_option linter.unusedVariables false
namespace Go.Proofs.Ytcilkhjadljaaaa.latticeApart
open Gx Go Go.ChangeShapes Go.WideShapes Go.ChangeAt Go.RowKit

theorem own : ownKnob Try.prog.godebug = none := by kernel_rfl
theorem laid : laidOutB Try.prog = true := by kernel_rfl

set_option maxRecDepth 100000 in
theorem lifted (os : Os) (started : os.Started) (H : Type) (enc : TypeId × Value → H) :
    ReturnsInHanded {} Try.checked os 9 .any (Rows.latticeApartSpec.pre6 enc Try.prog Try.f9 Rows.latticeApartRow.domain false) (Rows.latticeApartSpec.post enc Try.prog Try.f9 false true false false) := by
  refine law_row (C := Try.checked) (tb := 4) own started (by kernel_rfl) Try.func9 laid (by kernel_rfl) rfl Try.underlying4 rfl ?_
    (ChangeSpec.witness6 (enc := enc) (C := Try.checked) false ⟨#[], #[.agg #[.int .i64 0, .int .i64 0, .int .i64 0, .slice none 0 0, .slice none 0 0, .slice none 0 0], .agg #[.int .i64 0, .int .i64 0, .int .i64 0, .slice none 0 0, .slice none 0 0, .slice none 0 0]], []⟩ 8 (by kernel_rfl) (by kernel_rfl) (by kernel_rfl) (by kernel_rfl)) ?_
  · intro K ds hd
    rw [show Try.f9.params.size = 2 from rfl] at hd
    match ds, hd with
    | [d0, d1], _ => rfl
  · intro W base args ds ps hval hA
    obtain ⟨v0, v1, rfl, h0, h1⟩ := args2 (fn := Try.f9) (P := Try.prog) rfl hval hA
    obtain ⟨l0, c0, rfl, hl0⟩ := h0.agg (R := fun (l : Lt) cs H => LtA H [] l cs) opens_lat Try.underlying26
    obtain ⟨l1, c1, rfl, hl1⟩ := h1.agg (R := fun (l : Lt) cs H => LtA H [] l cs) opens_lat Try.underlying26
    have := lapart_ok hl0 hl1
    rw [Array.toArray_toList, Array.toArray_toList] at this
    exact this

theorem over : Rows.latticeApartRow.holds Try.pinned (OpenSpec.ofChange Rows.latticeApartSpec) :=
  OpenClaim.holds_of_wide 9 Try.f9 rfl rfl rfl rfl rfl rfl rfl ⟨rfl, rfl, rfl, rfl, rfl⟩ rfl rfl rfl rfl rfl (by kernel_rfl) Try.func9 (by kernel_rfl)
    (of_decide_eq_true (by kernel_rfl)) (by unfold Func.isWrapper; first | (rw [if_pos (by decide +kernel)]; kernel_rfl) | (rw [if_neg (by decide +kernel)]; exact ⟨rfl, rfl⟩))
    (fun os started H enc _ => lifted os started H enc)

/-- The statement. -/
theorem proved : Rows.LatticeApartSaid :=
  over
#print axioms proved
end Go.Proofs.Ytcilkhjadljaaaa.latticeApart
