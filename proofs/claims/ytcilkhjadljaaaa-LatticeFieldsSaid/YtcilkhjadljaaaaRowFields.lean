/- LatticeFields is proved: for every input the law returns true and its arguments read as before.  No condition. -/
import Derived.Test.YtcilkhjadljaaaaLld
import Derived.Test.YtcilkhjadljaaaaRows
import Derived.WalkKit
import Derived.ProofKit
import Derived.OpenShut
set_option linter.unusedSimpArgs false
set_option linter.unusedVariables false
namespace Go.Proofs.Ytcilkhjadljaaaa.latticeFields
open Gx Go Go.ChangeShapes Go.WideShapes Go.ChangeAt Go.RowKit

theorem own : ownKnob Try.prog.godebug = none := by kernel_rfl
theorem laid : laidOutB Try.prog = true := by kernel_rfl

set_option maxRecDepth 100000 in
theorem lifted (os : Os) (started : os.Started) (H : Type) (enc : TypeId × Value → H) :
    ReturnsInHanded {} Try.checked os 6 .any (Rows.latticeFieldsSpec.pre6 enc Try.prog Try.f6 Rows.latticeFieldsRow.domain false) (Rows.latticeFieldsSpec.post enc Try.prog Try.f6 false true false false) := by
  refine law_row (C := Try.checked) (tb := 4) own started (by kernel_rfl) Try.func6 laid (by kernel_rfl) rfl Try.underlying4 rfl ?_
    (ChangeSpec.witness6 (enc := enc) (C := Try.checked) false ⟨#[], #[.agg #[.int .i64 0, .int .i64 0, .int .i64 0, .slice none 0 0, .slice none 0 0, .slice none 0 0], .string ⟨#[]⟩], []⟩ 8 (by kernel_rfl) (by kernel_rfl) (by kernel_rfl) (by kernel_rfl)) ?_
  · intro K ds hd
    rw [show Try.f6.params.size = 2 from rfl] at hd
    match ds, hd with
    | [d0, d1], _ => rfl
  · intro W base args ds ps hval hA
    obtain ⟨v0, v1, rfl, h0, h1⟩ := args2 (fn := Try.f6) (P := Try.prog) rfl hval hA
    obtain ⟨l0, c0, rfl, hl0⟩ := h0.agg (R := fun (l : Lt) cs H => LtA H [] l cs) opens_lat Try.underlying26
    obtain ⟨s1, hs1⟩ := h1.one (opens_str Try.underlying9) (by kernel_rfl)
    obtain ⟨e1, _⟩ := hs1
    simp only [List.cons.injEq, and_true] at e1
    subst e1
    have := fields_ok (s := s1) hl0
    rw [Array.toArray_toList] at this
    exact this

theorem over : Rows.latticeFieldsRow.holds Try.pinned (OpenSpec.ofChange Rows.latticeFieldsSpec) :=
  OpenClaim.holds_of_wide 6 Try.f6 rfl rfl rfl rfl rfl rfl rfl ⟨rfl, rfl, rfl, rfl, rfl⟩ rfl rfl rfl rfl rfl (by kernel_rfl) Try.func6 (by kernel_rfl)
    (of_decide_eq_true (by kernel_rfl)) (by unfold Func.isWrapper; first | (rw [if_pos (by decide +kernel)]; kernel_rfl) | (rw [if_neg (by decide +kernel)]; exact ⟨rfl, rfl⟩))
    (fun os started H enc _ => lifted os started H enc)

/-- The statement. -/
theorem proved : Rows.LatticeFieldsSaid :=
  over
#print axioms proved
end Go.Proofs.Ytcilkhjadljaaaa.latticeFields
