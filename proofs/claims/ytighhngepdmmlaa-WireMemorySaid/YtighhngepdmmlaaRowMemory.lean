/- WireMemory is proved: for every input the law returns true and its arguments read as before. No condition. -/
import Derived.Test.YtighhngepdmmlaaMe
import Derived.Test.YtighhngepdmmlaaSh
import Derived.Test.YtighhngepdmmlaaRows
import Derived.WalkKit
import Derived.ProofKit
import Derived.OpenShut
set_option linter.unusedSimpArgs false
set_option linter.unusedVariables false
namespace Go.Proofs.Ytighhngepdmmlaa.wireMemory
open Gx Go Go.ChangeShapes Go.WideShapes Go.ChangeAt Go.RowKit

theorem own : ownKnob Try.prog.godebug = none := by kernel_rfl
theorem laid : laidOutB Try.prog = true := by kernel_rfl

set_option maxRecDepth 100000 in
theorem lifted (os : Os) (started : os.Started) (H : Type) (enc : TypeId × Value → H) :
    ReturnsInHanded {} Try.checked os 6 .any (Rows.wireMemorySpec.pre6 enc Try.prog Try.f6 Rows.wireMemoryRow.domain false) (Rows.wireMemorySpec.post enc Try.prog Try.f6 false true false false) := by
  refine law_row (C := Try.checked) (tb := 4) own started (by kernel_rfl) Try.func6 laid (by kernel_rfl) rfl Try.underlying4 rfl ?_
    (ChangeSpec.witness6 (enc := enc) (C := Try.checked) false ⟨#[], #[.slice none 0 0, .slice none 0 0], []⟩ 8 (by kernel_rfl) (by kernel_rfl) (by kernel_rfl) (by kernel_rfl)) ?_
  · intro K ds hd
    rw [show Try.f6.params.size = 2 from rfl] at hd
    match ds, hd with
    | [d0, d1], _ => rfl
  · intro W base args ds ps hval hA
    obtain ⟨v0, v1, rfl, h0, h1⟩ := args2 (fn := Try.f6) (P := Try.prog) rfl hval hA
    obtain ⟨x, a, c, e, p1, p2, p3⟩ := h0.one (opens_bytes Try.underlying25 (by kernel_rfl) Try.underlying5) (by kernel_rfl)
    cases e
    obtain ⟨y, a', c', e, q1, q2, q3⟩ := h1.one (opens_bytes Try.underlying25 (by kernel_rfl) Try.underlying5) (by kernel_rfl)
    cases e
    exact memory_ok p3 q3 (by omega) (by omega)

theorem over : Rows.wireMemoryRow.holds Try.pinned (OpenSpec.ofChange Rows.wireMemorySpec) :=
  OpenClaim.holds_of_wide 6 Try.f6 rfl rfl rfl rfl rfl rfl rfl ⟨rfl, rfl, rfl, rfl, rfl⟩ rfl rfl rfl rfl rfl (by kernel_rfl) Try.func6 (by kernel_rfl)
    (of_decide_eq_true (by kernel_rfl)) (by unfold Func.isWrapper; first | (rw [if_pos (by decide +kernel)]; kernel_rfl) | (rw [if_neg (by decide +kernel)]; exact ⟨rfl, rfl⟩))
    (fun os started H enc _ => lifted os started H enc)

/-- The statement. -/
theorem proved : Rows.WireMemorySaid :=
  over
#print axioms proved
end Go.Proofs.Ytighhngepdmmlaa.wireMemory
