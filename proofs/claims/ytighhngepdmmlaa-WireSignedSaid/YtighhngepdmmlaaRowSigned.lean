/- WireSigned is proved: for every input the law returns true and its argument reads as before. No condition. -/
import Derived.Test.YtighhngepdmmlaaSg
import Derived.Test.YtighhngepdmmlaaRows
import Derived.WalkKit
import Derived.ProofKit
import Derived.OpenShut
set_option linter.unusedSimpArgs false
set_option linter.unusedVariables false
namespace Go.Proofs.Ytighhngepdmmlaa.wireSigned
open Gx Go Go.ChangeShapes Go.WideShapes Go.ChangeAt Go.RowKit

theorem own : ownKnob Try.prog.godebug = none := by kernel_rfl
theorem laid : laidOutB Try.prog = true := by kernel_rfl

set_option maxRecDepth 100000 in
theorem lifted (os : Os) (started : os.Started) (H : Type) (enc : TypeId × Value → H) :
    ReturnsInHanded {} Try.checked os 5 .any (Rows.wireSignedSpec.pre6 enc Try.prog Try.f5 Rows.wireSignedRow.domain false) (Rows.wireSignedSpec.post enc Try.prog Try.f5 false true false false) := by
  refine law_row (C := Try.checked) (tb := 4) own started (by kernel_rfl) Try.func5 laid (by kernel_rfl) rfl Try.underlying4 rfl ?_
    (ChangeSpec.witness6 (enc := enc) (C := Try.checked) false ⟨#[], #[.int .i64 0], []⟩ 8 (by kernel_rfl) (by kernel_rfl) (by kernel_rfl) (by kernel_rfl)) ?_
  · intro K ds hd
    rw [show Try.f5.params.size = 1 from rfl] at hd
    match ds, hd with
    | [d0], _ => rfl
  · intro W base args ds ps hval hA
    obtain ⟨v0, rfl, h0⟩ := args1 (fn := Try.f5) (P := Try.prog) rfl hval hA
    obtain ⟨n, hn, hw⟩ := h0.one (opens_int (k := .i64) Try.underlying2) (by kernel_rfl)
    cases hn
    have b0 := bounds_i64 hw
    exact signed_ok n (by omega) (by omega) W.heap

theorem over : Rows.wireSignedRow.holds Try.pinned (OpenSpec.ofChange Rows.wireSignedSpec) :=
  OpenClaim.holds_of_wide 5 Try.f5 rfl rfl rfl rfl rfl rfl rfl ⟨rfl, rfl, rfl, rfl, rfl⟩ rfl rfl rfl rfl rfl (by kernel_rfl) Try.func5 (by kernel_rfl)
    (of_decide_eq_true (by kernel_rfl)) (by unfold Func.isWrapper; first | (rw [if_pos (by decide +kernel)]; kernel_rfl) | (rw [if_neg (by decide +kernel)]; exact ⟨rfl, rfl⟩))
    (fun os started H enc _ => lifted os started H enc)

/-- The statement. -/
theorem proved : Rows.WireSignedSaid :=
  over
#print axioms proved
end Go.Proofs.Ytighhngepdmmlaa.wireSigned
