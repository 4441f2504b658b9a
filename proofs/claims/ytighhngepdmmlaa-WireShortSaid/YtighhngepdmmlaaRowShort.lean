/- WireShort is proved: for every input the law returns true and its arguments read as before. No condition. -/
import Derived.Test.YtighhngepdmmlaaSh
import Derived.Test.YtighhngepdmmlaaRows
import Derived.WalkKit
import Derived.ProofKit
import Derived.OpenShut
set_option linter.unusedSimpArgs false
set_option linter.unusedVariables false
namespace Go.Proofs.Ytighhngepdmmlaa.wireShort
open Gx Go Go.ChangeShapes Go.WideShapes Go.ChangeAt Go.RowKit

theorem own : ownKnob Try.prog.godebug = none := by kernel_rfl
theorem laid : laidOutB Try.prog = true := by kernel_rfl

set_option maxRecDepth 100000 in
theorem lifted (os : Os) (started : os.Started) (H : Type) (enc : TypeId × Value → H) :
    ReturnsInHanded {} Try.checked os 4 .any (Rows.wireShortSpec.pre6 enc Try.prog Try.f4 Rows.wireShortRow.domain false) (Rows.wireShortSpec.post enc Try.prog Try.f4 false true false false) := by
  refine law_row (C := Try.checked) (tb := 4) own started (by kernel_rfl) Try.func4 laid (by kernel_rfl) rfl Try.underlying4 rfl ?_
    (ChangeSpec.witness6 (enc := enc) (C := Try.checked) false ⟨#[], #[.int .u64 0, .int .u64 0], []⟩ 8 (by kernel_rfl) (by kernel_rfl) (by kernel_rfl) (by kernel_rfl)) ?_
  · intro K ds hd
    rw [show Try.f4.params.size = 2 from rfl] at hd
    match ds, hd with
    | [d0, d1], _ => rfl
  · intro W base args ds ps hval hA
    obtain ⟨v0, v1, rfl, h0, h1⟩ := args2 (fn := Try.f4) (P := Try.prog) rfl hval hA
    obtain ⟨n, hn, hw⟩ := h0.one (opens_int (k := .u64) Try.underlying27) (by kernel_rfl)
    obtain ⟨m, hm, hw'⟩ := h1.one (opens_int (k := .u64) Try.underlying27) (by kernel_rfl)
    cases hn; cases hm
    have b0 := bounds_u64 hw
    have b1 := bounds_u64 hw'
    obtain ⟨n, rfl⟩ := Int.eq_ofNat_of_zero_le b0.1
    obtain ⟨m, rfl⟩ := Int.eq_ofNat_of_zero_le b1.1
    exact short_ok n m (by omega) (by omega) W.heap

theorem over : Rows.wireShortRow.holds Try.pinned (OpenSpec.ofChange Rows.wireShortSpec) :=
  OpenClaim.holds_of_wide 4 Try.f4 rfl rfl rfl rfl rfl rfl rfl ⟨rfl, rfl, rfl, rfl, rfl⟩ rfl rfl rfl rfl rfl (by kernel_rfl) Try.func4 (by kernel_rfl)
    (of_decide_eq_true (by kernel_rfl)) (by unfold Func.isWrapper; first | (rw [if_pos (by decide +kernel)]; kernel_rfl) | (rw [if_neg (by decide +kernel)]; exact ⟨rfl, rfl⟩))
    (fun os started H enc _ => lifted os started H enc)

/-- The statement. -/
theorem proved : Rows.WireShortSaid :=
  over
#print axioms proved
end Go.Proofs.Ytighhngepdmmlaa.wireShort
