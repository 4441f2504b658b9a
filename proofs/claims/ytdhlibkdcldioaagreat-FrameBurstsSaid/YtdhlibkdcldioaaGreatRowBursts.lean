/- FrameBursts is proved: for every input the law returns true and its arguments read as before.  No condition. -/
import Derived.Test.YtdhlibkdcldioaaGreatFk7
import Derived.Test.YtdhlibkdcldioaaGreatRows
import Derived.WalkKit
import Derived.ProofKit
import Derived.OpenShut
set_option linter.unusedSimpArgs false
set_option linter.unusedVariables false
namespace Go.Proofs.YtdhlibkdcldioaaGreat.frameBursts
open Gx Go Go.ChangeShapes Go.WideShapes Go.ChangeAt Go.RowKit

theorem own : ownKnob Tryz.prog.godebug = none := by kernel_rfl
theorem laid : laidOutB Tryz.prog = true := by kernel_rfl

set_option maxRecDepth 100000 in
theorem lifted (os : Os) (started : os.Started) (H : Type) (enc : TypeId × Value → H) :
    ReturnsInHanded {} Tryz.checked os 9 .any (Rows.frameBurstsSpec.pre6 enc Tryz.prog Tryz.f9 Rows.frameBurstsRow.domain false) (Rows.frameBurstsSpec.post enc Tryz.prog Tryz.f9 false true false false) := by
  refine law_row (C := Tryz.checked) (tb := 4) own started (by kernel_rfl) Tryz.func9 laid (by kernel_rfl) rfl Tryz.underlying4 rfl ?_
    (ChangeSpec.witness6 (enc := enc) (C := Tryz.checked) false ⟨#[], #[.agg #[.int .i64 0, .int .i64 0, .int .i64 0, .int .i64 0, .int .i64 0, .int .i64 0, .slice none 0 0, .slice none 0 0, .slice none 0 0, .slice none 0 0, .slice none 0 0, .slice none 0 0, .slice none 0 0, .int .i64 0, .slice none 0 0], .int .i64 0, .int .u32 0], []⟩ 8 (by kernel_rfl) (by kernel_rfl) (by kernel_rfl) (by kernel_rfl)) ?_
  · intro K ds hd
    rw [show Tryz.f9.params.size = 3 from rfl] at hd
    match ds, hd with
    | [d0, d1, d2], _ => rfl
  · intro W base args ds ps hval hA
    obtain ⟨v0, v1, v2, rfl, h0, h1, h2⟩ := args3 (fn := Tryz.f9) (P := Tryz.prog) rfl hval hA
    obtain ⟨m, ⟨cs⟩, rfl, hm⟩ := h0.agg opens_msg Tryz.underlying39
    obtain ⟨n1, e1, _⟩ := h1.one (opens_int Tryz.underlying3) (by kernel_rfl)
    obtain ⟨n2, e2, hw2⟩ := h2.one (opens_int Tryz.underlying24) (by kernel_rfl)
    simp only [List.cons.injEq, and_true] at e1 e2
    subst e1 e2
    simp only [Lit.wf, IntKind.min, IntKind.max, IntKind.signed, IntKind.bits, Bool.and_eq_true, decide_eq_true_eq] at hw2
    have hn2 : ((BitVec.ofNat 32 n2.toNat).toNat : Int) = n2 := by
      simp at hw2
      rw [BitVec.toNat_ofNat]
      omega
    have := bursts_law (at_ := n1) (w := BitVec.ofNat 32 n2.toNat) hm.1 hm.2
    rw [hn2] at this
    exact this

theorem over : Rows.frameBurstsRow.holds Tryz.pinned (OpenSpec.ofChange Rows.frameBurstsSpec) :=
  OpenClaim.holds_of_wide 9 Tryz.f9 rfl rfl rfl rfl rfl rfl rfl ⟨rfl, rfl, rfl, rfl, rfl⟩ rfl rfl rfl rfl rfl (by kernel_rfl) Tryz.func9 (by kernel_rfl)
    (of_decide_eq_true (by kernel_rfl)) (by unfold Func.isWrapper; first | (rw [if_pos (by decide +kernel)]; kernel_rfl) | (rw [if_neg (by decide +kernel)]; exact ⟨rfl, rfl⟩))
    (fun os started H enc _ => lifted os started H enc)

/-- The statement. -/
theorem proved : Rows.FrameBurstsSaid :=
  over
#print axioms proved
end Go.Proofs.YtdhlibkdcldioaaGreat.frameBursts
