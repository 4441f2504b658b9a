/- LexerLimits is proved: for every input the law returns true and its arguments read as before. No other condition. The listed package-level variables start as the program's text lays them (the card ties them). -/
import Derived.Test.YtighpnijbnllaaaDoorXy
import Derived.Test.YtighpnijbnllaaaDoorXz
import Derived.Test.YtighpnijbnllaaaDoorRows
import Derived.Test.YtighpnijbnllaaaDoorCards
import Derived.Test.YtighpnijbnllaaaDoorTie
import Derived.WalkKit
import Derived.ProofKit
import Derived.OpenShut
import Derived.SevenTiedAt
set_option linter.unusedSimpArgs false
set_option linter.unusedVariables false
namespace Go.Proofs.YtighpnijbnllaaaDoor.lexerLimits
open Gx Go Go.ChangeShapes Go.WideShapes Go.ChangeAt Go.RowKit

set_option maxRecDepth 100000 in
theorem lifted (os : Os) (started : os.Started) (H : Type) (enc : TypeId × Value → H) :
    ReturnsInHanded {} Tryd.checked os 12 .any (fun w args => (Rows.lexerLimitsSpec.pre enc Tryd.prog Tryd.f12 [] false w args ∧ laidMetH Tryd.prog laidL w) ∧ sizedMet enc Tryd.prog Tryd.f12 (OpenSpec.ofChange Rows.lexerLimitsSpec) false w args)
      (Rows.lexerLimitsSpec.post enc Tryd.prog Tryd.f12 false true false false) := by
  refine law_row_laid (tb := 4) started (by kernel_rfl) Tryd.func12 (by kernel_rfl) rfl Tryd.underlying4 rfl ?_
    (ChangeSpec.witness_shaped (enc := enc) (C := Tryd.checked) (os := os) (X := fun w _ => laidMetH Tryd.prog laidL w) false (World.doorLaid Tryd.prog 400 os) #[.string ⟨⟨[]⟩⟩, .int .i64 0] 8 rfl (World.shaped_of_RefB (by kernel_rfl) (by kernel_rfl)) (by kernel_rfl) (by kernel_rfl) (by kernel_rfl) (door_met os _)) ?_
  · intro K ds hd
    rw [show Tryd.f12.params.size = 2 from rfl] at hd
    match ds, hd with
    | [d0, d1], _ => rfl
  · intro W base args ds ps hval hA hG
    obtain ⟨v0, v1, rfl, h0, h1⟩ := args2 (fn := Tryd.f12) (P := Tryd.prog) rfl hval hA
    obtain ⟨l0, e, hl0⟩ := h0.one (opens_str Tryd.underlying9) (by kernel_rfl)
    obtain ⟨n1, e1, _⟩ := h1.one (opens_int Tryd.underlying3) (by kernel_rfl)
    cases e
    cases e1
    exact limits_law l0 hl0 n1 hG

theorem over : Rows.lexerLimitsRow.holds Tryd.pinned (OpenSpec.ofChange Rows.lexerLimitsSpec) :=
  OpenClaim.holds_of_wide 12 Tryd.f12 rfl rfl rfl rfl rfl rfl rfl ⟨rfl, rfl, rfl, rfl, rfl⟩ rfl rfl rfl rfl rfl (by kernel_rfl) Tryd.func12 (by kernel_rfl)
    (of_decide_eq_true (by kernel_rfl)) (by unfold Func.isWrapper; first | (rw [if_pos (by decide +kernel)]; kernel_rfl) | (rw [if_neg (by decide +kernel)]; exact ⟨rfl, rfl⟩))
    (fun os started H enc _ => lifted os started H enc)

theorem noStands : (Tryd.f12.params.toList.all fun t => !Tryd.prog.wantsStandIn t) = true := by kernel_rfl
theorem isNamed : Tryd.prog.funcNamed Rows.lexerLimitsRow.func = some 12 := by kernel_rfl

/-- The statement: the card. -/
theorem proved : Rows.LexerLimitsCardSaid :=
  Claim7.holds_tied_plain_at .later [] [.data, .data, .data, .sentinel, .sentinel] true Rows.lexerLimitsCard.stood.harness true
    over (fun _ h => by cases h) (by kernel_rfl) (fun _ h => by cases h) lexerLimits_row_tie rfl ⟨rfl, rfl⟩ (by kernel_rfl) rfl
    (fun f fn hf hfn => by
      obtain rfl := Option.some.inj (isNamed.symm.trans hf)
      obtain rfl := Option.some.inj (Tryd.func12.symm.trans hfn)
      exact ⟨by kernel_rfl, fun j t ht => by
        have hm : t ∈ Tryd.f12.params.toList := by
          rw [← Array.getElem?_toList] at ht
          exact List.mem_of_getElem? ht
        have := List.all_eq_true.1 noStands t hm
        have h2 : Tryd.prog.wantsStandIn t = false := by simpa using this
        exact h2⟩)
    (by kernel_rfl)
#print axioms proved
end Go.Proofs.YtighpnijbnllaaaDoor.lexerLimits
