import Derived.Test.YtbgjgaaobnbijaaDoorB6
import Derived.Test.YtbgjgaaobnbijaaDoorRows
import Derived.Test.YtbgjgaaobnbijaaDoorCards
import Derived.Test.YtbgjgaaobnbijaaDoorTie
import Derived.WalkKit
import Derived.ProofKit
import Derived.OpenShut
import Derived.SevenTiedAt
/- ParserPrecedence is proved: for every input the law returns true and its arguments read as before. No other condition. The listed package-level variables start as the program's text lays them (the card ties them). -/
set_option linter.unusedSimpArgs false
set_option linter.unusedVariables false
namespace Go.Proofs.YtbgjgaaobnbijaaDoor.parserPrecedence
open Gx Go Go.ChangeShapes Go.WideShapes Go.ChangeAt Go.RowKit

set_option maxRecDepth 100000 in
theorem lifted (os : Os) (started : os.Started) (H : Type) (enc : TypeId × Value → H) :
    ReturnsInHanded {} Tryd.checked os 6 .any (fun w args => (Rows.parserPrecedenceSpec.pre enc Tryd.prog Tryd.f6 [] false w args ∧ laidMetH Tryd.prog laidL w) ∧ sizedMet enc Tryd.prog Tryd.f6 (OpenSpec.ofChange Rows.parserPrecedenceSpec) false w args)
      (Rows.parserPrecedenceSpec.post enc Tryd.prog Tryd.f6 false true false false) := by
  refine law_row_laid (tb := 4) started (by kernel_rfl) Tryd.func6 (by kernel_rfl) rfl Tryd.underlying4 rfl ?_
    (ChangeSpec.witness_shaped (enc := enc) (C := Tryd.checked) (os := os) (X := fun w _ => laidMetH Tryd.prog laidL w) false (World.doorLaid Tryd.prog 400 os) #[.agg #[.string ⟨⟨[]⟩⟩, .string ⟨⟨[]⟩⟩, .string ⟨⟨[]⟩⟩], .agg #[.int .i64 0, .int .i64 0]] 8 rfl (World.shaped_of_RefB (by kernel_rfl) (by kernel_rfl)) (by kernel_rfl) (by kernel_rfl) (by kernel_rfl) (door_met os _)) ?_
  · intro K ds hd
    rw [show Tryd.f6.params.size = 2 from rfl] at hd
    match ds, hd with
    | [d0, d1], _ => rfl
  · intro W base args ds ps hval hA hG
    obtain ⟨v0, v1, rfl, h0, h1⟩ := args2 (fn := Tryd.f6) (P := Tryd.prog) rfl hval hA
    obtain ⟨cs, rfl, hcl, hc⟩ := arg_arr h0 Tryd.underlying45 (by kernel_rfl) (by kernel_rfl) (opens_str Tryd.underlying9)
    obtain ⟨ds', rfl, hdl, hd⟩ := arg_arr h1 Tryd.underlying46 (by kernel_rfl) (by kernel_rfl) (opens_int Tryd.underlying3)
    match cs, hcl, hc with
    | [c0, c1, c2], _, hc =>
    match ds', hdl, hd with
    | [d0, d1], _, hd =>
    obtain ⟨l0, e, hl0⟩ := hc 0 (by simp)
    simp only [List.getElem_cons_zero, List.cons.injEq, and_true] at e
    subst e
    obtain ⟨l1, e, hl1⟩ := hc 1 (by simp)
    simp only [List.getElem_cons_zero, List.getElem_cons_succ, List.cons.injEq, and_true] at e
    subst e
    obtain ⟨l2, e, hl2⟩ := hc 2 (by simp)
    simp only [List.getElem_cons_zero, List.getElem_cons_succ, List.cons.injEq, and_true] at e
    subst e
    obtain ⟨n0, e, _⟩ := hd 0 (by simp)
    simp only [List.getElem_cons_zero, List.cons.injEq, and_true] at e
    subst e
    obtain ⟨n1, e, _⟩ := hd 1 (by simp)
    simp only [List.getElem_cons_zero, List.getElem_cons_succ, List.cons.injEq, and_true] at e
    subst e
    exact precedence_law l0 l1 l2 n0 n1 hl0 hl1 hl2 hG

theorem over : Rows.parserPrecedenceRow.holds Tryd.pinned (OpenSpec.ofChange Rows.parserPrecedenceSpec) :=
  OpenClaim.holds_of_wide 6 Tryd.f6 rfl rfl rfl rfl rfl rfl rfl ⟨rfl, rfl, rfl, rfl, rfl⟩ rfl rfl rfl rfl rfl (by kernel_rfl) Tryd.func6 (by kernel_rfl)
    (of_decide_eq_true (by kernel_rfl)) (by unfold Func.isWrapper; first | (rw [if_pos (by decide +kernel)]; kernel_rfl) | (rw [if_neg (by decide +kernel)]; exact ⟨rfl, rfl⟩))
    (fun os started H enc _ => lifted os started H enc)

theorem noStands : (Tryd.f6.params.toList.all fun t => !Tryd.prog.wantsStandIn t) = true := by kernel_rfl
theorem isNamed : Tryd.prog.funcNamed Rows.parserPrecedenceRow.func = some 6 := by kernel_rfl

/-- The statement: the card. -/
theorem proved : Rows.ParserPrecedenceCardSaid :=
  Claim7.holds_tied_plain_at .later [] [.data, .data, .data, .sentinel, .sentinel] true Rows.parserPrecedenceCard.stood.harness true
    over (fun _ h => by cases h) (by kernel_rfl) (fun _ h => by cases h) parserPrecedence_row_tie rfl ⟨rfl, rfl⟩ (by kernel_rfl) rfl
    (fun f fn hf hfn => by
      obtain rfl := Option.some.inj (isNamed.symm.trans hf)
      obtain rfl := Option.some.inj (Tryd.func6.symm.trans hfn)
      exact ⟨by kernel_rfl, fun j t ht => by
        have hm : t ∈ Tryd.f6.params.toList := by
          rw [← Array.getElem?_toList] at ht
          exact List.mem_of_getElem? ht
        have := List.all_eq_true.1 noStands t hm
        have h2 : Tryd.prog.wantsStandIn t = false := by simpa using this
        exact h2⟩)
    (by kernel_rfl)
#print axioms proved
end Go.Proofs.YtbgjgaaobnbijaaDoor.parserPrecedence
