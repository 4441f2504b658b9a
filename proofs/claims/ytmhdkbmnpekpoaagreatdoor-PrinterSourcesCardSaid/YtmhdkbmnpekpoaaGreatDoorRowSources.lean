import Derived.Test.YtmhdkbmnpekpoaaGreatDoorB7
import Derived.Test.YtmhdkbmnpekpoaaGreatDoorRows
import Derived.Test.YtmhdkbmnpekpoaaGreatDoorCards
import Derived.Test.YtmhdkbmnpekpoaaGreatDoorTie
import Derived.WalkKit
import Derived.ProofKit
import Derived.OpenShut
import Derived.SevenTiedAt
/- PrinterSources is proved: for every input the law returns true and its arguments read as before. No other condition. The listed package-level variables start as the program's text lays them (the card ties them). -/
set_option linter.unusedSimpArgs false
set_option linter.unusedVariables false
namespace Go.Proofs.YtmhdkbmnpekpoaaGreatDoor.printerSources
open Gx Go Go.ChangeShapes Go.WideShapes Go.ChangeAt Go.RowKit
set_option maxRecDepth 100000 in
theorem lifted (os:Os) (started:os.Started) (H:Type) (enc:TypeId × Value→H) :
 ReturnsInHanded {} Tryz.checked os 7 .any (fun w args=>(Rows.printerSourcesSpec.pre enc Tryz.prog Tryz.f7 [] false w args∧laidMetH Tryz.prog laidL w)∧sizedMet enc Tryz.prog Tryz.f7 (OpenSpec.ofChange Rows.printerSourcesSpec) false w args)
  (Rows.printerSourcesSpec.post enc Tryz.prog Tryz.f7 false true false false):=by
 refine law_row_laid (tb:=4) started (by kernel_rfl) Tryz.func7 (by kernel_rfl) rfl Tryz.underlying4 rfl ?_
  (ChangeSpec.witness_shaped (enc:=enc) (C:=Tryz.checked) (os:=os) (X:=fun w _=>laidMetH Tryz.prog laidL w) false (World.doorLaid Tryz.prog 400 os) #[.string ⟨⟨[]⟩⟩] 8 rfl (World.shaped_of_RefB (by kernel_rfl) (by kernel_rfl)) (by kernel_rfl) (by kernel_rfl) (by kernel_rfl) (door_met os _)) ?_
 ·intro K ds hd
  rw [show Tryz.f7.params.size=1 from rfl] at hd
  match ds,hd with
  | [d0],_=>rfl
 ·intro W base args ds ps hval hA hG
  obtain ⟨v0,rfl,h0⟩:=args1 (fn:=Tryz.f7) (P:=Tryz.prog) rfl hval hA
  obtain ⟨l0,e,hl0⟩:=h0.one (opens_str Tryz.underlying9) (by kernel_rfl)
  cases e
  exact sources_law l0 hl0 hG
theorem over:Rows.printerSourcesRow.holds Tryz.pinned (OpenSpec.ofChange Rows.printerSourcesSpec):=
 OpenClaim.holds_of_wide 7 Tryz.f7 rfl rfl rfl rfl rfl rfl rfl ⟨rfl,rfl,rfl,rfl,rfl⟩ rfl rfl rfl rfl rfl (by kernel_rfl) Tryz.func7 (by kernel_rfl)
  (of_decide_eq_true (by kernel_rfl)) (by unfold Func.isWrapper; first | (rw [if_pos (by decide +kernel)]; kernel_rfl) | (rw [if_neg (by decide +kernel)]; exact ⟨rfl,rfl⟩))
  (fun os started H enc _=>lifted os started H enc)
theorem noStands:(Tryz.f7.params.toList.all fun t=>!Tryz.prog.wantsStandIn t)=true:=by kernel_rfl
theorem isNamed:Tryz.prog.funcNamed Rows.printerSourcesRow.func=some 7:=by kernel_rfl
theorem proved:Rows.PrinterSourcesCardSaid:=
 Claim7.holds_tied_plain_at .later [] [.data,.data,.data,.sentinel,.sentinel] true Rows.printerSourcesCard.stood.harness true
  over (fun _ h=>by cases h) (by kernel_rfl) (fun _ h=>by cases h) printerSources_row_tie rfl ⟨rfl,rfl⟩ (by kernel_rfl) rfl
  (fun f fn hf hfn=>by
   obtain rfl:=Option.some.inj (isNamed.symm.trans hf)
   obtain rfl:=Option.some.inj (Tryz.func7.symm.trans hfn)
   exact ⟨by kernel_rfl,fun j t ht=>by
    have hm:t ∈ Tryz.f7.params.toList:=by
     rw [← Array.getElem?_toList] at ht
     exact List.mem_of_getElem? ht
    have:=List.all_eq_true.1 noStands t hm
    have h2:Tryz.prog.wantsStandIn t=false:=by simpa using this
    exact h2⟩)
  (by kernel_rfl)
#print axioms proved
end Go.Proofs.YtmhdkbmnpekpoaaGreatDoor.printerSources
