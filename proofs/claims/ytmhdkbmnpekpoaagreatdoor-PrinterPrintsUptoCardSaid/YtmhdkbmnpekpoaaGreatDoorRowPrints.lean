import Derived.Test.YtmhdkbmnpekpoaaGreatDoorB8
import Derived.Test.YtmhdkbmnpekpoaaGreatDoorRows
import Derived.Test.YtmhdkbmnpekpoaaGreatDoorCards
import Derived.Test.YtmhdkbmnpekpoaaGreatDoorTie
import Derived.WalkKit
import Derived.ProofKit
import Derived.OpenShut
import Derived.SevenTiedAt
/- PrinterPrints is proved in its second form: for every input of bulk at most 1048576 the law returns true and its arguments read as before. The condition: that bound. The listed package-level variables start as the program's text lays them (the card ties them). -/
set_option linter.unusedSimpArgs false
set_option linter.unusedVariables false
namespace Go.Proofs.YtmhdkbmnpekpoaaGreatDoor.printerPrints
open Gx Go Go.ChangeShapes Go.WideShapes Go.ChangeAt Go.RowKit
theorem reads (os:Os) {H:Type} (enc:TypeId × Value→H):DataW.whole enc Tryz.prog ((World.doorLaid Tryz.prog 400 os).forCall (fun _ _=>0) ⟨#[],#[.agg #[.int .i64 0,.string ⟨⟨[]⟩⟩,.int .i64 0,.int .i64 0,.slice none 0 0]],[]⟩).memory Tryz.f6.params.toList Rows.printerPrintsSpec.vars false #[.agg #[.int .i64 0,.string ⟨⟨[]⟩⟩,.int .i64 0,.int .i64 0,.slice none 0 0]].toList 8=some ([.agg [.lit (.int .i64 0),.lit (.string []),.lit (.int .i64 0),.lit (.int .i64 0),.nil]],[],[]):=by kernel_rfl
set_option maxRecDepth 100000 in
theorem lifted (os:Os) (started:os.Started) (H:Type) (enc:TypeId × Value→H) (F:Stop.Interp) :
 ReturnsInHanded {} Tryz.checked os 6 .any ((Rows.OpenSpec.upto Rows.printerPrintsSpec).preRow enc Tryz.prog Tryz.f6 Rows.printerPrintsUptoRow.domain false Rows.printerPrintsUptoRow.laid) (((Rows.OpenSpec.upto Rows.printerPrintsSpec).at F).post enc Tryz.prog Tryz.f6 false true false false):=by
 refine A9 (tb:=4) started (by kernel_rfl) Tryz.func6 (by kernel_rfl) rfl Tryz.underlying4 rfl ?_
  (witness_row_atRef (enc:=enc) (C:=Tryz.checked) false (World.doorLaid Tryz.prog 400 os) #[.agg #[.int .i64 0,.string ⟨⟨[]⟩⟩,.int .i64 0,.int .i64 0,.slice none 0 0]] rfl (by kernel_rfl) (by kernel_rfl) (by kernel_rfl)
   (OpenSpec.preRow_of_cond 8 (reads os enc) (by kernel_rfl) (fun k hk=>by cases hk; kernel_rfl) (by kernel_rfl) (MN os _))) ?_
 ·intro K ds hd
  rw[show Tryz.f6.params.size=1 from rfl] at hd
  match ds,hd with
  | [d0],_=>rfl
 ·intro W base args ds ps pK hA hk hG
  obtain ⟨v0,n0,rfl,h0,i0,w0⟩:=PZ (fn:=Tryz.f6) rfl pK hA hk
  exact Fl n0 i0 w0 hG h0
theorem over:Rows.printerPrintsUptoRow.holds Tryz.pinned (Rows.OpenSpec.upto Rows.printerPrintsSpec):=
 OpenClaim.holds_of_cond 6 Tryz.f6 rfl rfl rfl rfl rfl rfl rfl ⟨rfl,rfl,rfl,rfl,rfl⟩ rfl rfl rfl rfl rfl (by kernel_rfl) Tryz.func6 (by kernel_rfl)
  (of_decide_eq_true (by kernel_rfl)) (by unfold Func.isWrapper; first | (rw[if_pos (by decide +kernel)]; kernel_rfl) | (rw[if_neg (by decide +kernel)]; exact ⟨rfl,rfl⟩))
  (fun os started H enc _ F=>by rw[OpenClaim.pre_eq_preRow]; exact lifted os started H enc F)
theorem MQ:(Tryz.f6.params.toList.all fun t=>!Tryz.prog.wantsStandIn t)=true:=by kernel_rfl
theorem isNamed:Tryz.prog.funcNamed Rows.printerPrintsUptoRow.func=some 6:=by kernel_rfl
theorem proved:Rows.PrinterPrintsUptoCardSaid:=
 Claim7.holds_tied_plain_at .later [] [.data,.data,.data,.sentinel,.sentinel] true Rows.printerPrintsUptoCard.stood.harness true
  over (fun _ h=>by cases h) (by kernel_rfl) (fun _ h=>by cases h) printerPrintsUpto_row_tie rfl ⟨rfl,rfl⟩ (by kernel_rfl) rfl
  (fun f fn hf gm=>by
   obtain rfl:=Option.some.inj (isNamed.symm.trans hf)
   obtain rfl:=Option.some.inj (Tryz.func6.symm.trans gm)
   exact ⟨by kernel_rfl,fun j t ht=>by
    have hm:t ∈ Tryz.f6.params.toList:=by
     rw[← Array.getElem?_toList] at ht
     exact List.mem_of_getElem? ht
    have:=List.all_eq_true.1 MQ t hm
    have h2:Tryz.prog.wantsStandIn t=false:=by simpa using this
    exact h2⟩)
  (by kernel_rfl)
#print axioms proved
end Go.Proofs.YtmhdkbmnpekpoaaGreatDoor.printerPrints
