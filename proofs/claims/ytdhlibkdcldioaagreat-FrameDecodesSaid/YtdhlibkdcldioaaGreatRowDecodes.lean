import Derived.Test.YtdhlibkdcldioaaGreatB27
import Derived.Test.YtdhlibkdcldioaaGreatB10
import Derived.Test.YtdhlibkdcldioaaGreatRows
import Derived.WalkKit
import Derived.ProofKit
import Derived.OpenShut
/- FrameDecodes is proved: for every input the law returns true and its arguments read as before.  No condition. -/
set_option linter.unusedSimpArgs false
set_option linter.unusedVariables false
namespace Go.Proofs.YtdhlibkdcldioaaGreat.frameDecodes
open Gx Go Go.ChangeShapes Go.WideShapes Go.ChangeAt Go.RowKit
theorem own:ownKnob Tryz.prog.godebug=none:=by kernel_rfl
theorem laid:laidOutB Tryz.prog=true:=by kernel_rfl
set_option maxRecDepth 100000 in
theorem lifted (os:Os) (started:os.Started) (H:Type) (enc:TypeId × Value→H) :
 ReturnsInHanded {} Tryz.checked os 6 .any (Rows.frameDecodesSpec.pre6 enc Tryz.prog Tryz.f6 Rows.frameDecodesRow.domain false) (Rows.frameDecodesSpec.post enc Tryz.prog Tryz.f6 false true false false):=by
 refine law_row (C:=Tryz.checked) (tb:=4) own started (by kernel_rfl) Tryz.func6 laid (by kernel_rfl) rfl Tryz.underlying4 rfl ?_
  (ChangeSpec.witness6 (enc:=enc) (C:=Tryz.checked) false ⟨#[],#[.slice none 0 0,.bool false],[]⟩ 8 (by kernel_rfl) (by kernel_rfl) (by kernel_rfl) (by kernel_rfl)) ?_
 ·intro K ds hd
  rw [show Tryz.f6.params.size=2 from rfl] at hd
  match ds,hd with
  | [d0,d1],_=>rfl
 ·intro W base args ds ps hval hA
  obtain ⟨v0,v1,rfl,h0,h1⟩:=args2 (fn:=Tryz.f6) (P:=Tryz.prog) rfl hval hA
  obtain ⟨l0,hl0⟩:=h0.one (opens_bytes Tryz.underlying22 (by kernel_rfl) (by kernel_rfl)) (by kernel_rfl)
  obtain ⟨a0,c0,e0,hc0,hm0,hb0⟩:=hl0
  obtain ⟨t1,e1⟩:=h1.one (opens_bool Tryz.underlying4) (by kernel_rfl)
  simp only [BoolR,List.cons.injEq,and_true] at e0 e1
  subst e0 e1
  exact decodes_law hb0 hc0 hm0 t1
theorem over:Rows.frameDecodesRow.holds Tryz.pinned (OpenSpec.ofChange Rows.frameDecodesSpec):=
 OpenClaim.holds_of_wide 6 Tryz.f6 rfl rfl rfl rfl rfl rfl rfl ⟨rfl,rfl,rfl,rfl,rfl⟩ rfl rfl rfl rfl rfl (by kernel_rfl) Tryz.func6 (by kernel_rfl)
  (of_decide_eq_true (by kernel_rfl)) (by unfold Func.isWrapper; first | (rw [if_pos (by decide +kernel)]; kernel_rfl) | (rw [if_neg (by decide +kernel)]; exact ⟨rfl,rfl⟩))
  (fun os started H enc _=>lifted os started H enc)
theorem proved:Rows.FrameDecodesSaid:=
 over
#print axioms proved
end Go.Proofs.YtdhlibkdcldioaaGreat.frameDecodes
