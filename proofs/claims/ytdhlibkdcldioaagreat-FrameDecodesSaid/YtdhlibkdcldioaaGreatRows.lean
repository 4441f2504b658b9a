/-
  No cell of these rows narrows 'for every input' (looked for: loops, veiled, ifaces, maps, wideKeys, modest, calm, conditions, laid).
  DERIVED. THE GIVEN ROWS OF THIS SEAT. 8 by the template 'for every input the law returns true; each argument reads behind the call as it read before'; 0 by the template 'total and deterministic' (their statements: YtdhlibkdcldioaaGreatTotals.lean).
  GIVEN WITH THE SEED: the statements are not yours to turn. If you find one false, say at which input.
  Laid BY PROGRAM, IN A SANDBOX (cutbox-rows.mjs): the forced cells as the released guide's own fill.sh prints them over the translation 036bc241d300d97c… (all of the seat's roots in one cut). By AI agents, Wed Nov 11 2026. No macro, syntax, notation, axiom, sorry.
-/
import Derived.Test.YtdhlibkdcldioaaGreatChecked
import GoSem.Claim
import GoSem.ClaimJoined
import GoSem.ClaimMapViews
import Derived.JoinedTies
import Derived.KernelRfl
namespace Go.Proofs.YtdhlibkdcldioaaGreat
/- THE CELL 'sum', in the pinned program and in every row, IS THE sha256 OF THE DUMP (.gsa) THAT YtdhlibkdcldioaaGreatProg.lean LOADS. Nothing in Lean hashes anything: it is a label: what it is worth is what the hold of that sum in a sandbox is worth. -/
noncomputable def Tryz.pinned : Pinned := { name := "ytdhlibkdcldioaagreat", sum := "036bc241d300d97c0a04618b120ddb60d54c1a0f0bcef963d76aa77a7a28fb24", checked := Tryz.checked }
namespace Rows
def none {H : Type} : Left H := { results := [], args := [] }

/-- 'plexuslaw30.FrameSum': WHATEVER THE INPUT: true; the input reads as it did. -/
def frameSumSpec : ChangeSpec := { name := "frameSum", fn := fun _ => fun
  | [d] => { results := [.lit (.bool true)], args := [d] }
  | _ => none }
def frameSumRow : OpenClaim := { program := "ytdhlibkdcldioaagreat", sum := "036bc241d300d97c0a04618b120ddb60d54c1a0f0bcef963d76aa77a7a28fb24", func := "plexus/plexuslaw30.FrameSum", spec := "frameSum", unfollowed := true, recurses := true, apart := false }
def FrameSumSaid : Prop := frameSumRow.holds Tryz.pinned (OpenSpec.ofChange frameSumSpec)

/-- ITS FALSE NEIGHBOUR: 'it returns false'. Refute it at one input. -/
def frameSumWrong : ChangeSpec := { name := "frameSum", fn := fun _ => fun
  | [d] => { results := [.lit (.bool false)], args := [d] }
  | _ => none }
def FrameSumWrongFalsely : Prop := frameSumRow.holds Tryz.pinned (OpenSpec.ofChange frameSumWrong)

/-- 'plexuslaw30.FrameCheck': WHATEVER THE INPUT: true; the input reads as it did. -/
def frameCheckSpec : ChangeSpec := { name := "frameCheck", fn := fun _ => fun
  | [d] => { results := [.lit (.bool true)], args := [d] }
  | _ => none }
def frameCheckRow : OpenClaim := { program := "ytdhlibkdcldioaagreat", sum := "036bc241d300d97c0a04618b120ddb60d54c1a0f0bcef963d76aa77a7a28fb24", func := "plexus/plexuslaw30.FrameCheck", spec := "frameCheck", unfollowed := true, recurses := true, apart := false }
def FrameCheckSaid : Prop := frameCheckRow.holds Tryz.pinned (OpenSpec.ofChange frameCheckSpec)

/-- ITS FALSE NEIGHBOUR: 'it returns false'. Refute it at one input. -/
def frameCheckWrong : ChangeSpec := { name := "frameCheck", fn := fun _ => fun
  | [d] => { results := [.lit (.bool false)], args := [d] }
  | _ => none }
def FrameCheckWrongFalsely : Prop := frameCheckRow.holds Tryz.pinned (OpenSpec.ofChange frameCheckWrong)

/-- 'plexuslaw30.FrameEncodes': WHATEVER THE INPUT: true; the input reads as it did. -/
def frameEncodesSpec : ChangeSpec := { name := "frameEncodes", fn := fun _ => fun
  | [d] => { results := [.lit (.bool true)], args := [d] }
  | _ => none }
def frameEncodesRow : OpenClaim := { program := "ytdhlibkdcldioaagreat", sum := "036bc241d300d97c0a04618b120ddb60d54c1a0f0bcef963d76aa77a7a28fb24", func := "plexus/plexuslaw30.FrameEncodes", spec := "frameEncodes", unfollowed := true, recurses := true, apart := false }
def FrameEncodesSaid : Prop := frameEncodesRow.holds Tryz.pinned (OpenSpec.ofChange frameEncodesSpec)

/-- ITS FALSE NEIGHBOUR: 'it returns false'. Refute it at one input. -/
def frameEncodesWrong : ChangeSpec := { name := "frameEncodes", fn := fun _ => fun
  | [d] => { results := [.lit (.bool false)], args := [d] }
  | _ => none }
def FrameEncodesWrongFalsely : Prop := frameEncodesRow.holds Tryz.pinned (OpenSpec.ofChange frameEncodesWrong)

/-- 'plexuslaw30.FrameDecodes': WHATEVER THE INPUT: true; the input reads as it did. -/
def frameDecodesSpec : ChangeSpec := { name := "frameDecodes", fn := fun _ => fun
  | [d1, d2] => { results := [.lit (.bool true)], args := [d1, d2] }
  | _ => none }
def frameDecodesRow : OpenClaim := { program := "ytdhlibkdcldioaagreat", sum := "036bc241d300d97c0a04618b120ddb60d54c1a0f0bcef963d76aa77a7a28fb24", func := "plexus/plexuslaw30.FrameDecodes", spec := "frameDecodes", unfollowed := true, recurses := true, apart := false }
def FrameDecodesSaid : Prop := frameDecodesRow.holds Tryz.pinned (OpenSpec.ofChange frameDecodesSpec)

/-- ITS FALSE NEIGHBOUR: 'it returns false'. Refute it at one input. -/
def frameDecodesWrong : ChangeSpec := { name := "frameDecodes", fn := fun _ => fun
  | [d1, d2] => { results := [.lit (.bool false)], args := [d1, d2] }
  | _ => none }
def FrameDecodesWrongFalsely : Prop := frameDecodesRow.holds Tryz.pinned (OpenSpec.ofChange frameDecodesWrong)

/-- 'plexuslaw30.FrameEqual': WHATEVER THE INPUT: true; the input reads as it did. -/
def frameEqualSpec : ChangeSpec := { name := "frameEqual", fn := fun _ => fun
  | [d1, d2] => { results := [.lit (.bool true)], args := [d1, d2] }
  | _ => none }
def frameEqualRow : OpenClaim := { program := "ytdhlibkdcldioaagreat", sum := "036bc241d300d97c0a04618b120ddb60d54c1a0f0bcef963d76aa77a7a28fb24", func := "plexus/plexuslaw30.FrameEqual", spec := "frameEqual", unfollowed := true, recurses := true, apart := false }
def FrameEqualSaid : Prop := frameEqualRow.holds Tryz.pinned (OpenSpec.ofChange frameEqualSpec)

/-- ITS FALSE NEIGHBOUR: 'it returns false'. Refute it at one input. -/
def frameEqualWrong : ChangeSpec := { name := "frameEqual", fn := fun _ => fun
  | [d1, d2] => { results := [.lit (.bool false)], args := [d1, d2] }
  | _ => none }
def FrameEqualWrongFalsely : Prop := frameEqualRow.holds Tryz.pinned (OpenSpec.ofChange frameEqualWrong)

/-- 'plexuslaw30.FrameCuts': WHATEVER THE INPUT: true; the input reads as it did. -/
def frameCutsSpec : ChangeSpec := { name := "frameCuts", fn := fun _ => fun
  | [d1, d2, d3] => { results := [.lit (.bool true)], args := [d1, d2, d3] }
  | _ => none }
def frameCutsRow : OpenClaim := { program := "ytdhlibkdcldioaagreat", sum := "036bc241d300d97c0a04618b120ddb60d54c1a0f0bcef963d76aa77a7a28fb24", func := "plexus/plexuslaw30.FrameCuts", spec := "frameCuts", unfollowed := true, recurses := true, apart := false }
def FrameCutsSaid : Prop := frameCutsRow.holds Tryz.pinned (OpenSpec.ofChange frameCutsSpec)

/-- ITS FALSE NEIGHBOUR: 'it returns false'. Refute it at one input. -/
def frameCutsWrong : ChangeSpec := { name := "frameCuts", fn := fun _ => fun
  | [d1, d2, d3] => { results := [.lit (.bool false)], args := [d1, d2, d3] }
  | _ => none }
def FrameCutsWrongFalsely : Prop := frameCutsRow.holds Tryz.pinned (OpenSpec.ofChange frameCutsWrong)

/-- 'plexuslaw30.FrameBursts': WHATEVER THE INPUT: true; the input reads as it did. -/
def frameBurstsSpec : ChangeSpec := { name := "frameBursts", fn := fun _ => fun
  | [d1, d2, d3] => { results := [.lit (.bool true)], args := [d1, d2, d3] }
  | _ => none }
def frameBurstsRow : OpenClaim := { program := "ytdhlibkdcldioaagreat", sum := "036bc241d300d97c0a04618b120ddb60d54c1a0f0bcef963d76aa77a7a28fb24", func := "plexus/plexuslaw30.FrameBursts", spec := "frameBursts", unfollowed := true, recurses := true, apart := false }
def FrameBurstsSaid : Prop := frameBurstsRow.holds Tryz.pinned (OpenSpec.ofChange frameBurstsSpec)

/-- ITS FALSE NEIGHBOUR: 'it returns false'. Refute it at one input. -/
def frameBurstsWrong : ChangeSpec := { name := "frameBursts", fn := fun _ => fun
  | [d1, d2, d3] => { results := [.lit (.bool false)], args := [d1, d2, d3] }
  | _ => none }
def FrameBurstsWrongFalsely : Prop := frameBurstsRow.holds Tryz.pinned (OpenSpec.ofChange frameBurstsWrong)

/-- 'plexuslaw30.FrameLinear': WHATEVER THE INPUT: true; the input reads as it did. -/
def frameLinearSpec : ChangeSpec := { name := "frameLinear", fn := fun _ => fun
  | [d1, d2, d3] => { results := [.lit (.bool true)], args := [d1, d2, d3] }
  | _ => none }
def frameLinearRow : OpenClaim := { program := "ytdhlibkdcldioaagreat", sum := "036bc241d300d97c0a04618b120ddb60d54c1a0f0bcef963d76aa77a7a28fb24", func := "plexus/plexuslaw30.FrameLinear", spec := "frameLinear", unfollowed := true, recurses := true, apart := false }
def FrameLinearSaid : Prop := frameLinearRow.holds Tryz.pinned (OpenSpec.ofChange frameLinearSpec)

/-- ITS FALSE NEIGHBOUR: 'it returns false'. Refute it at one input. -/
def frameLinearWrong : ChangeSpec := { name := "frameLinear", fn := fun _ => fun
  | [d1, d2, d3] => { results := [.lit (.bool false)], args := [d1, d2, d3] }
  | _ => none }
def FrameLinearWrongFalsely : Prop := frameLinearRow.holds Tryz.pinned (OpenSpec.ofChange frameLinearWrong)

/- THE SECOND FORM. 'bulk': how many values and letters a reading holds, each counted each time it is reached (what is shared counts as often as it is met; a slice's spare places count too). A statement '..UptoSaid' is the law's where the arguments, and the package variables that the reading takes, are together of bulk at most 1048576: NARROWER than '..Said'. Prove '..Said' where nothing that the law and all that it calls make is longer than what came in: it says more and counts as full. Else prove '..UptoSaid'. A law counts once. -/
mutual
def uptoBulk {H : Type} : DataW H → Nat
  | .lit (.string bytes) => bytes.length + 1
  | .lit _ => 1
  | .nil => 1
  | .ptr d => uptoBulk d + 1
  | .slice elems spare => uptoBulkAll elems + uptoBulkAll spare + 1
  | .agg parts => uptoBulkAll parts + 1
  | .iface _ d => uptoBulk d + 1
  | .map entries => uptoBulkEntries entries + 1
  | .held _ => 1
def uptoBulkAll {H : Type} : List (DataW H) → Nat
  | [] => 0
  | d :: r => uptoBulk d + uptoBulkAll r
def uptoBulkEntries {H : Type} : List (Lit × DataW H) → Nat
  | [] => 0
  | x :: r => uptoBulkEntry x + uptoBulkEntries r
def uptoBulkEntry {H : Type} : Lit × DataW H → Nat
  | (.string bytes, d) => bytes.length + uptoBulk d + 1
  | (_, d) => uptoBulk d + 1
 end
def uptoSmall : (H : Type) → List (DataW H) → Bool := fun _ ds => decide (uptoBulkAll ds ≤ 1048576)
def OpenSpec.upto (s : _root_.Go.ChangeSpec) : _root_.Go.OpenSpec := { _root_.Go.OpenSpec.ofChange s with cond := some uptoSmall }

/-- 'plexuslaw30.FrameSum', WHERE WHAT IT READS IS OF BULK AT MOST 1048576: true; the input reads as it did. -/
def frameSumUptoRow : OpenClaim := { program := "ytdhlibkdcldioaagreat", sum := "036bc241d300d97c0a04618b120ddb60d54c1a0f0bcef963d76aa77a7a28fb24", func := "plexus/plexuslaw30.FrameSum", spec := "frameSum", unfollowed := true, recurses := true, apart := false, narrowed := true }
def FrameSumUptoSaid : Prop := frameSumUptoRow.holds Tryz.pinned (OpenSpec.upto frameSumSpec)

/-- 'plexuslaw30.FrameCheck', WHERE WHAT IT READS IS OF BULK AT MOST 1048576: true; the input reads as it did. -/
def frameCheckUptoRow : OpenClaim := { program := "ytdhlibkdcldioaagreat", sum := "036bc241d300d97c0a04618b120ddb60d54c1a0f0bcef963d76aa77a7a28fb24", func := "plexus/plexuslaw30.FrameCheck", spec := "frameCheck", unfollowed := true, recurses := true, apart := false, narrowed := true }
def FrameCheckUptoSaid : Prop := frameCheckUptoRow.holds Tryz.pinned (OpenSpec.upto frameCheckSpec)

/-- 'plexuslaw30.FrameEncodes', WHERE WHAT IT READS IS OF BULK AT MOST 1048576: true; the input reads as it did. -/
def frameEncodesUptoRow : OpenClaim := { program := "ytdhlibkdcldioaagreat", sum := "036bc241d300d97c0a04618b120ddb60d54c1a0f0bcef963d76aa77a7a28fb24", func := "plexus/plexuslaw30.FrameEncodes", spec := "frameEncodes", unfollowed := true, recurses := true, apart := false, narrowed := true }
def FrameEncodesUptoSaid : Prop := frameEncodesUptoRow.holds Tryz.pinned (OpenSpec.upto frameEncodesSpec)

/-- 'plexuslaw30.FrameDecodes', WHERE WHAT IT READS IS OF BULK AT MOST 1048576: true; the input reads as it did. -/
def frameDecodesUptoRow : OpenClaim := { program := "ytdhlibkdcldioaagreat", sum := "036bc241d300d97c0a04618b120ddb60d54c1a0f0bcef963d76aa77a7a28fb24", func := "plexus/plexuslaw30.FrameDecodes", spec := "frameDecodes", unfollowed := true, recurses := true, apart := false, narrowed := true }
def FrameDecodesUptoSaid : Prop := frameDecodesUptoRow.holds Tryz.pinned (OpenSpec.upto frameDecodesSpec)

/-- 'plexuslaw30.FrameEqual', WHERE WHAT IT READS IS OF BULK AT MOST 1048576: true; the input reads as it did. -/
def frameEqualUptoRow : OpenClaim := { program := "ytdhlibkdcldioaagreat", sum := "036bc241d300d97c0a04618b120ddb60d54c1a0f0bcef963d76aa77a7a28fb24", func := "plexus/plexuslaw30.FrameEqual", spec := "frameEqual", unfollowed := true, recurses := true, apart := false, narrowed := true }
def FrameEqualUptoSaid : Prop := frameEqualUptoRow.holds Tryz.pinned (OpenSpec.upto frameEqualSpec)

/-- 'plexuslaw30.FrameCuts', WHERE WHAT IT READS IS OF BULK AT MOST 1048576: true; the input reads as it did. -/
def frameCutsUptoRow : OpenClaim := { program := "ytdhlibkdcldioaagreat", sum := "036bc241d300d97c0a04618b120ddb60d54c1a0f0bcef963d76aa77a7a28fb24", func := "plexus/plexuslaw30.FrameCuts", spec := "frameCuts", unfollowed := true, recurses := true, apart := false, narrowed := true }
def FrameCutsUptoSaid : Prop := frameCutsUptoRow.holds Tryz.pinned (OpenSpec.upto frameCutsSpec)

/-- 'plexuslaw30.FrameBursts', WHERE WHAT IT READS IS OF BULK AT MOST 1048576: true; the input reads as it did. -/
def frameBurstsUptoRow : OpenClaim := { program := "ytdhlibkdcldioaagreat", sum := "036bc241d300d97c0a04618b120ddb60d54c1a0f0bcef963d76aa77a7a28fb24", func := "plexus/plexuslaw30.FrameBursts", spec := "frameBursts", unfollowed := true, recurses := true, apart := false, narrowed := true }
def FrameBurstsUptoSaid : Prop := frameBurstsUptoRow.holds Tryz.pinned (OpenSpec.upto frameBurstsSpec)

/-- 'plexuslaw30.FrameLinear', WHERE WHAT IT READS IS OF BULK AT MOST 1048576: true; the input reads as it did. -/
def frameLinearUptoRow : OpenClaim := { program := "ytdhlibkdcldioaagreat", sum := "036bc241d300d97c0a04618b120ddb60d54c1a0f0bcef963d76aa77a7a28fb24", func := "plexus/plexuslaw30.FrameLinear", spec := "frameLinear", unfollowed := true, recurses := true, apart := false, narrowed := true }
def FrameLinearUptoSaid : Prop := frameLinearUptoRow.holds Tryz.pinned (OpenSpec.upto frameLinearSpec)

end Rows
end Go.Proofs.YtdhlibkdcldioaaGreat
