/-
  No cell of these rows narrows 'for every input' (looked for: loops, veiled, ifaces, maps, wideKeys, modest, calm, conditions, laid).
  DERIVED. THE GIVEN ROWS OF THIS SEAT. 7 by the template 'for every input the law returns true; each argument reads behind the call as it read before'; 0 by the template 'total and deterministic' (their statements: YtighhngepdmmlaaTotals.lean).
  GIVEN WITH THE SEED: the statements are not yours to turn. If you find one false, say at which input.
  Laid BY PROGRAM, IN A SANDBOX (cutbox-rows.mjs): the forced cells as the released guide's own fill.sh prints them over the translation 4460e3c0092e5083… (all of the seat's roots in one cut). By AI agents, Wed Nov 11 2026. No macro, syntax, notation, axiom, sorry.
-/
import Derived.Test.YtighhngepdmmlaaChecked
import GoSem.Claim
import GoSem.ClaimJoined
import GoSem.ClaimMapViews
import Derived.JoinedTies
import Derived.KernelRfl
namespace Go.Proofs.Ytighhngepdmmlaa
/- THE CELL 'sum', in the pinned program and in every row, IS THE sha256 OF THE DUMP (.gsa) THAT YtighhngepdmmlaaProg.lean LOADS. Nothing in Lean hashes anything: it is a label: what it is worth is what the hold of that sum in a sandbox is worth. -/
noncomputable def Try.pinned : Pinned := { name := "ytighhngepdmmlaa", sum := "4460e3c0092e508358da2d198b2fb9e945f44051415c0771c2d25a84b8eac086", checked := Try.checked }
namespace Rows
def none {H : Type} : Left H := { results := [], args := [] }

/-- 'plexuslaw01.WireWrites': WHATEVER THE INPUT: true; the input reads as it did. -/
def wireWritesSpec : ChangeSpec := { name := "wireWrites", fn := fun _ => fun
  | [d] => { results := [.lit (.bool true)], args := [d] }
  | _ => none }
def wireWritesRow : OpenClaim := { program := "ytighhngepdmmlaa", sum := "4460e3c0092e508358da2d198b2fb9e945f44051415c0771c2d25a84b8eac086", func := "plexus/plexuslaw01.WireWrites", spec := "wireWrites", apart := false }
def WireWritesSaid : Prop := wireWritesRow.holds Try.pinned (OpenSpec.ofChange wireWritesSpec)

/-- ITS FALSE NEIGHBOUR: 'it returns false'. Refute it at one input. -/
def wireWritesWrong : ChangeSpec := { name := "wireWrites", fn := fun _ => fun
  | [d] => { results := [.lit (.bool false)], args := [d] }
  | _ => none }
def WireWritesWrongFalsely : Prop := wireWritesRow.holds Try.pinned (OpenSpec.ofChange wireWritesWrong)

/-- 'plexuslaw01.WireShort': WHATEVER THE INPUT: true; the input reads as it did. -/
def wireShortSpec : ChangeSpec := { name := "wireShort", fn := fun _ => fun
  | [d1, d2] => { results := [.lit (.bool true)], args := [d1, d2] }
  | _ => none }
def wireShortRow : OpenClaim := { program := "ytighhngepdmmlaa", sum := "4460e3c0092e508358da2d198b2fb9e945f44051415c0771c2d25a84b8eac086", func := "plexus/plexuslaw01.WireShort", spec := "wireShort", apart := false }
def WireShortSaid : Prop := wireShortRow.holds Try.pinned (OpenSpec.ofChange wireShortSpec)

/-- ITS FALSE NEIGHBOUR: 'it returns false'. Refute it at one input. -/
def wireShortWrong : ChangeSpec := { name := "wireShort", fn := fun _ => fun
  | [d1, d2] => { results := [.lit (.bool false)], args := [d1, d2] }
  | _ => none }
def WireShortWrongFalsely : Prop := wireShortRow.holds Try.pinned (OpenSpec.ofChange wireShortWrong)

/-- 'plexuslaw01.WireSigned': WHATEVER THE INPUT: true; the input reads as it did. -/
def wireSignedSpec : ChangeSpec := { name := "wireSigned", fn := fun _ => fun
  | [d] => { results := [.lit (.bool true)], args := [d] }
  | _ => none }
def wireSignedRow : OpenClaim := { program := "ytighhngepdmmlaa", sum := "4460e3c0092e508358da2d198b2fb9e945f44051415c0771c2d25a84b8eac086", func := "plexus/plexuslaw01.WireSigned", spec := "wireSigned", apart := false }
def WireSignedSaid : Prop := wireSignedRow.holds Try.pinned (OpenSpec.ofChange wireSignedSpec)

/-- ITS FALSE NEIGHBOUR: 'it returns false'. Refute it at one input. -/
def wireSignedWrong : ChangeSpec := { name := "wireSigned", fn := fun _ => fun
  | [d] => { results := [.lit (.bool false)], args := [d] }
  | _ => none }
def WireSignedWrongFalsely : Prop := wireSignedRow.holds Try.pinned (OpenSpec.ofChange wireSignedWrong)

/-- 'plexuslaw01.WireMemory': WHATEVER THE INPUT: true; the input reads as it did. -/
def wireMemorySpec : ChangeSpec := { name := "wireMemory", fn := fun _ => fun
  | [d1, d2] => { results := [.lit (.bool true)], args := [d1, d2] }
  | _ => none }
def wireMemoryRow : OpenClaim := { program := "ytighhngepdmmlaa", sum := "4460e3c0092e508358da2d198b2fb9e945f44051415c0771c2d25a84b8eac086", func := "plexus/plexuslaw01.WireMemory", spec := "wireMemory", apart := false }
def WireMemorySaid : Prop := wireMemoryRow.holds Try.pinned (OpenSpec.ofChange wireMemorySpec)

/-- ITS FALSE NEIGHBOUR: 'it returns false'. Refute it at one input. -/
def wireMemoryWrong : ChangeSpec := { name := "wireMemory", fn := fun _ => fun
  | [d1, d2] => { results := [.lit (.bool false)], args := [d1, d2] }
  | _ => none }
def WireMemoryWrongFalsely : Prop := wireMemoryRow.holds Try.pinned (OpenSpec.ofChange wireMemoryWrong)

/-- 'plexuslaw01.WireReads': WHATEVER THE INPUT: true; the input reads as it did. -/
def wireReadsSpec : ChangeSpec := { name := "wireReads", fn := fun _ => fun
  | [d1, d2] => { results := [.lit (.bool true)], args := [d1, d2] }
  | _ => none }
def wireReadsRow : OpenClaim := { program := "ytighhngepdmmlaa", sum := "4460e3c0092e508358da2d198b2fb9e945f44051415c0771c2d25a84b8eac086", func := "plexus/plexuslaw01.WireReads", spec := "wireReads", apart := false }
def WireReadsSaid : Prop := wireReadsRow.holds Try.pinned (OpenSpec.ofChange wireReadsSpec)

/-- ITS FALSE NEIGHBOUR: 'it returns false'. Refute it at one input. -/
def wireReadsWrong : ChangeSpec := { name := "wireReads", fn := fun _ => fun
  | [d1, d2] => { results := [.lit (.bool false)], args := [d1, d2] }
  | _ => none }
def WireReadsWrongFalsely : Prop := wireReadsRow.holds Try.pinned (OpenSpec.ofChange wireReadsWrong)

/-- 'plexuslaw01.WireCanonical': WHATEVER THE INPUT: true; the input reads as it did. -/
def wireCanonicalSpec : ChangeSpec := { name := "wireCanonical", fn := fun _ => fun
  | [d1, d2] => { results := [.lit (.bool true)], args := [d1, d2] }
  | _ => none }
def wireCanonicalRow : OpenClaim := { program := "ytighhngepdmmlaa", sum := "4460e3c0092e508358da2d198b2fb9e945f44051415c0771c2d25a84b8eac086", func := "plexus/plexuslaw01.WireCanonical", spec := "wireCanonical", apart := false }
def WireCanonicalSaid : Prop := wireCanonicalRow.holds Try.pinned (OpenSpec.ofChange wireCanonicalSpec)

/-- ITS FALSE NEIGHBOUR: 'it returns false'. Refute it at one input. -/
def wireCanonicalWrong : ChangeSpec := { name := "wireCanonical", fn := fun _ => fun
  | [d1, d2] => { results := [.lit (.bool false)], args := [d1, d2] }
  | _ => none }
def WireCanonicalWrongFalsely : Prop := wireCanonicalRow.holds Try.pinned (OpenSpec.ofChange wireCanonicalWrong)

/-- 'plexuslaw01.WireCut': WHATEVER THE INPUT: true; the input reads as it did. -/
def wireCutSpec : ChangeSpec := { name := "wireCut", fn := fun _ => fun
  | [d1, d2] => { results := [.lit (.bool true)], args := [d1, d2] }
  | _ => none }
def wireCutRow : OpenClaim := { program := "ytighhngepdmmlaa", sum := "4460e3c0092e508358da2d198b2fb9e945f44051415c0771c2d25a84b8eac086", func := "plexus/plexuslaw01.WireCut", spec := "wireCut", apart := false }
def WireCutSaid : Prop := wireCutRow.holds Try.pinned (OpenSpec.ofChange wireCutSpec)

/-- ITS FALSE NEIGHBOUR: 'it returns false'. Refute it at one input. -/
def wireCutWrong : ChangeSpec := { name := "wireCut", fn := fun _ => fun
  | [d1, d2] => { results := [.lit (.bool false)], args := [d1, d2] }
  | _ => none }
def WireCutWrongFalsely : Prop := wireCutRow.holds Try.pinned (OpenSpec.ofChange wireCutWrong)

/- THE SECOND FORM. 'bulk': how many values and letters a reading holds, each counted each time it is reached (what is shared counts as often as it is met; a slice's spare places count too). A statement '..UptoSaid' is the law's where the arguments, and the package variables that the reading takes, are together of bulk at most 1048576: NARROWER than '..Said'. Prove '..Said' where nothing that the law and all that it calls make is longer than what came in: it says more and counts as full. Else prove '..UptoSaid'. A law counts once. -/
mutual
def uptoBulk {H : Type} : DataW H → Nat
  | .lit (.string bytes) => bytes.length + 1
  | .lit _ => 1
  | .nil => 1
  | .ptr d => uptoBulk d + 1
  | .slice elems spare => uptoBulkAll elems + uptoBulkAll spare + 1
  | .agg parts => uptoBulkAll parts + 1
  | .iface _ d => uptoBulk d + 1
  | .map entries => uptoBulkEntries entries + 1
  | .held _ => 1
def uptoBulkAll {H : Type} : List (DataW H) → Nat
  | [] => 0
  | d :: r => uptoBulk d + uptoBulkAll r
def uptoBulkEntries {H : Type} : List (Lit × DataW H) → Nat
  | [] => 0
  | x :: r => uptoBulkEntry x + uptoBulkEntries r
def uptoBulkEntry {H : Type} : Lit × DataW H → Nat
  | (.string bytes, d) => bytes.length + uptoBulk d + 1
  | (_, d) => uptoBulk d + 1
 end
def uptoSmall : (H : Type) → List (DataW H) → Bool := fun _ ds => decide (uptoBulkAll ds ≤ 1048576)
def OpenSpec.upto (s : _root_.Go.ChangeSpec) : _root_.Go.OpenSpec := { _root_.Go.OpenSpec.ofChange s with cond := some uptoSmall }

/-- 'plexuslaw01.WireWrites', WHERE WHAT IT READS IS OF BULK AT MOST 1048576: true; the input reads as it did. -/
def wireWritesUptoRow : OpenClaim := { program := "ytighhngepdmmlaa", sum := "4460e3c0092e508358da2d198b2fb9e945f44051415c0771c2d25a84b8eac086", func := "plexus/plexuslaw01.WireWrites", spec := "wireWrites", apart := false, narrowed := true }
def WireWritesUptoSaid : Prop := wireWritesUptoRow.holds Try.pinned (OpenSpec.upto wireWritesSpec)

/-- 'plexuslaw01.WireShort', WHERE WHAT IT READS IS OF BULK AT MOST 1048576: true; the input reads as it did. -/
def wireShortUptoRow : OpenClaim := { program := "ytighhngepdmmlaa", sum := "4460e3c0092e508358da2d198b2fb9e945f44051415c0771c2d25a84b8eac086", func := "plexus/plexuslaw01.WireShort", spec := "wireShort", apart := false, narrowed := true }
def WireShortUptoSaid : Prop := wireShortUptoRow.holds Try.pinned (OpenSpec.upto wireShortSpec)

/-- 'plexuslaw01.WireSigned', WHERE WHAT IT READS IS OF BULK AT MOST 1048576: true; the input reads as it did. -/
def wireSignedUptoRow : OpenClaim := { program := "ytighhngepdmmlaa", sum := "4460e3c0092e508358da2d198b2fb9e945f44051415c0771c2d25a84b8eac086", func := "plexus/plexuslaw01.WireSigned", spec := "wireSigned", apart := false, narrowed := true }
def WireSignedUptoSaid : Prop := wireSignedUptoRow.holds Try.pinned (OpenSpec.upto wireSignedSpec)

/-- 'plexuslaw01.WireMemory', WHERE WHAT IT READS IS OF BULK AT MOST 1048576: true; the input reads as it did. -/
def wireMemoryUptoRow : OpenClaim := { program := "ytighhngepdmmlaa", sum := "4460e3c0092e508358da2d198b2fb9e945f44051415c0771c2d25a84b8eac086", func := "plexus/plexuslaw01.WireMemory", spec := "wireMemory", apart := false, narrowed := true }
def WireMemoryUptoSaid : Prop := wireMemoryUptoRow.holds Try.pinned (OpenSpec.upto wireMemorySpec)

/-- 'plexuslaw01.WireReads', WHERE WHAT IT READS IS OF BULK AT MOST 1048576: true; the input reads as it did. -/
def wireReadsUptoRow : OpenClaim := { program := "ytighhngepdmmlaa", sum := "4460e3c0092e508358da2d198b2fb9e945f44051415c0771c2d25a84b8eac086", func := "plexus/plexuslaw01.WireReads", spec := "wireReads", apart := false, narrowed := true }
def WireReadsUptoSaid : Prop := wireReadsUptoRow.holds Try.pinned (OpenSpec.upto wireReadsSpec)

/-- 'plexuslaw01.WireCanonical', WHERE WHAT IT READS IS OF BULK AT MOST 1048576: true; the input reads as it did. -/
def wireCanonicalUptoRow : OpenClaim := { program := "ytighhngepdmmlaa", sum := "4460e3c0092e508358da2d198b2fb9e945f44051415c0771c2d25a84b8eac086", func := "plexus/plexuslaw01.WireCanonical", spec := "wireCanonical", apart := false, narrowed := true }
def WireCanonicalUptoSaid : Prop := wireCanonicalUptoRow.holds Try.pinned (OpenSpec.upto wireCanonicalSpec)

/-- 'plexuslaw01.WireCut', WHERE WHAT IT READS IS OF BULK AT MOST 1048576: true; the input reads as it did. -/
def wireCutUptoRow : OpenClaim := { program := "ytighhngepdmmlaa", sum := "4460e3c0092e508358da2d198b2fb9e945f44051415c0771c2d25a84b8eac086", func := "plexus/plexuslaw01.WireCut", spec := "wireCut", apart := false, narrowed := true }
def WireCutUptoSaid : Prop := wireCutUptoRow.holds Try.pinned (OpenSpec.upto wireCutSpec)

end Rows
end Go.Proofs.Ytighhngepdmmlaa
