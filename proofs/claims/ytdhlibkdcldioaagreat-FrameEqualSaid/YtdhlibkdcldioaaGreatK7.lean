/- Generated: the stripped code of Go functions, each held against the loaded program. -/
import Derived.Test.YtdhlibkdcldioaaGreatProg
import Derived.Test.YtdhlibkdcldioaaGreatGx20
namespace Go.Proofs.YtdhlibkdcldioaaGreat
open Gx Go

/- plexuslaw30.FrameEqual -/
@[go_sem] def c7k : List Nat := [0, 1, 2, 3, 4, 5, 6, 7, 8, 9, 17, 32]
@[go_sem] def c7r0 : List GOp := [oS 2 (.bx 39 S0), oS 3 (.bx 39 S1), mS 4 (.c (.bool false))]
@[go_sem] def c7r1 : List GOp := [oT (.ld (some 15) S2), oT (.call 15 [T0]), oT (.v (.un .not T0)), mT T0, (.op (some (T0, (false, true))) .t (.ld (some 15) S3)), (.op (some (T1, (false, false))) .t (.call 15 [T0])), (.op (some (T2, (false, false))) .t (.v (.un .not T0))), oS 10 (.v (.pick T3 (.c (.bool true)) T0))]
@[go_sem] def c7r2 : List GOp := [oT (.call 11 []), mS 4 T0]
def c7s3 : SCode := (.cond S10 (.seq (.ops c7r2) .ret) .skip)
@[go_sem] theorem c7s3eq : U c7s3 (.cond S10 (.seq (.ops c7r2) .ret) .skip) := fun _ _ _ _ _ => rfl
@[go_sem] def c7r4 : List GOp := [oT (.ld (some 15) S2), oT (.ld (some 15) S3), oT (.call 23 [T1, T0]), mS 5 T0]
@[go_sem] def c7r5 : List GOp := [mT S5, oT (.ld (some 15) S2), oT (.ld (some 15) S3), oT (.call 21 [T1, T0]), oT (.v (.beq true T3 T0)), mT T0, (.op (some (T0, (false, true))) .t (.ld (some 15) S2)), (.op (some (T1, (false, false))) .t (.ld (some 15) S2)), (.op (some (T2, (false, false))) .t (.call 23 [T1, T0])), (.op (some (T3, (false, false))) .t (.v (.un .not T0))), oS 11 (.v (.pick T4 (.c (.bool true)) T0))]
@[go_sem] def c7r6 : List GOp := [mS 4 (.c (.bool false))]
def c7s7 : SCode := (.cond S11 (.seq (.ops c7r6) .ret) .skip)
@[go_sem] theorem c7s7eq : U c7s7 (.cond S11 (.seq (.ops c7r6) .ret) .skip) := fun _ _ _ _ _ => rfl
@[go_sem] def c7r8 : List GOp := [oT (.ld (some 15) S2), oT (.call 18 [T0]), mT T0, oT (.v (.ext T0 0)), oT (.v (.ext T1 1)), mS 6 T1, mS 7 T0]
@[go_sem] def c7r9 : List GOp := [oT (.ld (some 15) S3), oT (.call 18 [T0]), mT T0, oT (.v (.ext T0 0)), oT (.v (.ext T1 1)), mS 8 T1, mS 9 T0]
@[go_sem] def c7r10 : List GOp := [oT (.call 11 []), mT T0, (.op (some (T0, (true, true))) .t (.v (.mv S7))), (.op (some (T1, (true, false))) .t (.v (.bin .neq T0 (C 0)))), (.op (some (T2, (true, false))) .t (.v (.mv T0))), (.op (some (T0, (false, true))) .t (.v (.mv S9))), (.op (some (T1, (false, false))) .t (.v (.bin .neq T0 (C 0)))), (.op (some (T5, (true, true))) .t (.v (.pick T2 (.c (.bool true)) T0))), (.op (some (T6, (true, false))) .t (.v (.mv T0))), (.op (some (T0, (false, true))) .t (.v (.mv S6))), (.op (some (T1, (false, false))) .t (.b2s T0)), (.op (some (T2, (false, false))) .t (.v (.mv S8))), (.op (some (T3, (false, false))) .t (.b2s T0)), (.op (some (T4, (false, false))) .t (.v (.bin .eql T2 T0))), (.op (some (T5, (false, false))) .t (.v (.mv S5))), (.op (some (T6, (false, false))) .t (.v (.beq false T1 T0))), (.op (some (T14, (true, true))) .t (.v (.pick T7 (.c (.bool true)) T0))), oT (.v (.pick T15 T0 (.c (.bool false)))), mS 4 T0]
def c7s11 : SCode := (.seq (.ops c7r10) .ret)
@[go_sem] theorem c7s11eq : U c7s11 (.seq (.ops c7r10) .ret) := fun _ _ _ _ _ => rfl
def c7s12 : SCode := (.seq (.ops c7r9) c7s11)
@[go_sem] theorem c7s12eq : U c7s12 (.seq (.ops c7r9) c7s11) := fun _ _ _ _ _ => rfl
def c7s13 : SCode := (.seq (.ops c7r8) c7s12)
@[go_sem] theorem c7s13eq : U c7s13 (.seq (.ops c7r8) c7s12) := fun _ _ _ _ _ => rfl
def c7s14 : SCode := (.seq (.seq (.ops c7r5) c7s7) c7s13)
@[go_sem] theorem c7s14eq : U c7s14 (.seq (.seq (.ops c7r5) c7s7) c7s13) := fun _ _ _ _ _ => rfl
def c7s15 : SCode := (.seq (.ops c7r4) c7s14)
@[go_sem] theorem c7s15eq : U c7s15 (.seq (.ops c7r4) c7s14) := fun _ _ _ _ _ => rfl
def c7s16 : SCode := (.seq (.seq (.ops c7r1) c7s3) c7s15)
@[go_sem] theorem c7s16eq : U c7s16 (.seq (.seq (.ops c7r1) c7s3) c7s15) := fun _ _ _ _ _ => rfl
def c7 : Gx.Fn := ⟨61, c7k, (.seq (.ops c7r0) c7s16), [(.tmp S4)]⟩
theorem c7ok : stripFn Tryz.prog c7k Tryz.f7 = some c7 := by kernel_rfl

end Go.Proofs.YtdhlibkdcldioaaGreat
