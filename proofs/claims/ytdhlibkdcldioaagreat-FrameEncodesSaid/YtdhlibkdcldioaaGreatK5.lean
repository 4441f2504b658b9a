/- Generated: the stripped code of Go functions, each held against the loaded program. -/
import Derived.Test.YtdhlibkdcldioaaGreatProg
import Derived.Test.YtdhlibkdcldioaaGreatGx20
namespace Go.Proofs.YtdhlibkdcldioaaGreat
open Gx Go

/- plexuslaw30.FrameEncodes -/
@[go_sem] def c5k : List Nat := [0, 1, 2, 3, 4, 5, 6, 7, 8, 11, 32]
@[go_sem] def c5r0 : List GOp := [oS 1 (.bx 39 S0), mS 2 (.c (.bool false))]
@[go_sem] def c5r1 : List GOp := [oT (.ld (some 15) S1), oT (.call 15 [T0]), oS 9 (.v (.un .not T0))]
@[go_sem] def c5r2 : List GOp := [oT (.call 11 []), mS 2 T0]
def c5s3 : SCode := (.cond S9 (.seq (.ops c5r2) .ret) .skip)
@[go_sem] theorem c5s3eq : U c5s3 (.cond S9 (.seq (.ops c5r2) .ret) .skip) := fun _ _ _ _ _ => rfl
@[go_sem] def c5r4 : List GOp := [oT (.ld (some 15) S1), oT (.call 18 [T0]), mT T0, oT (.v (.ext T0 0)), oT (.v (.ext T1 1)), mS 3 T1, mS 4 T0]
@[go_sem] def c5r5 : List GOp := [oT (.ld (some 15) S1), oT (.call 19 [T0]), mT T0, oT (.v (.ext T0 0)), oT (.v (.ext T1 1)), mS 5 T1, mS 6 T0]
@[go_sem] def c5r6 : List GOp := [mT S4, mT S6, oT (.v (.bin .neq T1 T0)), mT T0, (.op (some (T0, (false, true))) .t (.v (.mv S3))), (.op (some (T1, (false, false))) .t (.b2s T0)), (.op (some (T2, (false, false))) .t (.v (.mv S5))), (.op (some (T3, (false, false))) .t (.b2s T0)), (.op (some (T4, (false, false))) .t (.v (.bin .neq T2 T0))), oS 10 (.v (.pick T5 (.c (.bool true)) T0))]
@[go_sem] def c5r7 : List GOp := [mS 2 (.c (.bool false))]
def c5s8 : SCode := (.cond S10 (.seq (.ops c5r7) .ret) .skip)
@[go_sem] theorem c5s8eq : U c5s8 (.cond S10 (.seq (.ops c5r7) .ret) .skip) := fun _ _ _ _ _ => rfl
@[go_sem] def c5r9 : List GOp := [mT S5, oT (.call 20 [T0]), mT T0, oT (.v (.ext T0 0)), oT (.v (.ext T1 1)), oS 7 (.al 39 [(I 0), (I 0), (I 0), (I 0), (I 0), (I 0), Z, Z, Z, Z, Z, Z, Z, (I 0), Z]), oN (.st 15 S7 T1), mS 8 T0]
@[go_sem] def c5r10 : List GOp := [oT (.call 11 []), mT T0, (.op (some (T0, (true, true))) .t (.v (.mv S4))), (.op (some (T1, (true, false))) .t (.v (.bin .neq T0 (C 0)))), (.op (some (T2, (true, false))) .t (.v (.mv T0))), (.op (some (T0, (false, true))) .t (.v (.mv S8))), (.op (some (T1, (false, false))) .t (.v (.bin .eql T0 (C 0)))), (.op (some (T2, (false, false))) .t (.v (.mv T0))), (.op (some (T0, (true, true))) .t (.ld (some 15) S1)), (.op (some (T1, (true, false))) .t (.ld (some 15) S7)), (.op (some (T2, (true, false))) .t (.call 21 [T1, T0])), (.op (some (T6, (false, true))) .t (.v (.pick T3 T0 (.c (.bool false))))), (.op (some (T10, (true, true))) .t (.v (.pick T7 (.c (.bool true)) T0))), oT (.v (.pick T11 T0 (.c (.bool false)))), mS 2 T0]
def c5s11 : SCode := (.seq (.ops c5r10) .ret)
@[go_sem] theorem c5s11eq : U c5s11 (.seq (.ops c5r10) .ret) := fun _ _ _ _ _ => rfl
def c5s12 : SCode := (.seq (.ops c5r9) c5s11)
@[go_sem] theorem c5s12eq : U c5s12 (.seq (.ops c5r9) c5s11) := fun _ _ _ _ _ => rfl
def c5s13 : SCode := (.seq (.seq (.ops c5r6) c5s8) c5s12)
@[go_sem] theorem c5s13eq : U c5s13 (.seq (.seq (.ops c5r6) c5s8) c5s12) := fun _ _ _ _ _ => rfl
def c5s14 : SCode := (.seq (.ops c5r5) c5s13)
@[go_sem] theorem c5s14eq : U c5s14 (.seq (.ops c5r5) c5s13) := fun _ _ _ _ _ => rfl
def c5s15 : SCode := (.seq (.ops c5r4) c5s14)
@[go_sem] theorem c5s15eq : U c5s15 (.seq (.ops c5r4) c5s14) := fun _ _ _ _ _ => rfl
def c5s16 : SCode := (.seq (.seq (.ops c5r1) c5s3) c5s15)
@[go_sem] theorem c5s16eq : U c5s16 (.seq (.seq (.ops c5r1) c5s3) c5s15) := fun _ _ _ _ _ => rfl
def c5 : Gx.Fn := ⟨52, c5k, (.seq (.ops c5r0) c5s16), [(.tmp S2)]⟩
theorem c5ok : stripFn Tryz.prog c5k Tryz.f5 = some c5 := by kernel_rfl

end Go.Proofs.YtdhlibkdcldioaaGreat
