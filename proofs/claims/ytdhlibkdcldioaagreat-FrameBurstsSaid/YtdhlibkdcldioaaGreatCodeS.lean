/- Generated: the stripped code of Go functions, each held against the loaded program. -/
import Derived.Test.YtdhlibkdcldioaaGreatProg
import Derived.Test.YtdhlibkdcldioaaGreatGx20
import Derived.Test.YtdhlibkdcldioaaGreatCodeA
namespace Go.Proofs.YtdhlibkdcldioaaGreat
open Gx Go

/- plexusref30.Small -/
@[go_sem] def c15k : List Nat := [0, 1, 2, 3, 4, 5, 6, 7, 8, 57, 62, 82, 87, 108, 113, 133, 138, 147, 152, 183, 192, 205]
@[go_sem] def c15r0 : List GOp := [oS 1 (.bx 39 S0), mS 2 (.c (.bool false))]
@[go_sem] def c15r1 : List GOp := [fT 6 S1, lT T0, oT (.call 24 [T0]), oT (.v (.un .not T0)), mT T0, (.op (some (T0, (false, true))) .t (.v (.fa 8 S1))), (.op (some (T1, (false, false))) .t (.ld none T0)), (.op (some (T2, (false, false))) .t (.call 25 [T0])), (.op (some (T3, (false, false))) .t (.v (.un .not T0))), oT (.v (.pick T4 (.c (.bool true)) T0)), mT T0, (.op (some (T0, (false, true))) .t (.v (.fa 9 S1))), (.op (some (T1, (false, false))) .t (.ld none T0)), (.op (some (T2, (false, false))) .t (.call 26 [T0])), (.op (some (T3, (false, false))) .t (.v (.un .not T0))), oT (.v (.pick T4 (.c (.bool true)) T0)), mT T0, (.sel T0 false [(.op (.v (.fa 7 S1))), (.op (.ld none T0)), (.op (.v (.len T0))), (.op (.v (.bin .gtr T0 (C 3))))] .t (.c (.bool true)) T0), mT T0, (.sel T0 false [(.op (.v (.fa 10 S1))), (.op (.ld none T0)), (.op (.v (.len T0))), (.op (.v (.bin .gtr T0 (C 3))))] .t (.c (.bool true)) T0), mT T0, (.op (some (T0, (false, true))) .t (.v (.fa 11 S1))), (.op (some (T1, (false, false))) .t (.ld none T0)), (.op (some (T2, (false, false))) .t (.v (.len T0))), (.op (some (T3, (false, false))) .t (.call 27 [T0])), (.op (some (T4, (false, false))) .t (.v (.un .not T0))), oT (.v (.pick T5 (.c (.bool true)) T0)), mT T0, (.op (some (T0, (false, true))) .t (.v (.fa 12 S1))), (.op (some (T1, (false, false))) .t (.ld none T0)), (.op (some (T2, (false, false))) .t (.v (.len T0))), (.op (some (T3, (false, false))) .t (.call 27 [T0])), (.op (some (T4, (false, false))) .t (.v (.un .not T0))), oT (.v (.pick T5 (.c (.bool true)) T0)), mT T0, (.op (some (T0, (false, true))) .t (.v (.fa 14 S1))), (.op (some (T1, (false, false))) .t (.ld none T0)), (.op (some (T2, (false, false))) .t (.v (.len T0))), (.op (some (T3, (false, false))) .t (.call 27 [T0])), (.op (some (T4, (false, false))) .t (.v (.un .not T0))), oS 9 (.v (.pick T5 (.c (.bool true)) T0))]
@[go_sem] def c15r2 : List GOp := [mS 2 (.c (.bool false))]
def c15s3 : SCode := (.seq (.ops c15r2) .ret)
@[go_sem] theorem c15s3eq : U c15s3 (.seq (.ops c15r2) .ret) := fun _ _ _ _ _ => rfl
@[go_sem] def c15r4 : List GOp := [mS 3 (C 0)]
@[go_sem] def c15r5 : List GOp := [mT S3, fT 7 S1, lT T0, nT T0, oS 10 (.v (.bin .lss T3 T0))]
def c15s6 : SCode := (.cond S10 .skip (.exit 0))
@[go_sem] theorem c15s6eq : U c15s6 (.cond S10 .skip (.exit 0)) := fun _ _ _ _ _ => rfl
@[go_sem] def c15r7 : List GOp := [fT 7 S1, lT T0, mT S3, oT (.v (.ix 2 T1 T0)), fT 0 T0, lT T0, oT (.call 28 [T0]), oT (.v (.un .not T0)), mT T0, (.op (some (T0, (false, true))) .t (.v (.fa 7 S1))), (.op (some (T1, (false, false))) .t (.ld none T0)), (.op (some (T2, (false, false))) .t (.v (.mv S3))), (.op (some (T3, (false, false))) .t (.v (.ix 2 T1 T0))), (.op (some (T4, (false, false))) .t (.v (.fa 1 T0))), (.op (some (T5, (false, false))) .t (.ld none T0)), (.op (some (T6, (false, false))) .t (.call 25 [T0])), (.op (some (T7, (false, false))) .t (.v (.un .not T0))), oS 11 (.v (.pick T8 (.c (.bool true)) T0))]
@[go_sem] def c15r8 : List GOp := [mS 2 (.c (.bool false))]
def c15s9 : SCode := (.seq (.ops c15r8) .ret)
@[go_sem] theorem c15s9eq : U c15s9 (.seq (.ops c15r8) .ret) := fun _ _ _ _ _ => rfl
@[go_sem] def c15r10 : List GOp := [mT S3, oT (.v (.bin .add T0 (C 1))), mS 3 T0]
def c15s11 : SCode := (.ops c15r10)
@[go_sem] theorem c15s11eq : U c15s11 (.ops c15r10) := fun _ _ _ _ _ => rfl
def c15s12 : SCode := (.seq (.block 1 (.seq (.ops c15r7) (.cond S11 c15s9 .skip))) c15s11)
@[go_sem] theorem c15s12eq : U c15s12 (.seq (.block 1 (.seq (.ops c15r7) (.cond S11 c15s9 .skip))) c15s11) := fun _ _ _ _ _ => rfl
def c15s13 : SCode := (.seq (.seq (.ops c15r5) c15s6) c15s12)
@[go_sem] theorem c15s13eq : U c15s13 (.seq (.seq (.ops c15r5) c15s6) c15s12) := fun _ _ _ _ _ => rfl
def c15s14 : SCode := (.block 0 (.loop c15k c15s13))
@[go_sem] theorem c15s14eq : U c15s14 (.block 0 (.loop c15k c15s13)) := fun _ _ _ _ _ => rfl
@[go_sem] def c15r15 : List GOp := [mS 4 (C 0)]
@[go_sem] def c15r16 : List GOp := [mT S4, fT 10 S1, lT T0, nT T0, oS 12 (.v (.bin .lss T3 T0))]
def c15s17 : SCode := (.cond S12 .skip (.exit 2))
@[go_sem] theorem c15s17eq : U c15s17 (.cond S12 .skip (.exit 2)) := fun _ _ _ _ _ => rfl
@[go_sem] def c15r18 : List GOp := [fT 10 S1, lT T0, mT S4, oT (.v (.ix 10 T1 T0)), fT 0 T0, lT T0, oT (.call 28 [T0]), oT (.v (.un .not T0)), mT T0, (.op (some (T0, (false, true))) .t (.v (.fa 10 S1))), (.op (some (T1, (false, false))) .t (.ld none T0)), (.op (some (T2, (false, false))) .t (.v (.mv S4))), (.op (some (T3, (false, false))) .t (.v (.ix 10 T1 T0))), (.op (some (T4, (false, false))) .t (.v (.fa 1 T0))), (.op (some (T5, (false, false))) .t (.ld (some 9) T0)), (.op (some (T6, (false, false))) .t (.bs 64 1 [(I 0), (I 0), (I 0), Z, Z, Z, (I 0), Z, Z] [(0, (9, T0))])), (.op (some (T7, (false, false))) .t (.call 28 [T0])), (.op (some (T8, (false, false))) .t (.v (.un .not T0))), oS 13 (.v (.pick T9 (.c (.bool true)) T0))]
@[go_sem] def c15r19 : List GOp := [mS 2 (.c (.bool false))]
def c15s20 : SCode := (.seq (.ops c15r19) .ret)
@[go_sem] theorem c15s20eq : U c15s20 (.seq (.ops c15r19) .ret) := fun _ _ _ _ _ => rfl
def c15s21 : SCode := (.cond S13 c15s20 .skip)
@[go_sem] theorem c15s21eq : U c15s21 (.cond S13 c15s20 .skip) := fun _ _ _ _ _ => rfl
@[go_sem] def c15r22 : List GOp := [mT S4, oT (.v (.bin .add T0 (C 1))), mS 4 T0]
def c15s23 : SCode := (.ops c15r22)
@[go_sem] theorem c15s23eq : U c15s23 (.ops c15r22) := fun _ _ _ _ _ => rfl
def c15s24 : SCode := (.seq (.block 3 (.seq (.ops c15r18) c15s21)) c15s23)
@[go_sem] theorem c15s24eq : U c15s24 (.seq (.block 3 (.seq (.ops c15r18) c15s21)) c15s23) := fun _ _ _ _ _ => rfl
def c15s25 : SCode := (.seq (.seq (.ops c15r16) c15s17) c15s24)
@[go_sem] theorem c15s25eq : U c15s25 (.seq (.seq (.ops c15r16) c15s17) c15s24) := fun _ _ _ _ _ => rfl
def c15s26 : SCode := (.block 2 (.loop c15k c15s25))
@[go_sem] theorem c15s26eq : U c15s26 (.block 2 (.loop c15k c15s25)) := fun _ _ _ _ _ => rfl
@[go_sem] def c15r27 : List GOp := [mS 5 (C 0)]
@[go_sem] def c15r28 : List GOp := [mT S5, fT 11 S1, lT T0, nT T0, oS 14 (.v (.bin .lss T3 T0))]
def c15s29 : SCode := (.cond S14 .skip (.exit 4))
@[go_sem] theorem c15s29eq : U c15s29 (.cond S14 .skip (.exit 4)) := fun _ _ _ _ _ => rfl
@[go_sem] def c15r30 : List GOp := [fT 11 S1, lT T0, mT S5, oT (.v (.ix 3 T1 T0)), fT 0 T0, lT T0, nT T0, oT (.v (.bin .gtr T0 (C 100))), mT T0, (.op (some (T0, (false, true))) .t (.v (.fa 11 S1))), (.op (some (T1, (false, false))) .t (.ld none T0)), (.op (some (T2, (false, false))) .t (.v (.mv S5))), (.op (some (T3, (false, false))) .t (.v (.ix 3 T1 T0))), (.op (some (T4, (false, false))) .t (.v (.fa 1 T0))), (.op (some (T5, (false, false))) .t (.ld none T0)), (.op (some (T6, (false, false))) .t (.v (.len T0))), (.op (some (T7, (false, false))) .t (.v (.bin .gtr T0 (C 100)))), oS 15 (.v (.pick T8 (.c (.bool true)) T0))]
@[go_sem] def c15r31 : List GOp := [mS 2 (.c (.bool false))]
def c15s32 : SCode := (.seq (.ops c15r31) .ret)
@[go_sem] theorem c15s32eq : U c15s32 (.seq (.ops c15r31) .ret) := fun _ _ _ _ _ => rfl
def c15s33 : SCode := (.cond S15 c15s32 .skip)
@[go_sem] theorem c15s33eq : U c15s33 (.cond S15 c15s32 .skip) := fun _ _ _ _ _ => rfl
@[go_sem] def c15r34 : List GOp := [mT S5, oT (.v (.bin .add T0 (C 1))), mS 5 T0]
def c15s35 : SCode := (.ops c15r34)
@[go_sem] theorem c15s35eq : U c15s35 (.ops c15r34) := fun _ _ _ _ _ => rfl
def c15s36 : SCode := (.seq (.block 5 (.seq (.ops c15r30) c15s33)) c15s35)
@[go_sem] theorem c15s36eq : U c15s36 (.seq (.block 5 (.seq (.ops c15r30) c15s33)) c15s35) := fun _ _ _ _ _ => rfl
def c15s37 : SCode := (.seq (.seq (.ops c15r28) c15s29) c15s36)
@[go_sem] theorem c15s37eq : U c15s37 (.seq (.seq (.ops c15r28) c15s29) c15s36) := fun _ _ _ _ _ => rfl
def c15s38 : SCode := (.block 4 (.loop c15k c15s37))
@[go_sem] theorem c15s38eq : U c15s38 (.block 4 (.loop c15k c15s37)) := fun _ _ _ _ _ => rfl
@[go_sem] def c15r39 : List GOp := [mS 6 (C 0)]
@[go_sem] def c15r40 : List GOp := [mT S6, fT 12 S1, lT T0, nT T0, oS 16 (.v (.bin .lss T3 T0))]
def c15s41 : SCode := (.cond S16 .skip (.exit 6))
@[go_sem] theorem c15s41eq : U c15s41 (.cond S16 .skip (.exit 6)) := fun _ _ _ _ _ => rfl
@[go_sem] def c15r42 : List GOp := [fT 12 S1, lT T0, mT S6, oT (.v (.ix 1 T1 T0)), lT T0, oT (.v (.slen T0)), oS 17 (.v (.bin .gtr T0 (C 100)))]
@[go_sem] def c15r43 : List GOp := [mS 2 (.c (.bool false))]
def c15s44 : SCode := (.seq (.ops c15r43) .ret)
@[go_sem] theorem c15s44eq : U c15s44 (.seq (.ops c15r43) .ret) := fun _ _ _ _ _ => rfl
def c15s45 : SCode := (.cond S17 c15s44 .skip)
@[go_sem] theorem c15s45eq : U c15s45 (.cond S17 c15s44 .skip) := fun _ _ _ _ _ => rfl
@[go_sem] def c15r46 : List GOp := [mT S6, oT (.v (.bin .add T0 (C 1))), mS 6 T0]
def c15s47 : SCode := (.ops c15r46)
@[go_sem] theorem c15s47eq : U c15s47 (.ops c15r46) := fun _ _ _ _ _ => rfl
def c15s48 : SCode := (.seq (.block 7 (.seq (.ops c15r42) c15s45)) c15s47)
@[go_sem] theorem c15s48eq : U c15s48 (.seq (.block 7 (.seq (.ops c15r42) c15s45)) c15s47) := fun _ _ _ _ _ => rfl
def c15s49 : SCode := (.seq (.seq (.ops c15r40) c15s41) c15s48)
@[go_sem] theorem c15s49eq : U c15s49 (.seq (.seq (.ops c15r40) c15s41) c15s48) := fun _ _ _ _ _ => rfl
def c15s50 : SCode := (.block 6 (.loop c15k c15s49))
@[go_sem] theorem c15s50eq : U c15s50 (.block 6 (.loop c15k c15s49)) := fun _ _ _ _ _ => rfl
@[go_sem] def c15r51 : List GOp := [mS 7 (C 0)]
@[go_sem] def c15r52 : List GOp := [mT S7, fT 14 S1, lT T0, nT T0, oS 18 (.v (.bin .lss T3 T0))]
def c15s53 : SCode := (.cond S18 .skip (.exit 8))
@[go_sem] theorem c15s53eq : U c15s53 (.cond S18 .skip (.exit 8)) := fun _ _ _ _ _ => rfl
@[go_sem] def c15r54 : List GOp := [fT 14 S1, lT T0, mT S7, oT (.v (.ix 4 T1 T0)), fT 0 T0, lT T0, oT (.v (.slen T0)), oT (.v (.bin .gtr T0 (C 100))), mT T0, (.op (some (T0, (false, true))) .t (.v (.fa 14 S1))), (.op (some (T1, (false, false))) .t (.ld none T0)), (.op (some (T2, (false, false))) .t (.v (.mv S7))), (.op (some (T3, (false, false))) .t (.v (.ix 4 T1 T0))), (.op (some (T4, (false, false))) .t (.v (.fa 2 T0))), (.op (some (T5, (false, false))) .t (.ld none T0)), (.op (some (T6, (false, false))) .t (.v (.len T0))), (.op (some (T7, (false, false))) .t (.v (.bin .gtr T0 (C 100)))), oT (.v (.pick T8 (.c (.bool true)) T0)), mT T0, (.op (some (T0, (false, true))) .t (.v (.fa 14 S1))), (.op (some (T1, (false, false))) .t (.ld none T0)), (.op (some (T2, (false, false))) .t (.v (.mv S7))), (.op (some (T3, (false, false))) .t (.v (.ix 4 T1 T0))), (.op (some (T4, (false, false))) .t (.v (.fa 3 T0))), (.op (some (T5, (false, false))) .t (.ld none T0)), (.op (some (T6, (false, false))) .t (.v (.len T0))), (.op (some (T7, (false, false))) .t (.call 27 [T0])), (.op (some (T8, (false, false))) .t (.v (.un .not T0))), oS 19 (.v (.pick T9 (.c (.bool true)) T0))]
@[go_sem] def c15r55 : List GOp := [mS 2 (.c (.bool false))]
def c15s56 : SCode := (.seq (.ops c15r55) .ret)
@[go_sem] theorem c15s56eq : U c15s56 (.seq (.ops c15r55) .ret) := fun _ _ _ _ _ => rfl
def c15s57 : SCode := (.cond S19 c15s56 .skip)
@[go_sem] theorem c15s57eq : U c15s57 (.cond S19 c15s56 .skip) := fun _ _ _ _ _ => rfl
@[go_sem] def c15r58 : List GOp := [mS 8 (C 0)]
@[go_sem] def c15r59 : List GOp := [mT S8, fT 14 S1, lT T0, mT S7, oT (.v (.ix 4 T1 T0)), fT 3 T0, lT T0, nT T0, oS 20 (.v (.bin .lss T7 T0))]
def c15s60 : SCode := (.cond S20 .skip (.exit 10))
@[go_sem] theorem c15s60eq : U c15s60 (.cond S20 .skip (.exit 10)) := fun _ _ _ _ _ => rfl
@[go_sem] def c15r61 : List GOp := [fT 14 S1, lT T0, mT S7, oT (.v (.ix 4 T1 T0)), fT 3 T0, lT T0, mT S8, oT (.v (.ix 1 T1 T0)), lT T0, nT T0, oS 21 (.v (.bin .gtr T0 (C 100)))]
@[go_sem] def c15r62 : List GOp := [mS 2 (.c (.bool false))]
def c15s63 : SCode := (.seq (.ops c15r62) .ret)
@[go_sem] theorem c15s63eq : U c15s63 (.seq (.ops c15r62) .ret) := fun _ _ _ _ _ => rfl
def c15s64 : SCode := (.cond S21 c15s63 .skip)
@[go_sem] theorem c15s64eq : U c15s64 (.cond S21 c15s63 .skip) := fun _ _ _ _ _ => rfl
@[go_sem] def c15r65 : List GOp := [mT S8, oT (.v (.bin .add T0 (C 1))), mS 8 T0]
def c15s66 : SCode := (.ops c15r65)
@[go_sem] theorem c15s66eq : U c15s66 (.ops c15r65) := fun _ _ _ _ _ => rfl
def c15s67 : SCode := (.seq (.block 11 (.seq (.ops c15r61) c15s64)) c15s66)
@[go_sem] theorem c15s67eq : U c15s67 (.seq (.block 11 (.seq (.ops c15r61) c15s64)) c15s66) := fun _ _ _ _ _ => rfl
def c15s68 : SCode := (.seq (.seq (.ops c15r59) c15s60) c15s67)
@[go_sem] theorem c15s68eq : U c15s68 (.seq (.seq (.ops c15r59) c15s60) c15s67) := fun _ _ _ _ _ => rfl
def c15s69 : SCode := (.block 10 (.loop c15k c15s68))
@[go_sem] theorem c15s69eq : U c15s69 (.block 10 (.loop c15k c15s68)) := fun _ _ _ _ _ => rfl
def c15s70 : SCode := (.seq (.ops c15r58) c15s69)
@[go_sem] theorem c15s70eq : U c15s70 (.seq (.ops c15r58) c15s69) := fun _ _ _ _ _ => rfl
@[go_sem] def c15r71 : List GOp := [mT S7, oT (.v (.bin .add T0 (C 1))), mS 7 T0]
def c15s72 : SCode := (.ops c15r71)
@[go_sem] theorem c15s72eq : U c15s72 (.ops c15r71) := fun _ _ _ _ _ => rfl
def c15s73 : SCode := (.seq (.block 9 (.seq (.seq (.ops c15r54) c15s57) c15s70)) c15s72)
@[go_sem] theorem c15s73eq : U c15s73 (.seq (.block 9 (.seq (.seq (.ops c15r54) c15s57) c15s70)) c15s72) := fun _ _ _ _ _ => rfl
def c15s74 : SCode := (.seq (.seq (.ops c15r52) c15s53) c15s73)
@[go_sem] theorem c15s74eq : U c15s74 (.seq (.seq (.ops c15r52) c15s53) c15s73) := fun _ _ _ _ _ => rfl
def c15s75 : SCode := (.block 8 (.loop c15k c15s74))
@[go_sem] theorem c15s75eq : U c15s75 (.block 8 (.loop c15k c15s74)) := fun _ _ _ _ _ => rfl
@[go_sem] def c15r76 : List GOp := [mS 2 (.c (.bool true))]
def c15s77 : SCode := (.seq (.ops c15r76) .ret)
@[go_sem] theorem c15s77eq : U c15s77 (.seq (.ops c15r76) .ret) := fun _ _ _ _ _ => rfl
def c15s78 : SCode := (.seq (.seq (.ops c15r51) c15s75) c15s77)
@[go_sem] theorem c15s78eq : U c15s78 (.seq (.seq (.ops c15r51) c15s75) c15s77) := fun _ _ _ _ _ => rfl
def c15s79 : SCode := (.seq (.seq (.ops c15r39) c15s50) c15s78)
@[go_sem] theorem c15s79eq : U c15s79 (.seq (.seq (.ops c15r39) c15s50) c15s78) := fun _ _ _ _ _ => rfl
def c15s80 : SCode := (.seq (.seq (.ops c15r27) c15s38) c15s79)
@[go_sem] theorem c15s80eq : U c15s80 (.seq (.seq (.ops c15r27) c15s38) c15s79) := fun _ _ _ _ _ => rfl
def c15s81 : SCode := (.seq (.seq (.ops c15r15) c15s26) c15s80)
@[go_sem] theorem c15s81eq : U c15s81 (.seq (.seq (.ops c15r15) c15s26) c15s80) := fun _ _ _ _ _ => rfl
def c15s82 : SCode := (.seq (.seq (.ops c15r4) c15s14) c15s81)
@[go_sem] theorem c15s82eq : U c15s82 (.seq (.seq (.ops c15r4) c15s14) c15s81) := fun _ _ _ _ _ => rfl
def c15s83 : SCode := (.seq (.seq (.ops c15r1) (.cond S9 c15s3 .skip)) c15s82)
@[go_sem] theorem c15s83eq : U c15s83 (.seq (.seq (.ops c15r1) (.cond S9 c15s3 .skip)) c15s82) := fun _ _ _ _ _ => rfl
def c15 : Gx.Fn := ⟨206, c15k, (.seq (.ops c15r0) c15s83), [(.tmp S2)]⟩
theorem c15ok : stripFn Tryz.prog c15k Tryz.f15 = some c15 := by kernel_rfl

/- plexusref30.smallReads -/
@[go_sem] def c24k : List Nat := [0, 2, 3, 11, 20]
@[go_sem] def c24r0 : List GOp := [mS 1 (.c (.bool false))]
@[go_sem] def c24r1 : List GOp := [mS 2 (C 0)]
@[go_sem] def c24r2 : List GOp := [mT S2, mT S0, nT T0, oT (.v (.bin .lss T2 T0)), mT T0, (.sel T0 true [(.op (.v (.mv S2))), (.op (.v (.bin .lss T0 (C 9))))] (.s 3) T0 (.c (.bool false)))]
def c24s3 : SCode := (.cond S3 .skip (.exit 0))
@[go_sem] theorem c24s3eq : U c24s3 (.cond S3 .skip (.exit 0)) := fun _ _ _ _ _ => rfl
@[go_sem] def c24r4 : List GOp := [mT S0, mT S2, oT (.v (.ix 3 T1 T0)), fT 2 T0, lT T0, nT T0, oS 4 (.v (.bin .gtr T0 (C 100)))]
@[go_sem] def c24r5 : List GOp := [mS 1 (.c (.bool false))]
def c24s6 : SCode := (.seq (.ops c24r5) .ret)
@[go_sem] theorem c24s6eq : U c24s6 (.seq (.ops c24r5) .ret) := fun _ _ _ _ _ => rfl
@[go_sem] def c24r7 : List GOp := [mT S2, oT (.v (.bin .add T0 (C 1))), mS 2 T0]
def c24s8 : SCode := (.ops c24r7)
@[go_sem] theorem c24s8eq : U c24s8 (.ops c24r7) := fun _ _ _ _ _ => rfl
def c24s9 : SCode := (.seq (.block 1 (.seq (.ops c24r4) (.cond S4 c24s6 .skip))) c24s8)
@[go_sem] theorem c24s9eq : U c24s9 (.seq (.block 1 (.seq (.ops c24r4) (.cond S4 c24s6 .skip))) c24s8) := fun _ _ _ _ _ => rfl
def c24s10 : SCode := (.seq (.seq (.ops c24r2) c24s3) c24s9)
@[go_sem] theorem c24s10eq : U c24s10 (.seq (.seq (.ops c24r2) c24s3) c24s9) := fun _ _ _ _ _ => rfl
def c24s11 : SCode := (.block 0 (.loop c24k c24s10))
@[go_sem] theorem c24s11eq : U c24s11 (.block 0 (.loop c24k c24s10)) := fun _ _ _ _ _ => rfl
@[go_sem] def c24r12 : List GOp := [mT S0, nT T0, oT (.call 27 [T0]), mS 1 T0]
def c24s13 : SCode := (.seq (.ops c24r12) .ret)
@[go_sem] theorem c24s13eq : U c24s13 (.seq (.ops c24r12) .ret) := fun _ _ _ _ _ => rfl
def c24s14 : SCode := (.seq (.seq (.ops c24r1) c24s11) c24s13)
@[go_sem] theorem c24s14eq : U c24s14 (.seq (.seq (.ops c24r1) c24s11) c24s13) := fun _ _ _ _ _ => rfl
def c24 : Gx.Fn := ⟨24, c24k, (.seq (.ops c24r0) c24s14), [(.tmp S1)]⟩
theorem c24ok : stripFn Tryz.prog c24k Tryz.f24 = some c24 := by kernel_rfl

/- plexusref30.smallCommands -/
@[go_sem] def c25k : List Nat := [0, 2, 3, 4, 8, 12, 31, 39, 65]
@[go_sem] def c25r0 : List GOp := [mS 1 (.c (.bool false))]
@[go_sem] def c25r1 : List GOp := [mT S0, nT T0, oT (.call 27 [T0]), oS 4 (.v (.un .not T0))]
@[go_sem] def c25r2 : List GOp := [mS 1 (.c (.bool false))]
def c25s3 : SCode := (.seq (.ops c25r2) .ret)
@[go_sem] theorem c25s3eq : U c25s3 (.seq (.ops c25r2) .ret) := fun _ _ _ _ _ => rfl
@[go_sem] def c25r4 : List GOp := [mS 2 (C 0)]
@[go_sem] def c25r5 : List GOp := [mT S2, mT S0, nT T0, oS 5 (.v (.bin .lss T2 T0))]
def c25s6 : SCode := (.cond S5 .skip (.exit 0))
@[go_sem] theorem c25s6eq : U c25s6 (.cond S5 .skip (.exit 0)) := fun _ _ _ _ _ => rfl
@[go_sem] def c25r7 : List GOp := [mT S0, mT S2, oT (.v (.ix 6 T1 T0)), fT 3 T0, lT T0, nT T0, oT (.call 27 [T0]), oT (.v (.un .not T0)), mT T0, (.op (some (T0, (false, true))) .t (.v (.mv S0))), (.op (some (T1, (false, false))) .t (.v (.mv S2))), (.op (some (T2, (false, false))) .t (.v (.ix 6 T1 T0))), (.op (some (T3, (false, false))) .t (.v (.fa 5 T0))), (.op (some (T4, (false, false))) .t (.ld none T0)), (.op (some (T5, (false, false))) .t (.v (.len T0))), (.op (some (T6, (false, false))) .t (.v (.bin .gtr T0 (C 100)))), oS 6 (.v (.pick T7 (.c (.bool true)) T0))]
@[go_sem] def c25r8 : List GOp := [mS 1 (.c (.bool false))]
def c25s9 : SCode := (.seq (.ops c25r8) .ret)
@[go_sem] theorem c25s9eq : U c25s9 (.seq (.ops c25r8) .ret) := fun _ _ _ _ _ => rfl
@[go_sem] def c25r10 : List GOp := [mS 3 (C 0)]
@[go_sem] def c25r11 : List GOp := [mT S3, mT S0, mT S2, oT (.v (.ix 6 T1 T0)), fT 3 T0, lT T0, nT T0, oS 7 (.v (.bin .lss T6 T0))]
def c25s12 : SCode := (.cond S7 .skip (.exit 2))
@[go_sem] theorem c25s12eq : U c25s12 (.cond S7 .skip (.exit 2)) := fun _ _ _ _ _ => rfl
@[go_sem] def c25r13 : List GOp := [mT S0, mT S2, oT (.v (.ix 6 T1 T0)), fT 3 T0, lT T0, mT S3, oT (.v (.ix 2 T1 T0)), fT 0 T0, lT T0, oT (.v (.slen T0)), oT (.v (.bin .gtr T0 (C 50))), mT T0, (.op (some (T0, (false, true))) .t (.v (.mv S0))), (.op (some (T1, (false, false))) .t (.v (.mv S2))), (.op (some (T2, (false, false))) .t (.v (.ix 6 T1 T0))), (.op (some (T3, (false, false))) .t (.v (.fa 3 T0))), (.op (some (T4, (false, false))) .t (.ld none T0)), (.op (some (T5, (false, false))) .t (.v (.mv S3))), (.op (some (T6, (false, false))) .t (.v (.ix 2 T1 T0))), (.op (some (T7, (false, false))) .t (.v (.fa 1 T0))), (.op (some (T8, (false, false))) .t (.ld none T0)), (.op (some (T9, (false, false))) .t (.v (.len T0))), (.op (some (T10, (false, false))) .t (.v (.bin .gtr T0 (C 100)))), oS 8 (.v (.pick T11 (.c (.bool true)) T0))]
@[go_sem] def c25r14 : List GOp := [mS 1 (.c (.bool false))]
def c25s15 : SCode := (.seq (.ops c25r14) .ret)
@[go_sem] theorem c25s15eq : U c25s15 (.seq (.ops c25r14) .ret) := fun _ _ _ _ _ => rfl
@[go_sem] def c25r16 : List GOp := [mT S3, oT (.v (.bin .add T0 (C 1))), mS 3 T0]
def c25s17 : SCode := (.ops c25r16)
@[go_sem] theorem c25s17eq : U c25s17 (.ops c25r16) := fun _ _ _ _ _ => rfl
def c25s18 : SCode := (.seq (.block 3 (.seq (.ops c25r13) (.cond S8 c25s15 .skip))) c25s17)
@[go_sem] theorem c25s18eq : U c25s18 (.seq (.block 3 (.seq (.ops c25r13) (.cond S8 c25s15 .skip))) c25s17) := fun _ _ _ _ _ => rfl
def c25s19 : SCode := (.seq (.seq (.ops c25r11) c25s12) c25s18)
@[go_sem] theorem c25s19eq : U c25s19 (.seq (.seq (.ops c25r11) c25s12) c25s18) := fun _ _ _ _ _ => rfl
def c25s20 : SCode := (.block 2 (.loop c25k c25s19))
@[go_sem] theorem c25s20eq : U c25s20 (.block 2 (.loop c25k c25s19)) := fun _ _ _ _ _ => rfl
def c25s21 : SCode := (.seq (.ops c25r10) c25s20)
@[go_sem] theorem c25s21eq : U c25s21 (.seq (.ops c25r10) c25s20) := fun _ _ _ _ _ => rfl
@[go_sem] def c25r22 : List GOp := [mT S2, oT (.v (.bin .add T0 (C 1))), mS 2 T0]
def c25s23 : SCode := (.ops c25r22)
@[go_sem] theorem c25s23eq : U c25s23 (.ops c25r22) := fun _ _ _ _ _ => rfl
def c25s24 : SCode := (.seq (.block 1 (.seq (.seq (.ops c25r7) (.cond S6 c25s9 .skip)) c25s21)) c25s23)
@[go_sem] theorem c25s24eq : U c25s24 (.seq (.block 1 (.seq (.seq (.ops c25r7) (.cond S6 c25s9 .skip)) c25s21)) c25s23) := fun _ _ _ _ _ => rfl
def c25s25 : SCode := (.seq (.seq (.ops c25r5) c25s6) c25s24)
@[go_sem] theorem c25s25eq : U c25s25 (.seq (.seq (.ops c25r5) c25s6) c25s24) := fun _ _ _ _ _ => rfl
def c25s26 : SCode := (.block 0 (.loop c25k c25s25))
@[go_sem] theorem c25s26eq : U c25s26 (.block 0 (.loop c25k c25s25)) := fun _ _ _ _ _ => rfl
@[go_sem] def c25r27 : List GOp := [mS 1 (.c (.bool true))]
def c25s28 : SCode := (.seq (.ops c25r27) .ret)
@[go_sem] theorem c25s28eq : U c25s28 (.seq (.ops c25r27) .ret) := fun _ _ _ _ _ => rfl
def c25s29 : SCode := (.seq (.seq (.ops c25r4) c25s26) c25s28)
@[go_sem] theorem c25s29eq : U c25s29 (.seq (.seq (.ops c25r4) c25s26) c25s28) := fun _ _ _ _ _ => rfl
def c25s30 : SCode := (.seq (.seq (.ops c25r1) (.cond S4 c25s3 .skip)) c25s29)
@[go_sem] theorem c25s30eq : U c25s30 (.seq (.seq (.ops c25r1) (.cond S4 c25s3 .skip)) c25s29) := fun _ _ _ _ _ => rfl
def c25 : Gx.Fn := ⟨66, c25k, (.seq (.ops c25r0) c25s30), [(.tmp S1)]⟩
theorem c25ok : stripFn Tryz.prog c25k Tryz.f25 = some c25 := by kernel_rfl

/- plexusref30.smallAcks -/
@[go_sem] def c26k : List Nat := [0, 2, 3, 11, 20]
@[go_sem] def c26r0 : List GOp := [mS 1 (.c (.bool false))]
@[go_sem] def c26r1 : List GOp := [mS 2 (C 0)]
@[go_sem] def c26r2 : List GOp := [mT S2, mT S0, nT T0, oT (.v (.bin .lss T2 T0)), mT T0, (.sel T0 true [(.op (.v (.mv S2))), (.op (.v (.bin .lss T0 (C 9))))] (.s 3) T0 (.c (.bool false)))]
def c26s3 : SCode := (.cond S3 .skip (.exit 0))
@[go_sem] theorem c26s3eq : U c26s3 (.cond S3 .skip (.exit 0)) := fun _ _ _ _ _ => rfl
@[go_sem] def c26r4 : List GOp := [mT S0, mT S2, oT (.v (.ix 2 T1 T0)), fT 1 T0, lT T0, nT T0, oS 4 (.v (.bin .gtr T0 (C 100)))]
@[go_sem] def c26r5 : List GOp := [mS 1 (.c (.bool false))]
def c26s6 : SCode := (.seq (.ops c26r5) .ret)
@[go_sem] theorem c26s6eq : U c26s6 (.seq (.ops c26r5) .ret) := fun _ _ _ _ _ => rfl
@[go_sem] def c26r7 : List GOp := [mT S2, oT (.v (.bin .add T0 (C 1))), mS 2 T0]
def c26s8 : SCode := (.ops c26r7)
@[go_sem] theorem c26s8eq : U c26s8 (.ops c26r7) := fun _ _ _ _ _ => rfl
def c26s9 : SCode := (.seq (.block 1 (.seq (.ops c26r4) (.cond S4 c26s6 .skip))) c26s8)
@[go_sem] theorem c26s9eq : U c26s9 (.seq (.block 1 (.seq (.ops c26r4) (.cond S4 c26s6 .skip))) c26s8) := fun _ _ _ _ _ => rfl
def c26s10 : SCode := (.seq (.seq (.ops c26r2) c26s3) c26s9)
@[go_sem] theorem c26s10eq : U c26s10 (.seq (.seq (.ops c26r2) c26s3) c26s9) := fun _ _ _ _ _ => rfl
def c26s11 : SCode := (.block 0 (.loop c26k c26s10))
@[go_sem] theorem c26s11eq : U c26s11 (.block 0 (.loop c26k c26s10)) := fun _ _ _ _ _ => rfl
@[go_sem] def c26r12 : List GOp := [mT S0, nT T0, oT (.call 27 [T0]), mS 1 T0]
def c26s13 : SCode := (.seq (.ops c26r12) .ret)
@[go_sem] theorem c26s13eq : U c26s13 (.seq (.ops c26r12) .ret) := fun _ _ _ _ _ => rfl
def c26s14 : SCode := (.seq (.seq (.ops c26r1) c26s11) c26s13)
@[go_sem] theorem c26s14eq : U c26s14 (.seq (.seq (.ops c26r1) c26s11) c26s13) := fun _ _ _ _ _ => rfl
def c26 : Gx.Fn := ⟨24, c26k, (.seq (.ops c26r0) c26s14), [(.tmp S1)]⟩
theorem c26ok : stripFn Tryz.prog c26k Tryz.f26 = some c26 := by kernel_rfl

/- plexusref30.smallCertificates -/
@[go_sem] def c28k : List Nat := [0, 2, 3, 4, 7, 11, 49]
@[go_sem] def c28r0 : List GOp := [mS 1 (.c (.bool false))]
@[go_sem] def c28r1 : List GOp := [mT S0, nT T0, oS 4 (.v (.bin .gtr T0 (C 4)))]
@[go_sem] def c28r2 : List GOp := [mS 1 (.c (.bool false))]
def c28s3 : SCode := (.seq (.ops c28r2) .ret)
@[go_sem] theorem c28s3eq : U c28s3 (.seq (.ops c28r2) .ret) := fun _ _ _ _ _ => rfl
@[go_sem] def c28r4 : List GOp := [mS 2 (C 0)]
@[go_sem] def c28r5 : List GOp := [mT S2, mT S0, nT T0, oS 5 (.v (.bin .lss T2 T0))]
def c28s6 : SCode := (.cond S5 .skip (.exit 0))
@[go_sem] theorem c28s6eq : U c28s6 (.cond S5 .skip (.exit 0)) := fun _ _ _ _ _ => rfl
@[go_sem] def c28r7 : List GOp := [mT S0, mT S2, oT (.v (.ix 9 T1 T0)), fT 0 T0, oT (.ld (some 8) T0), oS 3 (.al 62 [(I 0), (I 0), (I 0), Z, Z, Z, (I 0), Z]), oN (.st 8 S3 T0)]
@[go_sem] def c28r8 : List GOp := [fT 3 S3, lT T0, oT (.call 24 [T0]), oT (.v (.un .not T0)), mT T0, (.op (some (T0, (false, true))) .t (.v (.fa 4 S3))), (.op (some (T1, (false, false))) .t (.ld none T0)), (.op (some (T2, (false, false))) .t (.call 25 [T0])), (.op (some (T3, (false, false))) .t (.v (.un .not T0))), oT (.v (.pick T4 (.c (.bool true)) T0)), mT T0, (.op (some (T0, (false, true))) .t (.v (.fa 5 S3))), (.op (some (T1, (false, false))) .t (.ld none T0)), (.op (some (T2, (false, false))) .t (.call 25 [T0])), (.op (some (T3, (false, false))) .t (.v (.un .not T0))), oT (.v (.pick T4 (.c (.bool true)) T0)), mT T0, (.sel T0 false [(.op (.v (.fa 7 S3))), (.op (.ld none T0)), (.op (.v (.len T0))), (.op (.v (.bin .gtr T0 (C 100))))] .t (.c (.bool true)) T0), mT T0, (.op (some (T0, (false, true))) .t (.v (.mv S0))), (.op (some (T1, (false, false))) .t (.v (.mv S2))), (.op (some (T2, (false, false))) .t (.v (.ix 9 T1 T0))), (.op (some (T3, (false, false))) .t (.v (.fa 8 T0))), (.op (some (T4, (false, false))) .t (.ld none T0)), (.op (some (T5, (false, false))) .t (.call 26 [T0])), (.op (some (T6, (false, false))) .t (.v (.un .not T0))), oS 6 (.v (.pick T7 (.c (.bool true)) T0))]
@[go_sem] def c28r9 : List GOp := [mS 1 (.c (.bool false))]
def c28s10 : SCode := (.seq (.ops c28r9) .ret)
@[go_sem] theorem c28s10eq : U c28s10 (.seq (.ops c28r9) .ret) := fun _ _ _ _ _ => rfl
def c28s11 : SCode := (.seq (.ops c28r8) (.cond S6 c28s10 .skip))
@[go_sem] theorem c28s11eq : U c28s11 (.seq (.ops c28r8) (.cond S6 c28s10 .skip)) := fun _ _ _ _ _ => rfl
@[go_sem] def c28r12 : List GOp := [mT S2, oT (.v (.bin .add T0 (C 1))), mS 2 T0]
def c28s13 : SCode := (.ops c28r12)
@[go_sem] theorem c28s13eq : U c28s13 (.ops c28r12) := fun _ _ _ _ _ => rfl
def c28s14 : SCode := (.seq (.block 1 (.seq (.ops c28r7) c28s11)) c28s13)
@[go_sem] theorem c28s14eq : U c28s14 (.seq (.block 1 (.seq (.ops c28r7) c28s11)) c28s13) := fun _ _ _ _ _ => rfl
def c28s15 : SCode := (.seq (.seq (.ops c28r5) c28s6) c28s14)
@[go_sem] theorem c28s15eq : U c28s15 (.seq (.seq (.ops c28r5) c28s6) c28s14) := fun _ _ _ _ _ => rfl
def c28s16 : SCode := (.block 0 (.loop c28k c28s15))
@[go_sem] theorem c28s16eq : U c28s16 (.block 0 (.loop c28k c28s15)) := fun _ _ _ _ _ => rfl
@[go_sem] def c28r17 : List GOp := [mS 1 (.c (.bool true))]
def c28s18 : SCode := (.seq (.ops c28r17) .ret)
@[go_sem] theorem c28s18eq : U c28s18 (.seq (.ops c28r17) .ret) := fun _ _ _ _ _ => rfl
def c28s19 : SCode := (.seq (.seq (.ops c28r4) c28s16) c28s18)
@[go_sem] theorem c28s19eq : U c28s19 (.seq (.seq (.ops c28r4) c28s16) c28s18) := fun _ _ _ _ _ => rfl
def c28s20 : SCode := (.seq (.seq (.ops c28r1) (.cond S4 c28s3 .skip)) c28s19)
@[go_sem] theorem c28s20eq : U c28s20 (.seq (.seq (.ops c28r1) (.cond S4 c28s3 .skip)) c28s19) := fun _ _ _ _ _ => rfl
def c28 : Gx.Fn := ⟨50, c28k, (.seq (.ops c28r0) c28s20), [(.tmp S1)]⟩
theorem c28ok : stripFn Tryz.prog c28k Tryz.f28 = some c28 := by kernel_rfl

end Go.Proofs.YtdhlibkdcldioaaGreat
