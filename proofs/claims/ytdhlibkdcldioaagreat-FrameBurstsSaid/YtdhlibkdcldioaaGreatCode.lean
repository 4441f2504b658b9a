/- Generated: the stripped code of Go functions, each held against the loaded program. -/
import Derived.Test.YtdhlibkdcldioaaGreatProg
import Derived.Test.YtdhlibkdcldioaaGreatGx20
import Derived.Test.YtdhlibkdcldioaaGreatCodeA
namespace Go.Proofs.YtdhlibkdcldioaaGreat
open Gx Go

/- wire.NewReader -/
@[go_sem] def c98k : List Nat := [0, 2]
@[go_sem] def c98r0 : List GOp := [mS 1 (.c (.pointer none))]
@[go_sem] def c98r1 : List GOp := [oT (.bs 5 0 [] []), mT S0, oT (.ap 22 22 T1 T0), oT (.v (.bld [Z, (I 0), (I 0), (I 0)] [(0, (1, T0))])), oT (.bx 193 T0), mS 1 T0]
def c98s2 : SCode := (.seq (.ops c98r1) .ret)
@[go_sem] theorem c98s2eq : U c98s2 (.seq (.ops c98r1) .ret) := fun _ _ _ _ _ => rfl
def c98 : Gx.Fn := ⟨8, c98k, (.seq (.ops c98r0) c98s2), [(.tmp S1)]⟩
theorem c98ok : stripFn Tryz.prog c98k Tryz.f98 = some c98 := by kernel_rfl

/- (frame.reader).message -/
@[go_sem] def c99k : List Nat := [0, 1, 2, 3, 4, 9, 22, 23, 43, 63, 75, 82, 90, 103]
@[go_sem] def c99r0 : List GOp := [oS 1 (.bx 159 S0), oS 2 (.al 39 [(I 0), (I 0), (I 0), (I 0), (I 0), (I 0), Z, Z, Z, Z, Z, Z, Z, (I 0), Z])]
@[go_sem] def c99r1 : List GOp := [oS 3 (.al 39 [(I 0), (I 0), (I 0), (I 0), (I 0), (I 0), Z, Z, Z, Z, Z, Z, Z, (I 0), Z])]
@[go_sem] def c99r2 : List GOp := [fT 0 S1, lT T0, oT (.call 131 [T0]), mS 4 T0]
@[go_sem] def c99r3 : List GOp := [mT S4, oS 5 (.v (.bin .gtr T0 (.c (.int .u64 8))))]
@[go_sem] def c99r4 : List GOp := [oT (.v (.bld [] [])), oT (.v (.mki 154 T0)), oN (.pnc T0)]
def c99s5 : SCode := (.cond S5 (.ops c99r4) .skip)
@[go_sem] theorem c99s5eq : U c99s5 (.cond S5 (.ops c99r4) .skip) := fun _ _ _ _ _ => rfl
@[go_sem] def c99r6 : List GOp := [mT S4, oT (.v (.cvi .i64 T0)), fT 0 S3, oN (.st 1 T0 T1)]
@[go_sem] def c99r7 : List GOp := [oT (.ld (some 1) S1), oT (.call 132 [T0]), fT 1 S3, oN (.st 1 T0 T1)]
@[go_sem] def c99r8 : List GOp := [oT (.ld (some 1) S1), oT (.call 132 [T0]), fT 2 S3, oN (.st 1 T0 T1)]
@[go_sem] def c99r9 : List GOp := [fT 0 S3, oS 6 (.ld none T0)]
@[go_sem] def c99r10 : List GOp := [oT (.v (.bin .eql S6 (C 1))), mS 7 T0]
@[go_sem] def c99r11 : List GOp := [oT (.ld (some 1) S1), oT (.call 133 [T0]), fT 3 S3, oN (.st 3 T0 T1)]
@[go_sem] def c99r12 : List GOp := [oT (.ld (some 1) S1), oT (.ld (some 1) S1), oT (.v (.mkf 135 [T0] [])), oT (.call 134 [T2, T0]), fT 6 S3, oN (.st 1 T0 T1)]
@[go_sem] def c99r13 : List GOp := [oT (.ld (some 1) S1), oT (.ld (some 1) S1), oT (.v (.mkf 137 [T0] [])), oT (.call 136 [T2, T0]), fT 7 S3, oN (.st 1 T0 T1)]
@[go_sem] def c99r14 : List GOp := [oT (.ld (some 1) S1), oT (.ld (some 1) S1), oT (.v (.mkf 139 [T0] [])), oT (.call 138 [T2, T0]), fT 8 S3, oN (.st 1 T0 T1)]
def c99s15 : SCode := (.ops c99r14)
@[go_sem] theorem c99s15eq : U c99s15 (.ops c99r14) := fun _ _ _ _ _ => rfl
def c99s16 : SCode := (.seq (.ops c99r13) c99s15)
@[go_sem] theorem c99s16eq : U c99s16 (.seq (.ops c99r13) c99s15) := fun _ _ _ _ _ => rfl
def c99s17 : SCode := (.seq (.ops c99r12) c99s16)
@[go_sem] theorem c99s17eq : U c99s17 (.seq (.ops c99r12) c99s16) := fun _ _ _ _ _ => rfl
def c99s18 : SCode := (.seq (.ops c99r11) c99s17)
@[go_sem] theorem c99s18eq : U c99s18 (.seq (.ops c99r11) c99s17) := fun _ _ _ _ _ => rfl
@[go_sem] def c99r19 : List GOp := [oT (.v (.bin .eql S6 (C 2))), mS 8 T0]
@[go_sem] def c99r20 : List GOp := [oT (.ld (some 1) S1), oT (.call 133 [T0]), fT 3 S3, oN (.st 3 T0 T1)]
@[go_sem] def c99r21 : List GOp := [oT (.ld (some 1) S1), oT (.ld (some 1) S1), oT (.v (.mkf 139 [T0] [])), oT (.call 138 [T2, T0]), fT 8 S3, oN (.st 1 T0 T1)]
@[go_sem] def c99r22 : List GOp := [oT (.ld (some 1) S1), oT (.ld (some 1) S1), oT (.v (.mkf 137 [T0] [])), oT (.call 136 [T2, T0]), fT 7 S3, oN (.st 1 T0 T1)]
@[go_sem] def c99r23 : List GOp := [oT (.ld (some 1) S1), oT (.ld (some 1) S1), oT (.v (.mkf 141 [T0] [])), oT (.call 140 [T2, T0]), fT 9 S3, oN (.st 1 T0 T1)]
def c99s24 : SCode := (.ops c99r23)
@[go_sem] theorem c99s24eq : U c99s24 (.ops c99r23) := fun _ _ _ _ _ => rfl
def c99s25 : SCode := (.seq (.ops c99r22) c99s24)
@[go_sem] theorem c99s25eq : U c99s25 (.seq (.ops c99r22) c99s24) := fun _ _ _ _ _ => rfl
def c99s26 : SCode := (.seq (.ops c99r21) c99s25)
@[go_sem] theorem c99s26eq : U c99s26 (.seq (.ops c99r21) c99s25) := fun _ _ _ _ _ => rfl
def c99s27 : SCode := (.seq (.ops c99r20) c99s26)
@[go_sem] theorem c99s27eq : U c99s27 (.seq (.ops c99r20) c99s26) := fun _ _ _ _ _ => rfl
@[go_sem] def c99r28 : List GOp := [oT (.v (.bin .eql S6 (C 3))), mS 9 T0]
@[go_sem] def c99r29 : List GOp := [oT (.ld (some 1) S1), oT (.ld (some 1) S1), oT (.v (.mkf 143 [T0] [])), oT (.call 142 [T2, T0]), fT 10 S3, oN (.st 1 T0 T1)]
@[go_sem] def c99r30 : List GOp := [oT (.ld (some 1) S1), oT (.ld (some 1) S1), oT (.v (.mkf 139 [T0] [])), oT (.call 138 [T2, T0]), fT 8 S3, oN (.st 1 T0 T1)]
def c99s31 : SCode := (.ops c99r30)
@[go_sem] theorem c99s31eq : U c99s31 (.ops c99r30) := fun _ _ _ _ _ => rfl
def c99s32 : SCode := (.seq (.ops c99r29) c99s31)
@[go_sem] theorem c99s32eq : U c99s32 (.seq (.ops c99r29) c99s31) := fun _ _ _ _ _ => rfl
@[go_sem] def c99r33 : List GOp := [oT (.v (.bin .eql S6 (C 4))), mS 10 T0]
@[go_sem] def c99r34 : List GOp := [oT (.ld (some 1) S1), oT (.ld (some 1) S1), oT (.v (.mkf 145 [T0] [])), oT (.call 144 [T2, T0]), fT 11 S3, oN (.st 1 T0 T1)]
@[go_sem] def c99r35 : List GOp := [oT (.v (.bin .eql S6 (C 5))), mS 11 T0]
@[go_sem] def c99r36 : List GOp := [oT (.v (.bin .eql S6 (C 6))), mS 11 T0]
def c99s37 : SCode := (.cond S11 .skip (.ops c99r36))
@[go_sem] theorem c99s37eq : U c99s37 (.cond S11 .skip (.ops c99r36)) := fun _ _ _ _ _ => rfl
@[go_sem] def c99r38 : List GOp := [oT (.ld (some 1) S1), oT (.ld (some 1) S1), oT (.v (.mkf 139 [T0] [])), oT (.call 138 [T2, T0]), fT 8 S3, oN (.st 1 T0 T1)]
@[go_sem] def c99r39 : List GOp := [oT (.v (.bin .eql S6 (C 7))), mS 12 T0]
@[go_sem] def c99r40 : List GOp := [oT (.ld (some 1) S1), oT (.ld (some 1) S1), oT (.v (.mkf 135 [T0] [])), oT (.call 134 [T2, T0]), fT 6 S3, oN (.st 1 T0 T1)]
@[go_sem] def c99r41 : List GOp := [oT (.ld (some 1) S1), fT 0 S1, lT T0, oT (.v (.mkf 147 [T0] [])), oT (.call 146 [T3, T0]), fT 12 S3, oN (.st 1 T0 T1)]
def c99s42 : SCode := (.ops c99r41)
@[go_sem] theorem c99s42eq : U c99s42 (.ops c99r41) := fun _ _ _ _ _ => rfl
def c99s43 : SCode := (.seq (.ops c99r40) c99s42)
@[go_sem] theorem c99s43eq : U c99s43 (.seq (.ops c99r40) c99s42) := fun _ _ _ _ _ => rfl
@[go_sem] def c99r44 : List GOp := [oT (.v (.bin .eql S6 (C 8))), mS 13 T0]
@[go_sem] def c99r45 : List GOp := [oT (.ld (some 1) S1), oT (.ld (some 1) S1), oT (.v (.mkf 143 [T0] [])), oT (.call 142 [T2, T0]), fT 10 S3, oN (.st 1 T0 T1)]
@[go_sem] def c99r46 : List GOp := [oT (.ld (some 1) S1), oT (.ld (some 1) S1), oT (.v (.mkf 135 [T0] [])), oT (.call 134 [T2, T0]), fT 6 S3, oN (.st 1 T0 T1)]
@[go_sem] def c99r47 : List GOp := [oT (.ld (some 1) S1), oT (.call 132 [T0]), fT 13 S3, oN (.st 1 T0 T1)]
@[go_sem] def c99r48 : List GOp := [oT (.ld (some 1) S1), oT (.ld (some 1) S1), oT (.v (.mkf 149 [T0] [])), oT (.call 148 [T2, T0]), fT 14 S3, oN (.st 1 T0 T1)]
def c99s49 : SCode := (.ops c99r48)
@[go_sem] theorem c99s49eq : U c99s49 (.ops c99r48) := fun _ _ _ _ _ => rfl
def c99s50 : SCode := (.seq (.ops c99r47) c99s49)
@[go_sem] theorem c99s50eq : U c99s50 (.seq (.ops c99r47) c99s49) := fun _ _ _ _ _ => rfl
def c99s51 : SCode := (.seq (.ops c99r46) c99s50)
@[go_sem] theorem c99s51eq : U c99s51 (.seq (.ops c99r46) c99s50) := fun _ _ _ _ _ => rfl
def c99s52 : SCode := (.seq (.ops c99r45) c99s51)
@[go_sem] theorem c99s52eq : U c99s52 (.seq (.ops c99r45) c99s51) := fun _ _ _ _ _ => rfl
def c99s53 : SCode := (.cond S13 c99s52 .skip)
@[go_sem] theorem c99s53eq : U c99s53 (.cond S13 c99s52 .skip) := fun _ _ _ _ _ => rfl
def c99s54 : SCode := (.seq (.ops c99r44) c99s53)
@[go_sem] theorem c99s54eq : U c99s54 (.seq (.ops c99r44) c99s53) := fun _ _ _ _ _ => rfl
def c99s55 : SCode := (.cond S12 c99s43 c99s54)
@[go_sem] theorem c99s55eq : U c99s55 (.cond S12 c99s43 c99s54) := fun _ _ _ _ _ => rfl
def c99s56 : SCode := (.seq (.ops c99r39) c99s55)
@[go_sem] theorem c99s56eq : U c99s56 (.seq (.ops c99r39) c99s55) := fun _ _ _ _ _ => rfl
def c99s57 : SCode := (.cond S11 (.ops c99r38) c99s56)
@[go_sem] theorem c99s57eq : U c99s57 (.cond S11 (.ops c99r38) c99s56) := fun _ _ _ _ _ => rfl
def c99s58 : SCode := (.seq (.seq (.ops c99r35) c99s37) c99s57)
@[go_sem] theorem c99s58eq : U c99s58 (.seq (.seq (.ops c99r35) c99s37) c99s57) := fun _ _ _ _ _ => rfl
def c99s59 : SCode := (.cond S10 (.ops c99r34) c99s58)
@[go_sem] theorem c99s59eq : U c99s59 (.cond S10 (.ops c99r34) c99s58) := fun _ _ _ _ _ => rfl
def c99s60 : SCode := (.seq (.ops c99r33) c99s59)
@[go_sem] theorem c99s60eq : U c99s60 (.seq (.ops c99r33) c99s59) := fun _ _ _ _ _ => rfl
def c99s61 : SCode := (.cond S9 c99s32 c99s60)
@[go_sem] theorem c99s61eq : U c99s61 (.cond S9 c99s32 c99s60) := fun _ _ _ _ _ => rfl
def c99s62 : SCode := (.seq (.ops c99r28) c99s61)
@[go_sem] theorem c99s62eq : U c99s62 (.seq (.ops c99r28) c99s61) := fun _ _ _ _ _ => rfl
def c99s63 : SCode := (.cond S8 c99s27 c99s62)
@[go_sem] theorem c99s63eq : U c99s63 (.cond S8 c99s27 c99s62) := fun _ _ _ _ _ => rfl
def c99s64 : SCode := (.seq (.ops c99r19) c99s63)
@[go_sem] theorem c99s64eq : U c99s64 (.seq (.ops c99r19) c99s63) := fun _ _ _ _ _ => rfl
def c99s65 : SCode := (.cond S7 c99s18 c99s64)
@[go_sem] theorem c99s65eq : U c99s65 (.cond S7 c99s18 c99s64) := fun _ _ _ _ _ => rfl
def c99s66 : SCode := (.block 0 (.seq (.ops c99r10) c99s65))
@[go_sem] theorem c99s66eq : U c99s66 (.block 0 (.seq (.ops c99r10) c99s65)) := fun _ _ _ _ _ => rfl
@[go_sem] def c99r67 : List GOp := [oT (.ld (some 15) S3), oN (.st 15 S2 T0)]
def c99s68 : SCode := (.seq (.ops c99r67) .ret)
@[go_sem] theorem c99s68eq : U c99s68 (.seq (.ops c99r67) .ret) := fun _ _ _ _ _ => rfl
def c99s69 : SCode := (.seq (.seq (.ops c99r9) c99s66) c99s68)
@[go_sem] theorem c99s69eq : U c99s69 (.seq (.seq (.ops c99r9) c99s66) c99s68) := fun _ _ _ _ _ => rfl
def c99s70 : SCode := (.seq (.ops c99r8) c99s69)
@[go_sem] theorem c99s70eq : U c99s70 (.seq (.ops c99r8) c99s69) := fun _ _ _ _ _ => rfl
def c99s71 : SCode := (.seq (.ops c99r7) c99s70)
@[go_sem] theorem c99s71eq : U c99s71 (.seq (.ops c99r7) c99s70) := fun _ _ _ _ _ => rfl
def c99s72 : SCode := (.seq (.ops c99r6) c99s71)
@[go_sem] theorem c99s72eq : U c99s72 (.seq (.ops c99r6) c99s71) := fun _ _ _ _ _ => rfl
def c99s73 : SCode := (.seq (.seq (.ops c99r3) c99s5) c99s72)
@[go_sem] theorem c99s73eq : U c99s73 (.seq (.seq (.ops c99r3) c99s5) c99s72) := fun _ _ _ _ _ => rfl
def c99s74 : SCode := (.seq (.ops c99r2) c99s73)
@[go_sem] theorem c99s74eq : U c99s74 (.seq (.ops c99r2) c99s73) := fun _ _ _ _ _ => rfl
def c99s75 : SCode := (.seq (.ops c99r1) c99s74)
@[go_sem] theorem c99s75eq : U c99s75 (.seq (.ops c99r1) c99s74) := fun _ _ _ _ _ => rfl
def c99 : Gx.Fn := ⟨124, c99k, (.seq (.ops c99r0) c99s75), [(.cell S2 (some 15))]⟩
theorem c99ok : stripFn Tryz.prog c99k Tryz.f99 = some c99 := by kernel_rfl

/- (*wire.Reader).End -/
@[go_sem] def c100k : List Nat := [0, 2, 12]
@[go_sem] def c100r0 : List GOp := [mS 1 (C 0)]
@[go_sem] def c100r1 : List GOp := [mT S0, oT (.v (.nc T0)), fT 3 T0, lT T0, oT (.v (.bin .eql T0 (C 0))), mT T0, (.op (some (T0, (true, true))) .t (.v (.mv S0))), (.op (some (T1, (true, false))) .t (.call 150 [T0])), (.op (some (T2, (true, false))) .t (.v (.bin .gtr T0 (C 0)))), oS 2 (.v (.pick T3 T0 (.c (.bool false))))]
@[go_sem] def c100r2 : List GOp := [mS 1 (C 2)]
def c100s3 : SCode := (.seq (.ops c100r2) .ret)
@[go_sem] theorem c100s3eq : U c100s3 (.seq (.ops c100r2) .ret) := fun _ _ _ _ _ => rfl
@[go_sem] def c100r4 : List GOp := [mT S0, oT (.v (.nc T0)), fT 3 T0, lT T0, mS 1 T0]
def c100s5 : SCode := (.seq (.ops c100r4) .ret)
@[go_sem] theorem c100s5eq : U c100s5 (.seq (.ops c100r4) .ret) := fun _ _ _ _ _ => rfl
def c100s6 : SCode := (.seq (.seq (.ops c100r1) (.cond S2 c100s3 .skip)) c100s5)
@[go_sem] theorem c100s6eq : U c100s6 (.seq (.seq (.ops c100r1) (.cond S2 c100s3 .skip)) c100s5) := fun _ _ _ _ _ => rfl
def c100 : Gx.Fn := ⟨17, c100k, (.seq (.ops c100r0) c100s6), [(.tmp S1)]⟩
theorem c100ok : stripFn Tryz.prog c100k Tryz.f100 = some c100 := by kernel_rfl

/- (*wire.Reader).Uint -/
@[go_sem] def c131k : List Nat := [0, 2, 3, 4, 5, 8, 16]
@[go_sem] def c131r0 : List GOp := [mS 1 (.c (.int .u64 0))]
@[go_sem] def c131r1 : List GOp := [mT S0, oT (.call 151 [T0]), oS 5 (.v (.un .not T0))]
@[go_sem] def c131r2 : List GOp := [mS 1 (.c (.int .u64 0))]
def c131s3 : SCode := (.seq (.ops c131r2) .ret)
@[go_sem] theorem c131s3eq : U c131s3 (.seq (.ops c131r2) .ret) := fun _ _ _ _ _ => rfl
@[go_sem] def c131r4 : List GOp := [mT S0, oT (.call 152 [T0]), mT T0, oT (.v (.ext T0 0)), oT (.v (.ext T1 1)), oT (.v (.ext T2 2)), mS 2 T2, mS 3 T1, mS 4 T0]
@[go_sem] def c131r5 : List GOp := [mT S4, oS 6 (.v (.un .not T0))]
@[go_sem] def c131r6 : List GOp := [mT S0, oT (.v (.nc T0)), fT 3 T0, oN (.st 1 T0 (C 2))]
@[go_sem] def c131r7 : List GOp := [mS 1 (.c (.int .u64 0))]
def c131s8 : SCode := (.seq (.ops c131r7) .ret)
@[go_sem] theorem c131s8eq : U c131s8 (.seq (.ops c131r7) .ret) := fun _ _ _ _ _ => rfl
def c131s9 : SCode := (.seq (.ops c131r6) c131s8)
@[go_sem] theorem c131s9eq : U c131s9 (.seq (.ops c131r6) c131s8) := fun _ _ _ _ _ => rfl
@[go_sem] def c131r10 : List GOp := [mT S0, mT S3, oT (.v (.nc T1)), fT 1 T0, oN (.st 1 T0 T2)]
@[go_sem] def c131r11 : List GOp := [mT S2, mS 1 T0]
def c131s12 : SCode := (.seq (.ops c131r11) .ret)
@[go_sem] theorem c131s12eq : U c131s12 (.seq (.ops c131r11) .ret) := fun _ _ _ _ _ => rfl
def c131s13 : SCode := (.seq (.ops c131r10) c131s12)
@[go_sem] theorem c131s13eq : U c131s13 (.seq (.ops c131r10) c131s12) := fun _ _ _ _ _ => rfl
def c131s14 : SCode := (.seq (.seq (.ops c131r5) (.cond S6 c131s9 .skip)) c131s13)
@[go_sem] theorem c131s14eq : U c131s14 (.seq (.seq (.ops c131r5) (.cond S6 c131s9 .skip)) c131s13) := fun _ _ _ _ _ => rfl
def c131s15 : SCode := (.seq (.ops c131r4) c131s14)
@[go_sem] theorem c131s15eq : U c131s15 (.seq (.ops c131r4) c131s14) := fun _ _ _ _ _ => rfl
def c131s16 : SCode := (.seq (.seq (.ops c131r1) (.cond S5 c131s3 .skip)) c131s15)
@[go_sem] theorem c131s16eq : U c131s16 (.seq (.seq (.ops c131r1) (.cond S5 c131s3 .skip)) c131s15) := fun _ _ _ _ _ => rfl
def c131 : Gx.Fn := ⟨25, c131k, (.seq (.ops c131r0) c131s16), [(.tmp S1)]⟩
theorem c131ok : stripFn Tryz.prog c131k Tryz.f131 = some c131 := by kernel_rfl

/- (frame.reader).number -/
@[go_sem] def c132k : List Nat := [0, 1, 2]
@[go_sem] def c132r0 : List GOp := [oS 1 (.bx 159 S0), mS 2 (C 0)]
@[go_sem] def c132r1 : List GOp := [fT 0 S1, lT T0, oT (.call 153 [T0]), mS 2 T0]
def c132s2 : SCode := (.seq (.ops c132r1) .ret)
@[go_sem] theorem c132s2eq : U c132s2 (.seq (.ops c132r1) .ret) := fun _ _ _ _ _ => rfl
def c132 : Gx.Fn := ⟨6, c132k, (.seq (.ops c132r0) c132s2), [(.tmp S2)]⟩
theorem c132ok : stripFn Tryz.prog c132k Tryz.f132 = some c132 := by kernel_rfl

/- (frame.reader).round -/
@[go_sem] def c133k : List Nat := [0, 1, 2, 3]
@[go_sem] def c133r0 : List GOp := [oS 1 (.bx 159 S0), oS 2 (.al 29 [(I 0), (I 0), (I 0)])]
@[go_sem] def c133r1 : List GOp := [oS 3 (.al 29 [(I 0), (I 0), (I 0)])]
@[go_sem] def c133r2 : List GOp := [oT (.ld (some 1) S1), oT (.call 132 [T0]), fT 0 S3, oN (.st 1 T0 T1)]
@[go_sem] def c133r3 : List GOp := [oT (.ld (some 1) S1), oT (.call 132 [T0]), fT 1 S3, oN (.st 1 T0 T1)]
@[go_sem] def c133r4 : List GOp := [oT (.ld (some 1) S1), oT (.call 132 [T0]), fT 2 S3, oN (.st 1 T0 T1)]
@[go_sem] def c133r5 : List GOp := [oT (.ld (some 3) S3), oN (.st 3 S2 T0)]
def c133s6 : SCode := (.seq (.ops c133r5) .ret)
@[go_sem] theorem c133s6eq : U c133s6 (.seq (.ops c133r5) .ret) := fun _ _ _ _ _ => rfl
def c133s7 : SCode := (.seq (.ops c133r4) c133s6)
@[go_sem] theorem c133s7eq : U c133s7 (.seq (.ops c133r4) c133s6) := fun _ _ _ _ _ => rfl
def c133s8 : SCode := (.seq (.ops c133r3) c133s7)
@[go_sem] theorem c133s8eq : U c133s8 (.seq (.ops c133r3) c133s7) := fun _ _ _ _ _ => rfl
def c133s9 : SCode := (.seq (.ops c133r2) c133s8)
@[go_sem] theorem c133s9eq : U c133s9 (.seq (.ops c133r2) c133s8) := fun _ _ _ _ _ => rfl
def c133s10 : SCode := (.seq (.ops c133r1) c133s9)
@[go_sem] theorem c133s10eq : U c133s10 (.seq (.ops c133r1) c133s9) := fun _ _ _ _ _ => rfl
def c133 : Gx.Fn := ⟨14, c133k, (.seq (.ops c133r0) c133s10), [(.cell S2 (some 3))]⟩
theorem c133ok : stripFn Tryz.prog c133k Tryz.f133 = some c133 := by kernel_rfl

/- frame.elements[api.ReadID] -/
@[go_sem] def c134k : List Nat := [0, 1, 2, 4, 5, 6, 12, 13, 14]
@[go_sem] def c134r0 : List GOp := [oS 2 (.bx 159 S0), mS 3 (.c Z)]
@[go_sem] def c134r1 : List GOp := [mS 4 (.c Z)]
@[go_sem] def c134r2 : List GOp := [fT 0 S2, lT T0, oT (.call 154 [T0]), mS 5 T0]
@[go_sem] def c134r3 : List GOp := [oT (.ld (some 1) S2), oT (.call 155 [T0])]
@[go_sem] def c134r4 : List GOp := [mS 6 S5, mS 7 (C 0)]
@[go_sem] def c134r5 : List GOp := [oS 8 (.v (.bin .lss S7 S6))]
@[go_sem] def c134r6 : List GOp := [mT S4, mT S1, oT (.cv T0 []), oT (.bs 92 1 [(I 0), (I 0), Z] [(0, (3, T0))]), oT (.ap 30 30 T3 T0), mS 4 T0]
@[go_sem] def c134r7 : List GOp := [oT (.ld (some 1) S2), oT (.call 155 [T0])]
def c134s8 : SCode := (.ops c134r7)
@[go_sem] theorem c134s8eq : U c134s8 (.ops c134r7) := fun _ _ _ _ _ => rfl
@[go_sem] def c134r9 : List GOp := [oT (.v (.bin .add S7 (C 1))), mS 7 T0]
def c134s10 : SCode := (.ops c134r9)
@[go_sem] theorem c134s10eq : U c134s10 (.ops c134r9) := fun _ _ _ _ _ => rfl
def c134s11 : SCode := (.seq (.block 1 (.seq (.ops c134r6) c134s8)) c134s10)
@[go_sem] theorem c134s11eq : U c134s11 (.seq (.block 1 (.seq (.ops c134r6) c134s8)) c134s10) := fun _ _ _ _ _ => rfl
def c134s12 : SCode := (.seq (.cond S8 .skip (.exit 0)) c134s11)
@[go_sem] theorem c134s12eq : U c134s12 (.seq (.cond S8 .skip (.exit 0)) c134s11) := fun _ _ _ _ _ => rfl
def c134s13 : SCode := (.seq (.ops c134r5) c134s12)
@[go_sem] theorem c134s13eq : U c134s13 (.seq (.ops c134r5) c134s12) := fun _ _ _ _ _ => rfl
def c134s14 : SCode := (.block 0 (.loop c134k c134s13))
@[go_sem] theorem c134s14eq : U c134s14 (.block 0 (.loop c134k c134s13)) := fun _ _ _ _ _ => rfl
@[go_sem] def c134r15 : List GOp := [mT S4, mS 3 T0]
def c134s16 : SCode := (.seq (.ops c134r15) .ret)
@[go_sem] theorem c134s16eq : U c134s16 (.seq (.ops c134r15) .ret) := fun _ _ _ _ _ => rfl
def c134s17 : SCode := (.seq (.seq (.ops c134r4) c134s14) c134s16)
@[go_sem] theorem c134s17eq : U c134s17 (.seq (.seq (.ops c134r4) c134s14) c134s16) := fun _ _ _ _ _ => rfl
def c134s18 : SCode := (.seq (.ops c134r3) c134s17)
@[go_sem] theorem c134s18eq : U c134s18 (.seq (.ops c134r3) c134s17) := fun _ _ _ _ _ => rfl
def c134s19 : SCode := (.seq (.ops c134r2) c134s18)
@[go_sem] theorem c134s19eq : U c134s19 (.seq (.ops c134r2) c134s18) := fun _ _ _ _ _ => rfl
def c134s20 : SCode := (.seq (.ops c134r1) c134s19)
@[go_sem] theorem c134s20eq : U c134s20 (.seq (.ops c134r1) c134s19) := fun _ _ _ _ _ => rfl
def c134 : Gx.Fn := ⟨24, c134k, (.seq (.ops c134r0) c134s20), [(.tmp S3)]⟩
theorem c134ok : stripFn Tryz.prog c134k Tryz.f134 = some c134 := by kernel_rfl

/- (frame.reader).read -/
@[go_sem] def c135k : List Nat := [0, 1, 2, 3]
@[go_sem] def c135r0 : List GOp := [oS 1 (.bx 159 S0), oS 2 (.al 92 [(I 0), (I 0), Z])]
@[go_sem] def c135r1 : List GOp := [oS 3 (.al 92 [(I 0), (I 0), Z])]
@[go_sem] def c135r2 : List GOp := [oT (.ld (some 1) S1), oT (.call 132 [T0]), fT 0 S3, oN (.st 1 T0 T1)]
@[go_sem] def c135r3 : List GOp := [oT (.ld (some 1) S1), oT (.call 132 [T0]), fT 1 S3, oN (.st 1 T0 T1)]
@[go_sem] def c135r4 : List GOp := [fT 0 S1, lT T0, oT (.call 156 [T0]), fT 2 S3, oN (.st 1 T0 T1)]
@[go_sem] def c135r5 : List GOp := [oT (.ld (some 3) S3), oN (.st 3 S2 T0)]
def c135s6 : SCode := (.seq (.ops c135r5) .ret)
@[go_sem] theorem c135s6eq : U c135s6 (.seq (.ops c135r5) .ret) := fun _ _ _ _ _ => rfl
def c135s7 : SCode := (.seq (.ops c135r4) c135s6)
@[go_sem] theorem c135s7eq : U c135s7 (.seq (.ops c135r4) c135s6) := fun _ _ _ _ _ => rfl
def c135s8 : SCode := (.seq (.ops c135r3) c135s7)
@[go_sem] theorem c135s8eq : U c135s8 (.seq (.ops c135r3) c135s7) := fun _ _ _ _ _ => rfl
def c135s9 : SCode := (.seq (.ops c135r2) c135s8)
@[go_sem] theorem c135s9eq : U c135s9 (.seq (.ops c135r2) c135s8) := fun _ _ _ _ _ => rfl
def c135s10 : SCode := (.seq (.ops c135r1) c135s9)
@[go_sem] theorem c135s10eq : U c135s10 (.seq (.ops c135r1) c135s9) := fun _ _ _ _ _ => rfl
def c135 : Gx.Fn := ⟨15, c135k, (.seq (.ops c135r0) c135s10), [(.cell S2 (some 3))]⟩
theorem c135ok : stripFn Tryz.prog c135k Tryz.f135 = some c135 := by kernel_rfl

/- frame.elements[api.Base] -/
@[go_sem] def c136k : List Nat := [0, 1, 2, 4, 5, 6, 12, 13, 14]
@[go_sem] def c136r0 : List GOp := [oS 2 (.bx 159 S0), mS 3 (.c Z)]
@[go_sem] def c136r1 : List GOp := [mS 4 (.c Z)]
@[go_sem] def c136r2 : List GOp := [fT 0 S2, lT T0, oT (.call 154 [T0]), mS 5 T0]
@[go_sem] def c136r3 : List GOp := [oT (.ld (some 1) S2), oT (.call 155 [T0])]
@[go_sem] def c136r4 : List GOp := [mS 6 S5, mS 7 (C 0)]
@[go_sem] def c136r5 : List GOp := [oS 8 (.v (.bin .lss S7 S6))]
@[go_sem] def c136r6 : List GOp := [mT S4, mT S1, oT (.cv T0 []), oT (.bs 60 1 [Z, Z] [(0, (2, T0))]), oT (.ap 31 31 T3 T0), mS 4 T0]
@[go_sem] def c136r7 : List GOp := [oT (.ld (some 1) S2), oT (.call 155 [T0])]
def c136s8 : SCode := (.ops c136r7)
@[go_sem] theorem c136s8eq : U c136s8 (.ops c136r7) := fun _ _ _ _ _ => rfl
@[go_sem] def c136r9 : List GOp := [oT (.v (.bin .add S7 (C 1))), mS 7 T0]
def c136s10 : SCode := (.ops c136r9)
@[go_sem] theorem c136s10eq : U c136s10 (.ops c136r9) := fun _ _ _ _ _ => rfl
def c136s11 : SCode := (.seq (.block 1 (.seq (.ops c136r6) c136s8)) c136s10)
@[go_sem] theorem c136s11eq : U c136s11 (.seq (.block 1 (.seq (.ops c136r6) c136s8)) c136s10) := fun _ _ _ _ _ => rfl
def c136s12 : SCode := (.seq (.cond S8 .skip (.exit 0)) c136s11)
@[go_sem] theorem c136s12eq : U c136s12 (.seq (.cond S8 .skip (.exit 0)) c136s11) := fun _ _ _ _ _ => rfl
def c136s13 : SCode := (.seq (.ops c136r5) c136s12)
@[go_sem] theorem c136s13eq : U c136s13 (.seq (.ops c136r5) c136s12) := fun _ _ _ _ _ => rfl
def c136s14 : SCode := (.block 0 (.loop c136k c136s13))
@[go_sem] theorem c136s14eq : U c136s14 (.block 0 (.loop c136k c136s13)) := fun _ _ _ _ _ => rfl
@[go_sem] def c136r15 : List GOp := [mT S4, mS 3 T0]
def c136s16 : SCode := (.seq (.ops c136r15) .ret)
@[go_sem] theorem c136s16eq : U c136s16 (.seq (.ops c136r15) .ret) := fun _ _ _ _ _ => rfl
def c136s17 : SCode := (.seq (.seq (.ops c136r4) c136s14) c136s16)
@[go_sem] theorem c136s17eq : U c136s17 (.seq (.seq (.ops c136r4) c136s14) c136s16) := fun _ _ _ _ _ => rfl
def c136s18 : SCode := (.seq (.ops c136r3) c136s17)
@[go_sem] theorem c136s18eq : U c136s18 (.seq (.ops c136r3) c136s17) := fun _ _ _ _ _ => rfl
def c136s19 : SCode := (.seq (.ops c136r2) c136s18)
@[go_sem] theorem c136s19eq : U c136s19 (.seq (.ops c136r2) c136s18) := fun _ _ _ _ _ => rfl
def c136s20 : SCode := (.seq (.ops c136r1) c136s19)
@[go_sem] theorem c136s20eq : U c136s20 (.seq (.ops c136r1) c136s19) := fun _ _ _ _ _ => rfl
def c136 : Gx.Fn := ⟨24, c136k, (.seq (.ops c136r0) c136s20), [(.tmp S3)]⟩
theorem c136ok : stripFn Tryz.prog c136k Tryz.f136 = some c136 := by kernel_rfl

/- (frame.reader).base -/
@[go_sem] def c137k : List Nat := [0, 1, 2, 3]
@[go_sem] def c137r0 : List GOp := [oS 1 (.bx 159 S0), oS 2 (.al 60 [Z, Z])]
@[go_sem] def c137r1 : List GOp := [oS 3 (.al 60 [Z, Z])]
@[go_sem] def c137r2 : List GOp := [oT (.ld (some 1) S1), oT (.ld (some 1) S1), oT (.v (.mkf 158 [T0] [])), oT (.call 157 [T2, T0]), fT 0 S3, oN (.st 1 T0 T1)]
@[go_sem] def c137r3 : List GOp := [oT (.ld (some 1) S1), oT (.ld (some 1) S1), oT (.v (.mkf 139 [T0] [])), oT (.call 138 [T2, T0]), fT 1 S3, oN (.st 1 T0 T1)]
@[go_sem] def c137r4 : List GOp := [oT (.ld (some 2) S3), oN (.st 2 S2 T0)]
def c137s5 : SCode := (.seq (.ops c137r4) .ret)
@[go_sem] theorem c137s5eq : U c137s5 (.seq (.ops c137r4) .ret) := fun _ _ _ _ _ => rfl
def c137s6 : SCode := (.seq (.ops c137r3) c137s5)
@[go_sem] theorem c137s6eq : U c137s6 (.seq (.ops c137r3) c137s5) := fun _ _ _ _ _ => rfl
def c137s7 : SCode := (.seq (.ops c137r2) c137s6)
@[go_sem] theorem c137s7eq : U c137s7 (.seq (.ops c137r2) c137s6) := fun _ _ _ _ _ => rfl
def c137s8 : SCode := (.seq (.ops c137r1) c137s7)
@[go_sem] theorem c137s8eq : U c137s8 (.seq (.ops c137r1) c137s7) := fun _ _ _ _ _ => rfl
def c137 : Gx.Fn := ⟨15, c137k, (.seq (.ops c137r0) c137s8), [(.cell S2 (some 2))]⟩
theorem c137ok : stripFn Tryz.prog c137k Tryz.f137 = some c137 := by kernel_rfl

/- frame.elements[api.Command] -/
@[go_sem] def c138k : List Nat := [0, 1, 2, 4, 5, 6, 12, 13, 14]
@[go_sem] def c138r0 : List GOp := [oS 2 (.bx 159 S0), mS 3 (.c Z)]
@[go_sem] def c138r1 : List GOp := [mS 4 (.c Z)]
@[go_sem] def c138r2 : List GOp := [fT 0 S2, lT T0, oT (.call 154 [T0]), mS 5 T0]
@[go_sem] def c138r3 : List GOp := [oT (.ld (some 1) S2), oT (.call 155 [T0])]
@[go_sem] def c138r4 : List GOp := [mS 6 S5, mS 7 (C 0)]
@[go_sem] def c138r5 : List GOp := [oS 8 (.v (.bin .lss S7 S6))]
@[go_sem] def c138r6 : List GOp := [mT S4, mT S1, oT (.cv T0 []), oT (.bs 99 1 [(I 0), (I 0), (I 0), Z, (I 0), Z] [(0, (6, T0))]), oT (.ap 32 32 T3 T0), mS 4 T0]
@[go_sem] def c138r7 : List GOp := [oT (.ld (some 1) S2), oT (.call 155 [T0])]
def c138s8 : SCode := (.ops c138r7)
@[go_sem] theorem c138s8eq : U c138s8 (.ops c138r7) := fun _ _ _ _ _ => rfl
@[go_sem] def c138r9 : List GOp := [oT (.v (.bin .add S7 (C 1))), mS 7 T0]
def c138s10 : SCode := (.ops c138r9)
@[go_sem] theorem c138s10eq : U c138s10 (.ops c138r9) := fun _ _ _ _ _ => rfl
def c138s11 : SCode := (.seq (.block 1 (.seq (.ops c138r6) c138s8)) c138s10)
@[go_sem] theorem c138s11eq : U c138s11 (.seq (.block 1 (.seq (.ops c138r6) c138s8)) c138s10) := fun _ _ _ _ _ => rfl
def c138s12 : SCode := (.seq (.cond S8 .skip (.exit 0)) c138s11)
@[go_sem] theorem c138s12eq : U c138s12 (.seq (.cond S8 .skip (.exit 0)) c138s11) := fun _ _ _ _ _ => rfl
def c138s13 : SCode := (.seq (.ops c138r5) c138s12)
@[go_sem] theorem c138s13eq : U c138s13 (.seq (.ops c138r5) c138s12) := fun _ _ _ _ _ => rfl
def c138s14 : SCode := (.block 0 (.loop c138k c138s13))
@[go_sem] theorem c138s14eq : U c138s14 (.block 0 (.loop c138k c138s13)) := fun _ _ _ _ _ => rfl
@[go_sem] def c138r15 : List GOp := [mT S4, mS 3 T0]
def c138s16 : SCode := (.seq (.ops c138r15) .ret)
@[go_sem] theorem c138s16eq : U c138s16 (.seq (.ops c138r15) .ret) := fun _ _ _ _ _ => rfl
def c138s17 : SCode := (.seq (.seq (.ops c138r4) c138s14) c138s16)
@[go_sem] theorem c138s17eq : U c138s17 (.seq (.seq (.ops c138r4) c138s14) c138s16) := fun _ _ _ _ _ => rfl
def c138s18 : SCode := (.seq (.ops c138r3) c138s17)
@[go_sem] theorem c138s18eq : U c138s18 (.seq (.ops c138r3) c138s17) := fun _ _ _ _ _ => rfl
def c138s19 : SCode := (.seq (.ops c138r2) c138s18)
@[go_sem] theorem c138s19eq : U c138s19 (.seq (.ops c138r2) c138s18) := fun _ _ _ _ _ => rfl
def c138s20 : SCode := (.seq (.ops c138r1) c138s19)
@[go_sem] theorem c138s20eq : U c138s20 (.seq (.ops c138r1) c138s19) := fun _ _ _ _ _ => rfl
def c138 : Gx.Fn := ⟨24, c138k, (.seq (.ops c138r0) c138s20), [(.tmp S3)]⟩
theorem c138ok : stripFn Tryz.prog c138k Tryz.f138 = some c138 := by kernel_rfl

/- (frame.reader).command -/
@[go_sem] def c139k : List Nat := [0, 1, 2, 3]
@[go_sem] def c139r0 : List GOp := [oS 1 (.bx 159 S0), oS 2 (.al 99 [(I 0), (I 0), (I 0), Z, (I 0), Z])]
@[go_sem] def c139r1 : List GOp := [oS 3 (.al 99 [(I 0), (I 0), (I 0), Z, (I 0), Z])]
@[go_sem] def c139r2 : List GOp := [oT (.ld (some 1) S1), oT (.call 132 [T0]), fT 0 S3, oN (.st 1 T0 T1)]
@[go_sem] def c139r3 : List GOp := [oT (.ld (some 1) S1), oT (.call 132 [T0]), fT 1 S3, oN (.st 1 T0 T1)]
@[go_sem] def c139r4 : List GOp := [oT (.ld (some 1) S1), oT (.call 132 [T0]), fT 2 S3, oN (.st 1 T0 T1)]
@[go_sem] def c139r5 : List GOp := [oT (.ld (some 1) S1), oT (.ld (some 1) S1), oT (.v (.mkf 160 [T0] [])), oT (.call 159 [T2, T0]), fT 3 S3, oN (.st 1 T0 T1)]
@[go_sem] def c139r6 : List GOp := [oT (.ld (some 1) S1), oT (.call 132 [T0]), fT 4 S3, oN (.st 1 T0 T1)]
@[go_sem] def c139r7 : List GOp := [fT 0 S1, lT T0, oT (.call 156 [T0]), fT 5 S3, oN (.st 1 T0 T1)]
@[go_sem] def c139r8 : List GOp := [oT (.ld (some 6) S3), oN (.st 6 S2 T0)]
def c139s9 : SCode := (.seq (.ops c139r8) .ret)
@[go_sem] theorem c139s9eq : U c139s9 (.seq (.ops c139r8) .ret) := fun _ _ _ _ _ => rfl
def c139s10 : SCode := (.seq (.ops c139r7) c139s9)
@[go_sem] theorem c139s10eq : U c139s10 (.seq (.ops c139r7) c139s9) := fun _ _ _ _ _ => rfl
def c139s11 : SCode := (.seq (.ops c139r6) c139s10)
@[go_sem] theorem c139s11eq : U c139s11 (.seq (.ops c139r6) c139s10) := fun _ _ _ _ _ => rfl
def c139s12 : SCode := (.seq (.ops c139r5) c139s11)
@[go_sem] theorem c139s12eq : U c139s12 (.seq (.ops c139r5) c139s11) := fun _ _ _ _ _ => rfl
def c139s13 : SCode := (.seq (.ops c139r4) c139s12)
@[go_sem] theorem c139s13eq : U c139s13 (.seq (.ops c139r4) c139s12) := fun _ _ _ _ _ => rfl
def c139s14 : SCode := (.seq (.ops c139r3) c139s13)
@[go_sem] theorem c139s14eq : U c139s14 (.seq (.ops c139r3) c139s13) := fun _ _ _ _ _ => rfl
def c139s15 : SCode := (.seq (.ops c139r2) c139s14)
@[go_sem] theorem c139s15eq : U c139s15 (.seq (.ops c139r2) c139s14) := fun _ _ _ _ _ => rfl
def c139s16 : SCode := (.seq (.ops c139r1) c139s15)
@[go_sem] theorem c139s16eq : U c139s16 (.seq (.ops c139r1) c139s15) := fun _ _ _ _ _ => rfl
def c139 : Gx.Fn := ⟨26, c139k, (.seq (.ops c139r0) c139s16), [(.cell S2 (some 6))]⟩
theorem c139ok : stripFn Tryz.prog c139k Tryz.f139 = some c139 := by kernel_rfl

/- frame.elements[api.Ack] -/
@[go_sem] def c140k : List Nat := [0, 1, 2, 4, 5, 6, 12, 13, 14]
@[go_sem] def c140r0 : List GOp := [oS 2 (.bx 159 S0), mS 3 (.c Z)]
@[go_sem] def c140r1 : List GOp := [mS 4 (.c Z)]
@[go_sem] def c140r2 : List GOp := [fT 0 S2, lT T0, oT (.call 154 [T0]), mS 5 T0]
@[go_sem] def c140r3 : List GOp := [oT (.ld (some 1) S2), oT (.call 155 [T0])]
@[go_sem] def c140r4 : List GOp := [mS 6 S5, mS 7 (C 0)]
@[go_sem] def c140r5 : List GOp := [oS 8 (.v (.bin .lss S7 S6))]
@[go_sem] def c140r6 : List GOp := [mT S4, mT S1, oT (.cv T0 []), oT (.bs 103 1 [(I 0), Z] [(0, (2, T0))]), oT (.ap 33 33 T3 T0), mS 4 T0]
@[go_sem] def c140r7 : List GOp := [oT (.ld (some 1) S2), oT (.call 155 [T0])]
def c140s8 : SCode := (.ops c140r7)
@[go_sem] theorem c140s8eq : U c140s8 (.ops c140r7) := fun _ _ _ _ _ => rfl
@[go_sem] def c140r9 : List GOp := [oT (.v (.bin .add S7 (C 1))), mS 7 T0]
def c140s10 : SCode := (.ops c140r9)
@[go_sem] theorem c140s10eq : U c140s10 (.ops c140r9) := fun _ _ _ _ _ => rfl
def c140s11 : SCode := (.seq (.block 1 (.seq (.ops c140r6) c140s8)) c140s10)
@[go_sem] theorem c140s11eq : U c140s11 (.seq (.block 1 (.seq (.ops c140r6) c140s8)) c140s10) := fun _ _ _ _ _ => rfl
def c140s12 : SCode := (.seq (.cond S8 .skip (.exit 0)) c140s11)
@[go_sem] theorem c140s12eq : U c140s12 (.seq (.cond S8 .skip (.exit 0)) c140s11) := fun _ _ _ _ _ => rfl
def c140s13 : SCode := (.seq (.ops c140r5) c140s12)
@[go_sem] theorem c140s13eq : U c140s13 (.seq (.ops c140r5) c140s12) := fun _ _ _ _ _ => rfl
def c140s14 : SCode := (.block 0 (.loop c140k c140s13))
@[go_sem] theorem c140s14eq : U c140s14 (.block 0 (.loop c140k c140s13)) := fun _ _ _ _ _ => rfl
@[go_sem] def c140r15 : List GOp := [mT S4, mS 3 T0]
def c140s16 : SCode := (.seq (.ops c140r15) .ret)
@[go_sem] theorem c140s16eq : U c140s16 (.seq (.ops c140r15) .ret) := fun _ _ _ _ _ => rfl
def c140s17 : SCode := (.seq (.seq (.ops c140r4) c140s14) c140s16)
@[go_sem] theorem c140s17eq : U c140s17 (.seq (.seq (.ops c140r4) c140s14) c140s16) := fun _ _ _ _ _ => rfl
def c140s18 : SCode := (.seq (.ops c140r3) c140s17)
@[go_sem] theorem c140s18eq : U c140s18 (.seq (.ops c140r3) c140s17) := fun _ _ _ _ _ => rfl
def c140s19 : SCode := (.seq (.ops c140r2) c140s18)
@[go_sem] theorem c140s19eq : U c140s19 (.seq (.ops c140r2) c140s18) := fun _ _ _ _ _ => rfl
def c140s20 : SCode := (.seq (.ops c140r1) c140s19)
@[go_sem] theorem c140s20eq : U c140s20 (.seq (.ops c140r1) c140s19) := fun _ _ _ _ _ => rfl
def c140 : Gx.Fn := ⟨24, c140k, (.seq (.ops c140r0) c140s20), [(.tmp S3)]⟩
theorem c140ok : stripFn Tryz.prog c140k Tryz.f140 = some c140 := by kernel_rfl

/- (frame.reader).ack -/
@[go_sem] def c141k : List Nat := [0, 1, 2, 3]
@[go_sem] def c141r0 : List GOp := [oS 1 (.bx 159 S0), oS 2 (.al 103 [(I 0), Z])]
@[go_sem] def c141r1 : List GOp := [oS 3 (.al 103 [(I 0), Z])]
@[go_sem] def c141r2 : List GOp := [oT (.ld (some 1) S1), oT (.call 132 [T0]), fT 0 S3, oN (.st 1 T0 T1)]
@[go_sem] def c141r3 : List GOp := [fT 0 S1, lT T0, oT (.call 156 [T0]), fT 1 S3, oN (.st 1 T0 T1)]
@[go_sem] def c141r4 : List GOp := [oT (.ld (some 2) S3), oN (.st 2 S2 T0)]
def c141s5 : SCode := (.seq (.ops c141r4) .ret)
@[go_sem] theorem c141s5eq : U c141s5 (.seq (.ops c141r4) .ret) := fun _ _ _ _ _ => rfl
def c141s6 : SCode := (.seq (.ops c141r3) c141s5)
@[go_sem] theorem c141s6eq : U c141s6 (.seq (.ops c141r3) c141s5) := fun _ _ _ _ _ => rfl
def c141s7 : SCode := (.seq (.ops c141r2) c141s6)
@[go_sem] theorem c141s7eq : U c141s7 (.seq (.ops c141r2) c141s6) := fun _ _ _ _ _ => rfl
def c141s8 : SCode := (.seq (.ops c141r1) c141s7)
@[go_sem] theorem c141s8eq : U c141s8 (.seq (.ops c141r1) c141s7) := fun _ _ _ _ _ => rfl
def c141 : Gx.Fn := ⟨12, c141k, (.seq (.ops c141r0) c141s8), [(.cell S2 (some 2))]⟩
theorem c141ok : stripFn Tryz.prog c141k Tryz.f141 = some c141 := by kernel_rfl

/- frame.elements[api.Proof] -/
@[go_sem] def c142k : List Nat := [0, 1, 2, 4, 5, 6, 12, 13, 14]
@[go_sem] def c142r0 : List GOp := [oS 2 (.bx 159 S0), mS 3 (.c Z)]
@[go_sem] def c142r1 : List GOp := [mS 4 (.c Z)]
@[go_sem] def c142r2 : List GOp := [fT 0 S2, lT T0, oT (.call 154 [T0]), mS 5 T0]
@[go_sem] def c142r3 : List GOp := [oT (.ld (some 1) S2), oT (.call 155 [T0])]
@[go_sem] def c142r4 : List GOp := [mS 6 S5, mS 7 (C 0)]
@[go_sem] def c142r5 : List GOp := [oS 8 (.v (.bin .lss S7 S6))]
@[go_sem] def c142r6 : List GOp := [mT S4, mT S1, oT (.cv T0 []), oT (.bs 66 1 [Z, (I 0), (I 0), (I 0), Z, Z, Z, (I 0), Z, Z] [(0, (10, T0))]), oT (.ap 34 34 T3 T0), mS 4 T0]
@[go_sem] def c142r7 : List GOp := [oT (.ld (some 1) S2), oT (.call 155 [T0])]
def c142s8 : SCode := (.ops c142r7)
@[go_sem] theorem c142s8eq : U c142s8 (.ops c142r7) := fun _ _ _ _ _ => rfl
@[go_sem] def c142r9 : List GOp := [oT (.v (.bin .add S7 (C 1))), mS 7 T0]
def c142s10 : SCode := (.ops c142r9)
@[go_sem] theorem c142s10eq : U c142s10 (.ops c142r9) := fun _ _ _ _ _ => rfl
def c142s11 : SCode := (.seq (.block 1 (.seq (.ops c142r6) c142s8)) c142s10)
@[go_sem] theorem c142s11eq : U c142s11 (.seq (.block 1 (.seq (.ops c142r6) c142s8)) c142s10) := fun _ _ _ _ _ => rfl
def c142s12 : SCode := (.seq (.cond S8 .skip (.exit 0)) c142s11)
@[go_sem] theorem c142s12eq : U c142s12 (.seq (.cond S8 .skip (.exit 0)) c142s11) := fun _ _ _ _ _ => rfl
def c142s13 : SCode := (.seq (.ops c142r5) c142s12)
@[go_sem] theorem c142s13eq : U c142s13 (.seq (.ops c142r5) c142s12) := fun _ _ _ _ _ => rfl
def c142s14 : SCode := (.block 0 (.loop c142k c142s13))
@[go_sem] theorem c142s14eq : U c142s14 (.block 0 (.loop c142k c142s13)) := fun _ _ _ _ _ => rfl
@[go_sem] def c142r15 : List GOp := [mT S4, mS 3 T0]
def c142s16 : SCode := (.seq (.ops c142r15) .ret)
@[go_sem] theorem c142s16eq : U c142s16 (.seq (.ops c142r15) .ret) := fun _ _ _ _ _ => rfl
def c142s17 : SCode := (.seq (.seq (.ops c142r4) c142s14) c142s16)
@[go_sem] theorem c142s17eq : U c142s17 (.seq (.seq (.ops c142r4) c142s14) c142s16) := fun _ _ _ _ _ => rfl
def c142s18 : SCode := (.seq (.ops c142r3) c142s17)
@[go_sem] theorem c142s18eq : U c142s18 (.seq (.ops c142r3) c142s17) := fun _ _ _ _ _ => rfl
def c142s19 : SCode := (.seq (.ops c142r2) c142s18)
@[go_sem] theorem c142s19eq : U c142s19 (.seq (.ops c142r2) c142s18) := fun _ _ _ _ _ => rfl
def c142s20 : SCode := (.seq (.ops c142r1) c142s19)
@[go_sem] theorem c142s20eq : U c142s20 (.seq (.ops c142r1) c142s19) := fun _ _ _ _ _ => rfl
def c142 : Gx.Fn := ⟨24, c142k, (.seq (.ops c142r0) c142s20), [(.tmp S3)]⟩
theorem c142ok : stripFn Tryz.prog c142k Tryz.f142 = some c142 := by kernel_rfl

/- (frame.reader).proof -/
@[go_sem] def c143k : List Nat := [0, 1, 2, 3]
@[go_sem] def c143r0 : List GOp := [oS 1 (.bx 159 S0), oS 2 (.al 66 [Z, (I 0), (I 0), (I 0), Z, Z, Z, (I 0), Z, Z])]
@[go_sem] def c143r1 : List GOp := [oS 3 (.al 66 [Z, (I 0), (I 0), (I 0), Z, Z, Z, (I 0), Z, Z])]
@[go_sem] def c143r2 : List GOp := [oT (.ld (some 1) S1), oT (.ld (some 1) S1), oT (.v (.mkf 158 [T0] [])), oT (.call 157 [T2, T0]), fT 0 S3, oN (.st 1 T0 T1)]
@[go_sem] def c143r3 : List GOp := [oT (.ld (some 1) S1), oT (.call 158 [T0]), fT 1 S3, oN (.st 9 T0 T1)]
@[go_sem] def c143r4 : List GOp := [oT (.ld (some 10) S3), oN (.st 10 S2 T0)]
def c143s5 : SCode := (.seq (.ops c143r4) .ret)
@[go_sem] theorem c143s5eq : U c143s5 (.seq (.ops c143r4) .ret) := fun _ _ _ _ _ => rfl
def c143s6 : SCode := (.seq (.ops c143r3) c143s5)
@[go_sem] theorem c143s6eq : U c143s6 (.seq (.ops c143r3) c143s5) := fun _ _ _ _ _ => rfl
def c143s7 : SCode := (.seq (.ops c143r2) c143s6)
@[go_sem] theorem c143s7eq : U c143s7 (.seq (.ops c143r2) c143s6) := fun _ _ _ _ _ => rfl
def c143s8 : SCode := (.seq (.ops c143r1) c143s7)
@[go_sem] theorem c143s8eq : U c143s8 (.seq (.ops c143r1) c143s7) := fun _ _ _ _ _ => rfl
def c143 : Gx.Fn := ⟨13, c143k, (.seq (.ops c143r0) c143s8), [(.cell S2 (some 10))]⟩
theorem c143ok : stripFn Tryz.prog c143k Tryz.f143 = some c143 := by kernel_rfl

/- frame.elements[api.Digest] -/
@[go_sem] def c144k : List Nat := [0, 1, 2, 4, 5, 6, 12, 13, 14]
@[go_sem] def c144r0 : List GOp := [oS 2 (.bx 159 S0), mS 3 (.c Z)]
@[go_sem] def c144r1 : List GOp := [mS 4 (.c Z)]
@[go_sem] def c144r2 : List GOp := [fT 0 S2, lT T0, oT (.call 154 [T0]), mS 5 T0]
@[go_sem] def c144r3 : List GOp := [oT (.ld (some 1) S2), oT (.call 155 [T0])]
@[go_sem] def c144r4 : List GOp := [mS 6 S5, mS 7 (C 0)]
@[go_sem] def c144r5 : List GOp := [oS 8 (.v (.bin .lss S7 S6))]
@[go_sem] def c144r6 : List GOp := [mT S4, mT S1, oT (.cv T0 []), oT (.bs 68 1 [Z, Z, (I 0)] [(0, (3, T0))]), oT (.ap 35 35 T3 T0), mS 4 T0]
@[go_sem] def c144r7 : List GOp := [oT (.ld (some 1) S2), oT (.call 155 [T0])]
def c144s8 : SCode := (.ops c144r7)
@[go_sem] theorem c144s8eq : U c144s8 (.ops c144r7) := fun _ _ _ _ _ => rfl
@[go_sem] def c144r9 : List GOp := [oT (.v (.bin .add S7 (C 1))), mS 7 T0]
def c144s10 : SCode := (.ops c144r9)
@[go_sem] theorem c144s10eq : U c144s10 (.ops c144r9) := fun _ _ _ _ _ => rfl
def c144s11 : SCode := (.seq (.block 1 (.seq (.ops c144r6) c144s8)) c144s10)
@[go_sem] theorem c144s11eq : U c144s11 (.seq (.block 1 (.seq (.ops c144r6) c144s8)) c144s10) := fun _ _ _ _ _ => rfl
def c144s12 : SCode := (.seq (.cond S8 .skip (.exit 0)) c144s11)
@[go_sem] theorem c144s12eq : U c144s12 (.seq (.cond S8 .skip (.exit 0)) c144s11) := fun _ _ _ _ _ => rfl
def c144s13 : SCode := (.seq (.ops c144r5) c144s12)
@[go_sem] theorem c144s13eq : U c144s13 (.seq (.ops c144r5) c144s12) := fun _ _ _ _ _ => rfl
def c144s14 : SCode := (.block 0 (.loop c144k c144s13))
@[go_sem] theorem c144s14eq : U c144s14 (.block 0 (.loop c144k c144s13)) := fun _ _ _ _ _ => rfl
@[go_sem] def c144r15 : List GOp := [mT S4, mS 3 T0]
def c144s16 : SCode := (.seq (.ops c144r15) .ret)
@[go_sem] theorem c144s16eq : U c144s16 (.seq (.ops c144r15) .ret) := fun _ _ _ _ _ => rfl
def c144s17 : SCode := (.seq (.seq (.ops c144r4) c144s14) c144s16)
@[go_sem] theorem c144s17eq : U c144s17 (.seq (.seq (.ops c144r4) c144s14) c144s16) := fun _ _ _ _ _ => rfl
def c144s18 : SCode := (.seq (.ops c144r3) c144s17)
@[go_sem] theorem c144s18eq : U c144s18 (.seq (.ops c144r3) c144s17) := fun _ _ _ _ _ => rfl
def c144s19 : SCode := (.seq (.ops c144r2) c144s18)
@[go_sem] theorem c144s19eq : U c144s19 (.seq (.ops c144r2) c144s18) := fun _ _ _ _ _ => rfl
def c144s20 : SCode := (.seq (.ops c144r1) c144s19)
@[go_sem] theorem c144s20eq : U c144s20 (.seq (.ops c144r1) c144s19) := fun _ _ _ _ _ => rfl
def c144 : Gx.Fn := ⟨24, c144k, (.seq (.ops c144r0) c144s20), [(.tmp S3)]⟩
theorem c144ok : stripFn Tryz.prog c144k Tryz.f144 = some c144 := by kernel_rfl

/- (frame.reader).digest -/
@[go_sem] def c145k : List Nat := [0, 1, 2, 3]
@[go_sem] def c145r0 : List GOp := [oS 1 (.bx 159 S0), oS 2 (.al 68 [Z, Z, (I 0)])]
@[go_sem] def c145r1 : List GOp := [oS 3 (.al 68 [Z, Z, (I 0)])]
@[go_sem] def c145r2 : List GOp := [fT 0 S1, lT T0, oT (.call 156 [T0]), fT 0 S3, oN (.st 1 T0 T1)]
@[go_sem] def c145r3 : List GOp := [fT 0 S1, lT T0, oT (.call 156 [T0]), fT 1 S3, oN (.st 1 T0 T1)]
@[go_sem] def c145r4 : List GOp := [oT (.ld (some 1) S1), oT (.call 132 [T0]), fT 2 S3, oN (.st 1 T0 T1)]
@[go_sem] def c145r5 : List GOp := [oT (.ld (some 3) S3), oN (.st 3 S2 T0)]
def c145s6 : SCode := (.seq (.ops c145r5) .ret)
@[go_sem] theorem c145s6eq : U c145s6 (.seq (.ops c145r5) .ret) := fun _ _ _ _ _ => rfl
def c145s7 : SCode := (.seq (.ops c145r4) c145s6)
@[go_sem] theorem c145s7eq : U c145s7 (.seq (.ops c145r4) c145s6) := fun _ _ _ _ _ => rfl
def c145s8 : SCode := (.seq (.ops c145r3) c145s7)
@[go_sem] theorem c145s8eq : U c145s8 (.seq (.ops c145r3) c145s7) := fun _ _ _ _ _ => rfl
def c145s9 : SCode := (.seq (.ops c145r2) c145s8)
@[go_sem] theorem c145s9eq : U c145s9 (.seq (.ops c145r2) c145s8) := fun _ _ _ _ _ => rfl
def c145s10 : SCode := (.seq (.ops c145r1) c145s9)
@[go_sem] theorem c145s10eq : U c145s10 (.seq (.ops c145r1) c145s9) := fun _ _ _ _ _ => rfl
def c145 : Gx.Fn := ⟨16, c145k, (.seq (.ops c145r0) c145s10), [(.cell S2 (some 3))]⟩
theorem c145ok : stripFn Tryz.prog c145k Tryz.f145 = some c145 := by kernel_rfl

/- frame.elements[string] -/
@[go_sem] def c146k : List Nat := [0, 1, 2, 4, 5, 6, 12, 13, 14]
@[go_sem] def c146r0 : List GOp := [oS 2 (.bx 159 S0), mS 3 (.c Z)]
@[go_sem] def c146r1 : List GOp := [mS 4 (.c Z)]
@[go_sem] def c146r2 : List GOp := [fT 0 S2, lT T0, oT (.call 154 [T0]), mS 5 T0]
@[go_sem] def c146r3 : List GOp := [oT (.ld (some 1) S2), oT (.call 155 [T0])]
@[go_sem] def c146r4 : List GOp := [mS 6 S5, mS 7 (C 0)]
@[go_sem] def c146r5 : List GOp := [oS 8 (.v (.bin .lss S7 S6))]
@[go_sem] def c146r6 : List GOp := [mT S4, mT S1, oT (.cv T0 []), oT (.bs 9 1 [(.string ⟨⟨[]⟩⟩)] [(0, (1, T0))]), oT (.ap 36 36 T3 T0), mS 4 T0]
@[go_sem] def c146r7 : List GOp := [oT (.ld (some 1) S2), oT (.call 155 [T0])]
def c146s8 : SCode := (.ops c146r7)
@[go_sem] theorem c146s8eq : U c146s8 (.ops c146r7) := fun _ _ _ _ _ => rfl
@[go_sem] def c146r9 : List GOp := [oT (.v (.bin .add S7 (C 1))), mS 7 T0]
def c146s10 : SCode := (.ops c146r9)
@[go_sem] theorem c146s10eq : U c146s10 (.ops c146r9) := fun _ _ _ _ _ => rfl
def c146s11 : SCode := (.seq (.block 1 (.seq (.ops c146r6) c146s8)) c146s10)
@[go_sem] theorem c146s11eq : U c146s11 (.seq (.block 1 (.seq (.ops c146r6) c146s8)) c146s10) := fun _ _ _ _ _ => rfl
def c146s12 : SCode := (.seq (.cond S8 .skip (.exit 0)) c146s11)
@[go_sem] theorem c146s12eq : U c146s12 (.seq (.cond S8 .skip (.exit 0)) c146s11) := fun _ _ _ _ _ => rfl
def c146s13 : SCode := (.seq (.ops c146r5) c146s12)
@[go_sem] theorem c146s13eq : U c146s13 (.seq (.ops c146r5) c146s12) := fun _ _ _ _ _ => rfl
def c146s14 : SCode := (.block 0 (.loop c146k c146s13))
@[go_sem] theorem c146s14eq : U c146s14 (.block 0 (.loop c146k c146s13)) := fun _ _ _ _ _ => rfl
@[go_sem] def c146r15 : List GOp := [mT S4, mS 3 T0]
def c146s16 : SCode := (.seq (.ops c146r15) .ret)
@[go_sem] theorem c146s16eq : U c146s16 (.seq (.ops c146r15) .ret) := fun _ _ _ _ _ => rfl
def c146s17 : SCode := (.seq (.seq (.ops c146r4) c146s14) c146s16)
@[go_sem] theorem c146s17eq : U c146s17 (.seq (.seq (.ops c146r4) c146s14) c146s16) := fun _ _ _ _ _ => rfl
def c146s18 : SCode := (.seq (.ops c146r3) c146s17)
@[go_sem] theorem c146s18eq : U c146s18 (.seq (.ops c146r3) c146s17) := fun _ _ _ _ _ => rfl
def c146s19 : SCode := (.seq (.ops c146r2) c146s18)
@[go_sem] theorem c146s19eq : U c146s19 (.seq (.ops c146r2) c146s18) := fun _ _ _ _ _ => rfl
def c146s20 : SCode := (.seq (.ops c146r1) c146s19)
@[go_sem] theorem c146s20eq : U c146s20 (.seq (.ops c146r1) c146s19) := fun _ _ _ _ _ => rfl
def c146 : Gx.Fn := ⟨24, c146k, (.seq (.ops c146r0) c146s20), [(.tmp S3)]⟩
theorem c146ok : stripFn Tryz.prog c146k Tryz.f146 = some c146 := by kernel_rfl

/- (*wire.Reader).Text -/
@[go_sem] def c147k : List Nat := [0, 2]
@[go_sem] def c147r0 : List GOp := [mS 1 (.c (.string ⟨⟨[]⟩⟩))]
@[go_sem] def c147r1 : List GOp := [mT S0, oT (.call 156 [T0]), oT (.b2s T0), mS 1 T0]
def c147s2 : SCode := (.seq (.ops c147r1) .ret)
@[go_sem] theorem c147s2eq : U c147s2 (.seq (.ops c147r1) .ret) := fun _ _ _ _ _ => rfl
def c147 : Gx.Fn := ⟨6, c147k, (.seq (.ops c147r0) c147s2), [(.tmp S1)]⟩
theorem c147ok : stripFn Tryz.prog c147k Tryz.f147 = some c147 := by kernel_rfl

/- frame.elements[api.Item] -/
@[go_sem] def c148k : List Nat := [0, 1, 2, 4, 5, 6, 12, 13, 14]
@[go_sem] def c148r0 : List GOp := [oS 2 (.bx 159 S0), mS 3 (.c Z)]
@[go_sem] def c148r1 : List GOp := [mS 4 (.c Z)]
@[go_sem] def c148r2 : List GOp := [fT 0 S2, lT T0, oT (.call 154 [T0]), mS 5 T0]
@[go_sem] def c148r3 : List GOp := [oT (.ld (some 1) S2), oT (.call 155 [T0])]
@[go_sem] def c148r4 : List GOp := [mS 6 S5, mS 7 (C 0)]
@[go_sem] def c148r5 : List GOp := [oS 8 (.v (.bin .lss S7 S6))]
@[go_sem] def c148r6 : List GOp := [mT S4, mT S1, oT (.cv T0 []), oT (.bs 71 1 [(.string ⟨⟨[]⟩⟩), (.bool false), Z, Z] [(0, (4, T0))]), oT (.ap 37 37 T3 T0), mS 4 T0]
@[go_sem] def c148r7 : List GOp := [oT (.ld (some 1) S2), oT (.call 155 [T0])]
def c148s8 : SCode := (.ops c148r7)
@[go_sem] theorem c148s8eq : U c148s8 (.ops c148r7) := fun _ _ _ _ _ => rfl
@[go_sem] def c148r9 : List GOp := [oT (.v (.bin .add S7 (C 1))), mS 7 T0]
def c148s10 : SCode := (.ops c148r9)
@[go_sem] theorem c148s10eq : U c148s10 (.ops c148r9) := fun _ _ _ _ _ => rfl
def c148s11 : SCode := (.seq (.block 1 (.seq (.ops c148r6) c148s8)) c148s10)
@[go_sem] theorem c148s11eq : U c148s11 (.seq (.block 1 (.seq (.ops c148r6) c148s8)) c148s10) := fun _ _ _ _ _ => rfl
def c148s12 : SCode := (.seq (.cond S8 .skip (.exit 0)) c148s11)
@[go_sem] theorem c148s12eq : U c148s12 (.seq (.cond S8 .skip (.exit 0)) c148s11) := fun _ _ _ _ _ => rfl
def c148s13 : SCode := (.seq (.ops c148r5) c148s12)
@[go_sem] theorem c148s13eq : U c148s13 (.seq (.ops c148r5) c148s12) := fun _ _ _ _ _ => rfl
def c148s14 : SCode := (.block 0 (.loop c148k c148s13))
@[go_sem] theorem c148s14eq : U c148s14 (.block 0 (.loop c148k c148s13)) := fun _ _ _ _ _ => rfl
@[go_sem] def c148r15 : List GOp := [mT S4, mS 3 T0]
def c148s16 : SCode := (.seq (.ops c148r15) .ret)
@[go_sem] theorem c148s16eq : U c148s16 (.seq (.ops c148r15) .ret) := fun _ _ _ _ _ => rfl
def c148s17 : SCode := (.seq (.seq (.ops c148r4) c148s14) c148s16)
@[go_sem] theorem c148s17eq : U c148s17 (.seq (.seq (.ops c148r4) c148s14) c148s16) := fun _ _ _ _ _ => rfl
def c148s18 : SCode := (.seq (.ops c148r3) c148s17)
@[go_sem] theorem c148s18eq : U c148s18 (.seq (.ops c148r3) c148s17) := fun _ _ _ _ _ => rfl
def c148s19 : SCode := (.seq (.ops c148r2) c148s18)
@[go_sem] theorem c148s19eq : U c148s19 (.seq (.ops c148r2) c148s18) := fun _ _ _ _ _ => rfl
def c148s20 : SCode := (.seq (.ops c148r1) c148s19)
@[go_sem] theorem c148s20eq : U c148s20 (.seq (.ops c148r1) c148s19) := fun _ _ _ _ _ => rfl
def c148 : Gx.Fn := ⟨24, c148k, (.seq (.ops c148r0) c148s20), [(.tmp S3)]⟩
theorem c148ok : stripFn Tryz.prog c148k Tryz.f148 = some c148 := by kernel_rfl

/- (frame.reader).item -/
@[go_sem] def c149k : List Nat := [0, 1, 2, 3]
@[go_sem] def c149r0 : List GOp := [oS 1 (.bx 159 S0), oS 2 (.al 71 [(.string ⟨⟨[]⟩⟩), (.bool false), Z, Z])]
@[go_sem] def c149r1 : List GOp := [oS 3 (.al 71 [(.string ⟨⟨[]⟩⟩), (.bool false), Z, Z])]
@[go_sem] def c149r2 : List GOp := [fT 0 S1, lT T0, oT (.call 147 [T0]), fT 0 S3, oN (.st 1 T0 T1)]
@[go_sem] def c149r3 : List GOp := [fT 0 S1, lT T0, oT (.call 161 [T0]), fT 1 S3, oN (.st 1 T0 T1)]
@[go_sem] def c149r4 : List GOp := [fT 0 S1, lT T0, oT (.call 156 [T0]), fT 2 S3, oN (.st 1 T0 T1)]
@[go_sem] def c149r5 : List GOp := [oT (.ld (some 1) S1), fT 0 S1, lT T0, oT (.v (.mkf 156 [T0] [])), oT (.call 162 [T3, T0]), fT 3 S3, oN (.st 1 T0 T1)]
@[go_sem] def c149r6 : List GOp := [oT (.ld (some 4) S3), oN (.st 4 S2 T0)]
def c149s7 : SCode := (.seq (.ops c149r6) .ret)
@[go_sem] theorem c149s7eq : U c149s7 (.seq (.ops c149r6) .ret) := fun _ _ _ _ _ => rfl
def c149s8 : SCode := (.seq (.ops c149r5) c149s7)
@[go_sem] theorem c149s8eq : U c149s8 (.seq (.ops c149r5) c149s7) := fun _ _ _ _ _ => rfl
def c149s9 : SCode := (.seq (.ops c149r4) c149s8)
@[go_sem] theorem c149s9eq : U c149s9 (.seq (.ops c149r4) c149s8) := fun _ _ _ _ _ => rfl
def c149s10 : SCode := (.seq (.ops c149r3) c149s9)
@[go_sem] theorem c149s10eq : U c149s10 (.seq (.ops c149r3) c149s9) := fun _ _ _ _ _ => rfl
def c149s11 : SCode := (.seq (.ops c149r2) c149s10)
@[go_sem] theorem c149s11eq : U c149s11 (.seq (.ops c149r2) c149s10) := fun _ _ _ _ _ => rfl
def c149s12 : SCode := (.seq (.ops c149r1) c149s11)
@[go_sem] theorem c149s12eq : U c149s12 (.seq (.ops c149r1) c149s11) := fun _ _ _ _ _ => rfl
def c149 : Gx.Fn := ⟨23, c149k, (.seq (.ops c149r0) c149s12), [(.cell S2 (some 4))]⟩
theorem c149ok : stripFn Tryz.prog c149k Tryz.f149 = some c149 := by kernel_rfl

/- (*wire.Reader).Left -/
@[go_sem] def c150k : List Nat := [0, 2]
@[go_sem] def c150r0 : List GOp := [mS 1 (C 0)]
@[go_sem] def c150r1 : List GOp := [mT S0, oT (.v (.nc T0)), fT 0 T0, lT T0, nT T0, mT S0, oT (.v (.nc T0)), fT 1 T0, lT T0, oT (.v (.bin .sub T4 T0)), mS 1 T0]
def c150s2 : SCode := (.seq (.dq c150r1) .ret)
@[go_sem] theorem c150s2eq : U c150s2 (.seq (.dq c150r1) .ret) := fun _ _ _ _ _ => rfl
def c150 : Gx.Fn := ⟨13, c150k, (.seq (.ops c150r0) c150s2), [(.tmp S1)]⟩
theorem c150ok : stripFn Tryz.prog c150k Tryz.f150 = some c150 := by kernel_rfl

/- (*wire.Reader).begin -/
@[go_sem] def c151k : List Nat := [0, 2, 7]
@[go_sem] def c151r0 : List GOp := [mS 1 (.c (.bool false))]
@[go_sem] def c151r1 : List GOp := [mT S0, oT (.v (.nc T0)), fT 3 T0, lT T0, oS 2 (.v (.bin .neq T0 (C 0)))]
@[go_sem] def c151r2 : List GOp := [mS 1 (.c (.bool false))]
def c151s3 : SCode := (.seq (.ops c151r2) .ret)
@[go_sem] theorem c151s3eq : U c151s3 (.seq (.ops c151r2) .ret) := fun _ _ _ _ _ => rfl
@[go_sem] def c151r4 : List GOp := [mT S0, mT S0, oT (.v (.nc T0)), fT 1 T0, lT T0, oT (.v (.nc T4)), fT 2 T0, oN (.st 1 T0 T2)]
@[go_sem] def c151r5 : List GOp := [mS 1 (.c (.bool true))]
def c151s6 : SCode := (.seq (.ops c151r5) .ret)
@[go_sem] theorem c151s6eq : U c151s6 (.seq (.ops c151r5) .ret) := fun _ _ _ _ _ => rfl
def c151s7 : SCode := (.seq (.ops c151r4) c151s6)
@[go_sem] theorem c151s7eq : U c151s7 (.seq (.ops c151r4) c151s6) := fun _ _ _ _ _ => rfl
def c151s8 : SCode := (.seq (.seq (.ops c151r1) (.cond S2 c151s3 .skip)) c151s7)
@[go_sem] theorem c151s8eq : U c151s8 (.seq (.seq (.ops c151r1) (.cond S2 c151s3 .skip)) c151s7) := fun _ _ _ _ _ => rfl
def c151 : Gx.Fn := ⟨15, c151k, (.seq (.ops c151r0) c151s8), [(.tmp S1)]⟩
theorem c151ok : stripFn Tryz.prog c151k Tryz.f151 = some c151 := by kernel_rfl

/- (*wire.Reader).number -/
@[go_sem] def c152k : List Nat := [0, 2, 3, 4, 5, 6, 7, 8, 21, 39, 49]
@[go_sem] def c152r0 : List GOp := [mS 1 (.c (.int .u64 0)), mS 2 (C 0), mS 3 (.c (.bool false))]
@[go_sem] def c152r1 : List GOp := [mS 6 (C 0)]
@[go_sem] def c152r2 : List GOp := [oS 7 (.v (.bin .lss S6 (C 10)))]
@[go_sem] def c152r3 : List GOp := [mT S6, mS 4 T0]
@[go_sem] def c152r4 : List GOp := [mT S0, oT (.v (.nc T0)), fT 1 T0, lT T0, mT S4, oT (.v (.bin .add T1 T0)), mT S0, oT (.v (.nc T0)), fT 0 T0, lT T0, nT T0, oS 8 (.v (.bin .geq T5 T0))]
@[go_sem] def c152r5 : List GOp := [mS 1 (.c (.int .u64 0)), mS 2 (C 0), mS 3 (.c (.bool false))]
def c152s6 : SCode := (.seq (.ops c152r5) .ret)
@[go_sem] theorem c152s6eq : U c152s6 (.seq (.ops c152r5) .ret) := fun _ _ _ _ _ => rfl
@[go_sem] def c152r7 : List GOp := [mT S0, oT (.v (.nc T0)), fT 0 T0, lT T0, mT S0, oT (.v (.nc T0)), fT 1 T0, lT T0, mT S4, oT (.v (.bin .add T1 T0)), oT (.v (.ix 1 T6 T0)), lT T0, mS 5 T0]
@[go_sem] def c152r8 : List GOp := [mT S4, oT (.v (.bin .eql T0 (C 9))), mT T0, (.sel T0 true [(.op (.v (.mv S5))), (.op (.v (.bin .gtr T0 (.c (.int .u8 1)))))] (.s 9) T0 (.c (.bool false)))]
@[go_sem] def c152r9 : List GOp := [mS 1 (.c (.int .u64 0)), mS 2 (C 0), mS 3 (.c (.bool false))]
def c152s10 : SCode := (.seq (.ops c152r9) .ret)
@[go_sem] theorem c152s10eq : U c152s10 (.seq (.ops c152r9) .ret) := fun _ _ _ _ _ => rfl
def c152s11 : SCode := (.cond S9 c152s10 .skip)
@[go_sem] theorem c152s11eq : U c152s11 (.cond S9 c152s10 .skip) := fun _ _ _ _ _ => rfl
@[go_sem] def c152r12 : List GOp := [mT S1, mT S5, oT (.v (.bin .and T0 (.c (.int .u8 127)))), oT (.v (.cvi .u64 T0)), mT S4, oT (.v (.bin .mul (C 7) T0)), oT (.v (.bin .shl T2 T0)), oT (.v (.bin .or T6 T0)), mS 1 T0]
@[go_sem] def c152r13 : List GOp := [mT S5, oS 10 (.v (.bin .lss T0 (.c (.int .u8 128))))]
@[go_sem] def c152r14 : List GOp := [mT S1, mT S0, oT (.v (.nc T0)), fT 1 T0, lT T0, mT S4, oT (.v (.bin .add T1 T0)), oT (.v (.bin .add T0 (C 1))), mT S5, oT (.v (.bin .neq T0 (.c (.int .u8 0)))), mT T0, (.sel T0 false [(.op (.v (.mv S4))), (.op (.v (.bin .eql T0 (C 0))))] .t (.c (.bool true)) T0), mS 1 T11, mS 2 T4, mS 3 T0]
def c152s15 : SCode := (.seq (.dq c152r14) .ret)
@[go_sem] theorem c152s15eq : U c152s15 (.seq (.dq c152r14) .ret) := fun _ _ _ _ _ => rfl
def c152s16 : SCode := (.cond S10 c152s15 .skip)
@[go_sem] theorem c152s16eq : U c152s16 (.cond S10 c152s15 .skip) := fun _ _ _ _ _ => rfl
def c152s17 : SCode := (.seq (.ops c152r13) c152s16)
@[go_sem] theorem c152s17eq : U c152s17 (.seq (.ops c152r13) c152s16) := fun _ _ _ _ _ => rfl
def c152s18 : SCode := (.seq (.ops c152r12) c152s17)
@[go_sem] theorem c152s18eq : U c152s18 (.seq (.ops c152r12) c152s17) := fun _ _ _ _ _ => rfl
def c152s19 : SCode := (.seq (.seq (.ops c152r8) c152s11) c152s18)
@[go_sem] theorem c152s19eq : U c152s19 (.seq (.seq (.ops c152r8) c152s11) c152s18) := fun _ _ _ _ _ => rfl
def c152s20 : SCode := (.seq (.dq c152r7) c152s19)
@[go_sem] theorem c152s20eq : U c152s20 (.seq (.dq c152r7) c152s19) := fun _ _ _ _ _ => rfl
def c152s21 : SCode := (.seq (.seq (.dq c152r4) (.cond S8 c152s6 .skip)) c152s20)
@[go_sem] theorem c152s21eq : U c152s21 (.seq (.seq (.dq c152r4) (.cond S8 c152s6 .skip)) c152s20) := fun _ _ _ _ _ => rfl
@[go_sem] def c152r22 : List GOp := [oT (.v (.bin .add S6 (C 1))), mS 6 T0]
def c152s23 : SCode := (.ops c152r22)
@[go_sem] theorem c152s23eq : U c152s23 (.ops c152r22) := fun _ _ _ _ _ => rfl
def c152s24 : SCode := (.seq (.block 1 (.seq (.ops c152r3) c152s21)) c152s23)
@[go_sem] theorem c152s24eq : U c152s24 (.seq (.block 1 (.seq (.ops c152r3) c152s21)) c152s23) := fun _ _ _ _ _ => rfl
def c152s25 : SCode := (.seq (.cond S7 .skip (.exit 0)) c152s24)
@[go_sem] theorem c152s25eq : U c152s25 (.seq (.cond S7 .skip (.exit 0)) c152s24) := fun _ _ _ _ _ => rfl
def c152s26 : SCode := (.seq (.ops c152r2) c152s25)
@[go_sem] theorem c152s26eq : U c152s26 (.seq (.ops c152r2) c152s25) := fun _ _ _ _ _ => rfl
def c152s27 : SCode := (.block 0 (.loop c152k c152s26))
@[go_sem] theorem c152s27eq : U c152s27 (.block 0 (.loop c152k c152s26)) := fun _ _ _ _ _ => rfl
@[go_sem] def c152r28 : List GOp := [mS 1 (.c (.int .u64 0)), mS 2 (C 0), mS 3 (.c (.bool false))]
def c152s29 : SCode := (.seq (.ops c152r28) .ret)
@[go_sem] theorem c152s29eq : U c152s29 (.seq (.ops c152r28) .ret) := fun _ _ _ _ _ => rfl
def c152s30 : SCode := (.seq (.seq (.ops c152r1) c152s27) c152s29)
@[go_sem] theorem c152s30eq : U c152s30 (.seq (.seq (.ops c152r1) c152s27) c152s29) := fun _ _ _ _ _ => rfl
def c152 : Gx.Fn := ⟨65, c152k, (.seq (.ops c152r0) c152s30), [(.tmp S1), (.tmp S2), (.tmp S3)]⟩
theorem c152ok : stripFn Tryz.prog c152k Tryz.f152 = some c152 := by kernel_rfl

/- (*wire.Reader).Int -/
@[go_sem] def c153k : List Nat := [0, 2, 3]
@[go_sem] def c153r0 : List GOp := [mS 1 (C 0)]
@[go_sem] def c153r1 : List GOp := [mT S0, oT (.call 131 [T0]), mS 2 T0]
@[go_sem] def c153r2 : List GOp := [mT S2, oT (.v (.bin .shr T0 (.c (.int .u64 1)))), oT (.v (.cvi .i64 T0)), mT S2, oT (.v (.bin .and T0 (.c (.int .u64 1)))), oT (.v (.cvi .i64 T0)), oT (.v (.un .neg T0)), oT (.v (.bin .xor T4 T0)), mS 1 T0]
def c153s3 : SCode := (.seq (.ops c153r2) .ret)
@[go_sem] theorem c153s3eq : U c153s3 (.seq (.ops c153r2) .ret) := fun _ _ _ _ _ => rfl
def c153s4 : SCode := (.seq (.ops c153r1) c153s3)
@[go_sem] theorem c153s4eq : U c153s4 (.seq (.ops c153r1) c153s3) := fun _ _ _ _ _ => rfl
def c153 : Gx.Fn := ⟨14, c153k, (.seq (.ops c153r0) c153s4), [(.tmp S1)]⟩
theorem c153ok : stripFn Tryz.prog c153k Tryz.f153 = some c153 := by kernel_rfl

/- (*wire.Reader).Count -/
@[go_sem] def c154k : List Nat := [0, 2, 3, 4, 5, 8, 28]
@[go_sem] def c154r0 : List GOp := [mS 1 (C 0)]
@[go_sem] def c154r1 : List GOp := [mT S0, oT (.call 151 [T0]), oS 5 (.v (.un .not T0))]
@[go_sem] def c154r2 : List GOp := [mS 1 (C 0)]
def c154s3 : SCode := (.seq (.ops c154r2) .ret)
@[go_sem] theorem c154s3eq : U c154s3 (.seq (.ops c154r2) .ret) := fun _ _ _ _ _ => rfl
@[go_sem] def c154r4 : List GOp := [mT S0, oT (.call 152 [T0]), mT T0, oT (.v (.ext T0 0)), oT (.v (.ext T1 1)), oT (.v (.ext T2 2)), mS 2 T2, mS 3 T1, mS 4 T0]
@[go_sem] def c154r5 : List GOp := [mT S4, oT (.v (.un .not T0)), mT T0, (.sel T0 false [(.op (.v (.mv S2))), (.op (.v (.mv S0))), (.op (.v (.nc T0))), (.op (.v (.fa 0 T0))), (.op (.ld none T0)), (.op (.v (.len T0))), (.op (.v (.mv S3))), (.op (.v (.bin .sub T1 T0))), (.op (.v (.cvi .u64 T0))), (.op (.v (.bin .gtr T8 T0)))] (.s 6) (.c (.bool true)) T0)]
@[go_sem] def c154r6 : List GOp := [mT S0, oT (.v (.nc T0)), fT 3 T0, oN (.st 1 T0 (C 2))]
@[go_sem] def c154r7 : List GOp := [mS 1 (C 0)]
def c154s8 : SCode := (.seq (.ops c154r7) .ret)
@[go_sem] theorem c154s8eq : U c154s8 (.seq (.ops c154r7) .ret) := fun _ _ _ _ _ => rfl
def c154s9 : SCode := (.seq (.ops c154r6) c154s8)
@[go_sem] theorem c154s9eq : U c154s9 (.seq (.ops c154r6) c154s8) := fun _ _ _ _ _ => rfl
@[go_sem] def c154r10 : List GOp := [mT S0, mT S3, oT (.v (.nc T1)), fT 1 T0, oN (.st 1 T0 T2)]
@[go_sem] def c154r11 : List GOp := [mT S2, oT (.v (.cvi .i64 T0)), mS 1 T0]
def c154s12 : SCode := (.seq (.ops c154r11) .ret)
@[go_sem] theorem c154s12eq : U c154s12 (.seq (.ops c154r11) .ret) := fun _ _ _ _ _ => rfl
def c154s13 : SCode := (.seq (.ops c154r10) c154s12)
@[go_sem] theorem c154s13eq : U c154s13 (.seq (.ops c154r10) c154s12) := fun _ _ _ _ _ => rfl
def c154s14 : SCode := (.seq (.seq (.ops c154r5) (.cond S6 c154s9 .skip)) c154s13)
@[go_sem] theorem c154s14eq : U c154s14 (.seq (.seq (.ops c154r5) (.cond S6 c154s9 .skip)) c154s13) := fun _ _ _ _ _ => rfl
def c154s15 : SCode := (.seq (.ops c154r4) c154s14)
@[go_sem] theorem c154s15eq : U c154s15 (.seq (.ops c154r4) c154s14) := fun _ _ _ _ _ => rfl
def c154s16 : SCode := (.seq (.seq (.ops c154r1) (.cond S5 c154s3 .skip)) c154s15)
@[go_sem] theorem c154s16eq : U c154s16 (.seq (.seq (.ops c154r1) (.cond S5 c154s3 .skip)) c154s15) := fun _ _ _ _ _ => rfl
def c154 : Gx.Fn := ⟨38, c154k, (.seq (.ops c154r0) c154s16), [(.tmp S1)]⟩
theorem c154ok : stripFn Tryz.prog c154k Tryz.f154 = some c154 := by kernel_rfl

/- (frame.reader).check -/
@[go_sem] def c155k : List Nat := [0, 1, 5]
@[go_sem] def c155r0 : List GOp := [oS 1 (.bx 159 S0)]
@[go_sem] def c155r1 : List GOp := [fT 0 S1, lT T0, oT (.call 163 [T0]), oS 2 (.v (.bin .neq T0 (C 0)))]
@[go_sem] def c155r2 : List GOp := [oT (.v (.bld [] [])), oT (.v (.mki 154 T0)), oN (.pnc T0)]
def c155s3 : SCode := (.cond S2 (.ops c155r2) .skip)
@[go_sem] theorem c155s3eq : U c155s3 (.cond S2 (.ops c155r2) .skip) := fun _ _ _ _ _ => rfl
def c155s4 : SCode := (.seq (.ops c155r1) c155s3)
@[go_sem] theorem c155s4eq : U c155s4 (.seq (.ops c155r1) c155s3) := fun _ _ _ _ _ => rfl
def c155 : Gx.Fn := ⟨8, c155k, (.seq (.ops c155r0) c155s4), []⟩
theorem c155ok : stripFn Tryz.prog c155k Tryz.f155 = some c155 := by kernel_rfl

/- (*wire.Reader).Bytes -/
@[go_sem] def c156k : List Nat := [0, 2, 3, 4, 5, 8, 28]
@[go_sem] def c156r0 : List GOp := [mS 1 (.c Z)]
@[go_sem] def c156r1 : List GOp := [mT S0, oT (.call 151 [T0]), oS 5 (.v (.un .not T0))]
@[go_sem] def c156r2 : List GOp := [mS 1 (.c Z)]
def c156s3 : SCode := (.seq (.ops c156r2) .ret)
@[go_sem] theorem c156s3eq : U c156s3 (.seq (.ops c156r2) .ret) := fun _ _ _ _ _ => rfl
@[go_sem] def c156r4 : List GOp := [mT S0, oT (.call 152 [T0]), mT T0, oT (.v (.ext T0 0)), oT (.v (.ext T1 1)), oT (.v (.ext T2 2)), mS 2 T2, mS 3 T1, mS 4 T0]
@[go_sem] def c156r5 : List GOp := [mT S4, oT (.v (.un .not T0)), mT T0, (.sel T0 false [(.op (.v (.mv S2))), (.op (.v (.mv S0))), (.op (.v (.nc T0))), (.op (.v (.fa 0 T0))), (.op (.ld none T0)), (.op (.v (.len T0))), (.op (.v (.mv S3))), (.op (.v (.bin .sub T1 T0))), (.op (.v (.cvi .u64 T0))), (.op (.v (.bin .gtr T8 T0)))] (.s 6) (.c (.bool true)) T0)]
@[go_sem] def c156r6 : List GOp := [mT S0, oT (.v (.nc T0)), fT 3 T0, oN (.st 1 T0 (C 2))]
@[go_sem] def c156r7 : List GOp := [mS 1 (.c Z)]
def c156s8 : SCode := (.seq (.ops c156r7) .ret)
@[go_sem] theorem c156s8eq : U c156s8 (.seq (.ops c156r7) .ret) := fun _ _ _ _ _ => rfl
def c156s9 : SCode := (.seq (.ops c156r6) c156s8)
@[go_sem] theorem c156s9eq : U c156s9 (.seq (.ops c156r6) c156s8) := fun _ _ _ _ _ => rfl
@[go_sem] def c156r10 : List GOp := [mT S0, mT S3, mT S2, oT (.v (.cvi .i64 T0)), oT (.v (.bin .add T2 T0)), oT (.v (.nc T4)), fT 1 T0, oN (.st 1 T0 T2)]
@[go_sem] def c156d11 : DT := (rm S0 [11] (.rd none .t (.v (.nc T0)) [11] (rf 0 T0 [11] (rl T0 [11] (rm S3 [11] (rm S0 [11] (.rd none .t (.v (.nc T0)) [11] (rf 1 T0 [11] (rl T0 [11] (.rd none .t (.v (.sl 1 T5 (some T4) (some T0))) [11] (.ef 0 none .t (.bs 5 0 [] []) (.ef 11 none .t (.ap 22 22 T0 T1) (.rd none (.s 1) (.v (.mv T0)) [] .done)))))))))))))
def c156s12 : SCode := (.seq (.de c156d11) .ret)
@[go_sem] theorem c156s12eq : U c156s12 (.seq (.de c156d11) .ret) := fun _ _ _ _ _ => rfl
def c156s13 : SCode := (.seq (.ops c156r10) c156s12)
@[go_sem] theorem c156s13eq : U c156s13 (.seq (.ops c156r10) c156s12) := fun _ _ _ _ _ => rfl
def c156s14 : SCode := (.seq (.seq (.ops c156r5) (.cond S6 c156s9 .skip)) c156s13)
@[go_sem] theorem c156s14eq : U c156s14 (.seq (.seq (.ops c156r5) (.cond S6 c156s9 .skip)) c156s13) := fun _ _ _ _ _ => rfl
def c156s15 : SCode := (.seq (.ops c156r4) c156s14)
@[go_sem] theorem c156s15eq : U c156s15 (.seq (.ops c156r4) c156s14) := fun _ _ _ _ _ => rfl
def c156s16 : SCode := (.seq (.seq (.ops c156r1) (.cond S5 c156s3 .skip)) c156s15)
@[go_sem] theorem c156s16eq : U c156s16 (.seq (.seq (.ops c156r1) (.cond S5 c156s3 .skip)) c156s15) := fun _ _ _ _ _ => rfl
def c156 : Gx.Fn := ⟨51, c156k, (.seq (.ops c156r0) c156s16), [(.tmp S1)]⟩
theorem c156ok : stripFn Tryz.prog c156k Tryz.f156 = some c156 := by kernel_rfl

/- frame.elements[api.Certificate] -/
@[go_sem] def c157k : List Nat := [0, 1, 2, 4, 5, 6, 12, 13, 14]
@[go_sem] def c157r0 : List GOp := [oS 2 (.bx 159 S0), mS 3 (.c Z)]
@[go_sem] def c157r1 : List GOp := [mS 4 (.c Z)]
@[go_sem] def c157r2 : List GOp := [fT 0 S2, lT T0, oT (.call 154 [T0]), mS 5 T0]
@[go_sem] def c157r3 : List GOp := [oT (.ld (some 1) S2), oT (.call 155 [T0])]
@[go_sem] def c157r4 : List GOp := [mS 6 S5, mS 7 (C 0)]
@[go_sem] def c157r5 : List GOp := [oS 8 (.v (.bin .lss S7 S6))]
@[go_sem] def c157r6 : List GOp := [mT S4, mT S1, oT (.cv T0 []), oT (.bs 64 1 [(I 0), (I 0), (I 0), Z, Z, Z, (I 0), Z, Z] [(0, (9, T0))]), oT (.ap 58 58 T3 T0), mS 4 T0]
@[go_sem] def c157r7 : List GOp := [oT (.ld (some 1) S2), oT (.call 155 [T0])]
def c157s8 : SCode := (.ops c157r7)
@[go_sem] theorem c157s8eq : U c157s8 (.ops c157r7) := fun _ _ _ _ _ => rfl
@[go_sem] def c157r9 : List GOp := [oT (.v (.bin .add S7 (C 1))), mS 7 T0]
def c157s10 : SCode := (.ops c157r9)
@[go_sem] theorem c157s10eq : U c157s10 (.ops c157r9) := fun _ _ _ _ _ => rfl
def c157s11 : SCode := (.seq (.block 1 (.seq (.ops c157r6) c157s8)) c157s10)
@[go_sem] theorem c157s11eq : U c157s11 (.seq (.block 1 (.seq (.ops c157r6) c157s8)) c157s10) := fun _ _ _ _ _ => rfl
def c157s12 : SCode := (.seq (.cond S8 .skip (.exit 0)) c157s11)
@[go_sem] theorem c157s12eq : U c157s12 (.seq (.cond S8 .skip (.exit 0)) c157s11) := fun _ _ _ _ _ => rfl
def c157s13 : SCode := (.seq (.ops c157r5) c157s12)
@[go_sem] theorem c157s13eq : U c157s13 (.seq (.ops c157r5) c157s12) := fun _ _ _ _ _ => rfl
def c157s14 : SCode := (.block 0 (.loop c157k c157s13))
@[go_sem] theorem c157s14eq : U c157s14 (.block 0 (.loop c157k c157s13)) := fun _ _ _ _ _ => rfl
@[go_sem] def c157r15 : List GOp := [mT S4, mS 3 T0]
def c157s16 : SCode := (.seq (.ops c157r15) .ret)
@[go_sem] theorem c157s16eq : U c157s16 (.seq (.ops c157r15) .ret) := fun _ _ _ _ _ => rfl
def c157s17 : SCode := (.seq (.seq (.ops c157r4) c157s14) c157s16)
@[go_sem] theorem c157s17eq : U c157s17 (.seq (.seq (.ops c157r4) c157s14) c157s16) := fun _ _ _ _ _ => rfl
def c157s18 : SCode := (.seq (.ops c157r3) c157s17)
@[go_sem] theorem c157s18eq : U c157s18 (.seq (.ops c157r3) c157s17) := fun _ _ _ _ _ => rfl
def c157s19 : SCode := (.seq (.ops c157r2) c157s18)
@[go_sem] theorem c157s19eq : U c157s19 (.seq (.ops c157r2) c157s18) := fun _ _ _ _ _ => rfl
def c157s20 : SCode := (.seq (.ops c157r1) c157s19)
@[go_sem] theorem c157s20eq : U c157s20 (.seq (.ops c157r1) c157s19) := fun _ _ _ _ _ => rfl
def c157 : Gx.Fn := ⟨24, c157k, (.seq (.ops c157r0) c157s20), [(.tmp S3)]⟩
theorem c157ok : stripFn Tryz.prog c157k Tryz.f157 = some c157 := by kernel_rfl

/- (frame.reader).certificate -/
@[go_sem] def c158k : List Nat := [0, 1, 2, 3]
@[go_sem] def c158r0 : List GOp := [oS 1 (.bx 159 S0), oS 2 (.al 64 [(I 0), (I 0), (I 0), Z, Z, Z, (I 0), Z, Z])]
@[go_sem] def c158r1 : List GOp := [oS 3 (.al 64 [(I 0), (I 0), (I 0), Z, Z, Z, (I 0), Z, Z])]
@[go_sem] def c158r2 : List GOp := [oT (.ld (some 1) S1), oT (.call 133 [T0]), fT 0 S3, fT 0 T0, oN (.st 3 T0 T2)]
@[go_sem] def c158r3 : List GOp := [oT (.ld (some 1) S1), oT (.ld (some 1) S1), oT (.v (.mkf 135 [T0] [])), oT (.call 134 [T2, T0]), fT 0 S3, fT 3 T0, oN (.st 1 T0 T2)]
@[go_sem] def c158r4 : List GOp := [oT (.ld (some 1) S1), oT (.ld (some 1) S1), oT (.v (.mkf 139 [T0] [])), oT (.call 138 [T2, T0]), fT 0 S3, fT 4 T0, oN (.st 1 T0 T2)]
@[go_sem] def c158r5 : List GOp := [oT (.ld (some 1) S1), oT (.ld (some 1) S1), oT (.v (.mkf 139 [T0] [])), oT (.call 138 [T2, T0]), fT 0 S3, fT 5 T0, oN (.st 1 T0 T2)]
@[go_sem] def c158r6 : List GOp := [oT (.ld (some 1) S1), oT (.call 132 [T0]), fT 0 S3, fT 6 T0, oN (.st 1 T0 T2)]
@[go_sem] def c158r7 : List GOp := [fT 0 S1, lT T0, oT (.call 156 [T0]), fT 0 S3, fT 7 T0, oN (.st 1 T0 T2)]
@[go_sem] def c158r8 : List GOp := [oT (.ld (some 1) S1), oT (.ld (some 1) S1), oT (.v (.mkf 141 [T0] [])), oT (.call 140 [T2, T0]), fT 8 S3, oN (.st 1 T0 T1)]
@[go_sem] def c158r9 : List GOp := [oT (.ld (some 9) S3), oN (.st 9 S2 T0)]
def c158s10 : SCode := (.seq (.ops c158r9) .ret)
@[go_sem] theorem c158s10eq : U c158s10 (.seq (.ops c158r9) .ret) := fun _ _ _ _ _ => rfl
def c158s11 : SCode := (.seq (.ops c158r8) c158s10)
@[go_sem] theorem c158s11eq : U c158s11 (.seq (.ops c158r8) c158s10) := fun _ _ _ _ _ => rfl
def c158s12 : SCode := (.seq (.ops c158r7) c158s11)
@[go_sem] theorem c158s12eq : U c158s12 (.seq (.ops c158r7) c158s11) := fun _ _ _ _ _ => rfl
def c158s13 : SCode := (.seq (.ops c158r6) c158s12)
@[go_sem] theorem c158s13eq : U c158s13 (.seq (.ops c158r6) c158s12) := fun _ _ _ _ _ => rfl
def c158s14 : SCode := (.seq (.ops c158r5) c158s13)
@[go_sem] theorem c158s14eq : U c158s14 (.seq (.ops c158r5) c158s13) := fun _ _ _ _ _ => rfl
def c158s15 : SCode := (.seq (.ops c158r4) c158s14)
@[go_sem] theorem c158s15eq : U c158s15 (.seq (.ops c158r4) c158s14) := fun _ _ _ _ _ => rfl
def c158s16 : SCode := (.seq (.ops c158r3) c158s15)
@[go_sem] theorem c158s16eq : U c158s16 (.seq (.ops c158r3) c158s15) := fun _ _ _ _ _ => rfl
def c158s17 : SCode := (.seq (.ops c158r2) c158s16)
@[go_sem] theorem c158s17eq : U c158s17 (.seq (.ops c158r2) c158s16) := fun _ _ _ _ _ => rfl
def c158s18 : SCode := (.seq (.ops c158r1) c158s17)
@[go_sem] theorem c158s18eq : U c158s18 (.seq (.ops c158r1) c158s17) := fun _ _ _ _ _ => rfl
def c158 : Gx.Fn := ⟨41, c158k, (.seq (.ops c158r0) c158s18), [(.cell S2 (some 9))]⟩
theorem c158ok : stripFn Tryz.prog c158k Tryz.f158 = some c158 := by kernel_rfl

/- frame.elements[api.Write] -/
@[go_sem] def c159k : List Nat := [0, 1, 2, 4, 5, 6, 12, 13, 14]
@[go_sem] def c159r0 : List GOp := [oS 2 (.bx 159 S0), mS 3 (.c Z)]
@[go_sem] def c159r1 : List GOp := [mS 4 (.c Z)]
@[go_sem] def c159r2 : List GOp := [fT 0 S2, lT T0, oT (.call 154 [T0]), mS 5 T0]
@[go_sem] def c159r3 : List GOp := [oT (.ld (some 1) S2), oT (.call 155 [T0])]
@[go_sem] def c159r4 : List GOp := [mS 6 S5, mS 7 (C 0)]
@[go_sem] def c159r5 : List GOp := [oS 8 (.v (.bin .lss S7 S6))]
@[go_sem] def c159r6 : List GOp := [mT S4, mT S1, oT (.cv T0 []), oT (.bs 113 1 [(.string ⟨⟨[]⟩⟩), Z] [(0, (2, T0))]), oT (.ap 97 97 T3 T0), mS 4 T0]
@[go_sem] def c159r7 : List GOp := [oT (.ld (some 1) S2), oT (.call 155 [T0])]
def c159s8 : SCode := (.ops c159r7)
@[go_sem] theorem c159s8eq : U c159s8 (.ops c159r7) := fun _ _ _ _ _ => rfl
@[go_sem] def c159r9 : List GOp := [oT (.v (.bin .add S7 (C 1))), mS 7 T0]
def c159s10 : SCode := (.ops c159r9)
@[go_sem] theorem c159s10eq : U c159s10 (.ops c159r9) := fun _ _ _ _ _ => rfl
def c159s11 : SCode := (.seq (.block 1 (.seq (.ops c159r6) c159s8)) c159s10)
@[go_sem] theorem c159s11eq : U c159s11 (.seq (.block 1 (.seq (.ops c159r6) c159s8)) c159s10) := fun _ _ _ _ _ => rfl
def c159s12 : SCode := (.seq (.cond S8 .skip (.exit 0)) c159s11)
@[go_sem] theorem c159s12eq : U c159s12 (.seq (.cond S8 .skip (.exit 0)) c159s11) := fun _ _ _ _ _ => rfl
def c159s13 : SCode := (.seq (.ops c159r5) c159s12)
@[go_sem] theorem c159s13eq : U c159s13 (.seq (.ops c159r5) c159s12) := fun _ _ _ _ _ => rfl
def c159s14 : SCode := (.block 0 (.loop c159k c159s13))
@[go_sem] theorem c159s14eq : U c159s14 (.block 0 (.loop c159k c159s13)) := fun _ _ _ _ _ => rfl
@[go_sem] def c159r15 : List GOp := [mT S4, mS 3 T0]
def c159s16 : SCode := (.seq (.ops c159r15) .ret)
@[go_sem] theorem c159s16eq : U c159s16 (.seq (.ops c159r15) .ret) := fun _ _ _ _ _ => rfl
def c159s17 : SCode := (.seq (.seq (.ops c159r4) c159s14) c159s16)
@[go_sem] theorem c159s17eq : U c159s17 (.seq (.seq (.ops c159r4) c159s14) c159s16) := fun _ _ _ _ _ => rfl
def c159s18 : SCode := (.seq (.ops c159r3) c159s17)
@[go_sem] theorem c159s18eq : U c159s18 (.seq (.ops c159r3) c159s17) := fun _ _ _ _ _ => rfl
def c159s19 : SCode := (.seq (.ops c159r2) c159s18)
@[go_sem] theorem c159s19eq : U c159s19 (.seq (.ops c159r2) c159s18) := fun _ _ _ _ _ => rfl
def c159s20 : SCode := (.seq (.ops c159r1) c159s19)
@[go_sem] theorem c159s20eq : U c159s20 (.seq (.ops c159r1) c159s19) := fun _ _ _ _ _ => rfl
def c159 : Gx.Fn := ⟨24, c159k, (.seq (.ops c159r0) c159s20), [(.tmp S3)]⟩
theorem c159ok : stripFn Tryz.prog c159k Tryz.f159 = some c159 := by kernel_rfl

/- (frame.reader).write -/
@[go_sem] def c160k : List Nat := [0, 1, 2, 3]
@[go_sem] def c160r0 : List GOp := [oS 1 (.bx 159 S0), oS 2 (.al 113 [(.string ⟨⟨[]⟩⟩), Z])]
@[go_sem] def c160r1 : List GOp := [oS 3 (.al 113 [(.string ⟨⟨[]⟩⟩), Z])]
@[go_sem] def c160r2 : List GOp := [fT 0 S1, lT T0, oT (.call 147 [T0]), fT 0 S3, oN (.st 1 T0 T1)]
@[go_sem] def c160r3 : List GOp := [fT 0 S1, lT T0, oT (.call 156 [T0]), fT 1 S3, oN (.st 1 T0 T1)]
@[go_sem] def c160r4 : List GOp := [oT (.ld (some 2) S3), oN (.st 2 S2 T0)]
def c160s5 : SCode := (.seq (.ops c160r4) .ret)
@[go_sem] theorem c160s5eq : U c160s5 (.seq (.ops c160r4) .ret) := fun _ _ _ _ _ => rfl
def c160s6 : SCode := (.seq (.ops c160r3) c160s5)
@[go_sem] theorem c160s6eq : U c160s6 (.seq (.ops c160r3) c160s5) := fun _ _ _ _ _ => rfl
def c160s7 : SCode := (.seq (.ops c160r2) c160s6)
@[go_sem] theorem c160s7eq : U c160s7 (.seq (.ops c160r2) c160s6) := fun _ _ _ _ _ => rfl
def c160s8 : SCode := (.seq (.ops c160r1) c160s7)
@[go_sem] theorem c160s8eq : U c160s8 (.seq (.ops c160r1) c160s7) := fun _ _ _ _ _ => rfl
def c160 : Gx.Fn := ⟨13, c160k, (.seq (.ops c160r0) c160s8), [(.cell S2 (some 2))]⟩
theorem c160ok : stripFn Tryz.prog c160k Tryz.f160 = some c160 := by kernel_rfl

/- (*wire.Reader).Bool -/
@[go_sem] def c161k : List Nat := [0, 2, 5, 28]
@[go_sem] def c161r0 : List GOp := [mS 1 (.c (.bool false))]
@[go_sem] def c161r1 : List GOp := [mT S0, oT (.call 151 [T0]), oS 2 (.v (.un .not T0))]
@[go_sem] def c161r2 : List GOp := [mS 1 (.c (.bool false))]
def c161s3 : SCode := (.seq (.ops c161r2) .ret)
@[go_sem] theorem c161s3eq : U c161s3 (.seq (.ops c161r2) .ret) := fun _ _ _ _ _ => rfl
@[go_sem] def c161r4 : List GOp := [mT S0, oT (.v (.nc T0)), fT 1 T0, lT T0, mT S0, oT (.v (.nc T0)), fT 0 T0, lT T0, nT T0, oT (.v (.bin .eql T5 T0)), mT T0, (.op (some (T0, (false, true))) .t (.v (.mv S0))), (.op (some (T1, (false, false))) .t (.v (.nc T0))), (.op (some (T2, (false, false))) .t (.v (.fa 0 T0))), (.op (some (T3, (false, false))) .t (.ld none T0)), (.op (some (T4, (false, false))) .t (.v (.mv S0))), (.op (some (T5, (false, false))) .t (.v (.nc T0))), (.op (some (T6, (false, false))) .t (.v (.fa 1 T0))), (.op (some (T7, (false, false))) .t (.ld none T0)), (.op (some (T8, (false, false))) .t (.v (.ix 1 T4 T0))), (.op (some (T9, (false, false))) .t (.ld none T0)), (.op (some (T10, (false, false))) .t (.v (.bin .gtr T0 (.c (.int .u8 1))))), oS 3 (.v (.pick T11 (.c (.bool true)) T0))]
@[go_sem] def c161r5 : List GOp := [mT S0, oT (.v (.nc T0)), fT 3 T0, oN (.st 1 T0 (C 2))]
@[go_sem] def c161r6 : List GOp := [mS 1 (.c (.bool false))]
def c161s7 : SCode := (.seq (.ops c161r6) .ret)
@[go_sem] theorem c161s7eq : U c161s7 (.seq (.ops c161r6) .ret) := fun _ _ _ _ _ => rfl
def c161s8 : SCode := (.seq (.ops c161r5) c161s7)
@[go_sem] theorem c161s8eq : U c161s8 (.seq (.ops c161r5) c161s7) := fun _ _ _ _ _ => rfl
@[go_sem] def c161r9 : List GOp := [mT S0, oT (.v (.nc T0)), fT 1 T0, lT T0, oT (.v (.bin .add T0 (C 1))), oT (.v (.nc T4)), fT 1 T0, oN (.st 1 T0 T2)]
@[go_sem] def c161r10 : List GOp := [mT S0, oT (.v (.nc T0)), fT 0 T0, lT T0, mT S0, oT (.v (.nc T0)), fT 2 T0, lT T0, oT (.v (.ix 1 T4 T0)), lT T0, oT (.v (.bin .eql T0 (.c (.int .u8 1)))), mS 1 T0]
def c161s11 : SCode := (.seq (.dq c161r10) .ret)
@[go_sem] theorem c161s11eq : U c161s11 (.seq (.dq c161r10) .ret) := fun _ _ _ _ _ => rfl
def c161s12 : SCode := (.seq (.ops c161r9) c161s11)
@[go_sem] theorem c161s12eq : U c161s12 (.seq (.ops c161r9) c161s11) := fun _ _ _ _ _ => rfl
def c161s13 : SCode := (.seq (.seq (.dq c161r4) (.cond S3 c161s8 .skip)) c161s12)
@[go_sem] theorem c161s13eq : U c161s13 (.seq (.seq (.dq c161r4) (.cond S3 c161s8 .skip)) c161s12) := fun _ _ _ _ _ => rfl
def c161s14 : SCode := (.seq (.seq (.ops c161r1) (.cond S2 c161s3 .skip)) c161s13)
@[go_sem] theorem c161s14eq : U c161s14 (.seq (.seq (.ops c161r1) (.cond S2 c161s3 .skip)) c161s13) := fun _ _ _ _ _ => rfl
def c161 : Gx.Fn := ⟨50, c161k, (.seq (.ops c161r0) c161s14), [(.tmp S1)]⟩
theorem c161ok : stripFn Tryz.prog c161k Tryz.f161 = some c161 := by kernel_rfl

/- frame.elements[[]byte] -/
@[go_sem] def c162k : List Nat := [0, 1, 2, 4, 5, 6, 12, 13, 14]
@[go_sem] def c162r0 : List GOp := [oS 2 (.bx 159 S0), mS 3 (.c Z)]
@[go_sem] def c162r1 : List GOp := [mS 4 (.c Z)]
@[go_sem] def c162r2 : List GOp := [fT 0 S2, lT T0, oT (.call 154 [T0]), mS 5 T0]
@[go_sem] def c162r3 : List GOp := [oT (.ld (some 1) S2), oT (.call 155 [T0])]
@[go_sem] def c162r4 : List GOp := [mS 6 S5, mS 7 (C 0)]
@[go_sem] def c162r5 : List GOp := [oS 8 (.v (.bin .lss S7 S6))]
@[go_sem] def c162r6 : List GOp := [mT S4, mT S1, oT (.cv T0 []), oT (.bs 22 1 [Z] [(0, (1, T0))]), oT (.ap 69 69 T3 T0), mS 4 T0]
@[go_sem] def c162r7 : List GOp := [oT (.ld (some 1) S2), oT (.call 155 [T0])]
def c162s8 : SCode := (.ops c162r7)
@[go_sem] theorem c162s8eq : U c162s8 (.ops c162r7) := fun _ _ _ _ _ => rfl
@[go_sem] def c162r9 : List GOp := [oT (.v (.bin .add S7 (C 1))), mS 7 T0]
def c162s10 : SCode := (.ops c162r9)
@[go_sem] theorem c162s10eq : U c162s10 (.ops c162r9) := fun _ _ _ _ _ => rfl
def c162s11 : SCode := (.seq (.block 1 (.seq (.ops c162r6) c162s8)) c162s10)
@[go_sem] theorem c162s11eq : U c162s11 (.seq (.block 1 (.seq (.ops c162r6) c162s8)) c162s10) := fun _ _ _ _ _ => rfl
def c162s12 : SCode := (.seq (.cond S8 .skip (.exit 0)) c162s11)
@[go_sem] theorem c162s12eq : U c162s12 (.seq (.cond S8 .skip (.exit 0)) c162s11) := fun _ _ _ _ _ => rfl
def c162s13 : SCode := (.seq (.ops c162r5) c162s12)
@[go_sem] theorem c162s13eq : U c162s13 (.seq (.ops c162r5) c162s12) := fun _ _ _ _ _ => rfl
def c162s14 : SCode := (.block 0 (.loop c162k c162s13))
@[go_sem] theorem c162s14eq : U c162s14 (.block 0 (.loop c162k c162s13)) := fun _ _ _ _ _ => rfl
@[go_sem] def c162r15 : List GOp := [mT S4, mS 3 T0]
def c162s16 : SCode := (.seq (.ops c162r15) .ret)
@[go_sem] theorem c162s16eq : U c162s16 (.seq (.ops c162r15) .ret) := fun _ _ _ _ _ => rfl
def c162s17 : SCode := (.seq (.seq (.ops c162r4) c162s14) c162s16)
@[go_sem] theorem c162s17eq : U c162s17 (.seq (.seq (.ops c162r4) c162s14) c162s16) := fun _ _ _ _ _ => rfl
def c162s18 : SCode := (.seq (.ops c162r3) c162s17)
@[go_sem] theorem c162s18eq : U c162s18 (.seq (.ops c162r3) c162s17) := fun _ _ _ _ _ => rfl
def c162s19 : SCode := (.seq (.ops c162r2) c162s18)
@[go_sem] theorem c162s19eq : U c162s19 (.seq (.ops c162r2) c162s18) := fun _ _ _ _ _ => rfl
def c162s20 : SCode := (.seq (.ops c162r1) c162s19)
@[go_sem] theorem c162s20eq : U c162s20 (.seq (.ops c162r1) c162s19) := fun _ _ _ _ _ => rfl
def c162 : Gx.Fn := ⟨24, c162k, (.seq (.ops c162r0) c162s20), [(.tmp S3)]⟩
theorem c162ok : stripFn Tryz.prog c162k Tryz.f162 = some c162 := by kernel_rfl

/- (*wire.Reader).Err -/
@[go_sem] def c163k : List Nat := [0, 2]
@[go_sem] def c163r0 : List GOp := [mS 1 (C 0)]
@[go_sem] def c163r1 : List GOp := [mT S0, oT (.v (.nc T0)), fT 3 T0, lT T0, mS 1 T0]
def c163s2 : SCode := (.seq (.ops c163r1) .ret)
@[go_sem] theorem c163s2eq : U c163s2 (.seq (.ops c163r1) .ret) := fun _ _ _ _ _ => rfl
def c163 : Gx.Fn := ⟨7, c163k, (.seq (.ops c163r0) c163s2), [(.tmp S1)]⟩
theorem c163ok : stripFn Tryz.prog c163k Tryz.f163 = some c163 := by kernel_rfl


/- frame.Equal -/
@[go_sem] def c23k : List Nat := [0, 1, 2, 3, 4]
@[go_sem] def c23r0 : List GOp := [oS 2 (.bx 39 S0), oS 3 (.bx 39 S1), mS 4 (.c (.bool false))]
@[go_sem] def c23r1 : List GOp := [fT 0 S2, lT T0, fT 0 S3, lT T0, oT (.v (.bin .eql T2 T0)), mT T0, (.sel T0 true [(.op (.v (.fa 1 S2))), (.op (.ld none T0)), (.op (.v (.fa 1 S3))), (.op (.ld none T0)), (.op (.v (.bin .eql T2 T0)))] .t T0 (.c (.bool false))), mT T0, (.sel T0 true [(.op (.v (.fa 2 S2))), (.op (.ld none T0)), (.op (.v (.fa 2 S3))), (.op (.ld none T0)), (.op (.v (.bin .eql T2 T0)))] .t T0 (.c (.bool false))), mT T0, (.op (some (T0, (true, true))) .t (.v (.fa 3 S2))), (.op (some (T1, (true, false))) .t (.ld (some 3) T0)), (.op (some (T2, (true, false))) .t (.v (.fa 3 S3))), (.op (some (T3, (true, false))) .t (.ld (some 3) T0)), (.op (some (T4, (true, false))) .t (.v (.steq false [(0, .i), (1, .i), (2, .i)] T2 T0))), oT (.v (.pick T5 T0 (.c (.bool false)))), mT T0, (.sel T0 true [(.op (.v (.fa 13 S2))), (.op (.ld none T0)), (.op (.v (.fa 13 S3))), (.op (.ld none T0)), (.op (.v (.bin .eql T2 T0)))] .t T0 (.c (.bool false))), mT T0, (.op (some (T0, (true, true))) .t (.v (.fa 6 S2))), (.op (some (T1, (true, false))) .t (.ld none T0)), (.op (some (T2, (true, false))) .t (.v (.fa 6 S3))), (.op (some (T3, (true, false))) .t (.ld none T0)), (.op (some (T4, (true, false))) .t (.call 47 [T2, T0, (.f 48)])), oT (.v (.pick T5 T0 (.c (.bool false)))), mT T0, (.op (some (T0, (true, true))) .t (.v (.fa 7 S2))), (.op (some (T1, (true, false))) .t (.ld none T0)), (.op (some (T2, (true, false))) .t (.v (.fa 7 S3))), (.op (some (T3, (true, false))) .t (.ld none T0)), (.op (some (T4, (true, false))) .t (.call 49 [T2, T0, (.f 50)])), oT (.v (.pick T5 T0 (.c (.bool false)))), mT T0, (.op (some (T0, (true, true))) .t (.v (.fa 8 S2))), (.op (some (T1, (true, false))) .t (.ld none T0)), (.op (some (T2, (true, false))) .t (.v (.fa 8 S3))), (.op (some (T3, (true, false))) .t (.ld none T0)), (.op (some (T4, (true, false))) .t (.call 51 [T2, T0, (.f 52)])), oT (.v (.pick T5 T0 (.c (.bool false)))), mT T0, (.op (some (T0, (true, true))) .t (.v (.fa 9 S2))), (.op (some (T1, (true, false))) .t (.ld none T0)), (.op (some (T2, (true, false))) .t (.v (.fa 9 S3))), (.op (some (T3, (true, false))) .t (.ld none T0)), (.op (some (T4, (true, false))) .t (.call 53 [T2, T0, (.f 54)])), oT (.v (.pick T5 T0 (.c (.bool false)))), mT T0, (.op (some (T0, (true, true))) .t (.v (.fa 10 S2))), (.op (some (T1, (true, false))) .t (.ld none T0)), (.op (some (T2, (true, false))) .t (.v (.fa 10 S3))), (.op (some (T3, (true, false))) .t (.ld none T0)), (.op (some (T4, (true, false))) .t (.call 55 [T2, T0, (.f 56)])), oT (.v (.pick T5 T0 (.c (.bool false)))), mT T0, (.op (some (T0, (true, true))) .t (.v (.fa 11 S2))), (.op (some (T1, (true, false))) .t (.ld none T0)), (.op (some (T2, (true, false))) .t (.v (.fa 11 S3))), (.op (some (T3, (true, false))) .t (.ld none T0)), (.op (some (T4, (true, false))) .t (.call 57 [T2, T0, (.f 58)])), oT (.v (.pick T5 T0 (.c (.bool false)))), mT T0, (.op (some (T0, (true, true))) .t (.v (.fa 12 S2))), (.op (some (T1, (true, false))) .t (.ld none T0)), (.op (some (T2, (true, false))) .t (.v (.fa 12 S3))), (.op (some (T3, (true, false))) .t (.ld none T0)), (.op (some (T4, (true, false))) .t (.call 59 [T2, T0])), oT (.v (.pick T5 T0 (.c (.bool false)))), mT T0, (.op (some (T0, (true, true))) .t (.v (.fa 14 S2))), (.op (some (T1, (true, false))) .t (.ld none T0)), (.op (some (T2, (true, false))) .t (.v (.fa 14 S3))), (.op (some (T3, (true, false))) .t (.ld none T0)), (.op (some (T4, (true, false))) .t (.call 60 [T2, T0, (.f 61)])), oT (.v (.pick T5 T0 (.c (.bool false)))), mS 4 T0]
def c23s2 : SCode := (.seq (.ops c23r1) .ret)
@[go_sem] theorem c23s2eq : U c23s2 (.seq (.ops c23r1) .ret) := fun _ _ _ _ _ => rfl
def c23 : Gx.Fn := ⟨94, c23k, (.seq (.ops c23r0) c23s2), [(.tmp S4)]⟩
theorem c23ok : stripFn Tryz.prog c23k Tryz.f23 = some c23 := by kernel_rfl

/- slices.EqualFunc[[]api.ReadID,[]api.ReadID,api.ReadID,api.ReadID] -/
@[go_sem] def c47k : List Nat := [0, 1, 2, 6, 7, 8, 9, 14, 15, 16, 17, 18, 30]
@[go_sem] def c47r0 : List GOp := [mS 3 (.c (.bool false))]
@[go_sem] def c47r1 : List GOp := [mT S0, nT T0, mT S1, nT T0, oS 7 (.v (.bin .neq T2 T0))]
@[go_sem] def c47r2 : List GOp := [mS 3 (.c (.bool false))]
def c47s3 : SCode := (.seq (.ops c47r2) .ret)
@[go_sem] theorem c47s3eq : U c47s3 (.seq (.ops c47r2) .ret) := fun _ _ _ _ _ => rfl
@[go_sem] def c47r4 : List GOp := [mS 8 S0, oS 9 (.v (.len S8)), mS 10 (C 0)]
@[go_sem] def c47r5 : List GOp := [oS 11 (.v (.bin .lss S10 S9))]
@[go_sem] def c47r6 : List GOp := [mT S10, oT (.v (.ix 3 S8 S10)), oT (.ld (some 3) T0), oS 5 (.al 92 [(I 0), (I 0), Z]), mS 4 T2, oN (.st 3 S5 T0)]
@[go_sem] def c47r7 : List GOp := [mT S1, mT S4, oT (.v (.ix 3 T1 T0)), oT (.ld (some 3) T0), oS 6 (.al 92 [(I 0), (I 0), Z]), oN (.st 3 S6 T0)]
@[go_sem] def c47r8 : List GOp := [mT S2, oT (.ld (some 3) S5), oT (.ld (some 3) S6), oT (.cv T2 [T1, T0]), oS 12 (.v (.un .not T0))]
@[go_sem] def c47r9 : List GOp := [mS 3 (.c (.bool false))]
def c47s10 : SCode := (.seq (.ops c47r9) .ret)
@[go_sem] theorem c47s10eq : U c47s10 (.seq (.ops c47r9) .ret) := fun _ _ _ _ _ => rfl
def c47s11 : SCode := (.cond S12 c47s10 .skip)
@[go_sem] theorem c47s11eq : U c47s11 (.cond S12 c47s10 .skip) := fun _ _ _ _ _ => rfl
def c47s12 : SCode := (.seq (.ops c47r8) c47s11)
@[go_sem] theorem c47s12eq : U c47s12 (.seq (.ops c47r8) c47s11) := fun _ _ _ _ _ => rfl
def c47s13 : SCode := (.seq (.ops c47r7) c47s12)
@[go_sem] theorem c47s13eq : U c47s13 (.seq (.ops c47r7) c47s12) := fun _ _ _ _ _ => rfl
@[go_sem] def c47r14 : List GOp := [oT (.v (.bin .add S10 (C 1))), mS 10 T0]
def c47s15 : SCode := (.ops c47r14)
@[go_sem] theorem c47s15eq : U c47s15 (.ops c47r14) := fun _ _ _ _ _ => rfl
def c47s16 : SCode := (.seq (.block 1 (.seq (.ops c47r6) c47s13)) c47s15)
@[go_sem] theorem c47s16eq : U c47s16 (.seq (.block 1 (.seq (.ops c47r6) c47s13)) c47s15) := fun _ _ _ _ _ => rfl
def c47s17 : SCode := (.seq (.cond S11 .skip (.exit 0)) c47s16)
@[go_sem] theorem c47s17eq : U c47s17 (.seq (.cond S11 .skip (.exit 0)) c47s16) := fun _ _ _ _ _ => rfl
def c47s18 : SCode := (.seq (.ops c47r5) c47s17)
@[go_sem] theorem c47s18eq : U c47s18 (.seq (.ops c47r5) c47s17) := fun _ _ _ _ _ => rfl
def c47s19 : SCode := (.block 0 (.loop c47k c47s18))
@[go_sem] theorem c47s19eq : U c47s19 (.block 0 (.loop c47k c47s18)) := fun _ _ _ _ _ => rfl
@[go_sem] def c47r20 : List GOp := [mS 3 (.c (.bool true))]
def c47s21 : SCode := (.seq (.ops c47r20) .ret)
@[go_sem] theorem c47s21eq : U c47s21 (.seq (.ops c47r20) .ret) := fun _ _ _ _ _ => rfl
def c47s22 : SCode := (.seq (.seq (.ops c47r4) c47s19) c47s21)
@[go_sem] theorem c47s22eq : U c47s22 (.seq (.seq (.ops c47r4) c47s19) c47s21) := fun _ _ _ _ _ => rfl
def c47s23 : SCode := (.seq (.seq (.ops c47r1) (.cond S7 c47s3 .skip)) c47s22)
@[go_sem] theorem c47s23eq : U c47s23 (.seq (.seq (.ops c47r1) (.cond S7 c47s3 .skip)) c47s22) := fun _ _ _ _ _ => rfl
def c47 : Gx.Fn := ⟨32, c47k, (.seq (.ops c47r0) c47s23), [(.tmp S3)]⟩
theorem c47ok : stripFn Tryz.prog c47k Tryz.f47 = some c47 := by kernel_rfl

/- frame.sameRead -/
@[go_sem] def c48k : List Nat := [0, 1, 2, 3, 4]
@[go_sem] def c48r0 : List GOp := [oS 2 (.bx 92 S0), oS 3 (.bx 92 S1), mS 4 (.c (.bool false))]
@[go_sem] def c48r1 : List GOp := [fT 0 S2, lT T0, fT 0 S3, lT T0, oT (.v (.bin .eql T2 T0)), mT T0, (.sel T0 true [(.op (.v (.fa 1 S2))), (.op (.ld none T0)), (.op (.v (.fa 1 S3))), (.op (.ld none T0)), (.op (.v (.bin .eql T2 T0)))] .t T0 (.c (.bool false))), mT T0, (.op (some (T0, (true, true))) .t (.v (.fa 2 S2))), (.op (some (T1, (true, false))) .t (.ld none T0)), (.op (some (T2, (true, false))) .t (.v (.fa 2 S3))), (.op (some (T3, (true, false))) .t (.ld none T0)), (.op (some (T4, (true, false))) .t (.call 109 [T2, T0])), oT (.v (.pick T5 T0 (.c (.bool false)))), mS 4 T0]
def c48s2 : SCode := (.seq (.ops c48r1) .ret)
@[go_sem] theorem c48s2eq : U c48s2 (.seq (.ops c48r1) .ret) := fun _ _ _ _ _ => rfl
def c48 : Gx.Fn := ⟨24, c48k, (.seq (.ops c48r0) c48s2), [(.tmp S4)]⟩
theorem c48ok : stripFn Tryz.prog c48k Tryz.f48 = some c48 := by kernel_rfl

/- slices.EqualFunc[[]api.Base,[]api.Base,api.Base,api.Base] -/
@[go_sem] def c49k : List Nat := [0, 1, 2, 6, 7, 8, 9, 14, 15, 16, 17, 18, 30]
@[go_sem] def c49r0 : List GOp := [mS 3 (.c (.bool false))]
@[go_sem] def c49r1 : List GOp := [mT S0, nT T0, mT S1, nT T0, oS 7 (.v (.bin .neq T2 T0))]
@[go_sem] def c49r2 : List GOp := [mS 3 (.c (.bool false))]
def c49s3 : SCode := (.seq (.ops c49r2) .ret)
@[go_sem] theorem c49s3eq : U c49s3 (.seq (.ops c49r2) .ret) := fun _ _ _ _ _ => rfl
@[go_sem] def c49r4 : List GOp := [mS 8 S0, oS 9 (.v (.len S8)), mS 10 (C 0)]
@[go_sem] def c49r5 : List GOp := [oS 11 (.v (.bin .lss S10 S9))]
@[go_sem] def c49r6 : List GOp := [mT S10, oT (.v (.ix 2 S8 S10)), oT (.ld (some 2) T0), oS 5 (.al 60 [Z, Z]), mS 4 T2, oN (.st 2 S5 T0)]
@[go_sem] def c49r7 : List GOp := [mT S1, mT S4, oT (.v (.ix 2 T1 T0)), oT (.ld (some 2) T0), oS 6 (.al 60 [Z, Z]), oN (.st 2 S6 T0)]
@[go_sem] def c49r8 : List GOp := [mT S2, oT (.ld (some 2) S5), oT (.ld (some 2) S6), oT (.cv T2 [T1, T0]), oS 12 (.v (.un .not T0))]
@[go_sem] def c49r9 : List GOp := [mS 3 (.c (.bool false))]
def c49s10 : SCode := (.seq (.ops c49r9) .ret)
@[go_sem] theorem c49s10eq : U c49s10 (.seq (.ops c49r9) .ret) := fun _ _ _ _ _ => rfl
def c49s11 : SCode := (.cond S12 c49s10 .skip)
@[go_sem] theorem c49s11eq : U c49s11 (.cond S12 c49s10 .skip) := fun _ _ _ _ _ => rfl
def c49s12 : SCode := (.seq (.ops c49r8) c49s11)
@[go_sem] theorem c49s12eq : U c49s12 (.seq (.ops c49r8) c49s11) := fun _ _ _ _ _ => rfl
def c49s13 : SCode := (.seq (.ops c49r7) c49s12)
@[go_sem] theorem c49s13eq : U c49s13 (.seq (.ops c49r7) c49s12) := fun _ _ _ _ _ => rfl
@[go_sem] def c49r14 : List GOp := [oT (.v (.bin .add S10 (C 1))), mS 10 T0]
def c49s15 : SCode := (.ops c49r14)
@[go_sem] theorem c49s15eq : U c49s15 (.ops c49r14) := fun _ _ _ _ _ => rfl
def c49s16 : SCode := (.seq (.block 1 (.seq (.ops c49r6) c49s13)) c49s15)
@[go_sem] theorem c49s16eq : U c49s16 (.seq (.block 1 (.seq (.ops c49r6) c49s13)) c49s15) := fun _ _ _ _ _ => rfl
def c49s17 : SCode := (.seq (.cond S11 .skip (.exit 0)) c49s16)
@[go_sem] theorem c49s17eq : U c49s17 (.seq (.cond S11 .skip (.exit 0)) c49s16) := fun _ _ _ _ _ => rfl
def c49s18 : SCode := (.seq (.ops c49r5) c49s17)
@[go_sem] theorem c49s18eq : U c49s18 (.seq (.ops c49r5) c49s17) := fun _ _ _ _ _ => rfl
def c49s19 : SCode := (.block 0 (.loop c49k c49s18))
@[go_sem] theorem c49s19eq : U c49s19 (.block 0 (.loop c49k c49s18)) := fun _ _ _ _ _ => rfl
@[go_sem] def c49r20 : List GOp := [mS 3 (.c (.bool true))]
def c49s21 : SCode := (.seq (.ops c49r20) .ret)
@[go_sem] theorem c49s21eq : U c49s21 (.seq (.ops c49r20) .ret) := fun _ _ _ _ _ => rfl
def c49s22 : SCode := (.seq (.seq (.ops c49r4) c49s19) c49s21)
@[go_sem] theorem c49s22eq : U c49s22 (.seq (.seq (.ops c49r4) c49s19) c49s21) := fun _ _ _ _ _ => rfl
def c49s23 : SCode := (.seq (.seq (.ops c49r1) (.cond S7 c49s3 .skip)) c49s22)
@[go_sem] theorem c49s23eq : U c49s23 (.seq (.seq (.ops c49r1) (.cond S7 c49s3 .skip)) c49s22) := fun _ _ _ _ _ => rfl
def c49 : Gx.Fn := ⟨32, c49k, (.seq (.ops c49r0) c49s23), [(.tmp S3)]⟩
theorem c49ok : stripFn Tryz.prog c49k Tryz.f49 = some c49 := by kernel_rfl

/- frame.sameBase -/
@[go_sem] def c50k : List Nat := [0, 1, 2, 3, 4]
@[go_sem] def c50r0 : List GOp := [oS 2 (.bx 60 S0), oS 3 (.bx 60 S1), mS 4 (.c (.bool false))]
@[go_sem] def c50r1 : List GOp := [fT 0 S2, lT T0, fT 0 S3, lT T0, oT (.call 110 [T2, T0, (.f 111)]), mT T0, (.op (some (T0, (true, true))) .t (.v (.fa 1 S2))), (.op (some (T1, (true, false))) .t (.ld none T0)), (.op (some (T2, (true, false))) .t (.v (.fa 1 S3))), (.op (some (T3, (true, false))) .t (.ld none T0)), (.op (some (T4, (true, false))) .t (.call 51 [T2, T0, (.f 52)])), oT (.v (.pick T5 T0 (.c (.bool false)))), mS 4 T0]
def c50s2 : SCode := (.seq (.ops c50r1) .ret)
@[go_sem] theorem c50s2eq : U c50s2 (.seq (.ops c50r1) .ret) := fun _ _ _ _ _ => rfl
def c50 : Gx.Fn := ⟨17, c50k, (.seq (.ops c50r0) c50s2), [(.tmp S4)]⟩
theorem c50ok : stripFn Tryz.prog c50k Tryz.f50 = some c50 := by kernel_rfl

/- slices.EqualFunc[[]api.Command,[]api.Command,api.Command,api.Command] -/
@[go_sem] def c51k : List Nat := [0, 1, 2, 6, 7, 8, 9, 14, 15, 16, 17, 18, 30]
@[go_sem] def c51r0 : List GOp := [mS 3 (.c (.bool false))]
@[go_sem] def c51r1 : List GOp := [mT S0, nT T0, mT S1, nT T0, oS 7 (.v (.bin .neq T2 T0))]
@[go_sem] def c51r2 : List GOp := [mS 3 (.c (.bool false))]
def c51s3 : SCode := (.seq (.ops c51r2) .ret)
@[go_sem] theorem c51s3eq : U c51s3 (.seq (.ops c51r2) .ret) := fun _ _ _ _ _ => rfl
@[go_sem] def c51r4 : List GOp := [mS 8 S0, oS 9 (.v (.len S8)), mS 10 (C 0)]
@[go_sem] def c51r5 : List GOp := [oS 11 (.v (.bin .lss S10 S9))]
@[go_sem] def c51r6 : List GOp := [mT S10, oT (.v (.ix 6 S8 S10)), oT (.ld (some 6) T0), oS 5 (.al 99 [(I 0), (I 0), (I 0), Z, (I 0), Z]), mS 4 T2, oN (.st 6 S5 T0)]
@[go_sem] def c51r7 : List GOp := [mT S1, mT S4, oT (.v (.ix 6 T1 T0)), oT (.ld (some 6) T0), oS 6 (.al 99 [(I 0), (I 0), (I 0), Z, (I 0), Z]), oN (.st 6 S6 T0)]
@[go_sem] def c51r8 : List GOp := [mT S2, oT (.ld (some 6) S5), oT (.ld (some 6) S6), oT (.cv T2 [T1, T0]), oS 12 (.v (.un .not T0))]
@[go_sem] def c51r9 : List GOp := [mS 3 (.c (.bool false))]
def c51s10 : SCode := (.seq (.ops c51r9) .ret)
@[go_sem] theorem c51s10eq : U c51s10 (.seq (.ops c51r9) .ret) := fun _ _ _ _ _ => rfl
def c51s11 : SCode := (.cond S12 c51s10 .skip)
@[go_sem] theorem c51s11eq : U c51s11 (.cond S12 c51s10 .skip) := fun _ _ _ _ _ => rfl
def c51s12 : SCode := (.seq (.ops c51r8) c51s11)
@[go_sem] theorem c51s12eq : U c51s12 (.seq (.ops c51r8) c51s11) := fun _ _ _ _ _ => rfl
def c51s13 : SCode := (.seq (.ops c51r7) c51s12)
@[go_sem] theorem c51s13eq : U c51s13 (.seq (.ops c51r7) c51s12) := fun _ _ _ _ _ => rfl
@[go_sem] def c51r14 : List GOp := [oT (.v (.bin .add S10 (C 1))), mS 10 T0]
def c51s15 : SCode := (.ops c51r14)
@[go_sem] theorem c51s15eq : U c51s15 (.ops c51r14) := fun _ _ _ _ _ => rfl
def c51s16 : SCode := (.seq (.block 1 (.seq (.ops c51r6) c51s13)) c51s15)
@[go_sem] theorem c51s16eq : U c51s16 (.seq (.block 1 (.seq (.ops c51r6) c51s13)) c51s15) := fun _ _ _ _ _ => rfl
def c51s17 : SCode := (.seq (.cond S11 .skip (.exit 0)) c51s16)
@[go_sem] theorem c51s17eq : U c51s17 (.seq (.cond S11 .skip (.exit 0)) c51s16) := fun _ _ _ _ _ => rfl
def c51s18 : SCode := (.seq (.ops c51r5) c51s17)
@[go_sem] theorem c51s18eq : U c51s18 (.seq (.ops c51r5) c51s17) := fun _ _ _ _ _ => rfl
def c51s19 : SCode := (.block 0 (.loop c51k c51s18))
@[go_sem] theorem c51s19eq : U c51s19 (.block 0 (.loop c51k c51s18)) := fun _ _ _ _ _ => rfl
@[go_sem] def c51r20 : List GOp := [mS 3 (.c (.bool true))]
def c51s21 : SCode := (.seq (.ops c51r20) .ret)
@[go_sem] theorem c51s21eq : U c51s21 (.seq (.ops c51r20) .ret) := fun _ _ _ _ _ => rfl
def c51s22 : SCode := (.seq (.seq (.ops c51r4) c51s19) c51s21)
@[go_sem] theorem c51s22eq : U c51s22 (.seq (.seq (.ops c51r4) c51s19) c51s21) := fun _ _ _ _ _ => rfl
def c51s23 : SCode := (.seq (.seq (.ops c51r1) (.cond S7 c51s3 .skip)) c51s22)
@[go_sem] theorem c51s23eq : U c51s23 (.seq (.seq (.ops c51r1) (.cond S7 c51s3 .skip)) c51s22) := fun _ _ _ _ _ => rfl
def c51 : Gx.Fn := ⟨32, c51k, (.seq (.ops c51r0) c51s23), [(.tmp S3)]⟩
theorem c51ok : stripFn Tryz.prog c51k Tryz.f51 = some c51 := by kernel_rfl

/- frame.sameCommand -/
@[go_sem] def c52k : List Nat := [0, 1, 2, 3, 4]
@[go_sem] def c52r0 : List GOp := [oS 2 (.bx 99 S0), oS 3 (.bx 99 S1), mS 4 (.c (.bool false))]
@[go_sem] def c52r1 : List GOp := [fT 0 S2, lT T0, fT 0 S3, lT T0, oT (.v (.bin .eql T2 T0)), mT T0, (.sel T0 true [(.op (.v (.fa 1 S2))), (.op (.ld none T0)), (.op (.v (.fa 1 S3))), (.op (.ld none T0)), (.op (.v (.bin .eql T2 T0)))] .t T0 (.c (.bool false))), mT T0, (.sel T0 true [(.op (.v (.fa 2 S2))), (.op (.ld none T0)), (.op (.v (.fa 2 S3))), (.op (.ld none T0)), (.op (.v (.bin .eql T2 T0)))] .t T0 (.c (.bool false))), mT T0, (.sel T0 true [(.op (.v (.fa 4 S2))), (.op (.ld none T0)), (.op (.v (.fa 4 S3))), (.op (.ld none T0)), (.op (.v (.bin .eql T2 T0)))] .t T0 (.c (.bool false))), mT T0, (.op (some (T0, (true, true))) .t (.v (.fa 5 S2))), (.op (some (T1, (true, false))) .t (.ld none T0)), (.op (some (T2, (true, false))) .t (.v (.fa 5 S3))), (.op (some (T3, (true, false))) .t (.ld none T0)), (.op (some (T4, (true, false))) .t (.call 109 [T2, T0])), oT (.v (.pick T5 T0 (.c (.bool false)))), mT T0, (.op (some (T0, (true, true))) .t (.v (.fa 3 S2))), (.op (some (T1, (true, false))) .t (.ld none T0)), (.op (some (T2, (true, false))) .t (.v (.fa 3 S3))), (.op (some (T3, (true, false))) .t (.ld none T0)), (.op (some (T4, (true, false))) .t (.call 112 [T2, T0, (.f 113)])), oT (.v (.pick T5 T0 (.c (.bool false)))), mS 4 T0]
def c52s2 : SCode := (.seq (.ops c52r1) .ret)
@[go_sem] theorem c52s2eq : U c52s2 (.seq (.ops c52r1) .ret) := fun _ _ _ _ _ => rfl
def c52 : Gx.Fn := ⟨45, c52k, (.seq (.ops c52r0) c52s2), [(.tmp S4)]⟩
theorem c52ok : stripFn Tryz.prog c52k Tryz.f52 = some c52 := by kernel_rfl

/- slices.EqualFunc[[]api.Ack,[]api.Ack,api.Ack,api.Ack] -/
@[go_sem] def c53k : List Nat := [0, 1, 2, 6, 7, 8, 9, 14, 15, 16, 17, 18, 30]
@[go_sem] def c53r0 : List GOp := [mS 3 (.c (.bool false))]
@[go_sem] def c53r1 : List GOp := [mT S0, nT T0, mT S1, nT T0, oS 7 (.v (.bin .neq T2 T0))]
@[go_sem] def c53r2 : List GOp := [mS 3 (.c (.bool false))]
def c53s3 : SCode := (.seq (.ops c53r2) .ret)
@[go_sem] theorem c53s3eq : U c53s3 (.seq (.ops c53r2) .ret) := fun _ _ _ _ _ => rfl
@[go_sem] def c53r4 : List GOp := [mS 8 S0, oS 9 (.v (.len S8)), mS 10 (C 0)]
@[go_sem] def c53r5 : List GOp := [oS 11 (.v (.bin .lss S10 S9))]
@[go_sem] def c53r6 : List GOp := [mT S10, oT (.v (.ix 2 S8 S10)), oT (.ld (some 2) T0), oS 5 (.al 103 [(I 0), Z]), mS 4 T2, oN (.st 2 S5 T0)]
@[go_sem] def c53r7 : List GOp := [mT S1, mT S4, oT (.v (.ix 2 T1 T0)), oT (.ld (some 2) T0), oS 6 (.al 103 [(I 0), Z]), oN (.st 2 S6 T0)]
@[go_sem] def c53r8 : List GOp := [mT S2, oT (.ld (some 2) S5), oT (.ld (some 2) S6), oT (.cv T2 [T1, T0]), oS 12 (.v (.un .not T0))]
@[go_sem] def c53r9 : List GOp := [mS 3 (.c (.bool false))]
def c53s10 : SCode := (.seq (.ops c53r9) .ret)
@[go_sem] theorem c53s10eq : U c53s10 (.seq (.ops c53r9) .ret) := fun _ _ _ _ _ => rfl
def c53s11 : SCode := (.cond S12 c53s10 .skip)
@[go_sem] theorem c53s11eq : U c53s11 (.cond S12 c53s10 .skip) := fun _ _ _ _ _ => rfl
def c53s12 : SCode := (.seq (.ops c53r8) c53s11)
@[go_sem] theorem c53s12eq : U c53s12 (.seq (.ops c53r8) c53s11) := fun _ _ _ _ _ => rfl
def c53s13 : SCode := (.seq (.ops c53r7) c53s12)
@[go_sem] theorem c53s13eq : U c53s13 (.seq (.ops c53r7) c53s12) := fun _ _ _ _ _ => rfl
@[go_sem] def c53r14 : List GOp := [oT (.v (.bin .add S10 (C 1))), mS 10 T0]
def c53s15 : SCode := (.ops c53r14)
@[go_sem] theorem c53s15eq : U c53s15 (.ops c53r14) := fun _ _ _ _ _ => rfl
def c53s16 : SCode := (.seq (.block 1 (.seq (.ops c53r6) c53s13)) c53s15)
@[go_sem] theorem c53s16eq : U c53s16 (.seq (.block 1 (.seq (.ops c53r6) c53s13)) c53s15) := fun _ _ _ _ _ => rfl
def c53s17 : SCode := (.seq (.cond S11 .skip (.exit 0)) c53s16)
@[go_sem] theorem c53s17eq : U c53s17 (.seq (.cond S11 .skip (.exit 0)) c53s16) := fun _ _ _ _ _ => rfl
def c53s18 : SCode := (.seq (.ops c53r5) c53s17)
@[go_sem] theorem c53s18eq : U c53s18 (.seq (.ops c53r5) c53s17) := fun _ _ _ _ _ => rfl
def c53s19 : SCode := (.block 0 (.loop c53k c53s18))
@[go_sem] theorem c53s19eq : U c53s19 (.block 0 (.loop c53k c53s18)) := fun _ _ _ _ _ => rfl
@[go_sem] def c53r20 : List GOp := [mS 3 (.c (.bool true))]
def c53s21 : SCode := (.seq (.ops c53r20) .ret)
@[go_sem] theorem c53s21eq : U c53s21 (.seq (.ops c53r20) .ret) := fun _ _ _ _ _ => rfl
def c53s22 : SCode := (.seq (.seq (.ops c53r4) c53s19) c53s21)
@[go_sem] theorem c53s22eq : U c53s22 (.seq (.seq (.ops c53r4) c53s19) c53s21) := fun _ _ _ _ _ => rfl
def c53s23 : SCode := (.seq (.seq (.ops c53r1) (.cond S7 c53s3 .skip)) c53s22)
@[go_sem] theorem c53s23eq : U c53s23 (.seq (.seq (.ops c53r1) (.cond S7 c53s3 .skip)) c53s22) := fun _ _ _ _ _ => rfl
def c53 : Gx.Fn := ⟨32, c53k, (.seq (.ops c53r0) c53s23), [(.tmp S3)]⟩
theorem c53ok : stripFn Tryz.prog c53k Tryz.f53 = some c53 := by kernel_rfl

/- frame.sameAck -/
@[go_sem] def c54k : List Nat := [0, 1, 2, 3, 4]
@[go_sem] def c54r0 : List GOp := [oS 2 (.bx 103 S0), oS 3 (.bx 103 S1), mS 4 (.c (.bool false))]
@[go_sem] def c54r1 : List GOp := [fT 0 S2, lT T0, fT 0 S3, lT T0, oT (.v (.bin .eql T2 T0)), mT T0, (.op (some (T0, (true, true))) .t (.v (.fa 1 S2))), (.op (some (T1, (true, false))) .t (.ld none T0)), (.op (some (T2, (true, false))) .t (.v (.fa 1 S3))), (.op (some (T3, (true, false))) .t (.ld none T0)), (.op (some (T4, (true, false))) .t (.call 109 [T2, T0])), oT (.v (.pick T5 T0 (.c (.bool false)))), mS 4 T0]
def c54s2 : SCode := (.seq (.ops c54r1) .ret)
@[go_sem] theorem c54s2eq : U c54s2 (.seq (.ops c54r1) .ret) := fun _ _ _ _ _ => rfl
def c54 : Gx.Fn := ⟨17, c54k, (.seq (.ops c54r0) c54s2), [(.tmp S4)]⟩
theorem c54ok : stripFn Tryz.prog c54k Tryz.f54 = some c54 := by kernel_rfl

/- slices.EqualFunc[[]api.Proof,[]api.Proof,api.Proof,api.Proof] -/
@[go_sem] def c55k : List Nat := [0, 1, 2, 6, 7, 8, 9, 14, 15, 16, 17, 18, 30]
@[go_sem] def c55r0 : List GOp := [mS 3 (.c (.bool false))]
@[go_sem] def c55r1 : List GOp := [mT S0, nT T0, mT S1, nT T0, oS 7 (.v (.bin .neq T2 T0))]
@[go_sem] def c55r2 : List GOp := [mS 3 (.c (.bool false))]
def c55s3 : SCode := (.seq (.ops c55r2) .ret)
@[go_sem] theorem c55s3eq : U c55s3 (.seq (.ops c55r2) .ret) := fun _ _ _ _ _ => rfl
@[go_sem] def c55r4 : List GOp := [mS 8 S0, oS 9 (.v (.len S8)), mS 10 (C 0)]
@[go_sem] def c55r5 : List GOp := [oS 11 (.v (.bin .lss S10 S9))]
@[go_sem] def c55r6 : List GOp := [mT S10, oT (.v (.ix 10 S8 S10)), oT (.ld (some 10) T0), oS 5 (.al 66 [Z, (I 0), (I 0), (I 0), Z, Z, Z, (I 0), Z, Z]), mS 4 T2, oN (.st 10 S5 T0)]
@[go_sem] def c55r7 : List GOp := [mT S1, mT S4, oT (.v (.ix 10 T1 T0)), oT (.ld (some 10) T0), oS 6 (.al 66 [Z, (I 0), (I 0), (I 0), Z, Z, Z, (I 0), Z, Z]), oN (.st 10 S6 T0)]
@[go_sem] def c55r8 : List GOp := [mT S2, oT (.ld (some 10) S5), oT (.ld (some 10) S6), oT (.cv T2 [T1, T0]), oS 12 (.v (.un .not T0))]
@[go_sem] def c55r9 : List GOp := [mS 3 (.c (.bool false))]
def c55s10 : SCode := (.seq (.ops c55r9) .ret)
@[go_sem] theorem c55s10eq : U c55s10 (.seq (.ops c55r9) .ret) := fun _ _ _ _ _ => rfl
def c55s11 : SCode := (.cond S12 c55s10 .skip)
@[go_sem] theorem c55s11eq : U c55s11 (.cond S12 c55s10 .skip) := fun _ _ _ _ _ => rfl
def c55s12 : SCode := (.seq (.ops c55r8) c55s11)
@[go_sem] theorem c55s12eq : U c55s12 (.seq (.ops c55r8) c55s11) := fun _ _ _ _ _ => rfl
def c55s13 : SCode := (.seq (.ops c55r7) c55s12)
@[go_sem] theorem c55s13eq : U c55s13 (.seq (.ops c55r7) c55s12) := fun _ _ _ _ _ => rfl
@[go_sem] def c55r14 : List GOp := [oT (.v (.bin .add S10 (C 1))), mS 10 T0]
def c55s15 : SCode := (.ops c55r14)
@[go_sem] theorem c55s15eq : U c55s15 (.ops c55r14) := fun _ _ _ _ _ => rfl
def c55s16 : SCode := (.seq (.block 1 (.seq (.ops c55r6) c55s13)) c55s15)
@[go_sem] theorem c55s16eq : U c55s16 (.seq (.block 1 (.seq (.ops c55r6) c55s13)) c55s15) := fun _ _ _ _ _ => rfl
def c55s17 : SCode := (.seq (.cond S11 .skip (.exit 0)) c55s16)
@[go_sem] theorem c55s17eq : U c55s17 (.seq (.cond S11 .skip (.exit 0)) c55s16) := fun _ _ _ _ _ => rfl
def c55s18 : SCode := (.seq (.ops c55r5) c55s17)
@[go_sem] theorem c55s18eq : U c55s18 (.seq (.ops c55r5) c55s17) := fun _ _ _ _ _ => rfl
def c55s19 : SCode := (.block 0 (.loop c55k c55s18))
@[go_sem] theorem c55s19eq : U c55s19 (.block 0 (.loop c55k c55s18)) := fun _ _ _ _ _ => rfl
@[go_sem] def c55r20 : List GOp := [mS 3 (.c (.bool true))]
def c55s21 : SCode := (.seq (.ops c55r20) .ret)
@[go_sem] theorem c55s21eq : U c55s21 (.seq (.ops c55r20) .ret) := fun _ _ _ _ _ => rfl
def c55s22 : SCode := (.seq (.seq (.ops c55r4) c55s19) c55s21)
@[go_sem] theorem c55s22eq : U c55s22 (.seq (.seq (.ops c55r4) c55s19) c55s21) := fun _ _ _ _ _ => rfl
def c55s23 : SCode := (.seq (.seq (.ops c55r1) (.cond S7 c55s3 .skip)) c55s22)
@[go_sem] theorem c55s23eq : U c55s23 (.seq (.seq (.ops c55r1) (.cond S7 c55s3 .skip)) c55s22) := fun _ _ _ _ _ => rfl
def c55 : Gx.Fn := ⟨32, c55k, (.seq (.ops c55r0) c55s23), [(.tmp S3)]⟩
theorem c55ok : stripFn Tryz.prog c55k Tryz.f55 = some c55 := by kernel_rfl

/- frame.sameProof -/
@[go_sem] def c56k : List Nat := [0, 1, 2, 3, 4]
@[go_sem] def c56r0 : List GOp := [oS 2 (.bx 66 S0), oS 3 (.bx 66 S1), mS 4 (.c (.bool false))]
@[go_sem] def c56r1 : List GOp := [fT 0 S2, lT T0, fT 0 S3, lT T0, oT (.call 110 [T2, T0, (.f 111)]), mT T0, (.op (some (T0, (true, true))) .t (.v (.fa 1 S2))), (.op (some (T1, (true, false))) .t (.ld (some 9) T0)), (.op (some (T2, (true, false))) .t (.v (.fa 1 S3))), (.op (some (T3, (true, false))) .t (.ld (some 9) T0)), (.op (some (T4, (true, false))) .t (.call 111 [T2, T0])), oT (.v (.pick T5 T0 (.c (.bool false)))), mS 4 T0]
def c56s2 : SCode := (.seq (.ops c56r1) .ret)
@[go_sem] theorem c56s2eq : U c56s2 (.seq (.ops c56r1) .ret) := fun _ _ _ _ _ => rfl
def c56 : Gx.Fn := ⟨17, c56k, (.seq (.ops c56r0) c56s2), [(.tmp S4)]⟩
theorem c56ok : stripFn Tryz.prog c56k Tryz.f56 = some c56 := by kernel_rfl

/- slices.EqualFunc[[]api.Digest,[]api.Digest,api.Digest,api.Digest] -/
@[go_sem] def c57k : List Nat := [0, 1, 2, 6, 7, 8, 9, 14, 15, 16, 17, 18, 30]
@[go_sem] def c57r0 : List GOp := [mS 3 (.c (.bool false))]
@[go_sem] def c57r1 : List GOp := [mT S0, nT T0, mT S1, nT T0, oS 7 (.v (.bin .neq T2 T0))]
@[go_sem] def c57r2 : List GOp := [mS 3 (.c (.bool false))]
def c57s3 : SCode := (.seq (.ops c57r2) .ret)
@[go_sem] theorem c57s3eq : U c57s3 (.seq (.ops c57r2) .ret) := fun _ _ _ _ _ => rfl
@[go_sem] def c57r4 : List GOp := [mS 8 S0, oS 9 (.v (.len S8)), mS 10 (C 0)]
@[go_sem] def c57r5 : List GOp := [oS 11 (.v (.bin .lss S10 S9))]
@[go_sem] def c57r6 : List GOp := [mT S10, oT (.v (.ix 3 S8 S10)), oT (.ld (some 3) T0), oS 5 (.al 68 [Z, Z, (I 0)]), mS 4 T2, oN (.st 3 S5 T0)]
@[go_sem] def c57r7 : List GOp := [mT S1, mT S4, oT (.v (.ix 3 T1 T0)), oT (.ld (some 3) T0), oS 6 (.al 68 [Z, Z, (I 0)]), oN (.st 3 S6 T0)]
@[go_sem] def c57r8 : List GOp := [mT S2, oT (.ld (some 3) S5), oT (.ld (some 3) S6), oT (.cv T2 [T1, T0]), oS 12 (.v (.un .not T0))]
@[go_sem] def c57r9 : List GOp := [mS 3 (.c (.bool false))]
def c57s10 : SCode := (.seq (.ops c57r9) .ret)
@[go_sem] theorem c57s10eq : U c57s10 (.seq (.ops c57r9) .ret) := fun _ _ _ _ _ => rfl
def c57s11 : SCode := (.cond S12 c57s10 .skip)
@[go_sem] theorem c57s11eq : U c57s11 (.cond S12 c57s10 .skip) := fun _ _ _ _ _ => rfl
def c57s12 : SCode := (.seq (.ops c57r8) c57s11)
@[go_sem] theorem c57s12eq : U c57s12 (.seq (.ops c57r8) c57s11) := fun _ _ _ _ _ => rfl
def c57s13 : SCode := (.seq (.ops c57r7) c57s12)
@[go_sem] theorem c57s13eq : U c57s13 (.seq (.ops c57r7) c57s12) := fun _ _ _ _ _ => rfl
@[go_sem] def c57r14 : List GOp := [oT (.v (.bin .add S10 (C 1))), mS 10 T0]
def c57s15 : SCode := (.ops c57r14)
@[go_sem] theorem c57s15eq : U c57s15 (.ops c57r14) := fun _ _ _ _ _ => rfl
def c57s16 : SCode := (.seq (.block 1 (.seq (.ops c57r6) c57s13)) c57s15)
@[go_sem] theorem c57s16eq : U c57s16 (.seq (.block 1 (.seq (.ops c57r6) c57s13)) c57s15) := fun _ _ _ _ _ => rfl
def c57s17 : SCode := (.seq (.cond S11 .skip (.exit 0)) c57s16)
@[go_sem] theorem c57s17eq : U c57s17 (.seq (.cond S11 .skip (.exit 0)) c57s16) := fun _ _ _ _ _ => rfl
def c57s18 : SCode := (.seq (.ops c57r5) c57s17)
@[go_sem] theorem c57s18eq : U c57s18 (.seq (.ops c57r5) c57s17) := fun _ _ _ _ _ => rfl
def c57s19 : SCode := (.block 0 (.loop c57k c57s18))
@[go_sem] theorem c57s19eq : U c57s19 (.block 0 (.loop c57k c57s18)) := fun _ _ _ _ _ => rfl
@[go_sem] def c57r20 : List GOp := [mS 3 (.c (.bool true))]
def c57s21 : SCode := (.seq (.ops c57r20) .ret)
@[go_sem] theorem c57s21eq : U c57s21 (.seq (.ops c57r20) .ret) := fun _ _ _ _ _ => rfl
def c57s22 : SCode := (.seq (.seq (.ops c57r4) c57s19) c57s21)
@[go_sem] theorem c57s22eq : U c57s22 (.seq (.seq (.ops c57r4) c57s19) c57s21) := fun _ _ _ _ _ => rfl
def c57s23 : SCode := (.seq (.seq (.ops c57r1) (.cond S7 c57s3 .skip)) c57s22)
@[go_sem] theorem c57s23eq : U c57s23 (.seq (.seq (.ops c57r1) (.cond S7 c57s3 .skip)) c57s22) := fun _ _ _ _ _ => rfl
def c57 : Gx.Fn := ⟨32, c57k, (.seq (.ops c57r0) c57s23), [(.tmp S3)]⟩
theorem c57ok : stripFn Tryz.prog c57k Tryz.f57 = some c57 := by kernel_rfl

/- frame.sameDigest -/
@[go_sem] def c58k : List Nat := [0, 1, 2, 3, 4]
@[go_sem] def c58r0 : List GOp := [oS 2 (.bx 68 S0), oS 3 (.bx 68 S1), mS 4 (.c (.bool false))]
@[go_sem] def c58r1 : List GOp := [fT 2 S2, lT T0, fT 2 S3, lT T0, oT (.v (.bin .eql T2 T0)), mT T0, (.op (some (T0, (true, true))) .t (.v (.fa 0 S2))), (.op (some (T1, (true, false))) .t (.ld none T0)), (.op (some (T2, (true, false))) .t (.v (.fa 0 S3))), (.op (some (T3, (true, false))) .t (.ld none T0)), (.op (some (T4, (true, false))) .t (.call 109 [T2, T0])), oT (.v (.pick T5 T0 (.c (.bool false)))), mT T0, (.op (some (T0, (true, true))) .t (.v (.fa 1 S2))), (.op (some (T1, (true, false))) .t (.ld none T0)), (.op (some (T2, (true, false))) .t (.v (.fa 1 S3))), (.op (some (T3, (true, false))) .t (.ld none T0)), (.op (some (T4, (true, false))) .t (.call 109 [T2, T0])), oT (.v (.pick T5 T0 (.c (.bool false)))), mS 4 T0]
def c58s2 : SCode := (.seq (.ops c58r1) .ret)
@[go_sem] theorem c58s2eq : U c58s2 (.seq (.ops c58r1) .ret) := fun _ _ _ _ _ => rfl
def c58 : Gx.Fn := ⟨24, c58k, (.seq (.ops c58r0) c58s2), [(.tmp S4)]⟩
theorem c58ok : stripFn Tryz.prog c58k Tryz.f58 = some c58 := by kernel_rfl

/- slices.Equal[[]string,string] -/
@[go_sem] def c59k : List Nat := [0, 1, 4, 5, 10, 12, 13, 14, 24]
@[go_sem] def c59r0 : List GOp := [mS 2 (.c (.bool false))]
@[go_sem] def c59r1 : List GOp := [mT S0, nT T0, mT S1, nT T0, oS 4 (.v (.bin .neq T2 T0))]
@[go_sem] def c59r2 : List GOp := [mS 2 (.c (.bool false))]
def c59s3 : SCode := (.seq (.ops c59r2) .ret)
@[go_sem] theorem c59s3eq : U c59s3 (.seq (.ops c59r2) .ret) := fun _ _ _ _ _ => rfl
@[go_sem] def c59r4 : List GOp := [mT S0, oS 5 (.v (.len T0)), mS 6 (C 0)]
@[go_sem] def c59r5 : List GOp := [oS 7 (.v (.bin .lss S6 S5))]
@[go_sem] def c59r6 : List GOp := [mT S6, mS 3 T0]
@[go_sem] def c59r7 : List GOp := [mT S0, mT S3, oT (.v (.ix 1 T1 T0)), lT T0, mT S1, mT S3, oT (.v (.ix 1 T1 T0)), lT T0, oS 8 (.v (.bin .neq T4 T0))]
@[go_sem] def c59r8 : List GOp := [mS 2 (.c (.bool false))]
def c59s9 : SCode := (.seq (.ops c59r8) .ret)
@[go_sem] theorem c59s9eq : U c59s9 (.seq (.ops c59r8) .ret) := fun _ _ _ _ _ => rfl
def c59s10 : SCode := (.seq (.dq c59r7) (.cond S8 c59s9 .skip))
@[go_sem] theorem c59s10eq : U c59s10 (.seq (.dq c59r7) (.cond S8 c59s9 .skip)) := fun _ _ _ _ _ => rfl
@[go_sem] def c59r11 : List GOp := [oT (.v (.bin .add S6 (C 1))), mS 6 T0]
def c59s12 : SCode := (.ops c59r11)
@[go_sem] theorem c59s12eq : U c59s12 (.ops c59r11) := fun _ _ _ _ _ => rfl
def c59s13 : SCode := (.seq (.block 1 (.seq (.ops c59r6) c59s10)) c59s12)
@[go_sem] theorem c59s13eq : U c59s13 (.seq (.block 1 (.seq (.ops c59r6) c59s10)) c59s12) := fun _ _ _ _ _ => rfl
def c59s14 : SCode := (.seq (.cond S7 .skip (.exit 0)) c59s13)
@[go_sem] theorem c59s14eq : U c59s14 (.seq (.cond S7 .skip (.exit 0)) c59s13) := fun _ _ _ _ _ => rfl
def c59s15 : SCode := (.seq (.ops c59r5) c59s14)
@[go_sem] theorem c59s15eq : U c59s15 (.seq (.ops c59r5) c59s14) := fun _ _ _ _ _ => rfl
def c59s16 : SCode := (.block 0 (.loop c59k c59s15))
@[go_sem] theorem c59s16eq : U c59s16 (.block 0 (.loop c59k c59s15)) := fun _ _ _ _ _ => rfl
@[go_sem] def c59r17 : List GOp := [mS 2 (.c (.bool true))]
def c59s18 : SCode := (.seq (.ops c59r17) .ret)
@[go_sem] theorem c59s18eq : U c59s18 (.seq (.ops c59r17) .ret) := fun _ _ _ _ _ => rfl
def c59s19 : SCode := (.seq (.seq (.ops c59r4) c59s16) c59s18)
@[go_sem] theorem c59s19eq : U c59s19 (.seq (.seq (.ops c59r4) c59s16) c59s18) := fun _ _ _ _ _ => rfl
def c59s20 : SCode := (.seq (.seq (.ops c59r1) (.cond S4 c59s3 .skip)) c59s19)
@[go_sem] theorem c59s20eq : U c59s20 (.seq (.seq (.ops c59r1) (.cond S4 c59s3 .skip)) c59s19) := fun _ _ _ _ _ => rfl
def c59 : Gx.Fn := ⟨26, c59k, (.seq (.ops c59r0) c59s20), [(.tmp S2)]⟩
theorem c59ok : stripFn Tryz.prog c59k Tryz.f59 = some c59 := by kernel_rfl

/- slices.EqualFunc[[]api.Item,[]api.Item,api.Item,api.Item] -/
@[go_sem] def c60k : List Nat := [0, 1, 2, 6, 7, 8, 9, 14, 15, 16, 17, 18, 30]
@[go_sem] def c60r0 : List GOp := [mS 3 (.c (.bool false))]
@[go_sem] def c60r1 : List GOp := [mT S0, nT T0, mT S1, nT T0, oS 7 (.v (.bin .neq T2 T0))]
@[go_sem] def c60r2 : List GOp := [mS 3 (.c (.bool false))]
def c60s3 : SCode := (.seq (.ops c60r2) .ret)
@[go_sem] theorem c60s3eq : U c60s3 (.seq (.ops c60r2) .ret) := fun _ _ _ _ _ => rfl
@[go_sem] def c60r4 : List GOp := [mS 8 S0, oS 9 (.v (.len S8)), mS 10 (C 0)]
@[go_sem] def c60r5 : List GOp := [oS 11 (.v (.bin .lss S10 S9))]
@[go_sem] def c60r6 : List GOp := [mT S10, oT (.v (.ix 4 S8 S10)), oT (.ld (some 4) T0), oS 5 (.al 71 [(.string ⟨⟨[]⟩⟩), (.bool false), Z, Z]), mS 4 T2, oN (.st 4 S5 T0)]
@[go_sem] def c60r7 : List GOp := [mT S1, mT S4, oT (.v (.ix 4 T1 T0)), oT (.ld (some 4) T0), oS 6 (.al 71 [(.string ⟨⟨[]⟩⟩), (.bool false), Z, Z]), oN (.st 4 S6 T0)]
@[go_sem] def c60r8 : List GOp := [mT S2, oT (.ld (some 4) S5), oT (.ld (some 4) S6), oT (.cv T2 [T1, T0]), oS 12 (.v (.un .not T0))]
@[go_sem] def c60r9 : List GOp := [mS 3 (.c (.bool false))]
def c60s10 : SCode := (.seq (.ops c60r9) .ret)
@[go_sem] theorem c60s10eq : U c60s10 (.seq (.ops c60r9) .ret) := fun _ _ _ _ _ => rfl
def c60s11 : SCode := (.cond S12 c60s10 .skip)
@[go_sem] theorem c60s11eq : U c60s11 (.cond S12 c60s10 .skip) := fun _ _ _ _ _ => rfl
def c60s12 : SCode := (.seq (.ops c60r8) c60s11)
@[go_sem] theorem c60s12eq : U c60s12 (.seq (.ops c60r8) c60s11) := fun _ _ _ _ _ => rfl
def c60s13 : SCode := (.seq (.ops c60r7) c60s12)
@[go_sem] theorem c60s13eq : U c60s13 (.seq (.ops c60r7) c60s12) := fun _ _ _ _ _ => rfl
@[go_sem] def c60r14 : List GOp := [oT (.v (.bin .add S10 (C 1))), mS 10 T0]
def c60s15 : SCode := (.ops c60r14)
@[go_sem] theorem c60s15eq : U c60s15 (.ops c60r14) := fun _ _ _ _ _ => rfl
def c60s16 : SCode := (.seq (.block 1 (.seq (.ops c60r6) c60s13)) c60s15)
@[go_sem] theorem c60s16eq : U c60s16 (.seq (.block 1 (.seq (.ops c60r6) c60s13)) c60s15) := fun _ _ _ _ _ => rfl
def c60s17 : SCode := (.seq (.cond S11 .skip (.exit 0)) c60s16)
@[go_sem] theorem c60s17eq : U c60s17 (.seq (.cond S11 .skip (.exit 0)) c60s16) := fun _ _ _ _ _ => rfl
def c60s18 : SCode := (.seq (.ops c60r5) c60s17)
@[go_sem] theorem c60s18eq : U c60s18 (.seq (.ops c60r5) c60s17) := fun _ _ _ _ _ => rfl
def c60s19 : SCode := (.block 0 (.loop c60k c60s18))
@[go_sem] theorem c60s19eq : U c60s19 (.block 0 (.loop c60k c60s18)) := fun _ _ _ _ _ => rfl
@[go_sem] def c60r20 : List GOp := [mS 3 (.c (.bool true))]
def c60s21 : SCode := (.seq (.ops c60r20) .ret)
@[go_sem] theorem c60s21eq : U c60s21 (.seq (.ops c60r20) .ret) := fun _ _ _ _ _ => rfl
def c60s22 : SCode := (.seq (.seq (.ops c60r4) c60s19) c60s21)
@[go_sem] theorem c60s22eq : U c60s22 (.seq (.seq (.ops c60r4) c60s19) c60s21) := fun _ _ _ _ _ => rfl
def c60s23 : SCode := (.seq (.seq (.ops c60r1) (.cond S7 c60s3 .skip)) c60s22)
@[go_sem] theorem c60s23eq : U c60s23 (.seq (.seq (.ops c60r1) (.cond S7 c60s3 .skip)) c60s22) := fun _ _ _ _ _ => rfl
def c60 : Gx.Fn := ⟨32, c60k, (.seq (.ops c60r0) c60s23), [(.tmp S3)]⟩
theorem c60ok : stripFn Tryz.prog c60k Tryz.f60 = some c60 := by kernel_rfl

/- frame.sameItem -/
@[go_sem] def c61k : List Nat := [0, 1, 2, 3, 4]
@[go_sem] def c61r0 : List GOp := [oS 2 (.bx 71 S0), oS 3 (.bx 71 S1), mS 4 (.c (.bool false))]
@[go_sem] def c61r1 : List GOp := [fT 0 S2, lT T0, fT 0 S3, lT T0, oT (.v (.bin .eql T2 T0)), mT T0, (.sel T0 true [(.op (.v (.fa 1 S2))), (.op (.ld none T0)), (.op (.v (.fa 1 S3))), (.op (.ld none T0)), (.op (.v (.beq false T2 T0)))] .t T0 (.c (.bool false))), mT T0, (.op (some (T0, (true, true))) .t (.v (.fa 2 S2))), (.op (some (T1, (true, false))) .t (.ld none T0)), (.op (some (T2, (true, false))) .t (.v (.fa 2 S3))), (.op (some (T3, (true, false))) .t (.ld none T0)), (.op (some (T4, (true, false))) .t (.call 109 [T2, T0])), oT (.v (.pick T5 T0 (.c (.bool false)))), mT T0, (.op (some (T0, (true, true))) .t (.v (.fa 3 S2))), (.op (some (T1, (true, false))) .t (.ld none T0)), (.op (some (T2, (true, false))) .t (.v (.fa 3 S3))), (.op (some (T3, (true, false))) .t (.ld none T0)), (.op (some (T4, (true, false))) .t (.call 114 [T2, T0, (.f 109)])), oT (.v (.pick T5 T0 (.c (.bool false)))), mS 4 T0]
def c61s2 : SCode := (.seq (.ops c61r1) .ret)
@[go_sem] theorem c61s2eq : U c61s2 (.seq (.ops c61r1) .ret) := fun _ _ _ _ _ => rfl
def c61 : Gx.Fn := ⟨31, c61k, (.seq (.ops c61r0) c61s2), [(.tmp S4)]⟩
theorem c61ok : stripFn Tryz.prog c61k Tryz.f61 = some c61 := by kernel_rfl

/- slices.Equal[[]byte,byte] -/
@[go_sem] def c109k : List Nat := [0, 1, 4, 5, 10, 12, 13, 14, 24]
@[go_sem] def c109r0 : List GOp := [mS 2 (.c (.bool false))]
@[go_sem] def c109r1 : List GOp := [mT S0, nT T0, mT S1, nT T0, oS 4 (.v (.bin .neq T2 T0))]
@[go_sem] def c109r2 : List GOp := [mS 2 (.c (.bool false))]
def c109s3 : SCode := (.seq (.ops c109r2) .ret)
@[go_sem] theorem c109s3eq : U c109s3 (.seq (.ops c109r2) .ret) := fun _ _ _ _ _ => rfl
@[go_sem] def c109r4 : List GOp := [mT S0, oS 5 (.v (.len T0)), mS 6 (C 0)]
@[go_sem] def c109r5 : List GOp := [oS 7 (.v (.bin .lss S6 S5))]
@[go_sem] def c109r6 : List GOp := [mT S6, mS 3 T0]
@[go_sem] def c109r7 : List GOp := [mT S0, mT S3, oT (.v (.ix 1 T1 T0)), lT T0, mT S1, mT S3, oT (.v (.ix 1 T1 T0)), lT T0, oS 8 (.v (.bin .neq T4 T0))]
@[go_sem] def c109r8 : List GOp := [mS 2 (.c (.bool false))]
def c109s9 : SCode := (.seq (.ops c109r8) .ret)
@[go_sem] theorem c109s9eq : U c109s9 (.seq (.ops c109r8) .ret) := fun _ _ _ _ _ => rfl
def c109s10 : SCode := (.seq (.dq c109r7) (.cond S8 c109s9 .skip))
@[go_sem] theorem c109s10eq : U c109s10 (.seq (.dq c109r7) (.cond S8 c109s9 .skip)) := fun _ _ _ _ _ => rfl
@[go_sem] def c109r11 : List GOp := [oT (.v (.bin .add S6 (C 1))), mS 6 T0]
def c109s12 : SCode := (.ops c109r11)
@[go_sem] theorem c109s12eq : U c109s12 (.ops c109r11) := fun _ _ _ _ _ => rfl
def c109s13 : SCode := (.seq (.block 1 (.seq (.ops c109r6) c109s10)) c109s12)
@[go_sem] theorem c109s13eq : U c109s13 (.seq (.block 1 (.seq (.ops c109r6) c109s10)) c109s12) := fun _ _ _ _ _ => rfl
def c109s14 : SCode := (.seq (.cond S7 .skip (.exit 0)) c109s13)
@[go_sem] theorem c109s14eq : U c109s14 (.seq (.cond S7 .skip (.exit 0)) c109s13) := fun _ _ _ _ _ => rfl
def c109s15 : SCode := (.seq (.ops c109r5) c109s14)
@[go_sem] theorem c109s15eq : U c109s15 (.seq (.ops c109r5) c109s14) := fun _ _ _ _ _ => rfl
def c109s16 : SCode := (.block 0 (.loop c109k c109s15))
@[go_sem] theorem c109s16eq : U c109s16 (.block 0 (.loop c109k c109s15)) := fun _ _ _ _ _ => rfl
@[go_sem] def c109r17 : List GOp := [mS 2 (.c (.bool true))]
def c109s18 : SCode := (.seq (.ops c109r17) .ret)
@[go_sem] theorem c109s18eq : U c109s18 (.seq (.ops c109r17) .ret) := fun _ _ _ _ _ => rfl
def c109s19 : SCode := (.seq (.seq (.ops c109r4) c109s16) c109s18)
@[go_sem] theorem c109s19eq : U c109s19 (.seq (.seq (.ops c109r4) c109s16) c109s18) := fun _ _ _ _ _ => rfl
def c109s20 : SCode := (.seq (.seq (.ops c109r1) (.cond S4 c109s3 .skip)) c109s19)
@[go_sem] theorem c109s20eq : U c109s20 (.seq (.seq (.ops c109r1) (.cond S4 c109s3 .skip)) c109s19) := fun _ _ _ _ _ => rfl
def c109 : Gx.Fn := ⟨26, c109k, (.seq (.ops c109r0) c109s20), [(.tmp S2)]⟩
theorem c109ok : stripFn Tryz.prog c109k Tryz.f109 = some c109 := by kernel_rfl

/- slices.EqualFunc[[]api.Certificate,[]api.Certificate,api.Certificate,api.Certificate] -/
@[go_sem] def c110k : List Nat := [0, 1, 2, 6, 7, 8, 9, 14, 15, 16, 17, 18, 30]
@[go_sem] def c110r0 : List GOp := [mS 3 (.c (.bool false))]
@[go_sem] def c110r1 : List GOp := [mT S0, nT T0, mT S1, nT T0, oS 7 (.v (.bin .neq T2 T0))]
@[go_sem] def c110r2 : List GOp := [mS 3 (.c (.bool false))]
def c110s3 : SCode := (.seq (.ops c110r2) .ret)
@[go_sem] theorem c110s3eq : U c110s3 (.seq (.ops c110r2) .ret) := fun _ _ _ _ _ => rfl
@[go_sem] def c110r4 : List GOp := [mS 8 S0, oS 9 (.v (.len S8)), mS 10 (C 0)]
@[go_sem] def c110r5 : List GOp := [oS 11 (.v (.bin .lss S10 S9))]
@[go_sem] def c110r6 : List GOp := [mT S10, oT (.v (.ix 9 S8 S10)), oT (.ld (some 9) T0), oS 5 (.al 64 [(I 0), (I 0), (I 0), Z, Z, Z, (I 0), Z, Z]), mS 4 T2, oN (.st 9 S5 T0)]
@[go_sem] def c110r7 : List GOp := [mT S1, mT S4, oT (.v (.ix 9 T1 T0)), oT (.ld (some 9) T0), oS 6 (.al 64 [(I 0), (I 0), (I 0), Z, Z, Z, (I 0), Z, Z]), oN (.st 9 S6 T0)]
@[go_sem] def c110r8 : List GOp := [mT S2, oT (.ld (some 9) S5), oT (.ld (some 9) S6), oT (.cv T2 [T1, T0]), oS 12 (.v (.un .not T0))]
@[go_sem] def c110r9 : List GOp := [mS 3 (.c (.bool false))]
def c110s10 : SCode := (.seq (.ops c110r9) .ret)
@[go_sem] theorem c110s10eq : U c110s10 (.seq (.ops c110r9) .ret) := fun _ _ _ _ _ => rfl
def c110s11 : SCode := (.cond S12 c110s10 .skip)
@[go_sem] theorem c110s11eq : U c110s11 (.cond S12 c110s10 .skip) := fun _ _ _ _ _ => rfl
def c110s12 : SCode := (.seq (.ops c110r8) c110s11)
@[go_sem] theorem c110s12eq : U c110s12 (.seq (.ops c110r8) c110s11) := fun _ _ _ _ _ => rfl
def c110s13 : SCode := (.seq (.ops c110r7) c110s12)
@[go_sem] theorem c110s13eq : U c110s13 (.seq (.ops c110r7) c110s12) := fun _ _ _ _ _ => rfl
@[go_sem] def c110r14 : List GOp := [oT (.v (.bin .add S10 (C 1))), mS 10 T0]
def c110s15 : SCode := (.ops c110r14)
@[go_sem] theorem c110s15eq : U c110s15 (.ops c110r14) := fun _ _ _ _ _ => rfl
def c110s16 : SCode := (.seq (.block 1 (.seq (.ops c110r6) c110s13)) c110s15)
@[go_sem] theorem c110s16eq : U c110s16 (.seq (.block 1 (.seq (.ops c110r6) c110s13)) c110s15) := fun _ _ _ _ _ => rfl
def c110s17 : SCode := (.seq (.cond S11 .skip (.exit 0)) c110s16)
@[go_sem] theorem c110s17eq : U c110s17 (.seq (.cond S11 .skip (.exit 0)) c110s16) := fun _ _ _ _ _ => rfl
def c110s18 : SCode := (.seq (.ops c110r5) c110s17)
@[go_sem] theorem c110s18eq : U c110s18 (.seq (.ops c110r5) c110s17) := fun _ _ _ _ _ => rfl
def c110s19 : SCode := (.block 0 (.loop c110k c110s18))
@[go_sem] theorem c110s19eq : U c110s19 (.block 0 (.loop c110k c110s18)) := fun _ _ _ _ _ => rfl
@[go_sem] def c110r20 : List GOp := [mS 3 (.c (.bool true))]
def c110s21 : SCode := (.seq (.ops c110r20) .ret)
@[go_sem] theorem c110s21eq : U c110s21 (.seq (.ops c110r20) .ret) := fun _ _ _ _ _ => rfl
def c110s22 : SCode := (.seq (.seq (.ops c110r4) c110s19) c110s21)
@[go_sem] theorem c110s22eq : U c110s22 (.seq (.seq (.ops c110r4) c110s19) c110s21) := fun _ _ _ _ _ => rfl
def c110s23 : SCode := (.seq (.seq (.ops c110r1) (.cond S7 c110s3 .skip)) c110s22)
@[go_sem] theorem c110s23eq : U c110s23 (.seq (.seq (.ops c110r1) (.cond S7 c110s3 .skip)) c110s22) := fun _ _ _ _ _ => rfl
def c110 : Gx.Fn := ⟨32, c110k, (.seq (.ops c110r0) c110s23), [(.tmp S3)]⟩
theorem c110ok : stripFn Tryz.prog c110k Tryz.f110 = some c110 := by kernel_rfl

/- frame.sameCertificate -/
@[go_sem] def c111k : List Nat := [0, 1, 2, 3, 4, 5, 6]
@[go_sem] def c111r0 : List GOp := [oS 2 (.bx 64 S0), oS 3 (.bx 64 S1), mS 4 (.c (.bool false))]
@[go_sem] def c111d1 : DT := (rf 0 S2 [6, 7] (.rd none .t (.ld (some 8) T0) [6, 7] (rf 0 S3 [7] (.rd none .t (.ld (some 8) T0) [7] (.br (.ef 4 none (.s 5) (.al 62 [(I 0), (I 0), (I 0), Z, Z, Z, (I 0), Z]) (.ef 5 none (.s 6) (.al 62 [(I 0), (I 0), (I 0), Z, Z, Z, (I 0), Z]) (.ef 6 none .no (.st 8 S5 T2) (.ef 7 none .no (.st 8 S6 T0) .done)))) (.ef 5 none (.s 6) (.al 62 [(I 0), (I 0), (I 0), Z, Z, Z, (I 0), Z]) (.ef 4 none (.s 5) (.al 62 [(I 0), (I 0), (I 0), Z, Z, Z, (I 0), Z]) (.ef 6 none .no (.st 8 S5 T2) (.ef 7 none .no (.st 8 S6 T0) .done)))))))))
@[go_sem] def c111r2 : List GOp := [fT 0 S5, oT (.ld (some 3) T0), fT 0 S6, oT (.ld (some 3) T0), oT (.v (.steq false [(0, .i), (1, .i), (2, .i)] T2 T0)), mT T0, (.sel T0 true [(.op (.v (.fa 6 S5))), (.op (.ld none T0)), (.op (.v (.fa 6 S6))), (.op (.ld none T0)), (.op (.v (.bin .eql T2 T0)))] .t T0 (.c (.bool false))), mT T0, (.op (some (T0, (true, true))) .t (.v (.fa 7 S5))), (.op (some (T1, (true, false))) .t (.ld none T0)), (.op (some (T2, (true, false))) .t (.v (.fa 7 S6))), (.op (some (T3, (true, false))) .t (.ld none T0)), (.op (some (T4, (true, false))) .t (.call 109 [T2, T0])), oT (.v (.pick T5 T0 (.c (.bool false)))), mT T0, (.op (some (T0, (true, true))) .t (.v (.fa 3 S5))), (.op (some (T1, (true, false))) .t (.ld none T0)), (.op (some (T2, (true, false))) .t (.v (.fa 3 S6))), (.op (some (T3, (true, false))) .t (.ld none T0)), (.op (some (T4, (true, false))) .t (.call 47 [T2, T0, (.f 48)])), oT (.v (.pick T5 T0 (.c (.bool false)))), mT T0, (.op (some (T0, (true, true))) .t (.v (.fa 4 S5))), (.op (some (T1, (true, false))) .t (.ld none T0)), (.op (some (T2, (true, false))) .t (.v (.fa 4 S6))), (.op (some (T3, (true, false))) .t (.ld none T0)), (.op (some (T4, (true, false))) .t (.call 51 [T2, T0, (.f 52)])), oT (.v (.pick T5 T0 (.c (.bool false)))), mT T0, (.op (some (T0, (true, true))) .t (.v (.fa 5 S5))), (.op (some (T1, (true, false))) .t (.ld none T0)), (.op (some (T2, (true, false))) .t (.v (.fa 5 S6))), (.op (some (T3, (true, false))) .t (.ld none T0)), (.op (some (T4, (true, false))) .t (.call 51 [T2, T0, (.f 52)])), oT (.v (.pick T5 T0 (.c (.bool false)))), mT T0, (.op (some (T0, (true, true))) .t (.v (.fa 8 S2))), (.op (some (T1, (true, false))) .t (.ld none T0)), (.op (some (T2, (true, false))) .t (.v (.fa 8 S3))), (.op (some (T3, (true, false))) .t (.ld none T0)), (.op (some (T4, (true, false))) .t (.call 53 [T2, T0, (.f 54)])), oT (.v (.pick T5 T0 (.c (.bool false)))), mS 4 T0]
def c111s3 : SCode := (.seq (.ops c111r2) .ret)
@[go_sem] theorem c111s3eq : U c111s3 (.seq (.ops c111r2) .ret) := fun _ _ _ _ _ => rfl
def c111s4 : SCode := (.seq (.de c111d1) c111s3)
@[go_sem] theorem c111s4eq : U c111s4 (.seq (.de c111d1) c111s3) := fun _ _ _ _ _ => rfl
def c111 : Gx.Fn := ⟨58, c111k, (.seq (.ops c111r0) c111s4), [(.tmp S4)]⟩
theorem c111ok : stripFn Tryz.prog c111k Tryz.f111 = some c111 := by kernel_rfl

/- slices.EqualFunc[[]api.Write,[]api.Write,api.Write,api.Write] -/
@[go_sem] def c112k : List Nat := [0, 1, 2, 6, 7, 8, 9, 14, 15, 16, 17, 18, 30]
@[go_sem] def c112r0 : List GOp := [mS 3 (.c (.bool false))]
@[go_sem] def c112r1 : List GOp := [mT S0, nT T0, mT S1, nT T0, oS 7 (.v (.bin .neq T2 T0))]
@[go_sem] def c112r2 : List GOp := [mS 3 (.c (.bool false))]
def c112s3 : SCode := (.seq (.ops c112r2) .ret)
@[go_sem] theorem c112s3eq : U c112s3 (.seq (.ops c112r2) .ret) := fun _ _ _ _ _ => rfl
@[go_sem] def c112r4 : List GOp := [mS 8 S0, oS 9 (.v (.len S8)), mS 10 (C 0)]
@[go_sem] def c112r5 : List GOp := [oS 11 (.v (.bin .lss S10 S9))]
@[go_sem] def c112r6 : List GOp := [mT S10, oT (.v (.ix 2 S8 S10)), oT (.ld (some 2) T0), oS 5 (.al 113 [(.string ⟨⟨[]⟩⟩), Z]), mS 4 T2, oN (.st 2 S5 T0)]
@[go_sem] def c112r7 : List GOp := [mT S1, mT S4, oT (.v (.ix 2 T1 T0)), oT (.ld (some 2) T0), oS 6 (.al 113 [(.string ⟨⟨[]⟩⟩), Z]), oN (.st 2 S6 T0)]
@[go_sem] def c112r8 : List GOp := [mT S2, oT (.ld (some 2) S5), oT (.ld (some 2) S6), oT (.cv T2 [T1, T0]), oS 12 (.v (.un .not T0))]
@[go_sem] def c112r9 : List GOp := [mS 3 (.c (.bool false))]
def c112s10 : SCode := (.seq (.ops c112r9) .ret)
@[go_sem] theorem c112s10eq : U c112s10 (.seq (.ops c112r9) .ret) := fun _ _ _ _ _ => rfl
def c112s11 : SCode := (.cond S12 c112s10 .skip)
@[go_sem] theorem c112s11eq : U c112s11 (.cond S12 c112s10 .skip) := fun _ _ _ _ _ => rfl
def c112s12 : SCode := (.seq (.ops c112r8) c112s11)
@[go_sem] theorem c112s12eq : U c112s12 (.seq (.ops c112r8) c112s11) := fun _ _ _ _ _ => rfl
def c112s13 : SCode := (.seq (.ops c112r7) c112s12)
@[go_sem] theorem c112s13eq : U c112s13 (.seq (.ops c112r7) c112s12) := fun _ _ _ _ _ => rfl
@[go_sem] def c112r14 : List GOp := [oT (.v (.bin .add S10 (C 1))), mS 10 T0]
def c112s15 : SCode := (.ops c112r14)
@[go_sem] theorem c112s15eq : U c112s15 (.ops c112r14) := fun _ _ _ _ _ => rfl
def c112s16 : SCode := (.seq (.block 1 (.seq (.ops c112r6) c112s13)) c112s15)
@[go_sem] theorem c112s16eq : U c112s16 (.seq (.block 1 (.seq (.ops c112r6) c112s13)) c112s15) := fun _ _ _ _ _ => rfl
def c112s17 : SCode := (.seq (.cond S11 .skip (.exit 0)) c112s16)
@[go_sem] theorem c112s17eq : U c112s17 (.seq (.cond S11 .skip (.exit 0)) c112s16) := fun _ _ _ _ _ => rfl
def c112s18 : SCode := (.seq (.ops c112r5) c112s17)
@[go_sem] theorem c112s18eq : U c112s18 (.seq (.ops c112r5) c112s17) := fun _ _ _ _ _ => rfl
def c112s19 : SCode := (.block 0 (.loop c112k c112s18))
@[go_sem] theorem c112s19eq : U c112s19 (.block 0 (.loop c112k c112s18)) := fun _ _ _ _ _ => rfl
@[go_sem] def c112r20 : List GOp := [mS 3 (.c (.bool true))]
def c112s21 : SCode := (.seq (.ops c112r20) .ret)
@[go_sem] theorem c112s21eq : U c112s21 (.seq (.ops c112r20) .ret) := fun _ _ _ _ _ => rfl
def c112s22 : SCode := (.seq (.seq (.ops c112r4) c112s19) c112s21)
@[go_sem] theorem c112s22eq : U c112s22 (.seq (.seq (.ops c112r4) c112s19) c112s21) := fun _ _ _ _ _ => rfl
def c112s23 : SCode := (.seq (.seq (.ops c112r1) (.cond S7 c112s3 .skip)) c112s22)
@[go_sem] theorem c112s23eq : U c112s23 (.seq (.seq (.ops c112r1) (.cond S7 c112s3 .skip)) c112s22) := fun _ _ _ _ _ => rfl
def c112 : Gx.Fn := ⟨32, c112k, (.seq (.ops c112r0) c112s23), [(.tmp S3)]⟩
theorem c112ok : stripFn Tryz.prog c112k Tryz.f112 = some c112 := by kernel_rfl

/- frame.sameWrite -/
@[go_sem] def c113k : List Nat := [0, 1, 2, 3, 4]
@[go_sem] def c113r0 : List GOp := [oS 2 (.bx 113 S0), oS 3 (.bx 113 S1), mS 4 (.c (.bool false))]
@[go_sem] def c113r1 : List GOp := [fT 0 S2, lT T0, fT 0 S3, lT T0, oT (.v (.bin .eql T2 T0)), mT T0, (.op (some (T0, (true, true))) .t (.v (.fa 1 S2))), (.op (some (T1, (true, false))) .t (.ld none T0)), (.op (some (T2, (true, false))) .t (.v (.fa 1 S3))), (.op (some (T3, (true, false))) .t (.ld none T0)), (.op (some (T4, (true, false))) .t (.call 109 [T2, T0])), oT (.v (.pick T5 T0 (.c (.bool false)))), mS 4 T0]
def c113s2 : SCode := (.seq (.ops c113r1) .ret)
@[go_sem] theorem c113s2eq : U c113s2 (.seq (.ops c113r1) .ret) := fun _ _ _ _ _ => rfl
def c113 : Gx.Fn := ⟨17, c113k, (.seq (.ops c113r0) c113s2), [(.tmp S4)]⟩
theorem c113ok : stripFn Tryz.prog c113k Tryz.f113 = some c113 := by kernel_rfl

/- slices.EqualFunc[[][]byte,[][]byte,[]byte,[]byte] -/
@[go_sem] def c114k : List Nat := [0, 1, 2, 6, 7, 8, 9, 14, 15, 16, 17, 18, 30]
@[go_sem] def c114r0 : List GOp := [mS 3 (.c (.bool false))]
@[go_sem] def c114r1 : List GOp := [mT S0, nT T0, mT S1, nT T0, oS 7 (.v (.bin .neq T2 T0))]
@[go_sem] def c114r2 : List GOp := [mS 3 (.c (.bool false))]
def c114s3 : SCode := (.seq (.ops c114r2) .ret)
@[go_sem] theorem c114s3eq : U c114s3 (.seq (.ops c114r2) .ret) := fun _ _ _ _ _ => rfl
@[go_sem] def c114r4 : List GOp := [mS 8 S0, oS 9 (.v (.len S8)), mS 10 (C 0)]
@[go_sem] def c114r5 : List GOp := [oS 11 (.v (.bin .lss S10 S9))]
@[go_sem] def c114r6 : List GOp := [mT S10, oT (.v (.ix 1 S8 S10)), lT T0, mS 4 T2, mS 5 T0]
@[go_sem] def c114r7 : List GOp := [mT S1, mT S4, oT (.v (.ix 1 T1 T0)), lT T0, mS 6 T0]
@[go_sem] def c114r8 : List GOp := [mT S2, mT S5, mT S6, oT (.cv T2 [T1, T0]), oS 12 (.v (.un .not T0))]
@[go_sem] def c114r9 : List GOp := [mS 3 (.c (.bool false))]
def c114s10 : SCode := (.seq (.ops c114r9) .ret)
@[go_sem] theorem c114s10eq : U c114s10 (.seq (.ops c114r9) .ret) := fun _ _ _ _ _ => rfl
def c114s11 : SCode := (.cond S12 c114s10 .skip)
@[go_sem] theorem c114s11eq : U c114s11 (.cond S12 c114s10 .skip) := fun _ _ _ _ _ => rfl
def c114s12 : SCode := (.seq (.ops c114r8) c114s11)
@[go_sem] theorem c114s12eq : U c114s12 (.seq (.ops c114r8) c114s11) := fun _ _ _ _ _ => rfl
def c114s13 : SCode := (.seq (.ops c114r7) c114s12)
@[go_sem] theorem c114s13eq : U c114s13 (.seq (.ops c114r7) c114s12) := fun _ _ _ _ _ => rfl
@[go_sem] def c114r14 : List GOp := [oT (.v (.bin .add S10 (C 1))), mS 10 T0]
def c114s15 : SCode := (.ops c114r14)
@[go_sem] theorem c114s15eq : U c114s15 (.ops c114r14) := fun _ _ _ _ _ => rfl
def c114s16 : SCode := (.seq (.block 1 (.seq (.ops c114r6) c114s13)) c114s15)
@[go_sem] theorem c114s16eq : U c114s16 (.seq (.block 1 (.seq (.ops c114r6) c114s13)) c114s15) := fun _ _ _ _ _ => rfl
def c114s17 : SCode := (.seq (.cond S11 .skip (.exit 0)) c114s16)
@[go_sem] theorem c114s17eq : U c114s17 (.seq (.cond S11 .skip (.exit 0)) c114s16) := fun _ _ _ _ _ => rfl
def c114s18 : SCode := (.seq (.ops c114r5) c114s17)
@[go_sem] theorem c114s18eq : U c114s18 (.seq (.ops c114r5) c114s17) := fun _ _ _ _ _ => rfl
def c114s19 : SCode := (.block 0 (.loop c114k c114s18))
@[go_sem] theorem c114s19eq : U c114s19 (.block 0 (.loop c114k c114s18)) := fun _ _ _ _ _ => rfl
@[go_sem] def c114r20 : List GOp := [mS 3 (.c (.bool true))]
def c114s21 : SCode := (.seq (.ops c114r20) .ret)
@[go_sem] theorem c114s21eq : U c114s21 (.seq (.ops c114r20) .ret) := fun _ _ _ _ _ => rfl
def c114s22 : SCode := (.seq (.seq (.ops c114r4) c114s19) c114s21)
@[go_sem] theorem c114s22eq : U c114s22 (.seq (.seq (.ops c114r4) c114s19) c114s21) := fun _ _ _ _ _ => rfl
def c114s23 : SCode := (.seq (.seq (.ops c114r1) (.cond S7 c114s3 .skip)) c114s22)
@[go_sem] theorem c114s23eq : U c114s23 (.seq (.seq (.ops c114r1) (.cond S7 c114s3 .skip)) c114s22) := fun _ _ _ _ _ => rfl
def c114 : Gx.Fn := ⟨32, c114k, (.seq (.ops c114r0) c114s23), [(.tmp S3)]⟩
theorem c114ok : stripFn Tryz.prog c114k Tryz.f114 = some c114 := by kernel_rfl

/- plexuslaw30.awake -/
@[go_sem] def c11k : List Nat := [0, 1, 2, 3, 4]
@[go_sem] def c11r0 : List GOp := [mS 0 (.c (.bool false))]
@[go_sem] def c11r1 : List GOp := [oT (.v (.bld [(I 0), (I 0), (I 0), (I 0), (I 0), (I 0), Z, Z, Z, Z, Z, Z, Z, (I 0), Z] [(0, (1, (C 5))), (1, (1, (C 1))), (2, (1, (C 2)))])), oT (.call 18 [T0]), mT T0, oT (.v (.ext T0 0)), oT (.v (.ext T1 1)), mS 1 T1, mS 2 T0]
@[go_sem] def c11r2 : List GOp := [mT S1, oT (.call 20 [T0]), mT T0, oT (.v (.ext T0 0)), oT (.v (.ext T1 1)), oS 3 (.al 39 [(I 0), (I 0), (I 0), (I 0), (I 0), (I 0), Z, Z, Z, Z, Z, Z, Z, (I 0), Z]), oN (.st 15 S3 T1), mS 4 T0]
@[go_sem] def c11d3 : DT := (.ef 0 none .t (.call 12 [(.c Z)]) (.rd none .t (.v (.bin .eql T0 (.c (.int .u32 0)))) [3, 4, 5, 15, 16, 41, 46, 52] (rm T0 [3, 4, 5, 15, 16, 41, 46, 52] (.ef 3 (some (T0, true)) .t (.bs 5 9 [(.int .u8 0), (.int .u8 0), (.int .u8 0), (.int .u8 0), (.int .u8 0), (.int .u8 0), (.int .u8 0), (.int .u8 0), (.int .u8 0)] [(0, (1, (.c (.int .u8 49)))), (1, (1, (.c (.int .u8 50)))), (2, (1, (.c (.int .u8 51)))), (3, (1, (.c (.int .u8 52)))), (4, (1, (.c (.int .u8 53)))), (5, (1, (.c (.int .u8 54)))), (6, (1, (.c (.int .u8 55)))), (7, (1, (.c (.int .u8 56)))), (8, (1, (.c (.int .u8 57))))]) (.ef 4 (some (T1, true)) .t (.mks T0) (.ef 5 (some (T2, true)) .t (.call 12 [T0]) (.rd (some (T3, true)) .t (.v (.bin .eql T0 (.c (.int .u32 3421780262)))) [15, 16, 41, 46, 52] (.rd none .t (.v (.pick T4 T0 (.c (.bool false)))) [15, 16, 41, 46, 52] (rm T0 [15, 16, 41, 46, 52] (.rd (some (T0, true)) .t (.v (.mv S2)) [15, 16, 41, 46, 52] (.rd (some (T1, true)) .t (.v (.bin .eql T0 (C 0))) [15, 16, 41, 46, 52] (.rd none .t (.v (.pick T2 T0 (.c (.bool false)))) [15, 16, 41, 46, 52] (rm T0 [15, 16, 41, 46, 52] (.rd (some (T0, true)) .t (.v (.mv S1)) [41, 46, 52] (.rd (some (T1, true)) .t (.b2s T0) [41, 46, 52] (.ef 15 (some (T2, true)) .t (.bs 5 4 [(.int .u8 0), (.int .u8 0), (.int .u8 0), (.int .u8 0)] [(0, (1, (.c (.int .u8 5)))), (1, (1, (.c (.int .u8 2)))), (2, (1, (.c (.int .u8 4)))), (3, (1, (.c (.int .u8 0))))]) (.ef 16 (some (T3, true)) .t (.call 14 [T0]) (.rd (some (T4, true)) .t (.b2s T0) [41, 46, 52] (.rd (some (T5, true)) .t (.v (.bin .eql T3 T0)) [41, 46, 52] (.rd none .t (.v (.pick T6 T0 (.c (.bool false)))) [41, 46, 52] (rm T0 [41, 46, 52] (.rd (some (T0, true)) .t (.v (.mv S4)) [41, 46, 52] (.rd (some (T1, true)) .t (.v (.bin .eql T0 (C 0))) [41, 46, 52] (.rd none .t (.v (.pick T2 T0 (.c (.bool false)))) [41, 46, 52] (rm T0 [41, 46, 52] (.rd (some (T0, true)) .t (.v (.fa 0 S3)) [41, 46, 52] (.rd (some (T1, true)) .t (.ld none T0) [41, 46, 52] (.rd (some (T2, true)) .t (.v (.bin .eql T0 (C 5))) [41, 46, 52] (.rd none .t (.v (.pick T3 T0 (.c (.bool false)))) [41, 46, 52] (rm T0 [41, 46, 52] (.rd (some (T0, true)) .t (.v (.fa 1 S3)) [41, 46, 52] (.rd (some (T1, true)) .t (.ld none T0) [41, 46, 52] (.rd (some (T2, true)) .t (.v (.bin .eql T0 (C 1))) [41, 46, 52] (.rd none .t (.v (.pick T3 T0 (.c (.bool false)))) [41, 46, 52] (rm T0 [41, 46, 52] (.rd (some (T0, true)) .t (.v (.fa 2 S3)) [41, 46, 52] (.rd (some (T1, true)) .t (.ld none T0) [41, 46, 52] (.rd (some (T2, true)) .t (.v (.bin .eql T0 (C 2))) [41, 46, 52] (.rd none .t (.v (.pick T3 T0 (.c (.bool false)))) [41, 46, 52] (rm T0 [41, 46, 52] (.rd (some (T0, true)) .t (.v (.bld [(I 0), (I 0), (I 0), (I 0), (I 0), (I 0), Z, Z, Z, Z, Z, Z, Z, (I 0), Z] [(0, (1, (C 6)))])) [41, 46, 52] (.ef 41 (some (T1, true)) .t (.call 16 [T0]) (.rd (some (T2, true)) .t (.v (.bin .eql T0 (C 1))) [46, 52] (.rd none .t (.v (.pick T3 T0 (.c (.bool false)))) [46, 52] (rm T0 [46, 52] (.rd (some (T0, true)) .t (.v (.bld [(I 0), (I 0), (I 0), (I 0), (I 0), (I 0), Z, Z, Z, Z, Z, Z, Z, (I 0), Z] [(0, (1, (C 5))), (13, (1, (C 1)))])) [46, 52] (.ef 46 (some (T1, true)) .t (.call 16 [T0]) (.rd (some (T2, true)) .t (.v (.bin .eql T0 (C 1))) [52] (.rd none .t (.v (.pick T3 T0 (.c (.bool false)))) [52] (rm T0 [52] (.rd (some (T0, true)) .t (.ld (some 15) S3) [52] (.rd (some (T1, true)) .t (.v (.bld [(I 0), (I 0), (I 0), (I 0), (I 0), (I 0), Z, Z, Z, Z, Z, Z, Z, (I 0), Z] [(0, (1, (C 5))), (1, (1, (C 1))), (2, (1, (C 2)))])) [52] (.ef 52 (some (T2, true)) .t (.call 23 [T1, T0]) (.rd none .t (.v (.pick T3 T0 (.c (.bool false)))) [] (.rd none (.s 0) (.v (.mv T0)) [] .done)))))))))))))))))))))))))))))))))))))))))))))))))))))))
def c11s4 : SCode := (.seq (.ops c11r2) (.seq (.de c11d3) .ret))
@[go_sem] theorem c11s4eq : U c11s4 (.seq (.ops c11r2) (.seq (.de c11d3) .ret)) := fun _ _ _ _ _ => rfl
def c11s5 : SCode := (.seq (.ops c11r1) c11s4)
@[go_sem] theorem c11s5eq : U c11s5 (.seq (.ops c11r1) c11s4) := fun _ _ _ _ _ => rfl
def c11 : Gx.Fn := ⟨69, c11k, (.seq (.ops c11r0) c11s5), [(.tmp S0)]⟩
theorem c11ok : stripFn Tryz.prog c11k Tryz.f11 = some c11 := by kernel_rfl

end Go.Proofs.YtdhlibkdcldioaaGreat
