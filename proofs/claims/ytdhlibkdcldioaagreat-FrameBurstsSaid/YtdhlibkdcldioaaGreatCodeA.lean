/- Generated: the stripped code of Go functions, each held against the loaded program. -/
import Derived.Test.YtdhlibkdcldioaaGreatProg
import Derived.Test.YtdhlibkdcldioaaGreatGx20
namespace Go.Proofs.YtdhlibkdcldioaaGreat
open Gx Go

/- frame.Sum -/
@[go_sem] def c12k : List Nat := [0, 2, 3, 5, 6, 7, 8, 9, 10, 17, 18, 24]
@[go_sem] def c12r0 : List GOp := [mS 1 (.c (.int .u32 0))]
@[go_sem] def c12r1 : List GOp := [mS 2 (.c (.int .u32 4294967295))]
@[go_sem] def c12r2 : List GOp := [mS 5 S0, oS 6 (.v (.len S5)), mS 7 (C 0)]
@[go_sem] def c12r3 : List GOp := [oS 8 (.v (.bin .lss S7 S6))]
@[go_sem] def c12r4 : List GOp := [oT (.v (.ix 1 S5 S7)), lT T0, mS 3 T0]
@[go_sem] def c12r5 : List GOp := [mT S2, mT S3, oT (.v (.cvi .u32 T0)), oT (.v (.bin .xor T2 T0)), mS 2 T0]
@[go_sem] def c12r6 : List GOp := [mS 9 (C 0)]
@[go_sem] def c12r7 : List GOp := [oS 10 (.v (.bin .lss S9 (C 8)))]
@[go_sem] def c12r8 : List GOp := [mT S2, oT (.v (.bin .and T0 (.c (.int .u32 1)))), mS 4 T0]
@[go_sem] def c12r9 : List GOp := [mT S2, oT (.v (.bin .shr T0 (.c (.int .u64 1)))), mS 2 T0]
@[go_sem] def c12r10 : List GOp := [mT S4, oS 11 (.v (.bin .eql T0 (.c (.int .u32 1))))]
@[go_sem] def c12r11 : List GOp := [mT S2, oT (.v (.bin .xor T0 (.c (.int .u32 3988292384)))), mS 2 T0]
def c12s12 : SCode := (.cond S11 (.ops c12r11) .skip)
@[go_sem] theorem c12s12eq : U c12s12 (.cond S11 (.ops c12r11) .skip) := fun _ _ _ _ _ => rfl
def c12s13 : SCode := (.seq (.ops c12r10) c12s12)
@[go_sem] theorem c12s13eq : U c12s13 (.seq (.ops c12r10) c12s12) := fun _ _ _ _ _ => rfl
def c12s14 : SCode := (.seq (.ops c12r9) c12s13)
@[go_sem] theorem c12s14eq : U c12s14 (.seq (.ops c12r9) c12s13) := fun _ _ _ _ _ => rfl
@[go_sem] def c12r15 : List GOp := [oT (.v (.bin .add S9 (C 1))), mS 9 T0]
def c12s16 : SCode := (.ops c12r15)
@[go_sem] theorem c12s16eq : U c12s16 (.ops c12r15) := fun _ _ _ _ _ => rfl
def c12s17 : SCode := (.seq (.block 3 (.seq (.ops c12r8) c12s14)) c12s16)
@[go_sem] theorem c12s17eq : U c12s17 (.seq (.block 3 (.seq (.ops c12r8) c12s14)) c12s16) := fun _ _ _ _ _ => rfl
def c12s18 : SCode := (.seq (.cond S10 .skip (.exit 2)) c12s17)
@[go_sem] theorem c12s18eq : U c12s18 (.seq (.cond S10 .skip (.exit 2)) c12s17) := fun _ _ _ _ _ => rfl
def c12s19 : SCode := (.seq (.ops c12r7) c12s18)
@[go_sem] theorem c12s19eq : U c12s19 (.seq (.ops c12r7) c12s18) := fun _ _ _ _ _ => rfl
def c12s20 : SCode := (.block 2 (.loop c12k c12s19))
@[go_sem] theorem c12s20eq : U c12s20 (.block 2 (.loop c12k c12s19)) := fun _ _ _ _ _ => rfl
def c12s21 : SCode := (.seq (.ops c12r6) c12s20)
@[go_sem] theorem c12s21eq : U c12s21 (.seq (.ops c12r6) c12s20) := fun _ _ _ _ _ => rfl
def c12s22 : SCode := (.seq (.ops c12r5) c12s21)
@[go_sem] theorem c12s22eq : U c12s22 (.seq (.ops c12r5) c12s21) := fun _ _ _ _ _ => rfl
@[go_sem] def c12r23 : List GOp := [oT (.v (.bin .add S7 (C 1))), mS 7 T0]
def c12s24 : SCode := (.ops c12r23)
@[go_sem] theorem c12s24eq : U c12s24 (.ops c12r23) := fun _ _ _ _ _ => rfl
def c12s25 : SCode := (.seq (.block 1 (.seq (.ops c12r4) c12s22)) c12s24)
@[go_sem] theorem c12s25eq : U c12s25 (.seq (.block 1 (.seq (.ops c12r4) c12s22)) c12s24) := fun _ _ _ _ _ => rfl
def c12s26 : SCode := (.seq (.cond S8 .skip (.exit 0)) c12s25)
@[go_sem] theorem c12s26eq : U c12s26 (.seq (.cond S8 .skip (.exit 0)) c12s25) := fun _ _ _ _ _ => rfl
def c12s27 : SCode := (.seq (.ops c12r3) c12s26)
@[go_sem] theorem c12s27eq : U c12s27 (.seq (.ops c12r3) c12s26) := fun _ _ _ _ _ => rfl
def c12s28 : SCode := (.block 0 (.loop c12k c12s27))
@[go_sem] theorem c12s28eq : U c12s28 (.block 0 (.loop c12k c12s27)) := fun _ _ _ _ _ => rfl
@[go_sem] def c12r29 : List GOp := [mT S2, oT (.v (.un .xor T0)), mS 1 T0]
def c12s30 : SCode := (.seq (.ops c12r29) .ret)
@[go_sem] theorem c12s30eq : U c12s30 (.seq (.ops c12r29) .ret) := fun _ _ _ _ _ => rfl
def c12s31 : SCode := (.seq (.seq (.ops c12r2) c12s28) c12s30)
@[go_sem] theorem c12s31eq : U c12s31 (.seq (.seq (.ops c12r2) c12s28) c12s30) := fun _ _ _ _ _ => rfl
def c12s32 : SCode := (.seq (.ops c12r1) c12s31)
@[go_sem] theorem c12s32eq : U c12s32 (.seq (.ops c12r1) c12s31) := fun _ _ _ _ _ => rfl
def c12 : Gx.Fn := ⟨31, c12k, (.seq (.ops c12r0) c12s32), [(.tmp S1)]⟩
theorem c12ok : stripFn Tryz.prog c12k Tryz.f12 = some c12 := by kernel_rfl

/- frame.Check -/
@[go_sem] def c16k : List Nat := [0, 1, 2, 4]
@[go_sem] def c16r0 : List GOp := [oS 1 (.bx 39 S0), mS 2 (C 0)]
@[go_sem] def c16r1 : List GOp := [oT (.ld (some 15) S1), oT (.call 18 [T0]), mT T0, oT (.v (.ext T0 0)), oT (.v (.ext T1 1)), mT T1, mS 3 T1]
@[go_sem] def c16r2 : List GOp := [mT S3, mS 2 T0]
def c16s3 : SCode := (.seq (.ops c16r2) .ret)
@[go_sem] theorem c16s3eq : U c16s3 (.seq (.ops c16r2) .ret) := fun _ _ _ _ _ => rfl
def c16s4 : SCode := (.seq (.ops c16r1) c16s3)
@[go_sem] theorem c16s4eq : U c16s4 (.seq (.ops c16r1) c16s3) := fun _ _ _ _ _ => rfl
def c16 : Gx.Fn := ⟨11, c16k, (.seq (.ops c16r0) c16s4), [(.tmp S2)]⟩
theorem c16ok : stripFn Tryz.prog c16k Tryz.f16 = some c16 := by kernel_rfl

/- frame.Encode -/
@[go_sem] def c18k : List Nat := [0, 1, 2, 3, 4, 5, 8, 14]
@[go_sem] def c18r0 : List GOp := [oS 1 (.bx 39 S0), mS 2 (.c Z), mS 3 (C 0)]
@[go_sem] def c18r1 : List GOp := [oT (.ld (some 15) S1), oT (.call 31 [T0]), oS 6 (.v (.un .not T0))]
@[go_sem] def c18r2 : List GOp := [mS 2 (.c Z), mS 3 (C 1)]
def c18s3 : SCode := (.seq (.ops c18r2) .ret)
@[go_sem] theorem c18s3eq : U c18s3 (.seq (.ops c18r2) .ret) := fun _ _ _ _ _ => rfl
@[go_sem] def c18r4 : List GOp := [oT (.ld (some 15) S1), oT (.call 32 [T0]), mS 4 T0]
@[go_sem] def c18r5 : List GOp := [mT S4, nT T0, oT (.v (.bin .add T0 (C 4))), oS 7 (.v (.bin .gtr T0 (C 16777216)))]
@[go_sem] def c18r6 : List GOp := [mS 2 (.c Z), mS 3 (C 6)]
def c18s7 : SCode := (.seq (.ops c18r6) .ret)
@[go_sem] theorem c18s7eq : U c18s7 (.seq (.ops c18r6) .ret) := fun _ _ _ _ _ => rfl
@[go_sem] def c18r8 : List GOp := [mT S4, oT (.call 12 [T0]), mS 5 T0]
@[go_sem] def c18r9 : List GOp := [mT S4, mT S5, oT (.v (.cvi .u8 T0)), mT S5, oT (.v (.bin .shr T0 (.c (.int .u64 8)))), oT (.v (.cvi .u8 T0)), mT S5, oT (.v (.bin .shr T0 (.c (.int .u64 16)))), oT (.v (.cvi .u8 T0)), mT S5, oT (.v (.bin .shr T0 (.c (.int .u64 24)))), oT (.v (.cvi .u8 T0)), oT (.bs 5 4 [(.int .u8 0), (.int .u8 0), (.int .u8 0), (.int .u8 0)] [(0, (1, T9)), (1, (1, T6)), (2, (1, T3)), (3, (1, T0))]), oT (.ap 22 22 T12 T0), mS 2 T0, mS 3 (C 0)]
def c18s10 : SCode := (.seq (.ops c18r9) .ret)
@[go_sem] theorem c18s10eq : U c18s10 (.seq (.ops c18r9) .ret) := fun _ _ _ _ _ => rfl
def c18s11 : SCode := (.seq (.ops c18r8) c18s10)
@[go_sem] theorem c18s11eq : U c18s11 (.seq (.ops c18r8) c18s10) := fun _ _ _ _ _ => rfl
def c18s12 : SCode := (.seq (.seq (.ops c18r5) (.cond S7 c18s7 .skip)) c18s11)
@[go_sem] theorem c18s12eq : U c18s12 (.seq (.seq (.ops c18r5) (.cond S7 c18s7 .skip)) c18s11) := fun _ _ _ _ _ => rfl
def c18s13 : SCode := (.seq (.ops c18r4) c18s12)
@[go_sem] theorem c18s13eq : U c18s13 (.seq (.ops c18r4) c18s12) := fun _ _ _ _ _ => rfl
def c18s14 : SCode := (.seq (.seq (.ops c18r1) (.cond S6 c18s3 .skip)) c18s13)
@[go_sem] theorem c18s14eq : U c18s14 (.seq (.seq (.ops c18r1) (.cond S6 c18s3 .skip)) c18s13) := fun _ _ _ _ _ => rfl
def c18 : Gx.Fn := ⟨31, c18k, (.seq (.ops c18r0) c18s14), [(.tmp S2), (.tmp S3)]⟩
theorem c18ok : stripFn Tryz.prog c18k Tryz.f18 = some c18 := by kernel_rfl

/- frame.Decode -/
@[go_sem] def c20k : List Nat := [0, 2, 3, 4, 5, 6, 7, 8, 9, 12, 18, 22, 23, 24, 25, 37, 44, 59]
@[go_sem] def c20r0 : List GOp := [oS 1 (.al 39 [(I 0), (I 0), (I 0), (I 0), (I 0), (I 0), Z, Z, Z, Z, Z, Z, Z, (I 0), Z]), mS 2 (C 0)]
@[go_sem] def c20r1 : List GOp := [mT S0, nT T0, oS 9 (.v (.bin .gtr T0 (C 16777216)))]
@[go_sem] def c20r2 : List GOp := [oT (.v (.bld [(I 0), (I 0), (I 0), (I 0), (I 0), (I 0), Z, Z, Z, Z, Z, Z, Z, (I 0), Z] [])), oN (.st 15 S1 T0), mS 2 (C 6)]
def c20s3 : SCode := (.seq (.ops c20r2) .ret)
@[go_sem] theorem c20s3eq : U c20s3 (.seq (.ops c20r2) .ret) := fun _ _ _ _ _ => rfl
@[go_sem] def c20r4 : List GOp := [mT S0, nT T0, oT (.v (.bin .sub T0 (C 4))), mS 3 T0]
@[go_sem] def c20r5 : List GOp := [mT S3, oS 10 (.v (.bin .lss T0 (C 0)))]
@[go_sem] def c20r6 : List GOp := [oT (.v (.bld [(I 0), (I 0), (I 0), (I 0), (I 0), (I 0), Z, Z, Z, Z, Z, Z, Z, (I 0), Z] [])), oN (.st 15 S1 T0), mS 2 (C 2)]
def c20s7 : SCode := (.seq (.ops c20r6) .ret)
@[go_sem] theorem c20s7eq : U c20s7 (.seq (.ops c20r6) .ret) := fun _ _ _ _ _ => rfl
@[go_sem] def c20r8 : List GOp := [mS 4 (.c (.int .u32 0))]
@[go_sem] def c20r9 : List GOp := [mT S0, mT S3, oS 11 (.v (.sl 1 T1 (some T0) none)), oS 12 (.v (.len S11)), mS 13 (C 0)]
@[go_sem] def c20r10 : List GOp := [oS 14 (.v (.bin .lss S13 S12))]
@[go_sem] def c20r11 : List GOp := [mT S13, oT (.v (.ix 1 S11 S13)), lT T0, mS 5 T2, mS 6 T0]
@[go_sem] def c20r12 : List GOp := [mT S4, mT S6, oT (.v (.cvi .u32 T0)), mT S5, oT (.v (.bin .mul (C 8) T0)), oT (.v (.bin .shl T2 T0)), oT (.v (.bin .or T5 T0)), mS 4 T0]
@[go_sem] def c20r13 : List GOp := [mT S5, oS 15 (.v (.bin .eql T0 (C 3)))]
def c20s14 : SCode := (.cond S15 (.exit 0) .skip)
@[go_sem] theorem c20s14eq : U c20s14 (.cond S15 (.exit 0) .skip) := fun _ _ _ _ _ => rfl
def c20s15 : SCode := (.seq (.ops c20r13) c20s14)
@[go_sem] theorem c20s15eq : U c20s15 (.seq (.ops c20r13) c20s14) := fun _ _ _ _ _ => rfl
def c20s16 : SCode := (.seq (.ops c20r12) c20s15)
@[go_sem] theorem c20s16eq : U c20s16 (.seq (.ops c20r12) c20s15) := fun _ _ _ _ _ => rfl
@[go_sem] def c20r17 : List GOp := [oT (.v (.bin .add S13 (C 1))), mS 13 T0]
def c20s18 : SCode := (.ops c20r17)
@[go_sem] theorem c20s18eq : U c20s18 (.ops c20r17) := fun _ _ _ _ _ => rfl
def c20s19 : SCode := (.seq (.block 1 (.seq (.ops c20r11) c20s16)) c20s18)
@[go_sem] theorem c20s19eq : U c20s19 (.seq (.block 1 (.seq (.ops c20r11) c20s16)) c20s18) := fun _ _ _ _ _ => rfl
def c20s20 : SCode := (.seq (.cond S14 .skip (.exit 0)) c20s19)
@[go_sem] theorem c20s20eq : U c20s20 (.seq (.cond S14 .skip (.exit 0)) c20s19) := fun _ _ _ _ _ => rfl
def c20s21 : SCode := (.seq (.ops c20r10) c20s20)
@[go_sem] theorem c20s21eq : U c20s21 (.seq (.ops c20r10) c20s20) := fun _ _ _ _ _ => rfl
def c20s22 : SCode := (.block 0 (.loop c20k c20s21))
@[go_sem] theorem c20s22eq : U c20s22 (.block 0 (.loop c20k c20s21)) := fun _ _ _ _ _ => rfl
@[go_sem] def c20r23 : List GOp := [mT S4, mT S0, mT S3, oT (.v (.sl 1 T1 none (some T0))), oT (.call 12 [T0]), oS 16 (.v (.bin .neq T4 T0))]
@[go_sem] def c20r24 : List GOp := [oT (.v (.bld [(I 0), (I 0), (I 0), (I 0), (I 0), (I 0), Z, Z, Z, Z, Z, Z, Z, (I 0), Z] [])), oN (.st 15 S1 T0), mS 2 (C 2)]
def c20s25 : SCode := (.seq (.ops c20r24) .ret)
@[go_sem] theorem c20s25eq : U c20s25 (.seq (.ops c20r24) .ret) := fun _ _ _ _ _ => rfl
def c20s26 : SCode := (.cond S16 c20s25 .skip)
@[go_sem] theorem c20s26eq : U c20s26 (.cond S16 c20s25 .skip) := fun _ _ _ _ _ => rfl
@[go_sem] def c20r27 : List GOp := [mT S0, mT S3, oT (.v (.sl 1 T1 none (some T0))), oT (.call 33 [T0]), mT T0, oT (.v (.ext T0 0)), oT (.v (.ext T1 1)), oS 7 (.al 39 [(I 0), (I 0), (I 0), (I 0), (I 0), (I 0), Z, Z, Z, Z, Z, Z, Z, (I 0), Z]), oN (.st 15 S7 T1), mS 8 T0]
@[go_sem] def c20r28 : List GOp := [mT S8, oT (.v (.un .not T0)), mT T0, (.op (some (T0, (false, true))) .t (.ld (some 15) S7)), (.op (some (T1, (false, false))) .t (.call 31 [T0])), (.op (some (T2, (false, false))) .t (.v (.un .not T0))), oS 17 (.v (.pick T3 (.c (.bool true)) T0))]
@[go_sem] def c20r29 : List GOp := [oT (.v (.bld [(I 0), (I 0), (I 0), (I 0), (I 0), (I 0), Z, Z, Z, Z, Z, Z, Z, (I 0), Z] [])), oN (.st 15 S1 T0), mS 2 (C 2)]
def c20s30 : SCode := (.seq (.ops c20r29) .ret)
@[go_sem] theorem c20s30eq : U c20s30 (.seq (.ops c20r29) .ret) := fun _ _ _ _ _ => rfl
def c20s31 : SCode := (.cond S17 c20s30 .skip)
@[go_sem] theorem c20s31eq : U c20s31 (.cond S17 c20s30 .skip) := fun _ _ _ _ _ => rfl
@[go_sem] def c20r32 : List GOp := [oT (.ld (some 15) S7), oN (.st 15 S1 T0), mS 2 (C 0)]
def c20s33 : SCode := (.seq (.ops c20r32) .ret)
@[go_sem] theorem c20s33eq : U c20s33 (.seq (.ops c20r32) .ret) := fun _ _ _ _ _ => rfl
def c20s34 : SCode := (.seq (.seq (.ops c20r28) c20s31) c20s33)
@[go_sem] theorem c20s34eq : U c20s34 (.seq (.seq (.ops c20r28) c20s31) c20s33) := fun _ _ _ _ _ => rfl
def c20s35 : SCode := (.seq (.ops c20r27) c20s34)
@[go_sem] theorem c20s35eq : U c20s35 (.seq (.ops c20r27) c20s34) := fun _ _ _ _ _ => rfl
def c20s36 : SCode := (.seq (.seq (.ops c20r23) c20s26) c20s35)
@[go_sem] theorem c20s36eq : U c20s36 (.seq (.seq (.ops c20r23) c20s26) c20s35) := fun _ _ _ _ _ => rfl
def c20s37 : SCode := (.seq (.seq (.ops c20r9) c20s22) c20s36)
@[go_sem] theorem c20s37eq : U c20s37 (.seq (.seq (.ops c20r9) c20s22) c20s36) := fun _ _ _ _ _ => rfl
def c20s38 : SCode := (.seq (.ops c20r8) (.seq .skip c20s37))
@[go_sem] theorem c20s38eq : U c20s38 (.seq (.ops c20r8) (.seq .skip c20s37)) := fun _ _ _ _ _ => rfl
def c20s39 : SCode := (.seq (.seq (.ops c20r5) (.cond S10 c20s7 .skip)) c20s38)
@[go_sem] theorem c20s39eq : U c20s39 (.seq (.seq (.ops c20r5) (.cond S10 c20s7 .skip)) c20s38) := fun _ _ _ _ _ => rfl
def c20s40 : SCode := (.seq (.ops c20r4) c20s39)
@[go_sem] theorem c20s40eq : U c20s40 (.seq (.ops c20r4) c20s39) := fun _ _ _ _ _ => rfl
def c20s41 : SCode := (.seq (.seq (.ops c20r1) (.cond S9 c20s3 .skip)) c20s40)
@[go_sem] theorem c20s41eq : U c20s41 (.seq (.seq (.ops c20r1) (.cond S9 c20s3 .skip)) c20s40) := fun _ _ _ _ _ => rfl
def c20 : Gx.Fn := ⟨62, c20k, (.seq (.ops c20r0) c20s41), [(.cell S1 (some 15)), (.tmp S2)]⟩
theorem c20ok : stripFn Tryz.prog c20k Tryz.f20 = some c20 := by kernel_rfl

/- frame.formed -/
@[go_sem] def c31k : List Nat := [0, 1, 2, 26]
@[go_sem] def c31r0 : List GOp := [oS 1 (.bx 39 S0), mS 2 (.c (.bool false))]
@[go_sem] def c31r1 : List GOp := [fT 0 S1, lT T0, oT (.call 74 [T0]), oT (.v (.bin .eql T0 (C 0))), mT T0, (.sel T0 false [(.op (.v (.fa 1 S1))), (.op (.ld none T0)), (.op (.v (.bin .lss T0 (C 0))))] .t (.c (.bool true)) T0), mT T0, (.sel T0 false [(.op (.v (.fa 1 S1))), (.op (.ld none T0)), (.op (.v (.bin .gtr T0 (C 63))))] .t (.c (.bool true)) T0), mT T0, (.sel T0 false [(.op (.v (.fa 2 S1))), (.op (.ld none T0)), (.op (.v (.bin .lss T0 (C 0))))] .t (.c (.bool true)) T0), mT T0, (.sel T0 false [(.op (.v (.fa 2 S1))), (.op (.ld none T0)), (.op (.v (.bin .gtr T0 (C 63))))] (.s 3) (.c (.bool true)) T0)]
@[go_sem] def c31r2 : List GOp := [mS 2 (.c (.bool false))]
def c31s3 : SCode := (.seq (.ops c31r2) .ret)
@[go_sem] theorem c31s3eq : U c31s3 (.seq (.ops c31r2) .ret) := fun _ _ _ _ _ => rfl
@[go_sem] def c31d4 : DT := (.rd none .t (.ld (some 15) S1) [1, 4, 9] (rf 0 S1 [4, 9] (rl T0 [4, 9] (.ef 1 none .t (.call 75 [T2]) (.ef 4 none .t (.call 74 [T1]) (.rd none .t (.v (.bin .andNot T1 T0)) [9] (.rd none .t (.v (.bin .eql T0 (C 0))) [9] (rm T0 [9] (.rd (some (T0, true)) .t (.ld (some 15) S1) [9] (.ef 9 (some (T1, true)) .t (.call 76 [T0]) (.rd none .t (.v (.pick T2 T0 (.c (.bool false)))) [] (.rd none (.s 2) (.v (.mv T0)) [] .done))))))))))))
def c31s5 : SCode := (.seq (.seq (.ops c31r1) (.cond S3 c31s3 .skip)) (.seq (.de c31d4) .ret))
@[go_sem] theorem c31s5eq : U c31s5 (.seq (.seq (.ops c31r1) (.cond S3 c31s3 .skip)) (.seq (.de c31d4) .ret)) := fun _ _ _ _ _ => rfl
def c31 : Gx.Fn := ⟨38, c31k, (.seq (.ops c31r0) c31s5), [(.tmp S2)]⟩
theorem c31ok : stripFn Tryz.prog c31k Tryz.f31 = some c31 := by kernel_rfl

/- frame.payload -/
@[go_sem] def c32k : List Nat := [0, 1, 2, 3, 22, 23, 47, 71, 85, 93, 102, 118]
@[go_sem] def c32r0 : List GOp := [oS 1 (.bx 39 S0), mS 2 (.c Z)]
@[go_sem] def c32r1 : List GOp := [oT (.v (.bld [Z] [])), oT (.bx 132 T0), mS 3 T0]
@[go_sem] def c32d2 : DT := (rm S3 [6] (.rd none .t (.v (.nc T0)) [6] (rf 0 T0 [6] (rf 0 S1 [6] (rl T0 [6] (.rd none .t (.v (.cvi .u64 T0)) [6] (.ef 6 none .t (.call 77 [T3, T0]) .done)))))))
@[go_sem] def c32r3 : List GOp := [mT S3, fT 1 S1, lT T0, oT (.call 78 [T2, T0])]
@[go_sem] def c32r4 : List GOp := [mT S3, fT 2 S1, lT T0, oT (.call 78 [T2, T0])]
@[go_sem] def c32r5 : List GOp := [fT 0 S1, oS 4 (.ld none T0)]
@[go_sem] def c32r6 : List GOp := [oT (.v (.bin .eql S4 (C 1))), mS 5 T0]
@[go_sem] def c32r7 : List GOp := [mT S3, fT 3 S1, oT (.ld (some 3) T0), oT (.call 79 [T2, T0])]
@[go_sem] def c32r8 : List GOp := [mT S3, fT 6 S1, lT T0, mT S3, oT (.v (.mkf 81 [T0] [])), oT (.call 80 [T4, T2, T0])]
@[go_sem] def c32r9 : List GOp := [mT S3, fT 7 S1, lT T0, mT S3, oT (.v (.mkf 83 [T0] [])), oT (.call 82 [T4, T2, T0])]
@[go_sem] def c32r10 : List GOp := [mT S3, fT 8 S1, lT T0, mT S3, oT (.v (.mkf 85 [T0] [])), oT (.call 84 [T4, T2, T0])]
def c32s11 : SCode := (.ops c32r10)
@[go_sem] theorem c32s11eq : U c32s11 (.ops c32r10) := fun _ _ _ _ _ => rfl
def c32s12 : SCode := (.seq (.ops c32r9) c32s11)
@[go_sem] theorem c32s12eq : U c32s12 (.seq (.ops c32r9) c32s11) := fun _ _ _ _ _ => rfl
def c32s13 : SCode := (.seq (.ops c32r8) c32s12)
@[go_sem] theorem c32s13eq : U c32s13 (.seq (.ops c32r8) c32s12) := fun _ _ _ _ _ => rfl
def c32s14 : SCode := (.seq (.ops c32r7) c32s13)
@[go_sem] theorem c32s14eq : U c32s14 (.seq (.ops c32r7) c32s13) := fun _ _ _ _ _ => rfl
@[go_sem] def c32r15 : List GOp := [oT (.v (.bin .eql S4 (C 2))), mS 6 T0]
@[go_sem] def c32r16 : List GOp := [mT S3, fT 3 S1, oT (.ld (some 3) T0), oT (.call 79 [T2, T0])]
@[go_sem] def c32r17 : List GOp := [mT S3, fT 8 S1, lT T0, mT S3, oT (.v (.mkf 85 [T0] [])), oT (.call 84 [T4, T2, T0])]
@[go_sem] def c32r18 : List GOp := [mT S3, fT 7 S1, lT T0, mT S3, oT (.v (.mkf 83 [T0] [])), oT (.call 82 [T4, T2, T0])]
@[go_sem] def c32r19 : List GOp := [mT S3, fT 9 S1, lT T0, mT S3, oT (.v (.mkf 87 [T0] [])), oT (.call 86 [T4, T2, T0])]
def c32s20 : SCode := (.ops c32r19)
@[go_sem] theorem c32s20eq : U c32s20 (.ops c32r19) := fun _ _ _ _ _ => rfl
def c32s21 : SCode := (.seq (.ops c32r18) c32s20)
@[go_sem] theorem c32s21eq : U c32s21 (.seq (.ops c32r18) c32s20) := fun _ _ _ _ _ => rfl
def c32s22 : SCode := (.seq (.ops c32r17) c32s21)
@[go_sem] theorem c32s22eq : U c32s22 (.seq (.ops c32r17) c32s21) := fun _ _ _ _ _ => rfl
def c32s23 : SCode := (.seq (.ops c32r16) c32s22)
@[go_sem] theorem c32s23eq : U c32s23 (.seq (.ops c32r16) c32s22) := fun _ _ _ _ _ => rfl
@[go_sem] def c32r24 : List GOp := [oT (.v (.bin .eql S4 (C 3))), mS 7 T0]
@[go_sem] def c32r25 : List GOp := [mT S3, fT 10 S1, lT T0, mT S3, oT (.v (.mkf 89 [T0] [])), oT (.call 88 [T4, T2, T0])]
@[go_sem] def c32r26 : List GOp := [mT S3, fT 8 S1, lT T0, mT S3, oT (.v (.mkf 85 [T0] [])), oT (.call 84 [T4, T2, T0])]
def c32s27 : SCode := (.ops c32r26)
@[go_sem] theorem c32s27eq : U c32s27 (.ops c32r26) := fun _ _ _ _ _ => rfl
def c32s28 : SCode := (.seq (.ops c32r25) c32s27)
@[go_sem] theorem c32s28eq : U c32s28 (.seq (.ops c32r25) c32s27) := fun _ _ _ _ _ => rfl
@[go_sem] def c32r29 : List GOp := [oT (.v (.bin .eql S4 (C 4))), mS 8 T0]
@[go_sem] def c32r30 : List GOp := [mT S3, fT 11 S1, lT T0, mT S3, oT (.v (.mkf 91 [T0] [])), oT (.call 90 [T4, T2, T0])]
@[go_sem] def c32r31 : List GOp := [oT (.v (.bin .eql S4 (C 5))), mS 9 T0]
@[go_sem] def c32r32 : List GOp := [oT (.v (.bin .eql S4 (C 6))), mS 9 T0]
def c32s33 : SCode := (.cond S9 .skip (.ops c32r32))
@[go_sem] theorem c32s33eq : U c32s33 (.cond S9 .skip (.ops c32r32)) := fun _ _ _ _ _ => rfl
@[go_sem] def c32r34 : List GOp := [mT S3, fT 8 S1, lT T0, mT S3, oT (.v (.mkf 85 [T0] [])), oT (.call 84 [T4, T2, T0])]
@[go_sem] def c32r35 : List GOp := [oT (.v (.bin .eql S4 (C 7))), mS 10 T0]
@[go_sem] def c32r36 : List GOp := [mT S3, fT 6 S1, lT T0, mT S3, oT (.v (.mkf 81 [T0] [])), oT (.call 80 [T4, T2, T0])]
@[go_sem] def c32d37 : DT := (rm S3 [7] (rf 12 S1 [7] (rl T0 [7] (rm S3 [7] (.rd none .t (.v (.nc T0)) [7] (rf 0 T0 [7] (.rd none .t (.v (.mkf 93 [T0] [])) [7] (.ef 7 none .t (.call 92 [T6, T4, T0]) .done))))))))
def c32s38 : SCode := (.de c32d37)
@[go_sem] theorem c32s38eq : U c32s38 (.de c32d37) := fun _ _ _ _ _ => rfl
def c32s39 : SCode := (.seq (.ops c32r36) c32s38)
@[go_sem] theorem c32s39eq : U c32s39 (.seq (.ops c32r36) c32s38) := fun _ _ _ _ _ => rfl
@[go_sem] def c32r40 : List GOp := [oT (.v (.bin .eql S4 (C 8))), mS 11 T0]
@[go_sem] def c32r41 : List GOp := [mT S3, fT 10 S1, lT T0, mT S3, oT (.v (.mkf 89 [T0] [])), oT (.call 88 [T4, T2, T0])]
@[go_sem] def c32r42 : List GOp := [mT S3, fT 6 S1, lT T0, mT S3, oT (.v (.mkf 81 [T0] [])), oT (.call 80 [T4, T2, T0])]
@[go_sem] def c32r43 : List GOp := [mT S3, fT 13 S1, lT T0, oT (.call 78 [T2, T0])]
@[go_sem] def c32r44 : List GOp := [mT S3, fT 14 S1, lT T0, mT S3, oT (.v (.mkf 95 [T0] [])), oT (.call 94 [T4, T2, T0])]
def c32s45 : SCode := (.ops c32r44)
@[go_sem] theorem c32s45eq : U c32s45 (.ops c32r44) := fun _ _ _ _ _ => rfl
def c32s46 : SCode := (.seq (.ops c32r43) c32s45)
@[go_sem] theorem c32s46eq : U c32s46 (.seq (.ops c32r43) c32s45) := fun _ _ _ _ _ => rfl
def c32s47 : SCode := (.seq (.ops c32r42) c32s46)
@[go_sem] theorem c32s47eq : U c32s47 (.seq (.ops c32r42) c32s46) := fun _ _ _ _ _ => rfl
def c32s48 : SCode := (.seq (.ops c32r41) c32s47)
@[go_sem] theorem c32s48eq : U c32s48 (.seq (.ops c32r41) c32s47) := fun _ _ _ _ _ => rfl
def c32s49 : SCode := (.cond S11 c32s48 .skip)
@[go_sem] theorem c32s49eq : U c32s49 (.cond S11 c32s48 .skip) := fun _ _ _ _ _ => rfl
def c32s50 : SCode := (.seq (.ops c32r40) c32s49)
@[go_sem] theorem c32s50eq : U c32s50 (.seq (.ops c32r40) c32s49) := fun _ _ _ _ _ => rfl
def c32s51 : SCode := (.cond S10 c32s39 c32s50)
@[go_sem] theorem c32s51eq : U c32s51 (.cond S10 c32s39 c32s50) := fun _ _ _ _ _ => rfl
def c32s52 : SCode := (.seq (.ops c32r35) c32s51)
@[go_sem] theorem c32s52eq : U c32s52 (.seq (.ops c32r35) c32s51) := fun _ _ _ _ _ => rfl
def c32s53 : SCode := (.cond S9 (.ops c32r34) c32s52)
@[go_sem] theorem c32s53eq : U c32s53 (.cond S9 (.ops c32r34) c32s52) := fun _ _ _ _ _ => rfl
def c32s54 : SCode := (.seq (.seq (.ops c32r31) c32s33) c32s53)
@[go_sem] theorem c32s54eq : U c32s54 (.seq (.seq (.ops c32r31) c32s33) c32s53) := fun _ _ _ _ _ => rfl
def c32s55 : SCode := (.cond S8 (.ops c32r30) c32s54)
@[go_sem] theorem c32s55eq : U c32s55 (.cond S8 (.ops c32r30) c32s54) := fun _ _ _ _ _ => rfl
def c32s56 : SCode := (.seq (.ops c32r29) c32s55)
@[go_sem] theorem c32s56eq : U c32s56 (.seq (.ops c32r29) c32s55) := fun _ _ _ _ _ => rfl
def c32s57 : SCode := (.cond S7 c32s28 c32s56)
@[go_sem] theorem c32s57eq : U c32s57 (.cond S7 c32s28 c32s56) := fun _ _ _ _ _ => rfl
def c32s58 : SCode := (.seq (.ops c32r24) c32s57)
@[go_sem] theorem c32s58eq : U c32s58 (.seq (.ops c32r24) c32s57) := fun _ _ _ _ _ => rfl
def c32s59 : SCode := (.cond S6 c32s23 c32s58)
@[go_sem] theorem c32s59eq : U c32s59 (.cond S6 c32s23 c32s58) := fun _ _ _ _ _ => rfl
def c32s60 : SCode := (.seq (.ops c32r15) c32s59)
@[go_sem] theorem c32s60eq : U c32s60 (.seq (.ops c32r15) c32s59) := fun _ _ _ _ _ => rfl
def c32s61 : SCode := (.cond S5 c32s14 c32s60)
@[go_sem] theorem c32s61eq : U c32s61 (.cond S5 c32s14 c32s60) := fun _ _ _ _ _ => rfl
def c32s62 : SCode := (.block 0 (.seq (.ops c32r6) c32s61))
@[go_sem] theorem c32s62eq : U c32s62 (.block 0 (.seq (.ops c32r6) c32s61)) := fun _ _ _ _ _ => rfl
@[go_sem] def c32r63 : List GOp := [mT S3, oT (.v (.nc T0)), fT 0 T0, oT (.call 96 [T0]), mS 2 T0]
def c32s64 : SCode := (.seq (.ops c32r63) .ret)
@[go_sem] theorem c32s64eq : U c32s64 (.seq (.ops c32r63) .ret) := fun _ _ _ _ _ => rfl
def c32s65 : SCode := (.seq (.seq (.ops c32r5) c32s62) c32s64)
@[go_sem] theorem c32s65eq : U c32s65 (.seq (.seq (.ops c32r5) c32s62) c32s64) := fun _ _ _ _ _ => rfl
def c32s66 : SCode := (.seq (.ops c32r4) c32s65)
@[go_sem] theorem c32s66eq : U c32s66 (.seq (.ops c32r4) c32s65) := fun _ _ _ _ _ => rfl
def c32s67 : SCode := (.seq (.ops c32r3) c32s66)
@[go_sem] theorem c32s67eq : U c32s67 (.seq (.ops c32r3) c32s66) := fun _ _ _ _ _ => rfl
def c32s68 : SCode := (.seq (.de c32d2) c32s67)
@[go_sem] theorem c32s68eq : U c32s68 (.seq (.de c32d2) c32s67) := fun _ _ _ _ _ => rfl
def c32s69 : SCode := (.seq (.ops c32r1) c32s68)
@[go_sem] theorem c32s69eq : U c32s69 (.seq (.ops c32r1) c32s68) := fun _ _ _ _ _ => rfl
def c32 : Gx.Fn := ⟨146, c32k, (.seq (.ops c32r0) c32s69), [(.tmp S2)]⟩
theorem c32ok : stripFn Tryz.prog c32k Tryz.f32 = some c32 := by kernel_rfl

/- frame.uses -/
@[go_sem] def c74k : List Nat := [0, 2, 3, 4, 6, 8, 10, 12, 15, 17]
@[go_sem] def c74r0 : List GOp := [mS 1 (C 0)]
@[go_sem] def c74r1 : List GOp := [mS 2 S0]
@[go_sem] def c74r2 : List GOp := [oT (.v (.bin .eql S2 (C 1))), mS 3 T0]
@[go_sem] def c74r3 : List GOp := [mS 1 (C 15)]
def c74s4 : SCode := (.seq (.ops c74r3) .ret)
@[go_sem] theorem c74s4eq : U c74s4 (.seq (.ops c74r3) .ret) := fun _ _ _ _ _ => rfl
@[go_sem] def c74r5 : List GOp := [oT (.v (.bin .eql S2 (C 2))), mS 4 T0]
@[go_sem] def c74r6 : List GOp := [mS 1 (C 29)]
def c74s7 : SCode := (.seq (.ops c74r6) .ret)
@[go_sem] theorem c74s7eq : U c74s7 (.seq (.ops c74r6) .ret) := fun _ _ _ _ _ => rfl
@[go_sem] def c74r8 : List GOp := [oT (.v (.bin .eql S2 (C 3))), mS 5 T0]
@[go_sem] def c74r9 : List GOp := [mS 1 (C 40)]
def c74s10 : SCode := (.seq (.ops c74r9) .ret)
@[go_sem] theorem c74s10eq : U c74s10 (.seq (.ops c74r9) .ret) := fun _ _ _ _ _ => rfl
@[go_sem] def c74r11 : List GOp := [oT (.v (.bin .eql S2 (C 4))), mS 6 T0]
@[go_sem] def c74r12 : List GOp := [mS 1 (C 64)]
def c74s13 : SCode := (.seq (.ops c74r12) .ret)
@[go_sem] theorem c74s13eq : U c74s13 (.seq (.ops c74r12) .ret) := fun _ _ _ _ _ => rfl
@[go_sem] def c74r14 : List GOp := [oT (.v (.bin .eql S2 (C 5))), mS 7 T0]
@[go_sem] def c74r15 : List GOp := [oT (.v (.bin .eql S2 (C 6))), mS 7 T0]
def c74s16 : SCode := (.cond S7 .skip (.ops c74r15))
@[go_sem] theorem c74s16eq : U c74s16 (.cond S7 .skip (.ops c74r15)) := fun _ _ _ _ _ => rfl
@[go_sem] def c74r17 : List GOp := [mS 1 (C 8)]
def c74s18 : SCode := (.seq (.ops c74r17) .ret)
@[go_sem] theorem c74s18eq : U c74s18 (.seq (.ops c74r17) .ret) := fun _ _ _ _ _ => rfl
@[go_sem] def c74r19 : List GOp := [oT (.v (.bin .eql S2 (C 7))), mS 8 T0]
@[go_sem] def c74r20 : List GOp := [mS 1 (C 130)]
def c74s21 : SCode := (.seq (.ops c74r20) .ret)
@[go_sem] theorem c74s21eq : U c74s21 (.seq (.ops c74r20) .ret) := fun _ _ _ _ _ => rfl
@[go_sem] def c74r22 : List GOp := [oT (.v (.bin .eql S2 (C 8))), mS 9 T0]
@[go_sem] def c74r23 : List GOp := [mS 1 (C 802)]
def c74s24 : SCode := (.seq (.ops c74r23) .ret)
@[go_sem] theorem c74s24eq : U c74s24 (.seq (.ops c74r23) .ret) := fun _ _ _ _ _ => rfl
def c74s25 : SCode := (.seq (.ops c74r22) (.cond S9 c74s24 .skip))
@[go_sem] theorem c74s25eq : U c74s25 (.seq (.ops c74r22) (.cond S9 c74s24 .skip)) := fun _ _ _ _ _ => rfl
def c74s26 : SCode := (.cond S8 c74s21 c74s25)
@[go_sem] theorem c74s26eq : U c74s26 (.cond S8 c74s21 c74s25) := fun _ _ _ _ _ => rfl
def c74s27 : SCode := (.seq (.ops c74r19) c74s26)
@[go_sem] theorem c74s27eq : U c74s27 (.seq (.ops c74r19) c74s26) := fun _ _ _ _ _ => rfl
def c74s28 : SCode := (.cond S7 c74s18 c74s27)
@[go_sem] theorem c74s28eq : U c74s28 (.cond S7 c74s18 c74s27) := fun _ _ _ _ _ => rfl
def c74s29 : SCode := (.seq (.seq (.ops c74r14) c74s16) c74s28)
@[go_sem] theorem c74s29eq : U c74s29 (.seq (.seq (.ops c74r14) c74s16) c74s28) := fun _ _ _ _ _ => rfl
def c74s30 : SCode := (.cond S6 c74s13 c74s29)
@[go_sem] theorem c74s30eq : U c74s30 (.cond S6 c74s13 c74s29) := fun _ _ _ _ _ => rfl
def c74s31 : SCode := (.seq (.ops c74r11) c74s30)
@[go_sem] theorem c74s31eq : U c74s31 (.seq (.ops c74r11) c74s30) := fun _ _ _ _ _ => rfl
def c74s32 : SCode := (.cond S5 c74s10 c74s31)
@[go_sem] theorem c74s32eq : U c74s32 (.cond S5 c74s10 c74s31) := fun _ _ _ _ _ => rfl
def c74s33 : SCode := (.seq (.ops c74r8) c74s32)
@[go_sem] theorem c74s33eq : U c74s33 (.seq (.ops c74r8) c74s32) := fun _ _ _ _ _ => rfl
def c74s34 : SCode := (.seq (.ops c74r5) (.cond S4 c74s7 c74s33))
@[go_sem] theorem c74s34eq : U c74s34 (.seq (.ops c74r5) (.cond S4 c74s7 c74s33)) := fun _ _ _ _ _ => rfl
def c74s35 : SCode := (.block 0 (.seq (.ops c74r2) (.cond S3 c74s4 c74s34)))
@[go_sem] theorem c74s35eq : U c74s35 (.block 0 (.seq (.ops c74r2) (.cond S3 c74s4 c74s34))) := fun _ _ _ _ _ => rfl
@[go_sem] def c74r36 : List GOp := [mS 1 (C 0)]
def c74s37 : SCode := (.seq (.ops c74r36) .ret)
@[go_sem] theorem c74s37eq : U c74s37 (.seq (.ops c74r36) .ret) := fun _ _ _ _ _ => rfl
def c74s38 : SCode := (.seq (.seq (.ops c74r1) c74s35) c74s37)
@[go_sem] theorem c74s38eq : U c74s38 (.seq (.seq (.ops c74r1) c74s35) c74s37) := fun _ _ _ _ _ => rfl
def c74 : Gx.Fn := ⟨19, c74k, (.seq (.ops c74r0) c74s38), [(.tmp S1)]⟩
theorem c74ok : stripFn Tryz.prog c74k Tryz.f74 = some c74 := by kernel_rfl

/- frame.has -/
@[go_sem] def c75k : List Nat := [0, 1, 2, 3, 4]
@[go_sem] def c75r0 : List GOp := [oS 1 (.bx 39 S0), mS 2 (C 0)]
@[go_sem] def c75r1 : List GOp := [oS 3 (.al 3 [(I 0)]), oN (.st 1 S3 (C 0))]
@[go_sem] def c75r2 : List GOp := [oT (.v (.mkf 122 [] [S3])), mS 4 T0]
@[go_sem] def c75r3 : List GOp := [mT S4, fT 3 S1, oT (.ld (some 3) T0), oT (.v (.bld [(I 0), (I 0), (I 0)] [])), oT (.v (.steq true [(0, .i), (1, .i), (2, .i)] T1 T0)), oT (.cv T4 [(C 1), T0])]
@[go_sem] def c75r4 : List GOp := [mT S4, fT 6 S1, lT T0, nT T0, oT (.v (.bin .gtr T0 (C 0))), oT (.cv T4 [(C 2), T0])]
@[go_sem] def c75r5 : List GOp := [mT S4, fT 7 S1, lT T0, nT T0, oT (.v (.bin .gtr T0 (C 0))), oT (.cv T4 [(C 4), T0])]
@[go_sem] def c75r6 : List GOp := [mT S4, fT 8 S1, lT T0, nT T0, oT (.v (.bin .gtr T0 (C 0))), oT (.cv T4 [(C 8), T0])]
@[go_sem] def c75r7 : List GOp := [mT S4, fT 9 S1, lT T0, nT T0, oT (.v (.bin .gtr T0 (C 0))), oT (.cv T4 [(C 16), T0])]
@[go_sem] def c75r8 : List GOp := [mT S4, fT 10 S1, lT T0, nT T0, oT (.v (.bin .gtr T0 (C 0))), oT (.cv T4 [(C 32), T0])]
@[go_sem] def c75r9 : List GOp := [mT S4, fT 11 S1, lT T0, nT T0, oT (.v (.bin .gtr T0 (C 0))), oT (.cv T4 [(C 64), T0])]
@[go_sem] def c75r10 : List GOp := [mT S4, fT 12 S1, lT T0, nT T0, oT (.v (.bin .gtr T0 (C 0))), oT (.cv T4 [(C 128), T0])]
@[go_sem] def c75r11 : List GOp := [mT S4, fT 13 S1, lT T0, oT (.v (.bin .neq T0 (C 0))), oT (.cv T3 [(C 256), T0])]
@[go_sem] def c75r12 : List GOp := [mT S4, fT 14 S1, lT T0, nT T0, oT (.v (.bin .gtr T0 (C 0))), oT (.cv T4 [(C 512), T0])]
@[go_sem] def c75r13 : List GOp := [lT S3, mS 2 T0]
def c75s14 : SCode := (.seq (.ops c75r13) .ret)
@[go_sem] theorem c75s14eq : U c75s14 (.seq (.ops c75r13) .ret) := fun _ _ _ _ _ => rfl
def c75s15 : SCode := (.seq (.ops c75r12) c75s14)
@[go_sem] theorem c75s15eq : U c75s15 (.seq (.ops c75r12) c75s14) := fun _ _ _ _ _ => rfl
def c75s16 : SCode := (.seq (.ops c75r11) c75s15)
@[go_sem] theorem c75s16eq : U c75s16 (.seq (.ops c75r11) c75s15) := fun _ _ _ _ _ => rfl
def c75s17 : SCode := (.seq (.ops c75r10) c75s16)
@[go_sem] theorem c75s17eq : U c75s17 (.seq (.ops c75r10) c75s16) := fun _ _ _ _ _ => rfl
def c75s18 : SCode := (.seq (.ops c75r9) c75s17)
@[go_sem] theorem c75s18eq : U c75s18 (.seq (.ops c75r9) c75s17) := fun _ _ _ _ _ => rfl
def c75s19 : SCode := (.seq (.ops c75r8) c75s18)
@[go_sem] theorem c75s19eq : U c75s19 (.seq (.ops c75r8) c75s18) := fun _ _ _ _ _ => rfl
def c75s20 : SCode := (.seq (.ops c75r7) c75s19)
@[go_sem] theorem c75s20eq : U c75s20 (.seq (.ops c75r7) c75s19) := fun _ _ _ _ _ => rfl
def c75s21 : SCode := (.seq (.ops c75r6) c75s20)
@[go_sem] theorem c75s21eq : U c75s21 (.seq (.ops c75r6) c75s20) := fun _ _ _ _ _ => rfl
def c75s22 : SCode := (.seq (.ops c75r5) c75s21)
@[go_sem] theorem c75s22eq : U c75s22 (.seq (.ops c75r5) c75s21) := fun _ _ _ _ _ => rfl
def c75s23 : SCode := (.seq (.ops c75r4) c75s22)
@[go_sem] theorem c75s23eq : U c75s23 (.seq (.ops c75r4) c75s22) := fun _ _ _ _ _ => rfl
def c75s24 : SCode := (.seq (.ops c75r3) c75s23)
@[go_sem] theorem c75s24eq : U c75s24 (.seq (.ops c75r3) c75s23) := fun _ _ _ _ _ => rfl
def c75s25 : SCode := (.seq (.ops c75r2) c75s24)
@[go_sem] theorem c75s25eq : U c75s25 (.seq (.ops c75r2) c75s24) := fun _ _ _ _ _ => rfl
def c75s26 : SCode := (.seq (.ops c75r1) c75s25)
@[go_sem] theorem c75s26eq : U c75s26 (.seq (.ops c75r1) c75s25) := fun _ _ _ _ _ => rfl
def c75 : Gx.Fn := ⟨66, c75k, (.seq (.ops c75r0) c75s26), [(.tmp S2)]⟩
theorem c75ok : stripFn Tryz.prog c75k Tryz.f75 = some c75 := by kernel_rfl

/- frame.counted -/
@[go_sem] def c76k : List Nat := [0, 1, 2, 4, 5, 11, 23, 29, 35, 41]
@[go_sem] def c76r0 : List GOp := [oS 1 (.bx 39 S0), mS 2 (.c (.bool false))]
@[go_sem] def c76r1 : List GOp := [fT 0 S1, oS 3 (.ld none T0)]
@[go_sem] def c76r2 : List GOp := [oT (.v (.bin .eql S3 (C 1))), mS 4 T0]
@[go_sem] def c76r3 : List GOp := [fT 7 S1, lT T0, nT T0, oT (.v (.bin .eql T0 (C 1))), mS 2 T0]
def c76s4 : SCode := (.seq (.ops c76r3) .ret)
@[go_sem] theorem c76s4eq : U c76s4 (.seq (.ops c76r3) .ret) := fun _ _ _ _ _ => rfl
@[go_sem] def c76r5 : List GOp := [oT (.v (.bin .eql S3 (C 2))), mS 5 T0]
@[go_sem] def c76r6 : List GOp := [fT 7 S1, lT T0, nT T0, oT (.v (.bin .leq T0 (C 1))), mT T0, (.sel T0 true [(.op (.v (.fa 9 S1))), (.op (.ld none T0)), (.op (.v (.len T0))), (.op (.v (.bin .leq T0 (C 1))))] .t T0 (.c (.bool false))), mS 2 T0]
def c76s7 : SCode := (.seq (.ops c76r6) .ret)
@[go_sem] theorem c76s7eq : U c76s7 (.seq (.ops c76r6) .ret) := fun _ _ _ _ _ => rfl
@[go_sem] def c76r8 : List GOp := [oT (.v (.bin .eql S3 (C 3))), mS 6 T0]
@[go_sem] def c76r9 : List GOp := [fT 10 S1, lT T0, nT T0, oT (.v (.bin .eql T0 (C 1))), mS 2 T0]
def c76s10 : SCode := (.seq (.ops c76r9) .ret)
@[go_sem] theorem c76s10eq : U c76s10 (.seq (.ops c76r9) .ret) := fun _ _ _ _ _ => rfl
@[go_sem] def c76r11 : List GOp := [oT (.v (.bin .eql S3 (C 6))), mS 7 T0]
@[go_sem] def c76r12 : List GOp := [fT 8 S1, lT T0, nT T0, oT (.v (.bin .eql T0 (C 1))), mS 2 T0]
def c76s13 : SCode := (.seq (.ops c76r12) .ret)
@[go_sem] theorem c76s13eq : U c76s13 (.seq (.ops c76r12) .ret) := fun _ _ _ _ _ => rfl
@[go_sem] def c76r14 : List GOp := [oT (.v (.bin .eql S3 (C 7))), mS 8 T0]
@[go_sem] def c76r15 : List GOp := [fT 6 S1, lT T0, nT T0, oT (.v (.bin .eql T0 (C 1))), mS 2 T0]
def c76s16 : SCode := (.seq (.ops c76r15) .ret)
@[go_sem] theorem c76s16eq : U c76s16 (.seq (.ops c76r15) .ret) := fun _ _ _ _ _ => rfl
@[go_sem] def c76r17 : List GOp := [oT (.v (.bin .eql S3 (C 8))), mS 9 T0]
@[go_sem] def c76r18 : List GOp := [fT 10 S1, lT T0, nT T0, oT (.v (.bin .eql T0 (C 1))), mT T0, (.sel T0 true [(.op (.v (.fa 6 S1))), (.op (.ld none T0)), (.op (.v (.len T0))), (.op (.v (.bin .eql T0 (C 1)))), (.op (.v (.mv T0))), (.nst T0 true [(.op (.v (.fa 13 S1))), (.op (.ld none T0)), (.op (.v (.bin .eql T0 (C 0))))] T0 (.c (.bool false))), (.op (.v (.mv T0))), (.nst T0 false [(.op (.v (.fa 6 S1))), (.op (.ld none T0)), (.op (.v (.len T0))), (.op (.v (.bin .eql T0 (C 0)))), (.op (.v (.mv T0))), (.nst T0 true [(.op (.v (.fa 13 S1))), (.op (.ld none T0)), (.op (.v (.bin .geq T0 (C 1))))] T0 (.c (.bool false)))] (.c (.bool true)) T0)] .t T0 (.c (.bool false))), mS 2 T0]
def c76s19 : SCode := (.seq (.ops c76r18) .ret)
@[go_sem] theorem c76s19eq : U c76s19 (.seq (.ops c76r18) .ret) := fun _ _ _ _ _ => rfl
def c76s20 : SCode := (.seq (.ops c76r17) (.cond S9 c76s19 .skip))
@[go_sem] theorem c76s20eq : U c76s20 (.seq (.ops c76r17) (.cond S9 c76s19 .skip)) := fun _ _ _ _ _ => rfl
def c76s21 : SCode := (.cond S8 c76s16 c76s20)
@[go_sem] theorem c76s21eq : U c76s21 (.cond S8 c76s16 c76s20) := fun _ _ _ _ _ => rfl
def c76s22 : SCode := (.seq (.ops c76r14) c76s21)
@[go_sem] theorem c76s22eq : U c76s22 (.seq (.ops c76r14) c76s21) := fun _ _ _ _ _ => rfl
def c76s23 : SCode := (.cond S7 c76s13 c76s22)
@[go_sem] theorem c76s23eq : U c76s23 (.cond S7 c76s13 c76s22) := fun _ _ _ _ _ => rfl
def c76s24 : SCode := (.seq (.ops c76r11) c76s23)
@[go_sem] theorem c76s24eq : U c76s24 (.seq (.ops c76r11) c76s23) := fun _ _ _ _ _ => rfl
def c76s25 : SCode := (.cond S6 c76s10 c76s24)
@[go_sem] theorem c76s25eq : U c76s25 (.cond S6 c76s10 c76s24) := fun _ _ _ _ _ => rfl
def c76s26 : SCode := (.seq (.ops c76r8) c76s25)
@[go_sem] theorem c76s26eq : U c76s26 (.seq (.ops c76r8) c76s25) := fun _ _ _ _ _ => rfl
def c76s27 : SCode := (.seq (.ops c76r5) (.cond S5 c76s7 c76s26))
@[go_sem] theorem c76s27eq : U c76s27 (.seq (.ops c76r5) (.cond S5 c76s7 c76s26)) := fun _ _ _ _ _ => rfl
def c76s28 : SCode := (.block 0 (.seq (.ops c76r2) (.cond S4 c76s4 c76s27)))
@[go_sem] theorem c76s28eq : U c76s28 (.block 0 (.seq (.ops c76r2) (.cond S4 c76s4 c76s27))) := fun _ _ _ _ _ => rfl
@[go_sem] def c76r29 : List GOp := [mS 2 (.c (.bool true))]
def c76s30 : SCode := (.seq (.ops c76r29) .ret)
@[go_sem] theorem c76s30eq : U c76s30 (.seq (.ops c76r29) .ret) := fun _ _ _ _ _ => rfl
def c76s31 : SCode := (.seq (.seq (.ops c76r1) c76s28) c76s30)
@[go_sem] theorem c76s31eq : U c76s31 (.seq (.seq (.ops c76r1) c76s28) c76s30) := fun _ _ _ _ _ => rfl
def c76 : Gx.Fn := ⟨69, c76k, (.seq (.ops c76r0) c76s31), [(.tmp S2)]⟩
theorem c76ok : stripFn Tryz.prog c76k Tryz.f76 = some c76 := by kernel_rfl

/- frame.has$1 -/
@[go_sem] def c122k : List Nat := [0, 1, 2, 5]
@[go_sem] def c122r0 : List GOp := [mS 3 S1]
@[go_sem] def c122r1 : List GOp := [lT S2, mT S0, oT (.v (.bin .or T1 T0)), oN (.st 1 S2 T0)]
def c122s2 : SCode := (.cond S3 (.ops c122r1) .skip)
@[go_sem] theorem c122s2eq : U c122s2 (.cond S3 (.ops c122r1) .skip) := fun _ _ _ _ _ => rfl
def c122 : Gx.Fn := ⟨9, c122k, (.seq (.ops c122r0) c122s2), []⟩
theorem c122ok : stripFn Tryz.prog c122k Tryz.f122 = some c122 := by kernel_rfl

/- (*wire.Writer).Uint -/
@[go_sem] def c77k : List Nat := [0, 1, 5]
@[go_sem] def c77r0 : List GOp := [mT S1, oS 2 (.v (.bin .geq T0 (.c (.int .u64 128))))]
def c77s1 : SCode := (.cond S2 .skip (.exit 0))
@[go_sem] theorem c77s1eq : U c77s1 (.cond S2 .skip (.exit 0)) := fun _ _ _ _ _ => rfl
@[go_sem] def c77r2 : List GOp := [mT S0, mT S0, oT (.v (.nc T0)), fT 0 T0, lT T0, mT S1, oT (.v (.cvi .u8 T0)), oT (.v (.bin .or T0 (.c (.int .u8 128)))), oT (.bs 5 1 [(.int .u8 0)] [(0, (1, T0))]), oT (.ap 22 22 T4 T0), oT (.v (.nc T9)), fT 0 T0, oN (.st 1 T0 T2)]
@[go_sem] def c77r3 : List GOp := [mT S1, oT (.v (.bin .shr T0 (.c (.int .u64 7)))), mS 1 T0]
def c77s4 : SCode := (.ops c77r3)
@[go_sem] theorem c77s4eq : U c77s4 (.ops c77r3) := fun _ _ _ _ _ => rfl
def c77s5 : SCode := (.seq (.block 1 (.ops c77r2)) c77s4)
@[go_sem] theorem c77s5eq : U c77s5 (.seq (.block 1 (.ops c77r2)) c77s4) := fun _ _ _ _ _ => rfl
def c77s6 : SCode := (.seq (.seq (.ops c77r0) c77s1) c77s5)
@[go_sem] theorem c77s6eq : U c77s6 (.seq (.seq (.ops c77r0) c77s1) c77s5) := fun _ _ _ _ _ => rfl
@[go_sem] def c77r7 : List GOp := [mT S0, mT S0, oT (.v (.nc T0)), fT 0 T0, lT T0, mT S1, oT (.v (.cvi .u8 T0)), oT (.bs 5 1 [(.int .u8 0)] [(0, (1, T0))]), oT (.ap 22 22 T3 T0), oT (.v (.nc T8)), fT 0 T0, oN (.st 1 T0 T2)]
def c77s8 : SCode := (.ops c77r7)
@[go_sem] theorem c77s8eq : U c77s8 (.ops c77r7) := fun _ _ _ _ _ => rfl
def c77 : Gx.Fn := ⟨31, c77k, (.seq (.block 0 (.loop c77k c77s6)) c77s8), []⟩
theorem c77ok : stripFn Tryz.prog c77k Tryz.f77 = some c77 := by kernel_rfl

/- (*frame.writer).number -/
@[go_sem] def c78k : List Nat := [0, 1]
@[go_sem] def c78r0 : List GOp := [mT S0, oT (.v (.nc T0)), fT 0 T0, mT S1, oT (.call 123 [T1, T0])]
def c78 : Gx.Fn := ⟨9, c78k, (.ops c78r0), []⟩
theorem c78ok : stripFn Tryz.prog c78k Tryz.f78 = some c78 := by kernel_rfl

/- (*frame.writer).round -/
@[go_sem] def c79k : List Nat := [0, 1, 3]
@[go_sem] def c79r0 : List GOp := [oS 2 (.bx 29 S1)]
@[go_sem] def c79r1 : List GOp := [mT S0, fT 0 S2, lT T0, oT (.call 78 [T2, T0])]
@[go_sem] def c79r2 : List GOp := [mT S0, fT 1 S2, lT T0, oT (.call 78 [T2, T0])]
@[go_sem] def c79r3 : List GOp := [mT S0, fT 2 S2, lT T0, oT (.call 78 [T2, T0])]
def c79s4 : SCode := (.ops c79r3)
@[go_sem] theorem c79s4eq : U c79s4 (.ops c79r3) := fun _ _ _ _ _ => rfl
def c79s5 : SCode := (.seq (.ops c79r2) c79s4)
@[go_sem] theorem c79s5eq : U c79s5 (.seq (.ops c79r2) c79s4) := fun _ _ _ _ _ => rfl
def c79s6 : SCode := (.seq (.ops c79r1) c79s5)
@[go_sem] theorem c79s6eq : U c79s6 (.seq (.ops c79r1) c79s5) := fun _ _ _ _ _ => rfl
def c79 : Gx.Fn := ⟨16, c79k, (.seq (.ops c79r0) c79s6), []⟩
theorem c79ok : stripFn Tryz.prog c79k Tryz.f79 = some c79 := by kernel_rfl

/- frame.list[api.ReadID] -/
@[go_sem] def c80k : List Nat := [0, 1, 2, 7, 15, 16, 17, 18]
@[go_sem] def c80r0 : List GOp := [mT S0, oT (.v (.nc T0)), fT 0 T0, mT S1, nT T0, oT (.v (.cvi .u64 T0)), oT (.call 77 [T3, T0])]
@[go_sem] def c80r1 : List GOp := [mS 4 S1, oS 5 (.v (.len S4)), mS 6 (C 0)]
@[go_sem] def c80r2 : List GOp := [oS 7 (.v (.bin .lss S6 S5))]
@[go_sem] def c80r3 : List GOp := [oT (.v (.ix 3 S4 S6)), oT (.ld (some 3) T0), oS 3 (.al 92 [(I 0), (I 0), Z]), oN (.st 3 S3 T0)]
@[go_sem] def c80r4 : List GOp := [mT S2, oT (.ld (some 3) S3), oT (.cv T1 [T0])]
def c80s5 : SCode := (.ops c80r4)
@[go_sem] theorem c80s5eq : U c80s5 (.ops c80r4) := fun _ _ _ _ _ => rfl
@[go_sem] def c80r6 : List GOp := [oT (.v (.bin .add S6 (C 1))), mS 6 T0]
def c80s7 : SCode := (.ops c80r6)
@[go_sem] theorem c80s7eq : U c80s7 (.ops c80r6) := fun _ _ _ _ _ => rfl
def c80s8 : SCode := (.seq (.block 1 (.seq (.ops c80r3) c80s5)) c80s7)
@[go_sem] theorem c80s8eq : U c80s8 (.seq (.block 1 (.seq (.ops c80r3) c80s5)) c80s7) := fun _ _ _ _ _ => rfl
def c80s9 : SCode := (.seq (.cond S7 .skip (.exit 0)) c80s8)
@[go_sem] theorem c80s9eq : U c80s9 (.seq (.cond S7 .skip (.exit 0)) c80s8) := fun _ _ _ _ _ => rfl
def c80s10 : SCode := (.seq (.ops c80r2) c80s9)
@[go_sem] theorem c80s10eq : U c80s10 (.seq (.ops c80r2) c80s9) := fun _ _ _ _ _ => rfl
def c80s11 : SCode := (.block 0 (.loop c80k c80s10))
@[go_sem] theorem c80s11eq : U c80s11 (.block 0 (.loop c80k c80s10)) := fun _ _ _ _ _ => rfl
def c80s12 : SCode := (.seq (.ops c80r1) c80s11)
@[go_sem] theorem c80s12eq : U c80s12 (.seq (.ops c80r1) c80s11) := fun _ _ _ _ _ => rfl
def c80 : Gx.Fn := ⟨25, c80k, (.seq (.ops c80r0) c80s12), []⟩
theorem c80ok : stripFn Tryz.prog c80k Tryz.f80 = some c80 := by kernel_rfl

/- (*frame.writer).read -/
@[go_sem] def c81k : List Nat := [0, 1, 3]
@[go_sem] def c81r0 : List GOp := [oS 2 (.bx 92 S1)]
@[go_sem] def c81r1 : List GOp := [mT S0, fT 0 S2, lT T0, oT (.call 78 [T2, T0])]
@[go_sem] def c81r2 : List GOp := [mT S0, fT 1 S2, lT T0, oT (.call 78 [T2, T0])]
@[go_sem] def c81d3 : DT := (rm S0 [5] (.rd none .t (.v (.nc T0)) [5] (rf 0 T0 [5] (rf 2 S2 [5] (rl T0 [5] (.ef 5 none .t (.call 124 [T2, T0]) .done))))))
def c81s4 : SCode := (.de c81d3)
@[go_sem] theorem c81s4eq : U c81s4 (.de c81d3) := fun _ _ _ _ _ => rfl
def c81s5 : SCode := (.seq (.ops c81r2) c81s4)
@[go_sem] theorem c81s5eq : U c81s5 (.seq (.ops c81r2) c81s4) := fun _ _ _ _ _ => rfl
def c81s6 : SCode := (.seq (.ops c81r1) c81s5)
@[go_sem] theorem c81s6eq : U c81s6 (.seq (.ops c81r1) c81s5) := fun _ _ _ _ _ => rfl
def c81 : Gx.Fn := ⟨18, c81k, (.seq (.ops c81r0) c81s6), []⟩
theorem c81ok : stripFn Tryz.prog c81k Tryz.f81 = some c81 := by kernel_rfl

/- frame.list[api.Base] -/
@[go_sem] def c82k : List Nat := [0, 1, 2, 7, 15, 16, 17, 18]
@[go_sem] def c82r0 : List GOp := [mT S0, oT (.v (.nc T0)), fT 0 T0, mT S1, nT T0, oT (.v (.cvi .u64 T0)), oT (.call 77 [T3, T0])]
@[go_sem] def c82r1 : List GOp := [mS 4 S1, oS 5 (.v (.len S4)), mS 6 (C 0)]
@[go_sem] def c82r2 : List GOp := [oS 7 (.v (.bin .lss S6 S5))]
@[go_sem] def c82r3 : List GOp := [oT (.v (.ix 2 S4 S6)), oT (.ld (some 2) T0), oS 3 (.al 60 [Z, Z]), oN (.st 2 S3 T0)]
@[go_sem] def c82r4 : List GOp := [mT S2, oT (.ld (some 2) S3), oT (.cv T1 [T0])]
def c82s5 : SCode := (.ops c82r4)
@[go_sem] theorem c82s5eq : U c82s5 (.ops c82r4) := fun _ _ _ _ _ => rfl
@[go_sem] def c82r6 : List GOp := [oT (.v (.bin .add S6 (C 1))), mS 6 T0]
def c82s7 : SCode := (.ops c82r6)
@[go_sem] theorem c82s7eq : U c82s7 (.ops c82r6) := fun _ _ _ _ _ => rfl
def c82s8 : SCode := (.seq (.block 1 (.seq (.ops c82r3) c82s5)) c82s7)
@[go_sem] theorem c82s8eq : U c82s8 (.seq (.block 1 (.seq (.ops c82r3) c82s5)) c82s7) := fun _ _ _ _ _ => rfl
def c82s9 : SCode := (.seq (.cond S7 .skip (.exit 0)) c82s8)
@[go_sem] theorem c82s9eq : U c82s9 (.seq (.cond S7 .skip (.exit 0)) c82s8) := fun _ _ _ _ _ => rfl
def c82s10 : SCode := (.seq (.ops c82r2) c82s9)
@[go_sem] theorem c82s10eq : U c82s10 (.seq (.ops c82r2) c82s9) := fun _ _ _ _ _ => rfl
def c82s11 : SCode := (.block 0 (.loop c82k c82s10))
@[go_sem] theorem c82s11eq : U c82s11 (.block 0 (.loop c82k c82s10)) := fun _ _ _ _ _ => rfl
def c82s12 : SCode := (.seq (.ops c82r1) c82s11)
@[go_sem] theorem c82s12eq : U c82s12 (.seq (.ops c82r1) c82s11) := fun _ _ _ _ _ => rfl
def c82 : Gx.Fn := ⟨25, c82k, (.seq (.ops c82r0) c82s12), []⟩
theorem c82ok : stripFn Tryz.prog c82k Tryz.f82 = some c82 := by kernel_rfl

/- (*frame.writer).base -/
@[go_sem] def c83k : List Nat := [0, 1, 3]
@[go_sem] def c83r0 : List GOp := [oS 2 (.bx 60 S1)]
@[go_sem] def c83r1 : List GOp := [mT S0, fT 0 S2, lT T0, mT S0, oT (.v (.mkf 126 [T0] [])), oT (.call 125 [T4, T2, T0])]
@[go_sem] def c83r2 : List GOp := [mT S0, fT 1 S2, lT T0, mT S0, oT (.v (.mkf 85 [T0] [])), oT (.call 84 [T4, T2, T0])]
def c83s3 : SCode := (.ops c83r2)
@[go_sem] theorem c83s3eq : U c83s3 (.ops c83r2) := fun _ _ _ _ _ => rfl
def c83s4 : SCode := (.seq (.ops c83r1) c83s3)
@[go_sem] theorem c83s4eq : U c83s4 (.seq (.ops c83r1) c83s3) := fun _ _ _ _ _ => rfl
def c83 : Gx.Fn := ⟨16, c83k, (.seq (.ops c83r0) c83s4), []⟩
theorem c83ok : stripFn Tryz.prog c83k Tryz.f83 = some c83 := by kernel_rfl

/- frame.list[api.Command] -/
@[go_sem] def c84k : List Nat := [0, 1, 2, 7, 15, 16, 17, 18]
@[go_sem] def c84r0 : List GOp := [mT S0, oT (.v (.nc T0)), fT 0 T0, mT S1, nT T0, oT (.v (.cvi .u64 T0)), oT (.call 77 [T3, T0])]
@[go_sem] def c84r1 : List GOp := [mS 4 S1, oS 5 (.v (.len S4)), mS 6 (C 0)]
@[go_sem] def c84r2 : List GOp := [oS 7 (.v (.bin .lss S6 S5))]
@[go_sem] def c84r3 : List GOp := [oT (.v (.ix 6 S4 S6)), oT (.ld (some 6) T0), oS 3 (.al 99 [(I 0), (I 0), (I 0), Z, (I 0), Z]), oN (.st 6 S3 T0)]
@[go_sem] def c84r4 : List GOp := [mT S2, oT (.ld (some 6) S3), oT (.cv T1 [T0])]
def c84s5 : SCode := (.ops c84r4)
@[go_sem] theorem c84s5eq : U c84s5 (.ops c84r4) := fun _ _ _ _ _ => rfl
@[go_sem] def c84r6 : List GOp := [oT (.v (.bin .add S6 (C 1))), mS 6 T0]
def c84s7 : SCode := (.ops c84r6)
@[go_sem] theorem c84s7eq : U c84s7 (.ops c84r6) := fun _ _ _ _ _ => rfl
def c84s8 : SCode := (.seq (.block 1 (.seq (.ops c84r3) c84s5)) c84s7)
@[go_sem] theorem c84s8eq : U c84s8 (.seq (.block 1 (.seq (.ops c84r3) c84s5)) c84s7) := fun _ _ _ _ _ => rfl
def c84s9 : SCode := (.seq (.cond S7 .skip (.exit 0)) c84s8)
@[go_sem] theorem c84s9eq : U c84s9 (.seq (.cond S7 .skip (.exit 0)) c84s8) := fun _ _ _ _ _ => rfl
def c84s10 : SCode := (.seq (.ops c84r2) c84s9)
@[go_sem] theorem c84s10eq : U c84s10 (.seq (.ops c84r2) c84s9) := fun _ _ _ _ _ => rfl
def c84s11 : SCode := (.block 0 (.loop c84k c84s10))
@[go_sem] theorem c84s11eq : U c84s11 (.block 0 (.loop c84k c84s10)) := fun _ _ _ _ _ => rfl
def c84s12 : SCode := (.seq (.ops c84r1) c84s11)
@[go_sem] theorem c84s12eq : U c84s12 (.seq (.ops c84r1) c84s11) := fun _ _ _ _ _ => rfl
def c84 : Gx.Fn := ⟨25, c84k, (.seq (.ops c84r0) c84s12), []⟩
theorem c84ok : stripFn Tryz.prog c84k Tryz.f84 = some c84 := by kernel_rfl

/- (*frame.writer).command -/
@[go_sem] def c85k : List Nat := [0, 1, 3]
@[go_sem] def c85r0 : List GOp := [oS 2 (.bx 99 S1)]
@[go_sem] def c85r1 : List GOp := [mT S0, fT 0 S2, lT T0, oT (.call 78 [T2, T0])]
@[go_sem] def c85r2 : List GOp := [mT S0, fT 1 S2, lT T0, oT (.call 78 [T2, T0])]
@[go_sem] def c85r3 : List GOp := [mT S0, fT 2 S2, lT T0, oT (.call 78 [T2, T0])]
@[go_sem] def c85r4 : List GOp := [mT S0, fT 3 S2, lT T0, mT S0, oT (.v (.mkf 128 [T0] [])), oT (.call 127 [T4, T2, T0])]
@[go_sem] def c85r5 : List GOp := [mT S0, fT 4 S2, lT T0, oT (.call 78 [T2, T0])]
@[go_sem] def c85d6 : DT := (rm S0 [5] (.rd none .t (.v (.nc T0)) [5] (rf 0 T0 [5] (rf 5 S2 [5] (rl T0 [5] (.ef 5 none .t (.call 124 [T2, T0]) .done))))))
def c85s7 : SCode := (.de c85d6)
@[go_sem] theorem c85s7eq : U c85s7 (.de c85d6) := fun _ _ _ _ _ => rfl
def c85s8 : SCode := (.seq (.ops c85r5) c85s7)
@[go_sem] theorem c85s8eq : U c85s8 (.seq (.ops c85r5) c85s7) := fun _ _ _ _ _ => rfl
def c85s9 : SCode := (.seq (.ops c85r4) c85s8)
@[go_sem] theorem c85s9eq : U c85s9 (.seq (.ops c85r4) c85s8) := fun _ _ _ _ _ => rfl
def c85s10 : SCode := (.seq (.ops c85r3) c85s9)
@[go_sem] theorem c85s10eq : U c85s10 (.seq (.ops c85r3) c85s9) := fun _ _ _ _ _ => rfl
def c85s11 : SCode := (.seq (.ops c85r2) c85s10)
@[go_sem] theorem c85s11eq : U c85s11 (.seq (.ops c85r2) c85s10) := fun _ _ _ _ _ => rfl
def c85s12 : SCode := (.seq (.ops c85r1) c85s11)
@[go_sem] theorem c85s12eq : U c85s12 (.seq (.ops c85r1) c85s11) := fun _ _ _ _ _ => rfl
def c85 : Gx.Fn := ⟨32, c85k, (.seq (.ops c85r0) c85s12), []⟩
theorem c85ok : stripFn Tryz.prog c85k Tryz.f85 = some c85 := by kernel_rfl

/- frame.list[api.Ack] -/
@[go_sem] def c86k : List Nat := [0, 1, 2, 7, 15, 16, 17, 18]
@[go_sem] def c86r0 : List GOp := [mT S0, oT (.v (.nc T0)), fT 0 T0, mT S1, nT T0, oT (.v (.cvi .u64 T0)), oT (.call 77 [T3, T0])]
@[go_sem] def c86r1 : List GOp := [mS 4 S1, oS 5 (.v (.len S4)), mS 6 (C 0)]
@[go_sem] def c86r2 : List GOp := [oS 7 (.v (.bin .lss S6 S5))]
@[go_sem] def c86r3 : List GOp := [oT (.v (.ix 2 S4 S6)), oT (.ld (some 2) T0), oS 3 (.al 103 [(I 0), Z]), oN (.st 2 S3 T0)]
@[go_sem] def c86r4 : List GOp := [mT S2, oT (.ld (some 2) S3), oT (.cv T1 [T0])]
def c86s5 : SCode := (.ops c86r4)
@[go_sem] theorem c86s5eq : U c86s5 (.ops c86r4) := fun _ _ _ _ _ => rfl
@[go_sem] def c86r6 : List GOp := [oT (.v (.bin .add S6 (C 1))), mS 6 T0]
def c86s7 : SCode := (.ops c86r6)
@[go_sem] theorem c86s7eq : U c86s7 (.ops c86r6) := fun _ _ _ _ _ => rfl
def c86s8 : SCode := (.seq (.block 1 (.seq (.ops c86r3) c86s5)) c86s7)
@[go_sem] theorem c86s8eq : U c86s8 (.seq (.block 1 (.seq (.ops c86r3) c86s5)) c86s7) := fun _ _ _ _ _ => rfl
def c86s9 : SCode := (.seq (.cond S7 .skip (.exit 0)) c86s8)
@[go_sem] theorem c86s9eq : U c86s9 (.seq (.cond S7 .skip (.exit 0)) c86s8) := fun _ _ _ _ _ => rfl
def c86s10 : SCode := (.seq (.ops c86r2) c86s9)
@[go_sem] theorem c86s10eq : U c86s10 (.seq (.ops c86r2) c86s9) := fun _ _ _ _ _ => rfl
def c86s11 : SCode := (.block 0 (.loop c86k c86s10))
@[go_sem] theorem c86s11eq : U c86s11 (.block 0 (.loop c86k c86s10)) := fun _ _ _ _ _ => rfl
def c86s12 : SCode := (.seq (.ops c86r1) c86s11)
@[go_sem] theorem c86s12eq : U c86s12 (.seq (.ops c86r1) c86s11) := fun _ _ _ _ _ => rfl
def c86 : Gx.Fn := ⟨25, c86k, (.seq (.ops c86r0) c86s12), []⟩
theorem c86ok : stripFn Tryz.prog c86k Tryz.f86 = some c86 := by kernel_rfl

/- (*frame.writer).ack -/
@[go_sem] def c87k : List Nat := [0, 1, 3]
@[go_sem] def c87r0 : List GOp := [oS 2 (.bx 103 S1)]
@[go_sem] def c87r1 : List GOp := [mT S0, fT 0 S2, lT T0, oT (.call 78 [T2, T0])]
@[go_sem] def c87d2 : DT := (rm S0 [5] (.rd none .t (.v (.nc T0)) [5] (rf 0 T0 [5] (rf 1 S2 [5] (rl T0 [5] (.ef 5 none .t (.call 124 [T2, T0]) .done))))))
def c87s3 : SCode := (.de c87d2)
@[go_sem] theorem c87s3eq : U c87s3 (.de c87d2) := fun _ _ _ _ _ => rfl
def c87s4 : SCode := (.seq (.ops c87r1) c87s3)
@[go_sem] theorem c87s4eq : U c87s4 (.seq (.ops c87r1) c87s3) := fun _ _ _ _ _ => rfl
def c87 : Gx.Fn := ⟨14, c87k, (.seq (.ops c87r0) c87s4), []⟩
theorem c87ok : stripFn Tryz.prog c87k Tryz.f87 = some c87 := by kernel_rfl

/- frame.list[api.Proof] -/
@[go_sem] def c88k : List Nat := [0, 1, 2, 7, 15, 16, 17, 18]
@[go_sem] def c88r0 : List GOp := [mT S0, oT (.v (.nc T0)), fT 0 T0, mT S1, nT T0, oT (.v (.cvi .u64 T0)), oT (.call 77 [T3, T0])]
@[go_sem] def c88r1 : List GOp := [mS 4 S1, oS 5 (.v (.len S4)), mS 6 (C 0)]
@[go_sem] def c88r2 : List GOp := [oS 7 (.v (.bin .lss S6 S5))]
@[go_sem] def c88r3 : List GOp := [oT (.v (.ix 10 S4 S6)), oT (.ld (some 10) T0), oS 3 (.al 66 [Z, (I 0), (I 0), (I 0), Z, Z, Z, (I 0), Z, Z]), oN (.st 10 S3 T0)]
@[go_sem] def c88r4 : List GOp := [mT S2, oT (.ld (some 10) S3), oT (.cv T1 [T0])]
def c88s5 : SCode := (.ops c88r4)
@[go_sem] theorem c88s5eq : U c88s5 (.ops c88r4) := fun _ _ _ _ _ => rfl
@[go_sem] def c88r6 : List GOp := [oT (.v (.bin .add S6 (C 1))), mS 6 T0]
def c88s7 : SCode := (.ops c88r6)
@[go_sem] theorem c88s7eq : U c88s7 (.ops c88r6) := fun _ _ _ _ _ => rfl
def c88s8 : SCode := (.seq (.block 1 (.seq (.ops c88r3) c88s5)) c88s7)
@[go_sem] theorem c88s8eq : U c88s8 (.seq (.block 1 (.seq (.ops c88r3) c88s5)) c88s7) := fun _ _ _ _ _ => rfl
def c88s9 : SCode := (.seq (.cond S7 .skip (.exit 0)) c88s8)
@[go_sem] theorem c88s9eq : U c88s9 (.seq (.cond S7 .skip (.exit 0)) c88s8) := fun _ _ _ _ _ => rfl
def c88s10 : SCode := (.seq (.ops c88r2) c88s9)
@[go_sem] theorem c88s10eq : U c88s10 (.seq (.ops c88r2) c88s9) := fun _ _ _ _ _ => rfl
def c88s11 : SCode := (.block 0 (.loop c88k c88s10))
@[go_sem] theorem c88s11eq : U c88s11 (.block 0 (.loop c88k c88s10)) := fun _ _ _ _ _ => rfl
def c88s12 : SCode := (.seq (.ops c88r1) c88s11)
@[go_sem] theorem c88s12eq : U c88s12 (.seq (.ops c88r1) c88s11) := fun _ _ _ _ _ => rfl
def c88 : Gx.Fn := ⟨25, c88k, (.seq (.ops c88r0) c88s12), []⟩
theorem c88ok : stripFn Tryz.prog c88k Tryz.f88 = some c88 := by kernel_rfl

/- (*frame.writer).proof -/
@[go_sem] def c89k : List Nat := [0, 1, 3]
@[go_sem] def c89r0 : List GOp := [oS 2 (.bx 66 S1)]
@[go_sem] def c89r1 : List GOp := [mT S0, fT 0 S2, lT T0, mT S0, oT (.v (.mkf 126 [T0] [])), oT (.call 125 [T4, T2, T0])]
@[go_sem] def c89r2 : List GOp := [mT S0, fT 1 S2, oT (.ld (some 9) T0), oT (.call 126 [T2, T0])]
def c89s3 : SCode := (.ops c89r2)
@[go_sem] theorem c89s3eq : U c89s3 (.ops c89r2) := fun _ _ _ _ _ => rfl
def c89s4 : SCode := (.seq (.ops c89r1) c89s3)
@[go_sem] theorem c89s4eq : U c89s4 (.seq (.ops c89r1) c89s3) := fun _ _ _ _ _ => rfl
def c89 : Gx.Fn := ⟨14, c89k, (.seq (.ops c89r0) c89s4), []⟩
theorem c89ok : stripFn Tryz.prog c89k Tryz.f89 = some c89 := by kernel_rfl

/- frame.list[api.Digest] -/
@[go_sem] def c90k : List Nat := [0, 1, 2, 7, 15, 16, 17, 18]
@[go_sem] def c90r0 : List GOp := [mT S0, oT (.v (.nc T0)), fT 0 T0, mT S1, nT T0, oT (.v (.cvi .u64 T0)), oT (.call 77 [T3, T0])]
@[go_sem] def c90r1 : List GOp := [mS 4 S1, oS 5 (.v (.len S4)), mS 6 (C 0)]
@[go_sem] def c90r2 : List GOp := [oS 7 (.v (.bin .lss S6 S5))]
@[go_sem] def c90r3 : List GOp := [oT (.v (.ix 3 S4 S6)), oT (.ld (some 3) T0), oS 3 (.al 68 [Z, Z, (I 0)]), oN (.st 3 S3 T0)]
@[go_sem] def c90r4 : List GOp := [mT S2, oT (.ld (some 3) S3), oT (.cv T1 [T0])]
def c90s5 : SCode := (.ops c90r4)
@[go_sem] theorem c90s5eq : U c90s5 (.ops c90r4) := fun _ _ _ _ _ => rfl
@[go_sem] def c90r6 : List GOp := [oT (.v (.bin .add S6 (C 1))), mS 6 T0]
def c90s7 : SCode := (.ops c90r6)
@[go_sem] theorem c90s7eq : U c90s7 (.ops c90r6) := fun _ _ _ _ _ => rfl
def c90s8 : SCode := (.seq (.block 1 (.seq (.ops c90r3) c90s5)) c90s7)
@[go_sem] theorem c90s8eq : U c90s8 (.seq (.block 1 (.seq (.ops c90r3) c90s5)) c90s7) := fun _ _ _ _ _ => rfl
def c90s9 : SCode := (.seq (.cond S7 .skip (.exit 0)) c90s8)
@[go_sem] theorem c90s9eq : U c90s9 (.seq (.cond S7 .skip (.exit 0)) c90s8) := fun _ _ _ _ _ => rfl
def c90s10 : SCode := (.seq (.ops c90r2) c90s9)
@[go_sem] theorem c90s10eq : U c90s10 (.seq (.ops c90r2) c90s9) := fun _ _ _ _ _ => rfl
def c90s11 : SCode := (.block 0 (.loop c90k c90s10))
@[go_sem] theorem c90s11eq : U c90s11 (.block 0 (.loop c90k c90s10)) := fun _ _ _ _ _ => rfl
def c90s12 : SCode := (.seq (.ops c90r1) c90s11)
@[go_sem] theorem c90s12eq : U c90s12 (.seq (.ops c90r1) c90s11) := fun _ _ _ _ _ => rfl
def c90 : Gx.Fn := ⟨25, c90k, (.seq (.ops c90r0) c90s12), []⟩
theorem c90ok : stripFn Tryz.prog c90k Tryz.f90 = some c90 := by kernel_rfl

/- (*frame.writer).digest -/
@[go_sem] def c91k : List Nat := [0, 1, 3]
@[go_sem] def c91r0 : List GOp := [oS 2 (.bx 68 S1)]
@[go_sem] def c91d1 : DT := (rm S0 [5] (.rd none .t (.v (.nc T0)) [5] (rf 0 T0 [5] (rf 0 S2 [5] (rl T0 [5] (.ef 5 none .t (.call 124 [T2, T0]) .done))))))
@[go_sem] def c91d2 : DT := (rm S0 [5] (.rd none .t (.v (.nc T0)) [5] (rf 0 T0 [5] (rf 1 S2 [5] (rl T0 [5] (.ef 5 none .t (.call 124 [T2, T0]) .done))))))
@[go_sem] def c91r3 : List GOp := [mT S0, fT 2 S2, lT T0, oT (.call 78 [T2, T0])]
def c91s4 : SCode := (.ops c91r3)
@[go_sem] theorem c91s4eq : U c91s4 (.ops c91r3) := fun _ _ _ _ _ => rfl
def c91s5 : SCode := (.seq (.de c91d2) c91s4)
@[go_sem] theorem c91s5eq : U c91s5 (.seq (.de c91d2) c91s4) := fun _ _ _ _ _ => rfl
def c91s6 : SCode := (.seq (.de c91d1) c91s5)
@[go_sem] theorem c91s6eq : U c91s6 (.seq (.de c91d1) c91s5) := fun _ _ _ _ _ => rfl
def c91 : Gx.Fn := ⟨20, c91k, (.seq (.ops c91r0) c91s6), []⟩
theorem c91ok : stripFn Tryz.prog c91k Tryz.f91 = some c91 := by kernel_rfl

/- frame.list[string] -/
@[go_sem] def c92k : List Nat := [0, 1, 2, 7, 15, 16, 17, 18]
@[go_sem] def c92r0 : List GOp := [mT S0, oT (.v (.nc T0)), fT 0 T0, mT S1, nT T0, oT (.v (.cvi .u64 T0)), oT (.call 77 [T3, T0])]
@[go_sem] def c92r1 : List GOp := [mS 4 S1, oS 5 (.v (.len S4)), mS 6 (C 0)]
@[go_sem] def c92r2 : List GOp := [oS 7 (.v (.bin .lss S6 S5))]
@[go_sem] def c92r3 : List GOp := [oT (.v (.ix 1 S4 S6)), lT T0, mS 3 T0]
@[go_sem] def c92r4 : List GOp := [mT S2, mT S3, oT (.cv T1 [T0])]
def c92s5 : SCode := (.ops c92r4)
@[go_sem] theorem c92s5eq : U c92s5 (.ops c92r4) := fun _ _ _ _ _ => rfl
@[go_sem] def c92r6 : List GOp := [oT (.v (.bin .add S6 (C 1))), mS 6 T0]
def c92s7 : SCode := (.ops c92r6)
@[go_sem] theorem c92s7eq : U c92s7 (.ops c92r6) := fun _ _ _ _ _ => rfl
def c92s8 : SCode := (.seq (.block 1 (.seq (.ops c92r3) c92s5)) c92s7)
@[go_sem] theorem c92s8eq : U c92s8 (.seq (.block 1 (.seq (.ops c92r3) c92s5)) c92s7) := fun _ _ _ _ _ => rfl
def c92s9 : SCode := (.seq (.cond S7 .skip (.exit 0)) c92s8)
@[go_sem] theorem c92s9eq : U c92s9 (.seq (.cond S7 .skip (.exit 0)) c92s8) := fun _ _ _ _ _ => rfl
def c92s10 : SCode := (.seq (.ops c92r2) c92s9)
@[go_sem] theorem c92s10eq : U c92s10 (.seq (.ops c92r2) c92s9) := fun _ _ _ _ _ => rfl
def c92s11 : SCode := (.block 0 (.loop c92k c92s10))
@[go_sem] theorem c92s11eq : U c92s11 (.block 0 (.loop c92k c92s10)) := fun _ _ _ _ _ => rfl
def c92s12 : SCode := (.seq (.ops c92r1) c92s11)
@[go_sem] theorem c92s12eq : U c92s12 (.seq (.ops c92r1) c92s11) := fun _ _ _ _ _ => rfl
def c92 : Gx.Fn := ⟨25, c92k, (.seq (.ops c92r0) c92s12), []⟩
theorem c92ok : stripFn Tryz.prog c92k Tryz.f92 = some c92 := by kernel_rfl

/- (*wire.Writer).Text -/
@[go_sem] def c93k : List Nat := [0, 1]
@[go_sem] def c93r0 : List GOp := [mT S0, mT S1, oT (.v (.slen T0)), oT (.v (.cvi .u64 T0)), oT (.call 77 [T3, T0])]
@[go_sem] def c93r1 : List GOp := [mT S0, mT S0, oT (.v (.nc T0)), fT 0 T0, lT T0, mT S1, oT (.ap 22 9 T1 T0), oT (.v (.nc T6)), fT 0 T0, oN (.st 1 T0 T2)]
def c93s2 : SCode := (.ops c93r1)
@[go_sem] theorem c93s2eq : U c93s2 (.ops c93r1) := fun _ _ _ _ _ => rfl
def c93 : Gx.Fn := ⟨18, c93k, (.seq (.ops c93r0) c93s2), []⟩
theorem c93ok : stripFn Tryz.prog c93k Tryz.f93 = some c93 := by kernel_rfl

/- frame.list[api.Item] -/
@[go_sem] def c94k : List Nat := [0, 1, 2, 7, 15, 16, 17, 18]
@[go_sem] def c94r0 : List GOp := [mT S0, oT (.v (.nc T0)), fT 0 T0, mT S1, nT T0, oT (.v (.cvi .u64 T0)), oT (.call 77 [T3, T0])]
@[go_sem] def c94r1 : List GOp := [mS 4 S1, oS 5 (.v (.len S4)), mS 6 (C 0)]
@[go_sem] def c94r2 : List GOp := [oS 7 (.v (.bin .lss S6 S5))]
@[go_sem] def c94r3 : List GOp := [oT (.v (.ix 4 S4 S6)), oT (.ld (some 4) T0), oS 3 (.al 71 [(.string ⟨⟨[]⟩⟩), (.bool false), Z, Z]), oN (.st 4 S3 T0)]
@[go_sem] def c94r4 : List GOp := [mT S2, oT (.ld (some 4) S3), oT (.cv T1 [T0])]
def c94s5 : SCode := (.ops c94r4)
@[go_sem] theorem c94s5eq : U c94s5 (.ops c94r4) := fun _ _ _ _ _ => rfl
@[go_sem] def c94r6 : List GOp := [oT (.v (.bin .add S6 (C 1))), mS 6 T0]
def c94s7 : SCode := (.ops c94r6)
@[go_sem] theorem c94s7eq : U c94s7 (.ops c94r6) := fun _ _ _ _ _ => rfl
def c94s8 : SCode := (.seq (.block 1 (.seq (.ops c94r3) c94s5)) c94s7)
@[go_sem] theorem c94s8eq : U c94s8 (.seq (.block 1 (.seq (.ops c94r3) c94s5)) c94s7) := fun _ _ _ _ _ => rfl
def c94s9 : SCode := (.seq (.cond S7 .skip (.exit 0)) c94s8)
@[go_sem] theorem c94s9eq : U c94s9 (.seq (.cond S7 .skip (.exit 0)) c94s8) := fun _ _ _ _ _ => rfl
def c94s10 : SCode := (.seq (.ops c94r2) c94s9)
@[go_sem] theorem c94s10eq : U c94s10 (.seq (.ops c94r2) c94s9) := fun _ _ _ _ _ => rfl
def c94s11 : SCode := (.block 0 (.loop c94k c94s10))
@[go_sem] theorem c94s11eq : U c94s11 (.block 0 (.loop c94k c94s10)) := fun _ _ _ _ _ => rfl
def c94s12 : SCode := (.seq (.ops c94r1) c94s11)
@[go_sem] theorem c94s12eq : U c94s12 (.seq (.ops c94r1) c94s11) := fun _ _ _ _ _ => rfl
def c94 : Gx.Fn := ⟨25, c94k, (.seq (.ops c94r0) c94s12), []⟩
theorem c94ok : stripFn Tryz.prog c94k Tryz.f94 = some c94 := by kernel_rfl

/- (*frame.writer).item -/
@[go_sem] def c95k : List Nat := [0, 1, 3]
@[go_sem] def c95r0 : List GOp := [oS 2 (.bx 71 S1)]
@[go_sem] def c95d1 : DT := (rm S0 [5] (.rd none .t (.v (.nc T0)) [5] (rf 0 T0 [5] (rf 0 S2 [5] (rl T0 [5] (.ef 5 none .t (.call 93 [T2, T0]) .done))))))
@[go_sem] def c95d2 : DT := (rm S0 [5] (.rd none .t (.v (.nc T0)) [5] (rf 0 T0 [5] (rf 1 S2 [5] (rl T0 [5] (.ef 5 none .t (.call 129 [T2, T0]) .done))))))
@[go_sem] def c95d3 : DT := (rm S0 [5] (.rd none .t (.v (.nc T0)) [5] (rf 0 T0 [5] (rf 2 S2 [5] (rl T0 [5] (.ef 5 none .t (.call 124 [T2, T0]) .done))))))
@[go_sem] def c95d4 : DT := (rm S0 [7] (rf 3 S2 [7] (rl T0 [7] (rm S0 [7] (.rd none .t (.v (.nc T0)) [7] (rf 0 T0 [7] (.rd none .t (.v (.mkf 124 [T0] [])) [7] (.ef 7 none .t (.call 130 [T6, T4, T0]) .done))))))))
def c95s5 : SCode := (.de c95d4)
@[go_sem] theorem c95s5eq : U c95s5 (.de c95d4) := fun _ _ _ _ _ => rfl
def c95s6 : SCode := (.seq (.de c95d3) c95s5)
@[go_sem] theorem c95s6eq : U c95s6 (.seq (.de c95d3) c95s5) := fun _ _ _ _ _ => rfl
def c95s7 : SCode := (.seq (.de c95d2) c95s6)
@[go_sem] theorem c95s7eq : U c95s7 (.seq (.de c95d2) c95s6) := fun _ _ _ _ _ => rfl
def c95s8 : SCode := (.seq (.de c95d1) c95s7)
@[go_sem] theorem c95s8eq : U c95s8 (.seq (.de c95d1) c95s7) := fun _ _ _ _ _ => rfl
def c95 : Gx.Fn := ⟨30, c95k, (.seq (.ops c95r0) c95s8), []⟩
theorem c95ok : stripFn Tryz.prog c95k Tryz.f95 = some c95 := by kernel_rfl

/- (*wire.Writer).Data -/
@[go_sem] def c96k : List Nat := [0, 2]
@[go_sem] def c96r0 : List GOp := [mS 1 (.c Z)]
@[go_sem] def c96r1 : List GOp := [oT (.bs 5 0 [] []), mT S0, oT (.v (.nc T0)), fT 0 T0, lT T0, oT (.ap 22 22 T4 T0), mS 1 T0]
def c96s2 : SCode := (.seq (.ops c96r1) .ret)
@[go_sem] theorem c96s2eq : U c96s2 (.seq (.ops c96r1) .ret) := fun _ _ _ _ _ => rfl
def c96 : Gx.Fn := ⟨9, c96k, (.seq (.ops c96r0) c96s2), [(.tmp S1)]⟩
theorem c96ok : stripFn Tryz.prog c96k Tryz.f96 = some c96 := by kernel_rfl

/- (*wire.Writer).Int -/
@[go_sem] def c123k : List Nat := [0, 1]
@[go_sem] def c123r0 : List GOp := [mT S0, mT S1, oT (.v (.cvi .u64 T0)), oT (.v (.bin .shl T0 (.c (.int .u64 1)))), mT S1, oT (.v (.bin .shr T0 (.c (.int .u64 63)))), oT (.v (.cvi .u64 T0)), oT (.v (.bin .xor T3 T0)), oT (.call 77 [T7, T0])]
def c123 : Gx.Fn := ⟨13, c123k, (.ops c123r0), []⟩
theorem c123ok : stripFn Tryz.prog c123k Tryz.f123 = some c123 := by kernel_rfl

/- (*wire.Writer).Bytes -/
@[go_sem] def c124k : List Nat := [0, 1]
@[go_sem] def c124r0 : List GOp := [mT S0, mT S1, nT T0, oT (.v (.cvi .u64 T0)), oT (.call 77 [T3, T0])]
@[go_sem] def c124r1 : List GOp := [mT S0, mT S0, oT (.v (.nc T0)), fT 0 T0, lT T0, mT S1, oT (.ap 22 22 T1 T0), oT (.v (.nc T6)), fT 0 T0, oN (.st 1 T0 T2)]
def c124s2 : SCode := (.ops c124r1)
@[go_sem] theorem c124s2eq : U c124s2 (.ops c124r1) := fun _ _ _ _ _ => rfl
def c124 : Gx.Fn := ⟨18, c124k, (.seq (.ops c124r0) c124s2), []⟩
theorem c124ok : stripFn Tryz.prog c124k Tryz.f124 = some c124 := by kernel_rfl

/- frame.list[api.Certificate] -/
@[go_sem] def c125k : List Nat := [0, 1, 2, 7, 15, 16, 17, 18]
@[go_sem] def c125r0 : List GOp := [mT S0, oT (.v (.nc T0)), fT 0 T0, mT S1, nT T0, oT (.v (.cvi .u64 T0)), oT (.call 77 [T3, T0])]
@[go_sem] def c125r1 : List GOp := [mS 4 S1, oS 5 (.v (.len S4)), mS 6 (C 0)]
@[go_sem] def c125r2 : List GOp := [oS 7 (.v (.bin .lss S6 S5))]
@[go_sem] def c125r3 : List GOp := [oT (.v (.ix 9 S4 S6)), oT (.ld (some 9) T0), oS 3 (.al 64 [(I 0), (I 0), (I 0), Z, Z, Z, (I 0), Z, Z]), oN (.st 9 S3 T0)]
@[go_sem] def c125r4 : List GOp := [mT S2, oT (.ld (some 9) S3), oT (.cv T1 [T0])]
def c125s5 : SCode := (.ops c125r4)
@[go_sem] theorem c125s5eq : U c125s5 (.ops c125r4) := fun _ _ _ _ _ => rfl
@[go_sem] def c125r6 : List GOp := [oT (.v (.bin .add S6 (C 1))), mS 6 T0]
def c125s7 : SCode := (.ops c125r6)
@[go_sem] theorem c125s7eq : U c125s7 (.ops c125r6) := fun _ _ _ _ _ => rfl
def c125s8 : SCode := (.seq (.block 1 (.seq (.ops c125r3) c125s5)) c125s7)
@[go_sem] theorem c125s8eq : U c125s8 (.seq (.block 1 (.seq (.ops c125r3) c125s5)) c125s7) := fun _ _ _ _ _ => rfl
def c125s9 : SCode := (.seq (.cond S7 .skip (.exit 0)) c125s8)
@[go_sem] theorem c125s9eq : U c125s9 (.seq (.cond S7 .skip (.exit 0)) c125s8) := fun _ _ _ _ _ => rfl
def c125s10 : SCode := (.seq (.ops c125r2) c125s9)
@[go_sem] theorem c125s10eq : U c125s10 (.seq (.ops c125r2) c125s9) := fun _ _ _ _ _ => rfl
def c125s11 : SCode := (.block 0 (.loop c125k c125s10))
@[go_sem] theorem c125s11eq : U c125s11 (.block 0 (.loop c125k c125s10)) := fun _ _ _ _ _ => rfl
def c125s12 : SCode := (.seq (.ops c125r1) c125s11)
@[go_sem] theorem c125s12eq : U c125s12 (.seq (.ops c125r1) c125s11) := fun _ _ _ _ _ => rfl
def c125 : Gx.Fn := ⟨25, c125k, (.seq (.ops c125r0) c125s12), []⟩
theorem c125ok : stripFn Tryz.prog c125k Tryz.f125 = some c125 := by kernel_rfl

/- (*frame.writer).certificate -/
@[go_sem] def c126k : List Nat := [0, 1, 3]
@[go_sem] def c126r0 : List GOp := [oS 2 (.bx 64 S1)]
@[go_sem] def c126r1 : List GOp := [mT S0, fT 0 S2, fT 0 T0, oT (.ld (some 3) T0), oT (.call 79 [T3, T0])]
@[go_sem] def c126r2 : List GOp := [mT S0, fT 0 S2, fT 3 T0, lT T0, mT S0, oT (.v (.mkf 81 [T0] [])), oT (.call 80 [T5, T2, T0])]
@[go_sem] def c126r3 : List GOp := [mT S0, fT 0 S2, fT 4 T0, lT T0, mT S0, oT (.v (.mkf 85 [T0] [])), oT (.call 84 [T5, T2, T0])]
@[go_sem] def c126r4 : List GOp := [mT S0, fT 0 S2, fT 5 T0, lT T0, mT S0, oT (.v (.mkf 85 [T0] [])), oT (.call 84 [T5, T2, T0])]
@[go_sem] def c126r5 : List GOp := [mT S0, fT 0 S2, fT 6 T0, lT T0, oT (.call 78 [T3, T0])]
@[go_sem] def c126d6 : DT := (rm S0 [6] (.rd none .t (.v (.nc T0)) [6] (rf 0 T0 [6] (rf 0 S2 [6] (rf 7 T0 [6] (rl T0 [6] (.ef 6 none .t (.call 124 [T3, T0]) .done)))))))
@[go_sem] def c126r7 : List GOp := [mT S0, fT 8 S2, lT T0, mT S0, oT (.v (.mkf 87 [T0] [])), oT (.call 86 [T4, T2, T0])]
def c126s8 : SCode := (.ops c126r7)
@[go_sem] theorem c126s8eq : U c126s8 (.ops c126r7) := fun _ _ _ _ _ => rfl
def c126s9 : SCode := (.seq (.de c126d6) c126s8)
@[go_sem] theorem c126s9eq : U c126s9 (.seq (.de c126d6) c126s8) := fun _ _ _ _ _ => rfl
def c126s10 : SCode := (.seq (.ops c126r5) c126s9)
@[go_sem] theorem c126s10eq : U c126s10 (.seq (.ops c126r5) c126s9) := fun _ _ _ _ _ => rfl
def c126s11 : SCode := (.seq (.ops c126r4) c126s10)
@[go_sem] theorem c126s11eq : U c126s11 (.seq (.ops c126r4) c126s10) := fun _ _ _ _ _ => rfl
def c126s12 : SCode := (.seq (.ops c126r3) c126s11)
@[go_sem] theorem c126s12eq : U c126s12 (.seq (.ops c126r3) c126s11) := fun _ _ _ _ _ => rfl
def c126s13 : SCode := (.seq (.ops c126r2) c126s12)
@[go_sem] theorem c126s13eq : U c126s13 (.seq (.ops c126r2) c126s12) := fun _ _ _ _ _ => rfl
def c126s14 : SCode := (.seq (.ops c126r1) c126s13)
@[go_sem] theorem c126s14eq : U c126s14 (.seq (.ops c126r1) c126s13) := fun _ _ _ _ _ => rfl
def c126 : Gx.Fn := ⟨48, c126k, (.seq (.ops c126r0) c126s14), []⟩
theorem c126ok : stripFn Tryz.prog c126k Tryz.f126 = some c126 := by kernel_rfl

/- frame.list[api.Write] -/
@[go_sem] def c127k : List Nat := [0, 1, 2, 7, 15, 16, 17, 18]
@[go_sem] def c127r0 : List GOp := [mT S0, oT (.v (.nc T0)), fT 0 T0, mT S1, nT T0, oT (.v (.cvi .u64 T0)), oT (.call 77 [T3, T0])]
@[go_sem] def c127r1 : List GOp := [mS 4 S1, oS 5 (.v (.len S4)), mS 6 (C 0)]
@[go_sem] def c127r2 : List GOp := [oS 7 (.v (.bin .lss S6 S5))]
@[go_sem] def c127r3 : List GOp := [oT (.v (.ix 2 S4 S6)), oT (.ld (some 2) T0), oS 3 (.al 113 [(.string ⟨⟨[]⟩⟩), Z]), oN (.st 2 S3 T0)]
@[go_sem] def c127r4 : List GOp := [mT S2, oT (.ld (some 2) S3), oT (.cv T1 [T0])]
def c127s5 : SCode := (.ops c127r4)
@[go_sem] theorem c127s5eq : U c127s5 (.ops c127r4) := fun _ _ _ _ _ => rfl
@[go_sem] def c127r6 : List GOp := [oT (.v (.bin .add S6 (C 1))), mS 6 T0]
def c127s7 : SCode := (.ops c127r6)
@[go_sem] theorem c127s7eq : U c127s7 (.ops c127r6) := fun _ _ _ _ _ => rfl
def c127s8 : SCode := (.seq (.block 1 (.seq (.ops c127r3) c127s5)) c127s7)
@[go_sem] theorem c127s8eq : U c127s8 (.seq (.block 1 (.seq (.ops c127r3) c127s5)) c127s7) := fun _ _ _ _ _ => rfl
def c127s9 : SCode := (.seq (.cond S7 .skip (.exit 0)) c127s8)
@[go_sem] theorem c127s9eq : U c127s9 (.seq (.cond S7 .skip (.exit 0)) c127s8) := fun _ _ _ _ _ => rfl
def c127s10 : SCode := (.seq (.ops c127r2) c127s9)
@[go_sem] theorem c127s10eq : U c127s10 (.seq (.ops c127r2) c127s9) := fun _ _ _ _ _ => rfl
def c127s11 : SCode := (.block 0 (.loop c127k c127s10))
@[go_sem] theorem c127s11eq : U c127s11 (.block 0 (.loop c127k c127s10)) := fun _ _ _ _ _ => rfl
def c127s12 : SCode := (.seq (.ops c127r1) c127s11)
@[go_sem] theorem c127s12eq : U c127s12 (.seq (.ops c127r1) c127s11) := fun _ _ _ _ _ => rfl
def c127 : Gx.Fn := ⟨25, c127k, (.seq (.ops c127r0) c127s12), []⟩
theorem c127ok : stripFn Tryz.prog c127k Tryz.f127 = some c127 := by kernel_rfl

/- (*frame.writer).write -/
@[go_sem] def c128k : List Nat := [0, 1, 3]
@[go_sem] def c128r0 : List GOp := [oS 2 (.bx 113 S1)]
@[go_sem] def c128d1 : DT := (rm S0 [5] (.rd none .t (.v (.nc T0)) [5] (rf 0 T0 [5] (rf 0 S2 [5] (rl T0 [5] (.ef 5 none .t (.call 93 [T2, T0]) .done))))))
@[go_sem] def c128d2 : DT := (rm S0 [5] (.rd none .t (.v (.nc T0)) [5] (rf 0 T0 [5] (rf 1 S2 [5] (rl T0 [5] (.ef 5 none .t (.call 124 [T2, T0]) .done))))))
def c128s3 : SCode := (.de c128d2)
@[go_sem] theorem c128s3eq : U c128s3 (.de c128d2) := fun _ _ _ _ _ => rfl
def c128s4 : SCode := (.seq (.de c128d1) c128s3)
@[go_sem] theorem c128s4eq : U c128s4 (.seq (.de c128d1) c128s3) := fun _ _ _ _ _ => rfl
def c128 : Gx.Fn := ⟨16, c128k, (.seq (.ops c128r0) c128s4), []⟩
theorem c128ok : stripFn Tryz.prog c128k Tryz.f128 = some c128 := by kernel_rfl

/- (*wire.Writer).Bool -/
@[go_sem] def c129k : List Nat := [0, 1, 4]
@[go_sem] def c129r0 : List GOp := [mS 2 S1]
@[go_sem] def c129r1 : List GOp := [mT S0, mT S0, oT (.v (.nc T0)), fT 0 T0, lT T0, oT (.bs 5 1 [(.int .u8 0)] [(0, (1, (.c (.int .u8 1))))]), oT (.ap 22 22 T1 T0), oT (.v (.nc T6)), fT 0 T0, oN (.st 1 T0 T2)]
def c129s2 : SCode := (.seq (.ops c129r1) .ret)
@[go_sem] theorem c129s2eq : U c129s2 (.seq (.ops c129r1) .ret) := fun _ _ _ _ _ => rfl
@[go_sem] def c129r3 : List GOp := [mT S0, mT S0, oT (.v (.nc T0)), fT 0 T0, lT T0, oT (.bs 5 1 [(.int .u8 0)] [(0, (1, (.c (.int .u8 0))))]), oT (.ap 22 22 T1 T0), oT (.v (.nc T6)), fT 0 T0, oN (.st 1 T0 T2)]
def c129s4 : SCode := (.ops c129r3)
@[go_sem] theorem c129s4eq : U c129s4 (.ops c129r3) := fun _ _ _ _ _ => rfl
def c129 : Gx.Fn := ⟨23, c129k, (.seq (.seq (.ops c129r0) (.cond S2 c129s2 .skip)) c129s4), []⟩
theorem c129ok : stripFn Tryz.prog c129k Tryz.f129 = some c129 := by kernel_rfl

/- frame.list[[]byte] -/
@[go_sem] def c130k : List Nat := [0, 1, 2, 7, 15, 16, 17, 18]
@[go_sem] def c130r0 : List GOp := [mT S0, oT (.v (.nc T0)), fT 0 T0, mT S1, nT T0, oT (.v (.cvi .u64 T0)), oT (.call 77 [T3, T0])]
@[go_sem] def c130r1 : List GOp := [mS 4 S1, oS 5 (.v (.len S4)), mS 6 (C 0)]
@[go_sem] def c130r2 : List GOp := [oS 7 (.v (.bin .lss S6 S5))]
@[go_sem] def c130r3 : List GOp := [oT (.v (.ix 1 S4 S6)), lT T0, mS 3 T0]
@[go_sem] def c130r4 : List GOp := [mT S2, mT S3, oT (.cv T1 [T0])]
def c130s5 : SCode := (.ops c130r4)
@[go_sem] theorem c130s5eq : U c130s5 (.ops c130r4) := fun _ _ _ _ _ => rfl
@[go_sem] def c130r6 : List GOp := [oT (.v (.bin .add S6 (C 1))), mS 6 T0]
def c130s7 : SCode := (.ops c130r6)
@[go_sem] theorem c130s7eq : U c130s7 (.ops c130r6) := fun _ _ _ _ _ => rfl
def c130s8 : SCode := (.seq (.block 1 (.seq (.ops c130r3) c130s5)) c130s7)
@[go_sem] theorem c130s8eq : U c130s8 (.seq (.block 1 (.seq (.ops c130r3) c130s5)) c130s7) := fun _ _ _ _ _ => rfl
def c130s9 : SCode := (.seq (.cond S7 .skip (.exit 0)) c130s8)
@[go_sem] theorem c130s9eq : U c130s9 (.seq (.cond S7 .skip (.exit 0)) c130s8) := fun _ _ _ _ _ => rfl
def c130s10 : SCode := (.seq (.ops c130r2) c130s9)
@[go_sem] theorem c130s10eq : U c130s10 (.seq (.ops c130r2) c130s9) := fun _ _ _ _ _ => rfl
def c130s11 : SCode := (.block 0 (.loop c130k c130s10))
@[go_sem] theorem c130s11eq : U c130s11 (.block 0 (.loop c130k c130s10)) := fun _ _ _ _ _ => rfl
def c130s12 : SCode := (.seq (.ops c130r1) c130s11)
@[go_sem] theorem c130s12eq : U c130s12 (.seq (.ops c130r1) c130s11) := fun _ _ _ _ _ => rfl
def c130 : Gx.Fn := ⟨25, c130k, (.seq (.ops c130r0) c130s12), []⟩
theorem c130ok : stripFn Tryz.prog c130k Tryz.f130 = some c130 := by kernel_rfl

/- plexusref30.Sum -/
@[go_sem] def c13k : List Nat := [0, 2, 3, 4, 5, 6, 10, 21, 29]
@[go_sem] def c13r0 : List GOp := [mS 1 (.c (.int .u32 0))]
@[go_sem] def c13r1 : List GOp := [mS 2 (.c (.int .u32 4294967295))]
@[go_sem] def c13r2 : List GOp := [mS 3 (C 0)]
@[go_sem] def c13r3 : List GOp := [mT S3, mT S0, nT T0, oS 6 (.v (.bin .lss T2 T0))]
def c13s4 : SCode := (.cond S6 .skip (.exit 0))
@[go_sem] theorem c13s4eq : U c13s4 (.cond S6 .skip (.exit 0)) := fun _ _ _ _ _ => rfl
@[go_sem] def c13r5 : List GOp := [mT S2, mT S0, mT S3, oT (.v (.ix 1 T1 T0)), lT T0, oT (.v (.cvi .u32 T0)), oT (.v (.bin .xor T5 T0)), mS 2 T0]
@[go_sem] def c13r6 : List GOp := [mS 4 (C 0)]
@[go_sem] def c13r7 : List GOp := [mT S4, oS 7 (.v (.bin .lss T0 (C 8)))]
def c13s8 : SCode := (.cond S7 .skip (.exit 2))
@[go_sem] theorem c13s8eq : U c13s8 (.cond S7 .skip (.exit 2)) := fun _ _ _ _ _ => rfl
@[go_sem] def c13r9 : List GOp := [mT S2, oT (.v (.bin .and T0 (.c (.int .u32 1)))), mS 5 T0]
@[go_sem] def c13r10 : List GOp := [mT S2, oT (.v (.bin .shr T0 (.c (.int .u64 1)))), mS 2 T0]
@[go_sem] def c13r11 : List GOp := [mT S5, oS 8 (.v (.bin .eql T0 (.c (.int .u32 1))))]
@[go_sem] def c13r12 : List GOp := [mT S2, oT (.v (.bin .xor T0 (.c (.int .u32 3988292384)))), mS 2 T0]
def c13s13 : SCode := (.cond S8 (.ops c13r12) .skip)
@[go_sem] theorem c13s13eq : U c13s13 (.cond S8 (.ops c13r12) .skip) := fun _ _ _ _ _ => rfl
def c13s14 : SCode := (.seq (.ops c13r11) c13s13)
@[go_sem] theorem c13s14eq : U c13s14 (.seq (.ops c13r11) c13s13) := fun _ _ _ _ _ => rfl
def c13s15 : SCode := (.seq (.ops c13r10) c13s14)
@[go_sem] theorem c13s15eq : U c13s15 (.seq (.ops c13r10) c13s14) := fun _ _ _ _ _ => rfl
@[go_sem] def c13r16 : List GOp := [mT S4, oT (.v (.bin .add T0 (C 1))), mS 4 T0]
def c13s17 : SCode := (.ops c13r16)
@[go_sem] theorem c13s17eq : U c13s17 (.ops c13r16) := fun _ _ _ _ _ => rfl
def c13s18 : SCode := (.seq (.block 3 (.seq (.ops c13r9) c13s15)) c13s17)
@[go_sem] theorem c13s18eq : U c13s18 (.seq (.block 3 (.seq (.ops c13r9) c13s15)) c13s17) := fun _ _ _ _ _ => rfl
def c13s19 : SCode := (.seq (.seq (.ops c13r7) c13s8) c13s18)
@[go_sem] theorem c13s19eq : U c13s19 (.seq (.seq (.ops c13r7) c13s8) c13s18) := fun _ _ _ _ _ => rfl
def c13s20 : SCode := (.block 2 (.loop c13k c13s19))
@[go_sem] theorem c13s20eq : U c13s20 (.block 2 (.loop c13k c13s19)) := fun _ _ _ _ _ => rfl
def c13s21 : SCode := (.seq (.ops c13r6) c13s20)
@[go_sem] theorem c13s21eq : U c13s21 (.seq (.ops c13r6) c13s20) := fun _ _ _ _ _ => rfl
@[go_sem] def c13r22 : List GOp := [mT S3, oT (.v (.bin .add T0 (C 1))), mS 3 T0]
def c13s23 : SCode := (.ops c13r22)
@[go_sem] theorem c13s23eq : U c13s23 (.ops c13r22) := fun _ _ _ _ _ => rfl
def c13s24 : SCode := (.seq (.block 1 (.seq (.ops c13r5) c13s21)) c13s23)
@[go_sem] theorem c13s24eq : U c13s24 (.seq (.block 1 (.seq (.ops c13r5) c13s21)) c13s23) := fun _ _ _ _ _ => rfl
def c13s25 : SCode := (.seq (.seq (.ops c13r3) c13s4) c13s24)
@[go_sem] theorem c13s25eq : U c13s25 (.seq (.seq (.ops c13r3) c13s4) c13s24) := fun _ _ _ _ _ => rfl
def c13s26 : SCode := (.block 0 (.loop c13k c13s25))
@[go_sem] theorem c13s26eq : U c13s26 (.block 0 (.loop c13k c13s25)) := fun _ _ _ _ _ => rfl
@[go_sem] def c13r27 : List GOp := [mT S2, oT (.v (.un .xor T0)), mS 1 T0]
def c13s28 : SCode := (.seq (.ops c13r27) .ret)
@[go_sem] theorem c13s28eq : U c13s28 (.seq (.ops c13r27) .ret) := fun _ _ _ _ _ => rfl
def c13s29 : SCode := (.seq (.seq (.ops c13r2) c13s26) c13s28)
@[go_sem] theorem c13s29eq : U c13s29 (.seq (.seq (.ops c13r2) c13s26) c13s28) := fun _ _ _ _ _ => rfl
def c13s30 : SCode := (.seq (.ops c13r1) c13s29)
@[go_sem] theorem c13s30eq : U c13s30 (.seq (.ops c13r1) c13s29) := fun _ _ _ _ _ => rfl
def c13 : Gx.Fn := ⟨34, c13k, (.seq (.ops c13r0) c13s30), [(.tmp S1)]⟩
theorem c13ok : stripFn Tryz.prog c13k Tryz.f13 = some c13 := by kernel_rfl

/- plexusref30.Sealed -/
@[go_sem] def c14k : List Nat := [0, 2, 3]
@[go_sem] def c14r0 : List GOp := [mS 1 (.c Z)]
@[go_sem] def c14r1 : List GOp := [mT S0, oT (.call 13 [T0]), mS 2 T0]
@[go_sem] def c14r2 : List GOp := [oT (.bs 5 0 [] []), mT S0, oT (.ap 22 22 T1 T0), mT S2, oT (.v (.cvi .u8 T0)), mT S2, oT (.v (.bin .shr T0 (.c (.int .u64 8)))), oT (.v (.cvi .u8 T0)), mT S2, oT (.v (.bin .shr T0 (.c (.int .u64 16)))), oT (.v (.cvi .u8 T0)), mT S2, oT (.v (.bin .shr T0 (.c (.int .u64 24)))), oT (.v (.cvi .u8 T0)), oT (.bs 5 4 [(.int .u8 0), (.int .u8 0), (.int .u8 0), (.int .u8 0)] [(0, (1, T9)), (1, (1, T6)), (2, (1, T3)), (3, (1, T0))]), oT (.ap 22 22 T12 T0), mS 1 T0]
def c14s3 : SCode := (.seq (.ops c14r2) .ret)
@[go_sem] theorem c14s3eq : U c14s3 (.seq (.ops c14r2) .ret) := fun _ _ _ _ _ => rfl
def c14s4 : SCode := (.seq (.ops c14r1) c14s3)
@[go_sem] theorem c14s4eq : U c14s4 (.seq (.ops c14r1) c14s3) := fun _ _ _ _ _ => rfl
def c14 : Gx.Fn := ⟨22, c14k, (.seq (.ops c14r0) c14s4), [(.tmp S1)]⟩
theorem c14ok : stripFn Tryz.prog c14k Tryz.f14 = some c14 := by kernel_rfl

/- plexusref01.Int -/
@[go_sem] def c115k : List Nat := [0, 1, 4, 6]
@[go_sem] def c115r0 : List GOp := [mS 2 (.c Z)]
@[go_sem] def c115r1 : List GOp := [mT S1, oS 3 (.v (.bin .geq T0 (C 0)))]
@[go_sem] def c115r2 : List GOp := [mT S0, mT S1, oT (.v (.cvi .u64 T0)), oT (.v (.bin .mul (.c (.int .u64 2)) T0)), oT (.call 116 [T3, T0]), mS 2 T0]
def c115s3 : SCode := (.seq (.ops c115r2) .ret)
@[go_sem] theorem c115s3eq : U c115s3 (.seq (.ops c115r2) .ret) := fun _ _ _ _ _ => rfl
@[go_sem] def c115r4 : List GOp := [mT S0, mT S1, oT (.v (.bin .add T0 (C 1))), oT (.v (.un .neg T0)), oT (.v (.cvi .u64 T0)), oT (.v (.bin .mul (.c (.int .u64 2)) T0)), oT (.v (.bin .add T0 (.c (.int .u64 1)))), oT (.call 116 [T6, T0]), mS 2 T0]
def c115s5 : SCode := (.seq (.ops c115r4) .ret)
@[go_sem] theorem c115s5eq : U c115s5 (.seq (.ops c115r4) .ret) := fun _ _ _ _ _ => rfl
def c115s6 : SCode := (.seq (.seq (.ops c115r1) (.cond S3 c115s3 .skip)) c115s5)
@[go_sem] theorem c115s6eq : U c115s6 (.seq (.seq (.ops c115r1) (.cond S3 c115s3 .skip)) c115s5) := fun _ _ _ _ _ => rfl
def c115 : Gx.Fn := ⟨20, c115k, (.seq (.ops c115r0) c115s6), [(.tmp S2)]⟩
theorem c115ok : stripFn Tryz.prog c115k Tryz.f115 = some c115 := by kernel_rfl

/- plexusref01.Uint -/
@[go_sem] def c116k : List Nat := [0, 1, 4, 5, 10]
@[go_sem] def c116r0 : List GOp := [mS 2 (.c Z)]
@[go_sem] def c116r1 : List GOp := [oT (.bs 5 0 [] []), mT S0, oT (.ap 22 22 T1 T0), mS 3 T0]
@[go_sem] def c116r2 : List GOp := [mT S1, oS 4 (.v (.bin .geq T0 (.c (.int .u64 128))))]
def c116s3 : SCode := (.cond S4 .skip (.exit 0))
@[go_sem] theorem c116s3eq : U c116s3 (.cond S4 .skip (.exit 0)) := fun _ _ _ _ _ => rfl
@[go_sem] def c116r4 : List GOp := [mT S3, mT S1, oT (.v (.bin .rem T0 (.c (.int .u64 128)))), oT (.v (.cvi .u8 T0)), oT (.v (.bin .add T0 (.c (.int .u8 128)))), oT (.bs 5 1 [(.int .u8 0)] [(0, (1, T0))]), oT (.ap 22 22 T5 T0), mS 3 T0]
@[go_sem] def c116r5 : List GOp := [mT S1, oT (.v (.bin .quo T0 (.c (.int .u64 128)))), mS 1 T0]
def c116s6 : SCode := (.ops c116r5)
@[go_sem] theorem c116s6eq : U c116s6 (.ops c116r5) := fun _ _ _ _ _ => rfl
def c116s7 : SCode := (.block 1 (.seq (.ops c116r4) c116s6))
@[go_sem] theorem c116s7eq : U c116s7 (.block 1 (.seq (.ops c116r4) c116s6)) := fun _ _ _ _ _ => rfl
def c116s8 : SCode := (.seq (.seq (.ops c116r2) c116s3) c116s7)
@[go_sem] theorem c116s8eq : U c116s8 (.seq (.seq (.ops c116r2) c116s3) c116s7) := fun _ _ _ _ _ => rfl
@[go_sem] def c116r9 : List GOp := [mT S3, mT S1, oT (.v (.cvi .u8 T0)), oT (.bs 5 1 [(.int .u8 0)] [(0, (1, T0))]), oT (.ap 22 22 T3 T0), mS 2 T0]
def c116s10 : SCode := (.seq (.ops c116r9) .ret)
@[go_sem] theorem c116s10eq : U c116s10 (.seq (.ops c116r9) .ret) := fun _ _ _ _ _ => rfl
def c116s11 : SCode := (.seq (.block 0 (.loop c116k c116s8)) c116s10)
@[go_sem] theorem c116s11eq : U c116s11 (.seq (.block 0 (.loop c116k c116s8)) c116s10) := fun _ _ _ _ _ => rfl
def c116s12 : SCode := (.seq (.ops c116r1) c116s11)
@[go_sem] theorem c116s12eq : U c116s12 (.seq (.ops c116r1) c116s11) := fun _ _ _ _ _ => rfl
def c116 : Gx.Fn := ⟨25, c116k, (.seq (.ops c116r0) c116s12), [(.tmp S2)]⟩
theorem c116ok : stripFn Tryz.prog c116k Tryz.f116 = some c116 := by kernel_rfl

/- plexusref01.Bytes -/
@[go_sem] def c117k : List Nat := [0, 1, 4]
@[go_sem] def c117r0 : List GOp := [mS 2 (.c Z)]
@[go_sem] def c117r1 : List GOp := [mT S0, mT S1, nT T0, oT (.v (.cvi .u64 T0)), oT (.call 116 [T3, T0]), mT S1, oT (.ap 22 22 T1 T0), mS 2 T0]
def c117s2 : SCode := (.seq (.ops c117r1) .ret)
@[go_sem] theorem c117s2eq : U c117s2 (.seq (.ops c117r1) .ret) := fun _ _ _ _ _ => rfl
def c117 : Gx.Fn := ⟨12, c117k, (.seq (.ops c117r0) c117s2), [(.tmp S2)]⟩
theorem c117ok : stripFn Tryz.prog c117k Tryz.f117 = some c117 := by kernel_rfl

/- plexusref01.Text -/
@[go_sem] def c118k : List Nat := [0, 1, 4]
@[go_sem] def c118r0 : List GOp := [mS 2 (.c Z)]
@[go_sem] def c118r1 : List GOp := [mT S0, mT S1, oT (.v (.slen T0)), oT (.v (.cvi .u64 T0)), oT (.call 116 [T3, T0]), mT S1, oT (.ap 22 9 T1 T0), mS 2 T0]
def c118s2 : SCode := (.seq (.ops c118r1) .ret)
@[go_sem] theorem c118s2eq : U c118s2 (.seq (.ops c118r1) .ret) := fun _ _ _ _ _ => rfl
def c118 : Gx.Fn := ⟨12, c118k, (.seq (.ops c118r0) c118s2), [(.tmp S2)]⟩
theorem c118ok : stripFn Tryz.prog c118k Tryz.f118 = some c118 := by kernel_rfl

/- plexusref01.Bool -/
@[go_sem] def c121k : List Nat := [0, 1, 4, 5]
@[go_sem] def c121r0 : List GOp := [mS 2 (.c Z)]
@[go_sem] def c121r1 : List GOp := [mS 3 S1]
@[go_sem] def c121r2 : List GOp := [oT (.bs 5 0 [] []), mT S0, oT (.ap 22 22 T1 T0), oT (.bs 5 1 [(.int .u8 0)] [(0, (1, (.c (.int .u8 1))))]), oT (.ap 22 22 T1 T0), mS 2 T0]
def c121s3 : SCode := (.seq (.ops c121r2) .ret)
@[go_sem] theorem c121s3eq : U c121s3 (.seq (.ops c121r2) .ret) := fun _ _ _ _ _ => rfl
@[go_sem] def c121r4 : List GOp := [oT (.bs 5 0 [] []), mT S0, oT (.ap 22 22 T1 T0), oT (.bs 5 1 [(.int .u8 0)] [(0, (1, (.c (.int .u8 0))))]), oT (.ap 22 22 T1 T0), mS 2 T0]
def c121s5 : SCode := (.seq (.ops c121r4) .ret)
@[go_sem] theorem c121s5eq : U c121s5 (.seq (.ops c121r4) .ret) := fun _ _ _ _ _ => rfl
def c121s6 : SCode := (.seq (.seq (.ops c121r1) (.cond S3 c121s3 .skip)) c121s5)
@[go_sem] theorem c121s6eq : U c121s6 (.seq (.seq (.ops c121r1) (.cond S3 c121s3 .skip)) c121s5) := fun _ _ _ _ _ => rfl
def c121 : Gx.Fn := ⟨16, c121k, (.seq (.ops c121r0) c121s6), [(.tmp S2)]⟩
theorem c121ok : stripFn Tryz.prog c121k Tryz.f121 = some c121 := by kernel_rfl

/- plexusref30.few -/
@[go_sem] def c27k : List Nat := [0, 2]
@[go_sem] def c27r0 : List GOp := [mS 1 (.c (.bool false))]
@[go_sem] def c27r1 : List GOp := [mT S0, oT (.v (.bin .leq T0 (C 8))), mS 1 T0]
def c27s2 : SCode := (.seq (.ops c27r1) .ret)
@[go_sem] theorem c27s2eq : U c27s2 (.seq (.ops c27r1) .ret) := fun _ _ _ _ _ => rfl
def c27 : Gx.Fn := ⟨5, c27k, (.seq (.ops c27r0) c27s2), [(.tmp S1)]⟩
theorem c27ok : stripFn Tryz.prog c27k Tryz.f27 = some c27 := by kernel_rfl

end Go.Proofs.YtdhlibkdcldioaaGreat
