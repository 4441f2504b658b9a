/- Generated: the stripped code of Go functions, each held against the loaded program. -/
import Derived.Test.YtdhlibkdcldioaaGreatProg
import Derived.Test.YtdhlibkdcldioaaGreatGx20
import Derived.Test.YtdhlibkdcldioaaGreatCodeA
namespace Go.Proofs.YtdhlibkdcldioaaGreat
open Gx Go

/- plexusref30.Check -/
@[go_sem] def c17k : List Nat := [0, 1, 2, 5, 10]
@[go_sem] def c17r0 : List GOp := [oS 1 (.bx 39 S0), mS 2 (C 0)]
@[go_sem] def c17r1 : List GOp := [oT (.ld (some 15) S1), oT (.call 29 [T0]), oS 3 (.v (.un .not T0))]
@[go_sem] def c17r2 : List GOp := [mS 2 (C 1)]
def c17s3 : SCode := (.seq (.ops c17r2) .ret)
@[go_sem] theorem c17s3eq : U c17s3 (.seq (.ops c17r2) .ret) := fun _ _ _ _ _ => rfl
@[go_sem] def c17r4 : List GOp := [oT (.ld (some 15) S1), oT (.call 30 [T0]), nT T0, oT (.v (.bin .add T0 (C 4))), oS 4 (.v (.bin .gtr T0 (C 16777216)))]
@[go_sem] def c17r5 : List GOp := [mS 2 (C 6)]
def c17s6 : SCode := (.seq (.ops c17r5) .ret)
@[go_sem] theorem c17s6eq : U c17s6 (.seq (.ops c17r5) .ret) := fun _ _ _ _ _ => rfl
@[go_sem] def c17r7 : List GOp := [mS 2 (C 0)]
def c17s8 : SCode := (.seq (.ops c17r7) .ret)
@[go_sem] theorem c17s8eq : U c17s8 (.seq (.ops c17r7) .ret) := fun _ _ _ _ _ => rfl
def c17s9 : SCode := (.seq (.seq (.ops c17r4) (.cond S4 c17s6 .skip)) c17s8)
@[go_sem] theorem c17s9eq : U c17s9 (.seq (.seq (.ops c17r4) (.cond S4 c17s6 .skip)) c17s8) := fun _ _ _ _ _ => rfl
def c17s10 : SCode := (.seq (.seq (.ops c17r1) (.cond S3 c17s3 .skip)) c17s9)
@[go_sem] theorem c17s10eq : U c17s10 (.seq (.seq (.ops c17r1) (.cond S3 c17s3 .skip)) c17s9) := fun _ _ _ _ _ => rfl
def c17 : Gx.Fn := ⟨11, c17k, (.seq (.ops c17r0) c17s10), [(.tmp S2)]⟩
theorem c17ok : stripFn Tryz.prog c17k Tryz.f17 = some c17 := by kernel_rfl

/- plexusref30.Encode -/
@[go_sem] def c19k : List Nat := [0, 1, 2, 3, 4, 8]
@[go_sem] def c19r0 : List GOp := [oS 1 (.bx 39 S0), mS 2 (.c Z), mS 3 (C 0)]
@[go_sem] def c19r1 : List GOp := [oT (.ld (some 15) S1), oT (.call 17 [T0]), mS 4 T0]
@[go_sem] def c19r2 : List GOp := [mT S4, oS 5 (.v (.bin .neq T0 (C 0)))]
@[go_sem] def c19r3 : List GOp := [mT S4, mS 2 (.c Z), mS 3 T0]
def c19s4 : SCode := (.seq (.ops c19r3) .ret)
@[go_sem] theorem c19s4eq : U c19s4 (.seq (.ops c19r3) .ret) := fun _ _ _ _ _ => rfl
def c19s5 : SCode := (.seq (.ops c19r2) (.cond S5 c19s4 .skip))
@[go_sem] theorem c19s5eq : U c19s5 (.seq (.ops c19r2) (.cond S5 c19s4 .skip)) := fun _ _ _ _ _ => rfl
@[go_sem] def c19r6 : List GOp := [oT (.ld (some 15) S1), oT (.call 30 [T0]), oT (.call 14 [T0]), mS 2 T0, mS 3 (C 0)]
def c19s7 : SCode := (.seq (.ops c19r6) .ret)
@[go_sem] theorem c19s7eq : U c19s7 (.seq (.ops c19r6) .ret) := fun _ _ _ _ _ => rfl
def c19s8 : SCode := (.seq (.seq (.ops c19r1) c19s5) c19s7)
@[go_sem] theorem c19s8eq : U c19s8 (.seq (.seq (.ops c19r1) c19s5) c19s7) := fun _ _ _ _ _ => rfl
def c19 : Gx.Fn := ⟨13, c19k, (.seq (.ops c19r0) c19s8), [(.tmp S2), (.tmp S3)]⟩
theorem c19ok : stripFn Tryz.prog c19k Tryz.f19 = some c19 := by kernel_rfl

/- plexusref30.Equal -/
@[go_sem] def c21k : List Nat := [0, 1, 2, 3, 4]
@[go_sem] def c21r0 : List GOp := [oS 2 (.bx 39 S0), oS 3 (.bx 39 S1), mS 4 (.c (.bool false))]
@[go_sem] def c21d1 : DT := (.rd none .t (.ld (some 15) S2) [1, 4] (.rd none .t (.ld (some 15) S3) [4] (.ef 1 none .t (.call 34 [T1]) (.rd none .t (.b2s T0) [] (.ef 4 none .t (.call 34 [T2]) (.rd none .t (.b2s T0) [] (.rd none .t (.v (.bin .eql T2 T0)) [] (.rd none (.s 4) (.v (.mv T0)) [] .done))))))))
def c21 : Gx.Fn := ⟨12, c21k, (.seq (.ops c21r0) (.seq (.de c21d1) .ret)), [(.tmp S4)]⟩
theorem c21ok : stripFn Tryz.prog c21k Tryz.f21 = some c21 := by kernel_rfl

/- plexusref30.shape -/
@[go_sem] def c29k : List Nat := [0, 1, 2, 3, 4, 5, 33, 78, 89, 91, 92, 98, 110, 116, 122, 128]
@[go_sem] def c29r0 : List GOp := [oS 1 (.bx 39 S0), mS 2 (.c (.bool false))]
@[go_sem] def c29r1 : List GOp := [fT 0 S1, lT T0, oT (.v (.bin .lss T0 (C 1))), mT T0, (.sel T0 false [(.op (.v (.fa 0 S1))), (.op (.ld none T0)), (.op (.v (.bin .gtr T0 (C 8))))] .t (.c (.bool true)) T0), mT T0, (.sel T0 false [(.op (.v (.fa 1 S1))), (.op (.ld none T0)), (.op (.v (.bin .lss T0 (C 0))))] .t (.c (.bool true)) T0), mT T0, (.sel T0 false [(.op (.v (.fa 1 S1))), (.op (.ld none T0)), (.op (.v (.bin .gtr T0 (C 63))))] .t (.c (.bool true)) T0), mT T0, (.sel T0 false [(.op (.v (.fa 2 S1))), (.op (.ld none T0)), (.op (.v (.bin .lss T0 (C 0))))] .t (.c (.bool true)) T0), mT T0, (.sel T0 false [(.op (.v (.fa 2 S1))), (.op (.ld none T0)), (.op (.v (.bin .gtr T0 (C 63))))] (.s 6) (.c (.bool true)) T0)]
@[go_sem] def c29r2 : List GOp := [mS 2 (.c (.bool false))]
def c29s3 : SCode := (.seq (.ops c29r2) .ret)
@[go_sem] theorem c29s3eq : U c29s3 (.seq (.ops c29r2) .ret) := fun _ _ _ _ _ => rfl
@[go_sem] def c29d4 : DT := (rf 3 S1 [41] (.rd none .t (.ld (some 3) T0) [41] (.rd none .t (.v (.bld [(I 0), (I 0), (I 0)] [])) [41] (.rd none .t (.v (.steq true [(0, .i), (1, .i), (2, .i)] T1 T0)) [41] (rf 6 S1 [41] (rl T0 [41] (.rd none .t (.v (.len T0)) [41] (.rd none .t (.v (.bin .gtr T0 (C 0))) [41] (rf 7 S1 [41] (rl T0 [41] (.rd none .t (.v (.len T0)) [41] (.rd none .t (.v (.bin .gtr T0 (C 0))) [41] (rf 8 S1 [41] (rl T0 [41] (.rd none .t (.v (.len T0)) [41] (.rd none .t (.v (.bin .gtr T0 (C 0))) [41] (rf 9 S1 [41] (rl T0 [41] (.rd none .t (.v (.len T0)) [41] (.rd none .t (.v (.bin .gtr T0 (C 0))) [41] (rf 10 S1 [41] (rl T0 [41] (.rd none .t (.v (.len T0)) [41] (.rd none .t (.v (.bin .gtr T0 (C 0))) [41] (rf 11 S1 [41] (rl T0 [41] (.rd none .t (.v (.len T0)) [41] (.rd none .t (.v (.bin .gtr T0 (C 0))) [41] (rf 12 S1 [41] (rl T0 [41] (.rd none .t (.v (.len T0)) [41] (.rd none .t (.v (.bin .gtr T0 (C 0))) [41] (rf 13 S1 [41] (rl T0 [41] (.rd none .t (.v (.bin .neq T0 (C 0))) [41] (rf 14 S1 [41] (rl T0 [41] (.rd none .t (.v (.len T0)) [41] (.rd none .t (.v (.bin .gtr T0 (C 0))) [41] (.rd none .t (.v (.bld [(.bool false), (.bool false), (.bool false), (.bool false), (.bool false), (.bool false), (.bool false), (.bool false), (.bool false), (.bool false)] [(0, (1, T35)), (1, (1, T31)), (2, (1, T27)), (3, (1, T23)), (4, (1, T19)), (5, (1, T15)), (6, (1, T11)), (7, (1, T7)), (8, (1, T4)), (9, (1, T0))])) [41] (.ef 40 none (.s 3) (.al 114 [(.bool false), (.bool false), (.bool false), (.bool false), (.bool false), (.bool false), (.bool false), (.bool false), (.bool false), (.bool false)]) (.ef 41 none .no (.st 10 S3 T0) .done))))))))))))))))))))))))))))))))))))))))))
@[go_sem] def c29r5 : List GOp := [fT 0 S1, lT T0, oT (.call 62 [T0]), oS 4 (.al 114 [(.bool false), (.bool false), (.bool false), (.bool false), (.bool false), (.bool false), (.bool false), (.bool false), (.bool false), (.bool false)]), oN (.st 10 S4 T0)]
@[go_sem] def c29r6 : List GOp := [mS 5 (C 0)]
@[go_sem] def c29r7 : List GOp := [mT S5, oS 7 (.v (.bin .lss T0 (C 10)))]
def c29s8 : SCode := (.cond S7 .skip (.exit 0))
@[go_sem] theorem c29s8eq : U c29s8 (.cond S7 .skip (.exit 0)) := fun _ _ _ _ _ => rfl
@[go_sem] def c29r9 : List GOp := [mT S5, oT (.v (.ixa 1 10 S3 T0)), lT T0, mT T0, (.op (some (T0, (true, true))) .t (.v (.mv S5))), (.op (some (T1, (true, false))) .t (.v (.ixa 1 10 S4 T0))), (.op (some (T2, (true, false))) .t (.ld none T0)), (.op (some (T3, (true, false))) .t (.v (.un .not T0))), oS 8 (.v (.pick T4 T0 (.c (.bool false))))]
@[go_sem] def c29r10 : List GOp := [mS 2 (.c (.bool false))]
def c29s11 : SCode := (.seq (.ops c29r10) .ret)
@[go_sem] theorem c29s11eq : U c29s11 (.seq (.ops c29r10) .ret) := fun _ _ _ _ _ => rfl
@[go_sem] def c29r12 : List GOp := [mT S5, oT (.v (.bin .add T0 (C 1))), mS 5 T0]
def c29s13 : SCode := (.ops c29r12)
@[go_sem] theorem c29s13eq : U c29s13 (.ops c29r12) := fun _ _ _ _ _ => rfl
def c29s14 : SCode := (.seq (.block 1 (.seq (.ops c29r9) (.cond S8 c29s11 .skip))) c29s13)
@[go_sem] theorem c29s14eq : U c29s14 (.seq (.block 1 (.seq (.ops c29r9) (.cond S8 c29s11 .skip))) c29s13) := fun _ _ _ _ _ => rfl
def c29s15 : SCode := (.seq (.seq (.ops c29r7) c29s8) c29s14)
@[go_sem] theorem c29s15eq : U c29s15 (.seq (.seq (.ops c29r7) c29s8) c29s14) := fun _ _ _ _ _ => rfl
def c29s16 : SCode := (.block 0 (.loop c29k c29s15))
@[go_sem] theorem c29s16eq : U c29s16 (.block 0 (.loop c29k c29s15)) := fun _ _ _ _ _ => rfl
@[go_sem] def c29r17 : List GOp := [fT 0 S1, oS 9 (.ld none T0)]
@[go_sem] def c29r18 : List GOp := [oT (.v (.bin .eql S9 (C 1))), mS 10 T0]
@[go_sem] def c29r19 : List GOp := [fT 7 S1, lT T0, nT T0, oT (.v (.bin .eql T0 (C 1))), mS 2 T0]
def c29s20 : SCode := (.seq (.ops c29r19) .ret)
@[go_sem] theorem c29s20eq : U c29s20 (.seq (.ops c29r19) .ret) := fun _ _ _ _ _ => rfl
@[go_sem] def c29r21 : List GOp := [oT (.v (.bin .eql S9 (C 2))), mS 11 T0]
@[go_sem] def c29r22 : List GOp := [fT 7 S1, lT T0, nT T0, oT (.v (.bin .leq T0 (C 1))), mT T0, (.sel T0 true [(.op (.v (.fa 9 S1))), (.op (.ld none T0)), (.op (.v (.len T0))), (.op (.v (.bin .leq T0 (C 1))))] .t T0 (.c (.bool false))), mS 2 T0]
def c29s23 : SCode := (.seq (.ops c29r22) .ret)
@[go_sem] theorem c29s23eq : U c29s23 (.seq (.ops c29r22) .ret) := fun _ _ _ _ _ => rfl
@[go_sem] def c29r24 : List GOp := [oT (.v (.bin .eql S9 (C 3))), mS 12 T0]
@[go_sem] def c29r25 : List GOp := [fT 10 S1, lT T0, nT T0, oT (.v (.bin .eql T0 (C 1))), mS 2 T0]
def c29s26 : SCode := (.seq (.ops c29r25) .ret)
@[go_sem] theorem c29s26eq : U c29s26 (.seq (.ops c29r25) .ret) := fun _ _ _ _ _ => rfl
@[go_sem] def c29r27 : List GOp := [oT (.v (.bin .eql S9 (C 6))), mS 13 T0]
@[go_sem] def c29r28 : List GOp := [fT 8 S1, lT T0, nT T0, oT (.v (.bin .eql T0 (C 1))), mS 2 T0]
def c29s29 : SCode := (.seq (.ops c29r28) .ret)
@[go_sem] theorem c29s29eq : U c29s29 (.seq (.ops c29r28) .ret) := fun _ _ _ _ _ => rfl
@[go_sem] def c29r30 : List GOp := [oT (.v (.bin .eql S9 (C 7))), mS 14 T0]
@[go_sem] def c29r31 : List GOp := [fT 6 S1, lT T0, nT T0, oT (.v (.bin .eql T0 (C 1))), mS 2 T0]
def c29s32 : SCode := (.seq (.ops c29r31) .ret)
@[go_sem] theorem c29s32eq : U c29s32 (.seq (.ops c29r31) .ret) := fun _ _ _ _ _ => rfl
@[go_sem] def c29r33 : List GOp := [oT (.v (.bin .eql S9 (C 8))), mS 15 T0]
@[go_sem] def c29r34 : List GOp := [fT 10 S1, lT T0, nT T0, oT (.v (.bin .eql T0 (C 1))), mT T0, (.sel T0 true [(.op (.v (.fa 6 S1))), (.op (.ld none T0)), (.op (.v (.len T0))), (.op (.v (.bin .eql T0 (C 1)))), (.op (.v (.mv T0))), (.nst T0 true [(.op (.v (.fa 13 S1))), (.op (.ld none T0)), (.op (.v (.bin .eql T0 (C 0))))] T0 (.c (.bool false))), (.op (.v (.mv T0))), (.nst T0 false [(.op (.v (.fa 6 S1))), (.op (.ld none T0)), (.op (.v (.len T0))), (.op (.v (.bin .eql T0 (C 0)))), (.op (.v (.mv T0))), (.nst T0 true [(.op (.v (.fa 13 S1))), (.op (.ld none T0)), (.op (.v (.bin .geq T0 (C 1))))] T0 (.c (.bool false)))] (.c (.bool true)) T0)] .t T0 (.c (.bool false))), mS 2 T0]
def c29s35 : SCode := (.seq (.ops c29r34) .ret)
@[go_sem] theorem c29s35eq : U c29s35 (.seq (.ops c29r34) .ret) := fun _ _ _ _ _ => rfl
def c29s36 : SCode := (.cond S15 c29s35 .skip)
@[go_sem] theorem c29s36eq : U c29s36 (.cond S15 c29s35 .skip) := fun _ _ _ _ _ => rfl
def c29s37 : SCode := (.seq (.ops c29r33) c29s36)
@[go_sem] theorem c29s37eq : U c29s37 (.seq (.ops c29r33) c29s36) := fun _ _ _ _ _ => rfl
def c29s38 : SCode := (.cond S14 c29s32 c29s37)
@[go_sem] theorem c29s38eq : U c29s38 (.cond S14 c29s32 c29s37) := fun _ _ _ _ _ => rfl
def c29s39 : SCode := (.seq (.ops c29r30) c29s38)
@[go_sem] theorem c29s39eq : U c29s39 (.seq (.ops c29r30) c29s38) := fun _ _ _ _ _ => rfl
def c29s40 : SCode := (.cond S13 c29s29 c29s39)
@[go_sem] theorem c29s40eq : U c29s40 (.cond S13 c29s29 c29s39) := fun _ _ _ _ _ => rfl
def c29s41 : SCode := (.seq (.ops c29r27) c29s40)
@[go_sem] theorem c29s41eq : U c29s41 (.seq (.ops c29r27) c29s40) := fun _ _ _ _ _ => rfl
def c29s42 : SCode := (.cond S12 c29s26 c29s41)
@[go_sem] theorem c29s42eq : U c29s42 (.cond S12 c29s26 c29s41) := fun _ _ _ _ _ => rfl
def c29s43 : SCode := (.seq (.ops c29r24) c29s42)
@[go_sem] theorem c29s43eq : U c29s43 (.seq (.ops c29r24) c29s42) := fun _ _ _ _ _ => rfl
def c29s44 : SCode := (.cond S11 c29s23 c29s43)
@[go_sem] theorem c29s44eq : U c29s44 (.cond S11 c29s23 c29s43) := fun _ _ _ _ _ => rfl
def c29s45 : SCode := (.seq (.ops c29r21) c29s44)
@[go_sem] theorem c29s45eq : U c29s45 (.seq (.ops c29r21) c29s44) := fun _ _ _ _ _ => rfl
def c29s46 : SCode := (.cond S10 c29s20 c29s45)
@[go_sem] theorem c29s46eq : U c29s46 (.cond S10 c29s20 c29s45) := fun _ _ _ _ _ => rfl
def c29s47 : SCode := (.block 2 (.seq (.ops c29r18) c29s46))
@[go_sem] theorem c29s47eq : U c29s47 (.block 2 (.seq (.ops c29r18) c29s46)) := fun _ _ _ _ _ => rfl
@[go_sem] def c29r48 : List GOp := [mS 2 (.c (.bool true))]
def c29s49 : SCode := (.seq (.ops c29r48) .ret)
@[go_sem] theorem c29s49eq : U c29s49 (.seq (.ops c29r48) .ret) := fun _ _ _ _ _ => rfl
def c29s50 : SCode := (.seq (.seq (.ops c29r17) c29s47) c29s49)
@[go_sem] theorem c29s50eq : U c29s50 (.seq (.seq (.ops c29r17) c29s47) c29s49) := fun _ _ _ _ _ => rfl
def c29s51 : SCode := (.seq (.seq (.ops c29r6) c29s16) c29s50)
@[go_sem] theorem c29s51eq : U c29s51 (.seq (.seq (.ops c29r6) c29s16) c29s50) := fun _ _ _ _ _ => rfl
def c29s52 : SCode := (.seq (.ops c29r5) c29s51)
@[go_sem] theorem c29s52eq : U c29s52 (.seq (.ops c29r5) c29s51) := fun _ _ _ _ _ => rfl
def c29s53 : SCode := (.seq (.de c29d4) c29s52)
@[go_sem] theorem c29s53eq : U c29s53 (.seq (.de c29d4) c29s52) := fun _ _ _ _ _ => rfl
def c29s54 : SCode := (.seq (.seq (.ops c29r1) (.cond S6 c29s3 .skip)) c29s53)
@[go_sem] theorem c29s54eq : U c29s54 (.seq (.seq (.ops c29r1) (.cond S6 c29s3 .skip)) c29s53) := fun _ _ _ _ _ => rfl
def c29 : Gx.Fn := ⟨156, c29k, (.seq (.ops c29r0) c29s54), [(.tmp S2)]⟩
theorem c29ok : stripFn Tryz.prog c29k Tryz.f29 = some c29 := by kernel_rfl

/- plexusref30.payload -/
@[go_sem] def c30k : List Nat := [0, 1, 2, 3, 14, 15, 30, 45, 54, 60, 67]
@[go_sem] def c30r0 : List GOp := [oS 1 (.bx 39 S0), mS 2 (.c Z)]
@[go_sem] def c30d1 : DT := (rf 0 S1 [2, 5, 8] (rl T0 [2, 5, 8] (rf 1 S1 [5, 8] (rl T0 [5, 8] (rf 2 S1 [8] (rl T0 [8] (.ef 2 none .t (.call 64 [(.c Z), T4]) (.ef 5 none .t (.call 63 [T0, T3]) (.ef 8 none .t (.call 63 [T0, T2]) (.rd none (.s 3) (.v (.mv T0)) [] .done))))))))))
@[go_sem] def c30r2 : List GOp := [fT 0 S1, oS 4 (.ld none T0)]
@[go_sem] def c30r3 : List GOp := [oT (.v (.bin .eql S4 (C 1))), mS 5 T0]
@[go_sem] def c30d4 : DT := (rm S3 [3, 6, 9, 12] (rf 3 S1 [3, 6, 9, 12] (.rd none .t (.ld (some 3) T0) [3, 6, 9, 12] (rf 6 S1 [6, 9, 12] (rl T0 [6, 9, 12] (rf 7 S1 [9, 12] (rl T0 [9, 12] (rf 8 S1 [12] (rl T0 [12] (.ef 3 none .t (.call 68 [T8, T6]) (.ef 6 none .t (.call 67 [T0, T5]) (.ef 9 none .t (.call 66 [T0, T4]) (.ef 12 none .t (.call 65 [T0, T3]) (.rd none (.s 2) (.v (.mv T0)) [] .done))))))))))))))
@[go_sem] def c30r5 : List GOp := [oT (.v (.bin .eql S4 (C 2))), mS 6 T0]
@[go_sem] def c30d6 : DT := (rm S3 [3, 6, 9, 12] (rf 3 S1 [3, 6, 9, 12] (.rd none .t (.ld (some 3) T0) [3, 6, 9, 12] (rf 8 S1 [6, 9, 12] (rl T0 [6, 9, 12] (rf 7 S1 [9, 12] (rl T0 [9, 12] (rf 9 S1 [12] (rl T0 [12] (.ef 3 none .t (.call 68 [T8, T6]) (.ef 6 none .t (.call 65 [T0, T5]) (.ef 9 none .t (.call 66 [T0, T4]) (.ef 12 none .t (.call 69 [T0, T3]) (.rd none (.s 2) (.v (.mv T0)) [] .done))))))))))))))
@[go_sem] def c30r7 : List GOp := [oT (.v (.bin .eql S4 (C 3))), mS 7 T0]
@[go_sem] def c30d8 : DT := (rm S3 [3, 6] (rf 10 S1 [3, 6] (rl T0 [3, 6] (rf 8 S1 [6] (rl T0 [6] (.ef 3 none .t (.call 70 [T4, T2]) (.ef 6 none .t (.call 65 [T0, T1]) (.rd none (.s 2) (.v (.mv T0)) [] .done))))))))
@[go_sem] def c30r9 : List GOp := [oT (.v (.bin .eql S4 (C 4))), mS 8 T0]
@[go_sem] def c30r10 : List GOp := [mT S3, fT 11 S1, lT T0, oT (.call 71 [T2, T0]), mS 2 T0]
def c30s11 : SCode := (.seq (.ops c30r10) .ret)
@[go_sem] theorem c30s11eq : U c30s11 (.seq (.ops c30r10) .ret) := fun _ _ _ _ _ => rfl
@[go_sem] def c30r12 : List GOp := [oT (.v (.bin .eql S4 (C 5))), mS 9 T0]
@[go_sem] def c30r13 : List GOp := [oT (.v (.bin .eql S4 (C 6))), mS 9 T0]
def c30s14 : SCode := (.cond S9 .skip (.ops c30r13))
@[go_sem] theorem c30s14eq : U c30s14 (.cond S9 .skip (.ops c30r13)) := fun _ _ _ _ _ => rfl
@[go_sem] def c30r15 : List GOp := [mT S3, fT 8 S1, lT T0, oT (.call 65 [T2, T0]), mS 2 T0]
def c30s16 : SCode := (.seq (.ops c30r15) .ret)
@[go_sem] theorem c30s16eq : U c30s16 (.seq (.ops c30r15) .ret) := fun _ _ _ _ _ => rfl
@[go_sem] def c30r17 : List GOp := [oT (.v (.bin .eql S4 (C 7))), mS 10 T0]
@[go_sem] def c30d18 : DT := (rm S3 [3, 6] (rf 6 S1 [3, 6] (rl T0 [3, 6] (rf 12 S1 [6] (rl T0 [6] (.ef 3 none .t (.call 67 [T4, T2]) (.ef 6 none .t (.call 72 [T0, T1]) (.rd none (.s 2) (.v (.mv T0)) [] .done))))))))
def c30s19 : SCode := (.seq (.de c30d18) .ret)
@[go_sem] theorem c30s19eq : U c30s19 (.seq (.de c30d18) .ret) := fun _ _ _ _ _ => rfl
def c30s20 : SCode := (.cond S10 c30s19 .skip)
@[go_sem] theorem c30s20eq : U c30s20 (.cond S10 c30s19 .skip) := fun _ _ _ _ _ => rfl
def c30s21 : SCode := (.seq (.ops c30r17) c30s20)
@[go_sem] theorem c30s21eq : U c30s21 (.seq (.ops c30r17) c30s20) := fun _ _ _ _ _ => rfl
def c30s22 : SCode := (.cond S9 c30s16 c30s21)
@[go_sem] theorem c30s22eq : U c30s22 (.cond S9 c30s16 c30s21) := fun _ _ _ _ _ => rfl
def c30s23 : SCode := (.seq (.seq (.ops c30r12) c30s14) c30s22)
@[go_sem] theorem c30s23eq : U c30s23 (.seq (.seq (.ops c30r12) c30s14) c30s22) := fun _ _ _ _ _ => rfl
def c30s24 : SCode := (.cond S8 c30s11 c30s23)
@[go_sem] theorem c30s24eq : U c30s24 (.cond S8 c30s11 c30s23) := fun _ _ _ _ _ => rfl
def c30s25 : SCode := (.seq (.ops c30r9) c30s24)
@[go_sem] theorem c30s25eq : U c30s25 (.seq (.ops c30r9) c30s24) := fun _ _ _ _ _ => rfl
def c30s26 : SCode := (.cond S7 (.seq (.de c30d8) .ret) c30s25)
@[go_sem] theorem c30s26eq : U c30s26 (.cond S7 (.seq (.de c30d8) .ret) c30s25) := fun _ _ _ _ _ => rfl
def c30s27 : SCode := (.seq (.ops c30r7) c30s26)
@[go_sem] theorem c30s27eq : U c30s27 (.seq (.ops c30r7) c30s26) := fun _ _ _ _ _ => rfl
def c30s28 : SCode := (.cond S6 (.seq (.de c30d6) .ret) c30s27)
@[go_sem] theorem c30s28eq : U c30s28 (.cond S6 (.seq (.de c30d6) .ret) c30s27) := fun _ _ _ _ _ => rfl
def c30s29 : SCode := (.seq (.ops c30r5) c30s28)
@[go_sem] theorem c30s29eq : U c30s29 (.seq (.ops c30r5) c30s28) := fun _ _ _ _ _ => rfl
def c30s30 : SCode := (.cond S5 (.seq (.de c30d4) .ret) c30s29)
@[go_sem] theorem c30s30eq : U c30s30 (.cond S5 (.seq (.de c30d4) .ret) c30s29) := fun _ _ _ _ _ => rfl
def c30s31 : SCode := (.block 0 (.seq (.ops c30r3) c30s30))
@[go_sem] theorem c30s31eq : U c30s31 (.block 0 (.seq (.ops c30r3) c30s30)) := fun _ _ _ _ _ => rfl
@[go_sem] def c30d32 : DT := (rm S3 [3, 6, 9, 12] (rf 10 S1 [3, 6, 9, 12] (rl T0 [3, 6, 9, 12] (rf 6 S1 [6, 9, 12] (rl T0 [6, 9, 12] (rf 13 S1 [9, 12] (rl T0 [9, 12] (rf 14 S1 [12] (rl T0 [12] (.ef 3 none .t (.call 70 [T8, T6]) (.ef 6 none .t (.call 67 [T0, T5]) (.ef 9 none .t (.call 63 [T0, T4]) (.ef 12 none .t (.call 73 [T0, T3]) (.rd none (.s 2) (.v (.mv T0)) [] .done))))))))))))))
def c30s33 : SCode := (.seq (.de c30d32) .ret)
@[go_sem] theorem c30s33eq : U c30s33 (.seq (.de c30d32) .ret) := fun _ _ _ _ _ => rfl
def c30s34 : SCode := (.seq (.seq (.ops c30r2) c30s31) c30s33)
@[go_sem] theorem c30s34eq : U c30s34 (.seq (.seq (.ops c30r2) c30s31) c30s33) := fun _ _ _ _ _ => rfl
def c30s35 : SCode := (.seq (.de c30d1) c30s34)
@[go_sem] theorem c30s35eq : U c30s35 (.seq (.de c30d1) c30s34) := fun _ _ _ _ _ => rfl
def c30 : Gx.Fn := ⟨89, c30k, (.seq (.ops c30r0) c30s35), [(.tmp S2)]⟩
theorem c30ok : stripFn Tryz.prog c30k Tryz.f30 = some c30 := by kernel_rfl

/- plexusref30.All -/
@[go_sem] def c34k : List Nat := [0, 1, 2, 3]
@[go_sem] def c34r0 : List GOp := [oS 1 (.bx 39 S0), mS 2 (.c Z)]
@[go_sem] def c34d1 : DT := (rf 0 S1 [2, 5, 8] (rl T0 [2, 5, 8] (rf 1 S1 [5, 8] (rl T0 [5, 8] (rf 2 S1 [8] (rl T0 [8] (.ef 2 none .t (.call 63 [(.c Z), T4]) (.ef 5 none .t (.call 63 [T0, T3]) (.ef 8 none .t (.call 63 [T0, T2]) (.rd none (.s 3) (.v (.mv T0)) [] .done))))))))))
@[go_sem] def c34d2 : DT := (rm S3 [3, 6, 9, 12, 15] (rf 3 S1 [3, 6, 9, 12, 15] (.rd none .t (.ld (some 3) T0) [3, 6, 9, 12, 15] (rf 6 S1 [6, 9, 12, 15] (rl T0 [6, 9, 12, 15] (rf 7 S1 [9, 12, 15] (rl T0 [9, 12, 15] (rf 8 S1 [12, 15] (rl T0 [12, 15] (rf 9 S1 [15] (rl T0 [15] (.ef 3 none .t (.call 68 [T10, T8]) (.ef 6 none .t (.call 67 [T0, T7]) (.ef 9 none .t (.call 66 [T0, T6]) (.ef 12 none .t (.call 65 [T0, T5]) (.ef 15 none .t (.call 69 [T0, T4]) (.rd none (.s 3) (.v (.mv T0)) [] .done)))))))))))))))))
@[go_sem] def c34d3 : DT := (rm S3 [3, 6, 9, 12, 15] (rf 10 S1 [3, 6, 9, 12, 15] (rl T0 [3, 6, 9, 12, 15] (rf 11 S1 [6, 9, 12, 15] (rl T0 [6, 9, 12, 15] (rf 12 S1 [9, 12, 15] (rl T0 [9, 12, 15] (rf 13 S1 [12, 15] (rl T0 [12, 15] (rf 14 S1 [15] (rl T0 [15] (.ef 3 none .t (.call 70 [T10, T8]) (.ef 6 none .t (.call 71 [T0, T7]) (.ef 9 none .t (.call 72 [T0, T6]) (.ef 12 none .t (.call 63 [T0, T5]) (.ef 15 none .t (.call 73 [T0, T4]) (.rd none (.s 2) (.v (.mv T0)) [] .done)))))))))))))))))
def c34s4 : SCode := (.seq (.de c34d2) (.seq (.de c34d3) .ret))
@[go_sem] theorem c34s4eq : U c34s4 (.seq (.de c34d2) (.seq (.de c34d3) .ret)) := fun _ _ _ _ _ => rfl
def c34s5 : SCode := (.seq (.de c34d1) c34s4)
@[go_sem] theorem c34s5eq : U c34s5 (.seq (.de c34d1) c34s4) := fun _ _ _ _ _ => rfl
def c34 : Gx.Fn := ⟨45, c34k, (.seq (.ops c34r0) c34s5), [(.tmp S2)]⟩
theorem c34ok : stripFn Tryz.prog c34k Tryz.f34 = some c34 := by kernel_rfl

/- plexusref30.uses -/
@[go_sem] def c62k : List Nat := [0, 2, 3, 4, 7, 10, 13, 16, 20, 23]
@[go_sem] def c62r0 : List GOp := [oS 1 (.al 114 [(.bool false), (.bool false), (.bool false), (.bool false), (.bool false), (.bool false), (.bool false), (.bool false), (.bool false), (.bool false)])]
@[go_sem] def c62r1 : List GOp := [mS 2 S0]
@[go_sem] def c62r2 : List GOp := [oT (.v (.bin .eql S2 (C 1))), mS 3 T0]
@[go_sem] def c62r3 : List GOp := [oT (.v (.bld [(.bool false), (.bool false), (.bool false), (.bool false), (.bool false), (.bool false), (.bool false), (.bool false), (.bool false), (.bool false)] [(0, (1, (.c (.bool true)))), (1, (1, (.c (.bool true)))), (2, (1, (.c (.bool true)))), (3, (1, (.c (.bool true))))])), oN (.st 10 S1 T0)]
def c62s4 : SCode := (.seq (.ops c62r3) .ret)
@[go_sem] theorem c62s4eq : U c62s4 (.seq (.ops c62r3) .ret) := fun _ _ _ _ _ => rfl
@[go_sem] def c62r5 : List GOp := [oT (.v (.bin .eql S2 (C 2))), mS 4 T0]
@[go_sem] def c62r6 : List GOp := [oT (.v (.bld [(.bool false), (.bool false), (.bool false), (.bool false), (.bool false), (.bool false), (.bool false), (.bool false), (.bool false), (.bool false)] [(0, (1, (.c (.bool true)))), (2, (1, (.c (.bool true)))), (3, (1, (.c (.bool true)))), (4, (1, (.c (.bool true))))])), oN (.st 10 S1 T0)]
def c62s7 : SCode := (.seq (.ops c62r6) .ret)
@[go_sem] theorem c62s7eq : U c62s7 (.seq (.ops c62r6) .ret) := fun _ _ _ _ _ => rfl
@[go_sem] def c62r8 : List GOp := [oT (.v (.bin .eql S2 (C 3))), mS 5 T0]
@[go_sem] def c62r9 : List GOp := [oT (.v (.bld [(.bool false), (.bool false), (.bool false), (.bool false), (.bool false), (.bool false), (.bool false), (.bool false), (.bool false), (.bool false)] [(3, (1, (.c (.bool true)))), (5, (1, (.c (.bool true))))])), oN (.st 10 S1 T0)]
def c62s10 : SCode := (.seq (.ops c62r9) .ret)
@[go_sem] theorem c62s10eq : U c62s10 (.seq (.ops c62r9) .ret) := fun _ _ _ _ _ => rfl
@[go_sem] def c62r11 : List GOp := [oT (.v (.bin .eql S2 (C 4))), mS 6 T0]
@[go_sem] def c62r12 : List GOp := [oT (.v (.bld [(.bool false), (.bool false), (.bool false), (.bool false), (.bool false), (.bool false), (.bool false), (.bool false), (.bool false), (.bool false)] [(6, (1, (.c (.bool true))))])), oN (.st 10 S1 T0)]
def c62s13 : SCode := (.seq (.ops c62r12) .ret)
@[go_sem] theorem c62s13eq : U c62s13 (.seq (.ops c62r12) .ret) := fun _ _ _ _ _ => rfl
@[go_sem] def c62r14 : List GOp := [oT (.v (.bin .eql S2 (C 5))), mS 7 T0]
@[go_sem] def c62r15 : List GOp := [oT (.v (.bin .eql S2 (C 6))), mS 7 T0]
def c62s16 : SCode := (.cond S7 .skip (.ops c62r15))
@[go_sem] theorem c62s16eq : U c62s16 (.cond S7 .skip (.ops c62r15)) := fun _ _ _ _ _ => rfl
@[go_sem] def c62r17 : List GOp := [oT (.v (.bld [(.bool false), (.bool false), (.bool false), (.bool false), (.bool false), (.bool false), (.bool false), (.bool false), (.bool false), (.bool false)] [(3, (1, (.c (.bool true))))])), oN (.st 10 S1 T0)]
def c62s18 : SCode := (.seq (.ops c62r17) .ret)
@[go_sem] theorem c62s18eq : U c62s18 (.seq (.ops c62r17) .ret) := fun _ _ _ _ _ => rfl
@[go_sem] def c62r19 : List GOp := [oT (.v (.bin .eql S2 (C 7))), mS 8 T0]
@[go_sem] def c62r20 : List GOp := [oT (.v (.bld [(.bool false), (.bool false), (.bool false), (.bool false), (.bool false), (.bool false), (.bool false), (.bool false), (.bool false), (.bool false)] [(1, (1, (.c (.bool true)))), (7, (1, (.c (.bool true))))])), oN (.st 10 S1 T0)]
def c62s21 : SCode := (.seq (.ops c62r20) .ret)
@[go_sem] theorem c62s21eq : U c62s21 (.seq (.ops c62r20) .ret) := fun _ _ _ _ _ => rfl
@[go_sem] def c62r22 : List GOp := [oT (.v (.bin .eql S2 (C 8))), mS 9 T0]
@[go_sem] def c62r23 : List GOp := [oT (.v (.bld [(.bool false), (.bool false), (.bool false), (.bool false), (.bool false), (.bool false), (.bool false), (.bool false), (.bool false), (.bool false)] [(1, (1, (.c (.bool true)))), (5, (1, (.c (.bool true)))), (8, (1, (.c (.bool true)))), (9, (1, (.c (.bool true))))])), oN (.st 10 S1 T0)]
def c62s24 : SCode := (.seq (.ops c62r23) .ret)
@[go_sem] theorem c62s24eq : U c62s24 (.seq (.ops c62r23) .ret) := fun _ _ _ _ _ => rfl
def c62s25 : SCode := (.seq (.ops c62r22) (.cond S9 c62s24 .skip))
@[go_sem] theorem c62s25eq : U c62s25 (.seq (.ops c62r22) (.cond S9 c62s24 .skip)) := fun _ _ _ _ _ => rfl
def c62s26 : SCode := (.cond S8 c62s21 c62s25)
@[go_sem] theorem c62s26eq : U c62s26 (.cond S8 c62s21 c62s25) := fun _ _ _ _ _ => rfl
def c62s27 : SCode := (.seq (.ops c62r19) c62s26)
@[go_sem] theorem c62s27eq : U c62s27 (.seq (.ops c62r19) c62s26) := fun _ _ _ _ _ => rfl
def c62s28 : SCode := (.cond S7 c62s18 c62s27)
@[go_sem] theorem c62s28eq : U c62s28 (.cond S7 c62s18 c62s27) := fun _ _ _ _ _ => rfl
def c62s29 : SCode := (.seq (.seq (.ops c62r14) c62s16) c62s28)
@[go_sem] theorem c62s29eq : U c62s29 (.seq (.seq (.ops c62r14) c62s16) c62s28) := fun _ _ _ _ _ => rfl
def c62s30 : SCode := (.cond S6 c62s13 c62s29)
@[go_sem] theorem c62s30eq : U c62s30 (.cond S6 c62s13 c62s29) := fun _ _ _ _ _ => rfl
def c62s31 : SCode := (.seq (.ops c62r11) c62s30)
@[go_sem] theorem c62s31eq : U c62s31 (.seq (.ops c62r11) c62s30) := fun _ _ _ _ _ => rfl
def c62s32 : SCode := (.cond S5 c62s10 c62s31)
@[go_sem] theorem c62s32eq : U c62s32 (.cond S5 c62s10 c62s31) := fun _ _ _ _ _ => rfl
def c62s33 : SCode := (.seq (.ops c62r8) c62s32)
@[go_sem] theorem c62s33eq : U c62s33 (.seq (.ops c62r8) c62s32) := fun _ _ _ _ _ => rfl
def c62s34 : SCode := (.seq (.ops c62r5) (.cond S4 c62s7 c62s33))
@[go_sem] theorem c62s34eq : U c62s34 (.seq (.ops c62r5) (.cond S4 c62s7 c62s33)) := fun _ _ _ _ _ => rfl
def c62s35 : SCode := (.block 0 (.seq (.ops c62r2) (.cond S3 c62s4 c62s34)))
@[go_sem] theorem c62s35eq : U c62s35 (.block 0 (.seq (.ops c62r2) (.cond S3 c62s4 c62s34))) := fun _ _ _ _ _ => rfl
@[go_sem] def c62r36 : List GOp := [oT (.v (.bld [(.bool false), (.bool false), (.bool false), (.bool false), (.bool false), (.bool false), (.bool false), (.bool false), (.bool false), (.bool false)] [])), oN (.st 10 S1 T0)]
def c62s37 : SCode := (.seq (.ops c62r36) .ret)
@[go_sem] theorem c62s37eq : U c62s37 (.seq (.ops c62r36) .ret) := fun _ _ _ _ _ => rfl
def c62s38 : SCode := (.seq (.seq (.ops c62r1) c62s35) c62s37)
@[go_sem] theorem c62s38eq : U c62s38 (.seq (.seq (.ops c62r1) c62s35) c62s37) := fun _ _ _ _ _ => rfl
def c62 : Gx.Fn := ⟨27, c62k, (.seq (.ops c62r0) c62s38), [(.cell S1 (some 10))]⟩
theorem c62ok : stripFn Tryz.prog c62k Tryz.f62 = some c62 := by kernel_rfl

/- plexusref30.integer -/
@[go_sem] def c63k : List Nat := [0, 1, 4]
@[go_sem] def c63r0 : List GOp := [mS 2 (.c Z)]
@[go_sem] def c63r1 : List GOp := [mT S0, mT S1, oT (.call 115 [T1, T0]), mS 2 T0]
def c63s2 : SCode := (.seq (.ops c63r1) .ret)
@[go_sem] theorem c63s2eq : U c63s2 (.seq (.ops c63r1) .ret) := fun _ _ _ _ _ => rfl
def c63 : Gx.Fn := ⟨8, c63k, (.seq (.ops c63r0) c63s2), [(.tmp S2)]⟩
theorem c63ok : stripFn Tryz.prog c63k Tryz.f63 = some c63 := by kernel_rfl

/- plexusref30.count -/
@[go_sem] def c64k : List Nat := [0, 1, 4]
@[go_sem] def c64r0 : List GOp := [mS 2 (.c Z)]
@[go_sem] def c64r1 : List GOp := [mT S0, mT S1, oT (.v (.cvi .u64 T0)), oT (.call 116 [T2, T0]), mS 2 T0]
def c64s2 : SCode := (.seq (.ops c64r1) .ret)
@[go_sem] theorem c64s2eq : U c64s2 (.seq (.ops c64r1) .ret) := fun _ _ _ _ _ => rfl
def c64 : Gx.Fn := ⟨9, c64k, (.seq (.ops c64r0) c64s2), [(.tmp S2)]⟩
theorem c64ok : stripFn Tryz.prog c64k Tryz.f64 = some c64 := by kernel_rfl

/- plexusref30.commands -/
@[go_sem] def c65k : List Nat := [0, 1, 4, 5, 6, 7, 15, 40]
@[go_sem] def c65r0 : List GOp := [mS 2 (.c Z)]
@[go_sem] def c65r1 : List GOp := [mT S0, mT S1, nT T0, oT (.call 64 [T2, T0]), mS 0 T0]
@[go_sem] def c65r2 : List GOp := [mS 3 (C 0)]
@[go_sem] def c65r3 : List GOp := [mT S3, mT S1, nT T0, oS 6 (.v (.bin .lss T2 T0))]
def c65s4 : SCode := (.cond S6 .skip (.exit 0))
@[go_sem] theorem c65s4eq : U c65s4 (.cond S6 .skip (.exit 0)) := fun _ _ _ _ _ => rfl
@[go_sem] def c65r5 : List GOp := [mT S1, mT S3, oT (.v (.ix 6 T1 T0)), oT (.ld (some 6) T0), oS 4 (.al 99 [(I 0), (I 0), (I 0), Z, (I 0), Z]), oN (.st 6 S4 T0)]
@[go_sem] def c65d6 : DT := (rm S0 [3, 6, 9, 13] (rf 0 S4 [3, 6, 9, 13] (rl T0 [3, 6, 9, 13] (rf 1 S4 [6, 9, 13] (rl T0 [6, 9, 13] (rf 2 S4 [9, 13] (rl T0 [9, 13] (rf 3 S4 [13] (rl T0 [13] (.rd none .t (.v (.len T0)) [13] (.ef 3 none .t (.call 63 [T9, T7]) (.ef 6 none .t (.call 63 [T0, T6]) (.ef 9 none .t (.call 63 [T0, T5]) (.ef 13 none .t (.call 64 [T0, T3]) (.rd none (.s 0) (.v (.mv T0)) [] .done)))))))))))))))
@[go_sem] def c65r7 : List GOp := [mS 5 (C 0)]
@[go_sem] def c65r8 : List GOp := [mT S5, fT 3 S4, lT T0, nT T0, oS 7 (.v (.bin .lss T3 T0))]
def c65s9 : SCode := (.cond S7 .skip (.exit 2))
@[go_sem] theorem c65s9eq : U c65s9 (.cond S7 .skip (.exit 2)) := fun _ _ _ _ _ => rfl
@[go_sem] def c65d10 : DT := (rm S0 [7, 14] (rf 3 S4 [7, 14] (rl T0 [7, 14] (rm S5 [7, 14] (.rd none .t (.v (.ix 2 T1 T0)) [7, 14] (rf 0 T0 [7, 14] (rl T0 [7, 14] (rf 3 S4 [14] (rl T0 [14] (rm S5 [14] (.rd none .t (.v (.ix 2 T1 T0)) [14] (rf 1 T0 [14] (rl T0 [14] (.ef 7 none .t (.call 118 [T12, T6]) (.ef 14 none .t (.call 117 [T0, T1]) (.rd none (.s 0) (.v (.mv T0)) [] .done))))))))))))))))
@[go_sem] def c65r11 : List GOp := [mT S5, oT (.v (.bin .add T0 (C 1))), mS 5 T0]
def c65s12 : SCode := (.ops c65r11)
@[go_sem] theorem c65s12eq : U c65s12 (.ops c65r11) := fun _ _ _ _ _ => rfl
def c65s13 : SCode := (.seq (.block 3 (.de c65d10)) c65s12)
@[go_sem] theorem c65s13eq : U c65s13 (.seq (.block 3 (.de c65d10)) c65s12) := fun _ _ _ _ _ => rfl
def c65s14 : SCode := (.seq (.seq (.ops c65r8) c65s9) c65s13)
@[go_sem] theorem c65s14eq : U c65s14 (.seq (.seq (.ops c65r8) c65s9) c65s13) := fun _ _ _ _ _ => rfl
def c65s15 : SCode := (.block 2 (.loop c65k c65s14))
@[go_sem] theorem c65s15eq : U c65s15 (.block 2 (.loop c65k c65s14)) := fun _ _ _ _ _ => rfl
@[go_sem] def c65d16 : DT := (rm S0 [3, 6] (rf 4 S4 [3, 6] (rl T0 [3, 6] (rf 5 S4 [6] (rl T0 [6] (.ef 3 none .t (.call 63 [T4, T2]) (.ef 6 none .t (.call 117 [T0, T1]) (.rd none (.s 0) (.v (.mv T0)) [] .done))))))))
def c65s17 : SCode := (.de c65d16)
@[go_sem] theorem c65s17eq : U c65s17 (.de c65d16) := fun _ _ _ _ _ => rfl
def c65s18 : SCode := (.seq (.seq (.ops c65r7) c65s15) c65s17)
@[go_sem] theorem c65s18eq : U c65s18 (.seq (.seq (.ops c65r7) c65s15) c65s17) := fun _ _ _ _ _ => rfl
def c65s19 : SCode := (.seq (.de c65d6) c65s18)
@[go_sem] theorem c65s19eq : U c65s19 (.seq (.de c65d6) c65s18) := fun _ _ _ _ _ => rfl
@[go_sem] def c65r20 : List GOp := [mT S3, oT (.v (.bin .add T0 (C 1))), mS 3 T0]
def c65s21 : SCode := (.ops c65r20)
@[go_sem] theorem c65s21eq : U c65s21 (.ops c65r20) := fun _ _ _ _ _ => rfl
def c65s22 : SCode := (.seq (.block 1 (.seq (.ops c65r5) c65s19)) c65s21)
@[go_sem] theorem c65s22eq : U c65s22 (.seq (.block 1 (.seq (.ops c65r5) c65s19)) c65s21) := fun _ _ _ _ _ => rfl
def c65s23 : SCode := (.seq (.seq (.ops c65r3) c65s4) c65s22)
@[go_sem] theorem c65s23eq : U c65s23 (.seq (.seq (.ops c65r3) c65s4) c65s22) := fun _ _ _ _ _ => rfl
def c65s24 : SCode := (.block 0 (.loop c65k c65s23))
@[go_sem] theorem c65s24eq : U c65s24 (.block 0 (.loop c65k c65s23)) := fun _ _ _ _ _ => rfl
@[go_sem] def c65r25 : List GOp := [mT S0, mS 2 T0]
def c65s26 : SCode := (.seq (.ops c65r25) .ret)
@[go_sem] theorem c65s26eq : U c65s26 (.seq (.ops c65r25) .ret) := fun _ _ _ _ _ => rfl
def c65s27 : SCode := (.seq (.seq (.ops c65r2) c65s24) c65s26)
@[go_sem] theorem c65s27eq : U c65s27 (.seq (.seq (.ops c65r2) c65s24) c65s26) := fun _ _ _ _ _ => rfl
def c65s28 : SCode := (.seq (.ops c65r1) c65s27)
@[go_sem] theorem c65s28eq : U c65s28 (.seq (.ops c65r1) c65s27) := fun _ _ _ _ _ => rfl
def c65 : Gx.Fn := ⟨66, c65k, (.seq (.ops c65r0) c65s28), [(.tmp S2)]⟩
theorem c65ok : stripFn Tryz.prog c65k Tryz.f65 = some c65 := by kernel_rfl

/- plexusref30.bases -/
@[go_sem] def c66k : List Nat := [0, 1, 4, 5, 13]
@[go_sem] def c66r0 : List GOp := [mS 2 (.c Z)]
@[go_sem] def c66r1 : List GOp := [mT S0, mT S1, nT T0, oT (.call 64 [T2, T0]), mS 0 T0]
@[go_sem] def c66r2 : List GOp := [mS 3 (C 0)]
@[go_sem] def c66r3 : List GOp := [mT S3, mT S1, nT T0, oS 4 (.v (.bin .lss T2 T0))]
def c66s4 : SCode := (.cond S4 .skip (.exit 0))
@[go_sem] theorem c66s4eq : U c66s4 (.cond S4 .skip (.exit 0)) := fun _ _ _ _ _ => rfl
@[go_sem] def c66d5 : DT := (rm S0 [6, 12] (rm S1 [6, 12] (rm S3 [6, 12] (.rd none .t (.v (.ix 2 T1 T0)) [6, 12] (rf 0 T0 [6, 12] (rl T0 [6, 12] (rm S1 [12] (rm S3 [12] (.rd none .t (.v (.ix 2 T1 T0)) [12] (rf 1 T0 [12] (rl T0 [12] (.ef 6 none .t (.call 119 [T10, T5]) (.ef 12 none .t (.call 65 [T0, T1]) (.rd none (.s 0) (.v (.mv T0)) [] .done))))))))))))))
@[go_sem] def c66r6 : List GOp := [mT S3, oT (.v (.bin .add T0 (C 1))), mS 3 T0]
def c66s7 : SCode := (.ops c66r6)
@[go_sem] theorem c66s7eq : U c66s7 (.ops c66r6) := fun _ _ _ _ _ => rfl
def c66s8 : SCode := (.seq (.block 1 (.de c66d5)) c66s7)
@[go_sem] theorem c66s8eq : U c66s8 (.seq (.block 1 (.de c66d5)) c66s7) := fun _ _ _ _ _ => rfl
def c66s9 : SCode := (.seq (.seq (.ops c66r3) c66s4) c66s8)
@[go_sem] theorem c66s9eq : U c66s9 (.seq (.seq (.ops c66r3) c66s4) c66s8) := fun _ _ _ _ _ => rfl
def c66s10 : SCode := (.block 0 (.loop c66k c66s9))
@[go_sem] theorem c66s10eq : U c66s10 (.block 0 (.loop c66k c66s9)) := fun _ _ _ _ _ => rfl
@[go_sem] def c66r11 : List GOp := [mT S0, mS 2 T0]
def c66s12 : SCode := (.seq (.ops c66r11) .ret)
@[go_sem] theorem c66s12eq : U c66s12 (.seq (.ops c66r11) .ret) := fun _ _ _ _ _ => rfl
def c66s13 : SCode := (.seq (.seq (.ops c66r2) c66s10) c66s12)
@[go_sem] theorem c66s13eq : U c66s13 (.seq (.seq (.ops c66r2) c66s10) c66s12) := fun _ _ _ _ _ => rfl
def c66s14 : SCode := (.seq (.ops c66r1) c66s13)
@[go_sem] theorem c66s14eq : U c66s14 (.seq (.ops c66r1) c66s13) := fun _ _ _ _ _ => rfl
def c66 : Gx.Fn := ⟨30, c66k, (.seq (.ops c66r0) c66s14), [(.tmp S2)]⟩
theorem c66ok : stripFn Tryz.prog c66k Tryz.f66 = some c66 := by kernel_rfl

/- plexusref30.reads -/
@[go_sem] def c67k : List Nat := [0, 1, 4, 5, 13]
@[go_sem] def c67r0 : List GOp := [mS 2 (.c Z)]
@[go_sem] def c67r1 : List GOp := [mT S0, mT S1, nT T0, oT (.call 64 [T2, T0]), mS 0 T0]
@[go_sem] def c67r2 : List GOp := [mS 3 (C 0)]
@[go_sem] def c67r3 : List GOp := [mT S3, mT S1, nT T0, oS 4 (.v (.bin .lss T2 T0))]
def c67s4 : SCode := (.cond S4 .skip (.exit 0))
@[go_sem] theorem c67s4eq : U c67s4 (.cond S4 .skip (.exit 0)) := fun _ _ _ _ _ => rfl
@[go_sem] def c67d5 : DT := (rm S0 [6, 12, 18] (rm S1 [6, 12, 18] (rm S3 [6, 12, 18] (.rd none .t (.v (.ix 3 T1 T0)) [6, 12, 18] (rf 0 T0 [6, 12, 18] (rl T0 [6, 12, 18] (rm S1 [12, 18] (rm S3 [12, 18] (.rd none .t (.v (.ix 3 T1 T0)) [12, 18] (rf 1 T0 [12, 18] (rl T0 [12, 18] (rm S1 [18] (rm S3 [18] (.rd none .t (.v (.ix 3 T1 T0)) [18] (rf 2 T0 [18] (rl T0 [18] (.ef 6 none .t (.call 63 [T15, T10]) (.ef 12 none .t (.call 63 [T0, T6]) (.ef 18 none .t (.call 117 [T0, T2]) (.rd none (.s 0) (.v (.mv T0)) [] .done))))))))))))))))))))
@[go_sem] def c67r6 : List GOp := [mT S3, oT (.v (.bin .add T0 (C 1))), mS 3 T0]
def c67s7 : SCode := (.ops c67r6)
@[go_sem] theorem c67s7eq : U c67s7 (.ops c67r6) := fun _ _ _ _ _ => rfl
def c67s8 : SCode := (.seq (.block 1 (.de c67d5)) c67s7)
@[go_sem] theorem c67s8eq : U c67s8 (.seq (.block 1 (.de c67d5)) c67s7) := fun _ _ _ _ _ => rfl
def c67s9 : SCode := (.seq (.seq (.ops c67r3) c67s4) c67s8)
@[go_sem] theorem c67s9eq : U c67s9 (.seq (.seq (.ops c67r3) c67s4) c67s8) := fun _ _ _ _ _ => rfl
def c67s10 : SCode := (.block 0 (.loop c67k c67s9))
@[go_sem] theorem c67s10eq : U c67s10 (.block 0 (.loop c67k c67s9)) := fun _ _ _ _ _ => rfl
@[go_sem] def c67r11 : List GOp := [mT S0, mS 2 T0]
def c67s12 : SCode := (.seq (.ops c67r11) .ret)
@[go_sem] theorem c67s12eq : U c67s12 (.seq (.ops c67r11) .ret) := fun _ _ _ _ _ => rfl
def c67s13 : SCode := (.seq (.seq (.ops c67r2) c67s10) c67s12)
@[go_sem] theorem c67s13eq : U c67s13 (.seq (.seq (.ops c67r2) c67s10) c67s12) := fun _ _ _ _ _ => rfl
def c67s14 : SCode := (.seq (.ops c67r1) c67s13)
@[go_sem] theorem c67s14eq : U c67s14 (.seq (.ops c67r1) c67s13) := fun _ _ _ _ _ => rfl
def c67 : Gx.Fn := ⟨36, c67k, (.seq (.ops c67r0) c67s14), [(.tmp S2)]⟩
theorem c67ok : stripFn Tryz.prog c67k Tryz.f67 = some c67 := by kernel_rfl

/- plexusref30.round -/
@[go_sem] def c68k : List Nat := [0, 1, 3, 4]
@[go_sem] def c68r0 : List GOp := [oS 2 (.bx 29 S1), mS 3 (.c Z)]
@[go_sem] def c68d1 : DT := (rm S0 [3, 6, 9] (rf 0 S2 [3, 6, 9] (rl T0 [3, 6, 9] (rf 1 S2 [6, 9] (rl T0 [6, 9] (rf 2 S2 [9] (rl T0 [9] (.ef 3 none .t (.call 63 [T6, T4]) (.ef 6 none .t (.call 63 [T0, T3]) (.ef 9 none .t (.call 63 [T0, T2]) (.rd none (.s 3) (.v (.mv T0)) [] .done)))))))))))
def c68 : Gx.Fn := ⟨15, c68k, (.seq (.ops c68r0) (.seq (.de c68d1) .ret)), [(.tmp S3)]⟩
theorem c68ok : stripFn Tryz.prog c68k Tryz.f68 = some c68 := by kernel_rfl

/- plexusref30.acks -/
@[go_sem] def c69k : List Nat := [0, 1, 4, 5, 13]
@[go_sem] def c69r0 : List GOp := [mS 2 (.c Z)]
@[go_sem] def c69r1 : List GOp := [mT S0, mT S1, nT T0, oT (.call 64 [T2, T0]), mS 0 T0]
@[go_sem] def c69r2 : List GOp := [mS 3 (C 0)]
@[go_sem] def c69r3 : List GOp := [mT S3, mT S1, nT T0, oS 4 (.v (.bin .lss T2 T0))]
def c69s4 : SCode := (.cond S4 .skip (.exit 0))
@[go_sem] theorem c69s4eq : U c69s4 (.cond S4 .skip (.exit 0)) := fun _ _ _ _ _ => rfl
@[go_sem] def c69d5 : DT := (rm S0 [6, 12] (rm S1 [6, 12] (rm S3 [6, 12] (.rd none .t (.v (.ix 2 T1 T0)) [6, 12] (rf 0 T0 [6, 12] (rl T0 [6, 12] (rm S1 [12] (rm S3 [12] (.rd none .t (.v (.ix 2 T1 T0)) [12] (rf 1 T0 [12] (rl T0 [12] (.ef 6 none .t (.call 63 [T10, T5]) (.ef 12 none .t (.call 117 [T0, T1]) (.rd none (.s 0) (.v (.mv T0)) [] .done))))))))))))))
@[go_sem] def c69r6 : List GOp := [mT S3, oT (.v (.bin .add T0 (C 1))), mS 3 T0]
def c69s7 : SCode := (.ops c69r6)
@[go_sem] theorem c69s7eq : U c69s7 (.ops c69r6) := fun _ _ _ _ _ => rfl
def c69s8 : SCode := (.seq (.block 1 (.de c69d5)) c69s7)
@[go_sem] theorem c69s8eq : U c69s8 (.seq (.block 1 (.de c69d5)) c69s7) := fun _ _ _ _ _ => rfl
def c69s9 : SCode := (.seq (.seq (.ops c69r3) c69s4) c69s8)
@[go_sem] theorem c69s9eq : U c69s9 (.seq (.seq (.ops c69r3) c69s4) c69s8) := fun _ _ _ _ _ => rfl
def c69s10 : SCode := (.block 0 (.loop c69k c69s9))
@[go_sem] theorem c69s10eq : U c69s10 (.block 0 (.loop c69k c69s9)) := fun _ _ _ _ _ => rfl
@[go_sem] def c69r11 : List GOp := [mT S0, mS 2 T0]
def c69s12 : SCode := (.seq (.ops c69r11) .ret)
@[go_sem] theorem c69s12eq : U c69s12 (.seq (.ops c69r11) .ret) := fun _ _ _ _ _ => rfl
def c69s13 : SCode := (.seq (.seq (.ops c69r2) c69s10) c69s12)
@[go_sem] theorem c69s13eq : U c69s13 (.seq (.seq (.ops c69r2) c69s10) c69s12) := fun _ _ _ _ _ => rfl
def c69s14 : SCode := (.seq (.ops c69r1) c69s13)
@[go_sem] theorem c69s14eq : U c69s14 (.seq (.ops c69r1) c69s13) := fun _ _ _ _ _ => rfl
def c69 : Gx.Fn := ⟨30, c69k, (.seq (.ops c69r0) c69s14), [(.tmp S2)]⟩
theorem c69ok : stripFn Tryz.prog c69k Tryz.f69 = some c69 := by kernel_rfl

/- plexusref30.proofs -/
@[go_sem] def c70k : List Nat := [0, 1, 4, 5, 13]
@[go_sem] def c70r0 : List GOp := [mS 2 (.c Z)]
@[go_sem] def c70r1 : List GOp := [mT S0, mT S1, nT T0, oT (.call 64 [T2, T0]), mS 0 T0]
@[go_sem] def c70r2 : List GOp := [mS 3 (C 0)]
@[go_sem] def c70r3 : List GOp := [mT S3, mT S1, nT T0, oS 4 (.v (.bin .lss T2 T0))]
def c70s4 : SCode := (.cond S4 .skip (.exit 0))
@[go_sem] theorem c70s4eq : U c70s4 (.cond S4 .skip (.exit 0)) := fun _ _ _ _ _ => rfl
@[go_sem] def c70d5 : DT := (rm S0 [6, 12] (rm S1 [6, 12] (rm S3 [6, 12] (.rd none .t (.v (.ix 10 T1 T0)) [6, 12] (rf 0 T0 [6, 12] (rl T0 [6, 12] (rm S1 [12] (rm S3 [12] (.rd none .t (.v (.ix 10 T1 T0)) [12] (rf 1 T0 [12] (.rd none .t (.ld (some 9) T0) [12] (.ef 6 none .t (.call 119 [T10, T5]) (.ef 12 none .t (.call 120 [T0, T1]) (.rd none (.s 0) (.v (.mv T0)) [] .done))))))))))))))
@[go_sem] def c70r6 : List GOp := [mT S3, oT (.v (.bin .add T0 (C 1))), mS 3 T0]
def c70s7 : SCode := (.ops c70r6)
@[go_sem] theorem c70s7eq : U c70s7 (.ops c70r6) := fun _ _ _ _ _ => rfl
def c70s8 : SCode := (.seq (.block 1 (.de c70d5)) c70s7)
@[go_sem] theorem c70s8eq : U c70s8 (.seq (.block 1 (.de c70d5)) c70s7) := fun _ _ _ _ _ => rfl
def c70s9 : SCode := (.seq (.seq (.ops c70r3) c70s4) c70s8)
@[go_sem] theorem c70s9eq : U c70s9 (.seq (.seq (.ops c70r3) c70s4) c70s8) := fun _ _ _ _ _ => rfl
def c70s10 : SCode := (.block 0 (.loop c70k c70s9))
@[go_sem] theorem c70s10eq : U c70s10 (.block 0 (.loop c70k c70s9)) := fun _ _ _ _ _ => rfl
@[go_sem] def c70r11 : List GOp := [mT S0, mS 2 T0]
def c70s12 : SCode := (.seq (.ops c70r11) .ret)
@[go_sem] theorem c70s12eq : U c70s12 (.seq (.ops c70r11) .ret) := fun _ _ _ _ _ => rfl
def c70s13 : SCode := (.seq (.seq (.ops c70r2) c70s10) c70s12)
@[go_sem] theorem c70s13eq : U c70s13 (.seq (.seq (.ops c70r2) c70s10) c70s12) := fun _ _ _ _ _ => rfl
def c70s14 : SCode := (.seq (.ops c70r1) c70s13)
@[go_sem] theorem c70s14eq : U c70s14 (.seq (.ops c70r1) c70s13) := fun _ _ _ _ _ => rfl
def c70 : Gx.Fn := ⟨30, c70k, (.seq (.ops c70r0) c70s14), [(.tmp S2)]⟩
theorem c70ok : stripFn Tryz.prog c70k Tryz.f70 = some c70 := by kernel_rfl

/- plexusref30.digests -/
@[go_sem] def c71k : List Nat := [0, 1, 4, 5, 13]
@[go_sem] def c71r0 : List GOp := [mS 2 (.c Z)]
@[go_sem] def c71r1 : List GOp := [mT S0, mT S1, nT T0, oT (.call 64 [T2, T0]), mS 0 T0]
@[go_sem] def c71r2 : List GOp := [mS 3 (C 0)]
@[go_sem] def c71r3 : List GOp := [mT S3, mT S1, nT T0, oS 4 (.v (.bin .lss T2 T0))]
def c71s4 : SCode := (.cond S4 .skip (.exit 0))
@[go_sem] theorem c71s4eq : U c71s4 (.cond S4 .skip (.exit 0)) := fun _ _ _ _ _ => rfl
@[go_sem] def c71d5 : DT := (rm S0 [6, 12, 18] (rm S1 [6, 12, 18] (rm S3 [6, 12, 18] (.rd none .t (.v (.ix 3 T1 T0)) [6, 12, 18] (rf 0 T0 [6, 12, 18] (rl T0 [6, 12, 18] (rm S1 [12, 18] (rm S3 [12, 18] (.rd none .t (.v (.ix 3 T1 T0)) [12, 18] (rf 1 T0 [12, 18] (rl T0 [12, 18] (rm S1 [18] (rm S3 [18] (.rd none .t (.v (.ix 3 T1 T0)) [18] (rf 2 T0 [18] (rl T0 [18] (.ef 6 none .t (.call 117 [T15, T10]) (.ef 12 none .t (.call 117 [T0, T6]) (.ef 18 none .t (.call 63 [T0, T2]) (.rd none (.s 0) (.v (.mv T0)) [] .done))))))))))))))))))))
@[go_sem] def c71r6 : List GOp := [mT S3, oT (.v (.bin .add T0 (C 1))), mS 3 T0]
def c71s7 : SCode := (.ops c71r6)
@[go_sem] theorem c71s7eq : U c71s7 (.ops c71r6) := fun _ _ _ _ _ => rfl
def c71s8 : SCode := (.seq (.block 1 (.de c71d5)) c71s7)
@[go_sem] theorem c71s8eq : U c71s8 (.seq (.block 1 (.de c71d5)) c71s7) := fun _ _ _ _ _ => rfl
def c71s9 : SCode := (.seq (.seq (.ops c71r3) c71s4) c71s8)
@[go_sem] theorem c71s9eq : U c71s9 (.seq (.seq (.ops c71r3) c71s4) c71s8) := fun _ _ _ _ _ => rfl
def c71s10 : SCode := (.block 0 (.loop c71k c71s9))
@[go_sem] theorem c71s10eq : U c71s10 (.block 0 (.loop c71k c71s9)) := fun _ _ _ _ _ => rfl
@[go_sem] def c71r11 : List GOp := [mT S0, mS 2 T0]
def c71s12 : SCode := (.seq (.ops c71r11) .ret)
@[go_sem] theorem c71s12eq : U c71s12 (.seq (.ops c71r11) .ret) := fun _ _ _ _ _ => rfl
def c71s13 : SCode := (.seq (.seq (.ops c71r2) c71s10) c71s12)
@[go_sem] theorem c71s13eq : U c71s13 (.seq (.seq (.ops c71r2) c71s10) c71s12) := fun _ _ _ _ _ => rfl
def c71s14 : SCode := (.seq (.ops c71r1) c71s13)
@[go_sem] theorem c71s14eq : U c71s14 (.seq (.ops c71r1) c71s13) := fun _ _ _ _ _ => rfl
def c71 : Gx.Fn := ⟨36, c71k, (.seq (.ops c71r0) c71s14), [(.tmp S2)]⟩
theorem c71ok : stripFn Tryz.prog c71k Tryz.f71 = some c71 := by kernel_rfl

/- plexusref30.objects -/
@[go_sem] def c72k : List Nat := [0, 1, 4, 5, 13]
@[go_sem] def c72r0 : List GOp := [mS 2 (.c Z)]
@[go_sem] def c72r1 : List GOp := [mT S0, mT S1, nT T0, oT (.call 64 [T2, T0]), mS 0 T0]
@[go_sem] def c72r2 : List GOp := [mS 3 (C 0)]
@[go_sem] def c72r3 : List GOp := [mT S3, mT S1, nT T0, oS 4 (.v (.bin .lss T2 T0))]
def c72s4 : SCode := (.cond S4 .skip (.exit 0))
@[go_sem] theorem c72s4eq : U c72s4 (.cond S4 .skip (.exit 0)) := fun _ _ _ _ _ => rfl
@[go_sem] def c72r5 : List GOp := [mT S0, mT S1, mT S3, oT (.v (.ix 1 T1 T0)), lT T0, oT (.call 118 [T4, T0]), mS 0 T0]
@[go_sem] def c72r6 : List GOp := [mT S3, oT (.v (.bin .add T0 (C 1))), mS 3 T0]
def c72s7 : SCode := (.ops c72r6)
@[go_sem] theorem c72s7eq : U c72s7 (.ops c72r6) := fun _ _ _ _ _ => rfl
def c72s8 : SCode := (.seq (.block 1 (.ops c72r5)) c72s7)
@[go_sem] theorem c72s8eq : U c72s8 (.seq (.block 1 (.ops c72r5)) c72s7) := fun _ _ _ _ _ => rfl
def c72s9 : SCode := (.seq (.seq (.ops c72r3) c72s4) c72s8)
@[go_sem] theorem c72s9eq : U c72s9 (.seq (.seq (.ops c72r3) c72s4) c72s8) := fun _ _ _ _ _ => rfl
def c72s10 : SCode := (.block 0 (.loop c72k c72s9))
@[go_sem] theorem c72s10eq : U c72s10 (.block 0 (.loop c72k c72s9)) := fun _ _ _ _ _ => rfl
@[go_sem] def c72r11 : List GOp := [mT S0, mS 2 T0]
def c72s12 : SCode := (.seq (.ops c72r11) .ret)
@[go_sem] theorem c72s12eq : U c72s12 (.seq (.ops c72r11) .ret) := fun _ _ _ _ _ => rfl
def c72s13 : SCode := (.seq (.seq (.ops c72r2) c72s10) c72s12)
@[go_sem] theorem c72s13eq : U c72s13 (.seq (.seq (.ops c72r2) c72s10) c72s12) := fun _ _ _ _ _ => rfl
def c72s14 : SCode := (.seq (.ops c72r1) c72s13)
@[go_sem] theorem c72s14eq : U c72s14 (.seq (.ops c72r1) c72s13) := fun _ _ _ _ _ => rfl
def c72 : Gx.Fn := ⟨23, c72k, (.seq (.ops c72r0) c72s14), [(.tmp S2)]⟩
theorem c72ok : stripFn Tryz.prog c72k Tryz.f72 = some c72 := by kernel_rfl

/- plexusref30.items -/
@[go_sem] def c73k : List Nat := [0, 1, 4, 5, 6, 7, 15, 40]
@[go_sem] def c73r0 : List GOp := [mS 2 (.c Z)]
@[go_sem] def c73r1 : List GOp := [mT S0, mT S1, nT T0, oT (.call 64 [T2, T0]), mS 0 T0]
@[go_sem] def c73r2 : List GOp := [mS 3 (C 0)]
@[go_sem] def c73r3 : List GOp := [mT S3, mT S1, nT T0, oS 6 (.v (.bin .lss T2 T0))]
def c73s4 : SCode := (.cond S6 .skip (.exit 0))
@[go_sem] theorem c73s4eq : U c73s4 (.cond S6 .skip (.exit 0)) := fun _ _ _ _ _ => rfl
@[go_sem] def c73r5 : List GOp := [mT S1, mT S3, oT (.v (.ix 4 T1 T0)), oT (.ld (some 4) T0), oS 4 (.al 71 [(.string ⟨⟨[]⟩⟩), (.bool false), Z, Z]), oN (.st 4 S4 T0)]
@[go_sem] def c73d6 : DT := (rm S0 [3, 6, 9, 13] (rf 0 S4 [3, 6, 9, 13] (rl T0 [3, 6, 9, 13] (rf 1 S4 [6, 9, 13] (rl T0 [6, 9, 13] (rf 2 S4 [9, 13] (rl T0 [9, 13] (rf 3 S4 [13] (rl T0 [13] (.rd none .t (.v (.len T0)) [13] (.ef 3 none .t (.call 118 [T9, T7]) (.ef 6 none .t (.call 121 [T0, T6]) (.ef 9 none .t (.call 117 [T0, T5]) (.ef 13 none .t (.call 64 [T0, T3]) (.rd none (.s 0) (.v (.mv T0)) [] .done)))))))))))))))
@[go_sem] def c73r7 : List GOp := [mS 5 (C 0)]
@[go_sem] def c73r8 : List GOp := [mT S5, fT 3 S4, lT T0, nT T0, oS 7 (.v (.bin .lss T3 T0))]
def c73s9 : SCode := (.cond S7 .skip (.exit 2))
@[go_sem] theorem c73s9eq : U c73s9 (.cond S7 .skip (.exit 2)) := fun _ _ _ _ _ => rfl
@[go_sem] def c73r10 : List GOp := [mT S0, fT 3 S4, lT T0, mT S5, oT (.v (.ix 1 T1 T0)), lT T0, oT (.call 117 [T5, T0]), mS 0 T0]
@[go_sem] def c73r11 : List GOp := [mT S5, oT (.v (.bin .add T0 (C 1))), mS 5 T0]
def c73s12 : SCode := (.ops c73r11)
@[go_sem] theorem c73s12eq : U c73s12 (.ops c73r11) := fun _ _ _ _ _ => rfl
def c73s13 : SCode := (.seq (.block 3 (.ops c73r10)) c73s12)
@[go_sem] theorem c73s13eq : U c73s13 (.seq (.block 3 (.ops c73r10)) c73s12) := fun _ _ _ _ _ => rfl
def c73s14 : SCode := (.seq (.seq (.ops c73r8) c73s9) c73s13)
@[go_sem] theorem c73s14eq : U c73s14 (.seq (.seq (.ops c73r8) c73s9) c73s13) := fun _ _ _ _ _ => rfl
def c73s15 : SCode := (.block 2 (.loop c73k c73s14))
@[go_sem] theorem c73s15eq : U c73s15 (.block 2 (.loop c73k c73s14)) := fun _ _ _ _ _ => rfl
def c73s16 : SCode := (.seq (.ops c73r7) c73s15)
@[go_sem] theorem c73s16eq : U c73s16 (.seq (.ops c73r7) c73s15) := fun _ _ _ _ _ => rfl
def c73s17 : SCode := (.seq (.de c73d6) c73s16)
@[go_sem] theorem c73s17eq : U c73s17 (.seq (.de c73d6) c73s16) := fun _ _ _ _ _ => rfl
@[go_sem] def c73r18 : List GOp := [mT S3, oT (.v (.bin .add T0 (C 1))), mS 3 T0]
def c73s19 : SCode := (.ops c73r18)
@[go_sem] theorem c73s19eq : U c73s19 (.ops c73r18) := fun _ _ _ _ _ => rfl
def c73s20 : SCode := (.seq (.block 1 (.seq (.ops c73r5) c73s17)) c73s19)
@[go_sem] theorem c73s20eq : U c73s20 (.seq (.block 1 (.seq (.ops c73r5) c73s17)) c73s19) := fun _ _ _ _ _ => rfl
def c73s21 : SCode := (.seq (.seq (.ops c73r3) c73s4) c73s20)
@[go_sem] theorem c73s21eq : U c73s21 (.seq (.seq (.ops c73r3) c73s4) c73s20) := fun _ _ _ _ _ => rfl
def c73s22 : SCode := (.block 0 (.loop c73k c73s21))
@[go_sem] theorem c73s22eq : U c73s22 (.block 0 (.loop c73k c73s21)) := fun _ _ _ _ _ => rfl
@[go_sem] def c73r23 : List GOp := [mT S0, mS 2 T0]
def c73s24 : SCode := (.seq (.ops c73r23) .ret)
@[go_sem] theorem c73s24eq : U c73s24 (.seq (.ops c73r23) .ret) := fun _ _ _ _ _ => rfl
def c73s25 : SCode := (.seq (.seq (.ops c73r2) c73s22) c73s24)
@[go_sem] theorem c73s25eq : U c73s25 (.seq (.seq (.ops c73r2) c73s22) c73s24) := fun _ _ _ _ _ => rfl
def c73s26 : SCode := (.seq (.ops c73r1) c73s25)
@[go_sem] theorem c73s26eq : U c73s26 (.seq (.ops c73r1) c73s25) := fun _ _ _ _ _ => rfl
def c73 : Gx.Fn := ⟨51, c73k, (.seq (.ops c73r0) c73s26), [(.tmp S2)]⟩
theorem c73ok : stripFn Tryz.prog c73k Tryz.f73 = some c73 := by kernel_rfl

/- plexusref30.steps -/
@[go_sem] def c119k : List Nat := [0, 1, 4, 5, 13]
@[go_sem] def c119r0 : List GOp := [mS 2 (.c Z)]
@[go_sem] def c119r1 : List GOp := [mT S0, mT S1, nT T0, oT (.call 64 [T2, T0]), mS 0 T0]
@[go_sem] def c119r2 : List GOp := [mS 3 (C 0)]
@[go_sem] def c119r3 : List GOp := [mT S3, mT S1, nT T0, oS 4 (.v (.bin .lss T2 T0))]
def c119s4 : SCode := (.cond S4 .skip (.exit 0))
@[go_sem] theorem c119s4eq : U c119s4 (.cond S4 .skip (.exit 0)) := fun _ _ _ _ _ => rfl
@[go_sem] def c119r5 : List GOp := [mT S0, mT S1, mT S3, oT (.v (.ix 9 T1 T0)), oT (.ld (some 9) T0), oT (.call 120 [T4, T0]), mS 0 T0]
@[go_sem] def c119r6 : List GOp := [mT S3, oT (.v (.bin .add T0 (C 1))), mS 3 T0]
def c119s7 : SCode := (.ops c119r6)
@[go_sem] theorem c119s7eq : U c119s7 (.ops c119r6) := fun _ _ _ _ _ => rfl
def c119s8 : SCode := (.seq (.block 1 (.ops c119r5)) c119s7)
@[go_sem] theorem c119s8eq : U c119s8 (.seq (.block 1 (.ops c119r5)) c119s7) := fun _ _ _ _ _ => rfl
def c119s9 : SCode := (.seq (.seq (.ops c119r3) c119s4) c119s8)
@[go_sem] theorem c119s9eq : U c119s9 (.seq (.seq (.ops c119r3) c119s4) c119s8) := fun _ _ _ _ _ => rfl
def c119s10 : SCode := (.block 0 (.loop c119k c119s9))
@[go_sem] theorem c119s10eq : U c119s10 (.block 0 (.loop c119k c119s9)) := fun _ _ _ _ _ => rfl
@[go_sem] def c119r11 : List GOp := [mT S0, mS 2 T0]
def c119s12 : SCode := (.seq (.ops c119r11) .ret)
@[go_sem] theorem c119s12eq : U c119s12 (.seq (.ops c119r11) .ret) := fun _ _ _ _ _ => rfl
def c119s13 : SCode := (.seq (.seq (.ops c119r2) c119s10) c119s12)
@[go_sem] theorem c119s13eq : U c119s13 (.seq (.seq (.ops c119r2) c119s10) c119s12) := fun _ _ _ _ _ => rfl
def c119s14 : SCode := (.seq (.ops c119r1) c119s13)
@[go_sem] theorem c119s14eq : U c119s14 (.seq (.ops c119r1) c119s13) := fun _ _ _ _ _ => rfl
def c119 : Gx.Fn := ⟨23, c119k, (.seq (.ops c119r0) c119s14), [(.tmp S2)]⟩
theorem c119ok : stripFn Tryz.prog c119k Tryz.f119 = some c119 := by kernel_rfl

/- plexusref30.certificate -/
@[go_sem] def c120k : List Nat := [0, 1, 3, 4, 5]
@[go_sem] def c120r0 : List GOp := [oS 2 (.bx 64 S1), mS 3 (.c Z)]
@[go_sem] def c120r1 : List GOp := [fT 0 S2, oT (.ld (some 8) T0), oS 4 (.al 62 [(I 0), (I 0), (I 0), Z, Z, Z, (I 0), Z]), oN (.st 8 S4 T0)]
@[go_sem] def c120d2 : DT := (rm S0 [3, 6, 9, 12] (rf 0 S4 [3, 6, 9, 12] (.rd none .t (.ld (some 3) T0) [3, 6, 9, 12] (rf 3 S4 [6, 9, 12] (rl T0 [6, 9, 12] (rf 4 S4 [9, 12] (rl T0 [9, 12] (rf 5 S4 [12] (rl T0 [12] (.ef 3 none .t (.call 68 [T8, T6]) (.ef 6 none .t (.call 67 [T0, T5]) (.ef 9 none .t (.call 65 [T0, T4]) (.ef 12 none .t (.call 65 [T0, T3]) (.rd none (.s 0) (.v (.mv T0)) [] .done))))))))))))))
@[go_sem] def c120d3 : DT := (rm S0 [3, 6, 9] (rf 6 S4 [3, 6, 9] (rl T0 [3, 6, 9] (rf 7 S4 [6, 9] (rl T0 [6, 9] (rf 8 S2 [9] (rl T0 [9] (.ef 3 none .t (.call 63 [T6, T4]) (.ef 6 none .t (.call 117 [T0, T3]) (.ef 9 none .t (.call 69 [T0, T2]) (.rd none (.s 3) (.v (.mv T0)) [] .done)))))))))))
def c120s4 : SCode := (.seq (.de c120d3) .ret)
@[go_sem] theorem c120s4eq : U c120s4 (.seq (.de c120d3) .ret) := fun _ _ _ _ _ => rfl
def c120s5 : SCode := (.seq (.de c120d2) c120s4)
@[go_sem] theorem c120s5eq : U c120s5 (.seq (.de c120d2) c120s4) := fun _ _ _ _ _ => rfl
def c120s6 : SCode := (.seq (.ops c120r1) c120s5)
@[go_sem] theorem c120s6eq : U c120s6 (.seq (.ops c120r1) c120s5) := fun _ _ _ _ _ => rfl
def c120 : Gx.Fn := ⟨31, c120k, (.seq (.ops c120r0) c120s6), [(.tmp S3)]⟩
theorem c120ok : stripFn Tryz.prog c120k Tryz.f120 = some c120 := by kernel_rfl

end Go.Proofs.YtdhlibkdcldioaaGreat
