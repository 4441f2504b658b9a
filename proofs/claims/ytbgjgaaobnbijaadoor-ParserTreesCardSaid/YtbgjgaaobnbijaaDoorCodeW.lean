/- Generated: the stripped code of Go functions, each held against the loaded program. -/
import Derived.Test.YtbgjgaaobnbijaaDoorProg
import Derived.Test.YtbgjgaaobnbijaaDoorGx20
namespace Go.Proofs.YtbgjgaaobnbijaaDoor
open Gx Go

/- plexuslaw16.ParserTrees -/
@[go_sem] def c3k : List Nat := [0, 1, 2, 3, 4, 6, 14]
@[go_sem] def c3r0 : List GOp := [oS 2 (.bx 24 S0), oS 3 (.bx 24 S1), mS 4 (.c (.bool false))]
@[go_sem] def c3r1 : List GOp := [oT (.call 10 []), oS 5 (.v (.un .not T0))]
@[go_sem] def c3r2 : List GOp := [mS 4 (.c (.bool false))]
def c3s3 : SCode := (.cond S5 (.seq (.ops c3r2) .ret) .skip)
@[go_sem] theorem c3s3eq : U c3s3 (.cond S5 (.seq (.ops c3r2) .ret) .skip) := fun _ _ _ _ _ => rfl
@[go_sem] def c3r4 : List GOp := [oT (.ld (some 5) S2), oT (.call 11 [T0, (C 400)]), oT (.v (.un .not T0)), mT T0, (.op (some (T0, (false, true))) .t (.ld (some 5) S3)), (.op (some (T1, (false, false))) .t (.call 11 [T0, (C 400)])), (.op (some (T2, (false, false))) .t (.v (.un .not T0))), oS 6 (.v (.pick T3 (.c (.bool true)) T0))]
@[go_sem] def c3r5 : List GOp := [mS 4 (.c (.bool true))]
def c3s6 : SCode := (.cond S6 (.seq (.ops c3r5) .ret) .skip)
@[go_sem] theorem c3s6eq : U c3s6 (.cond S6 (.seq (.ops c3r5) .ret) .skip) := fun _ _ _ _ _ => rfl
@[go_sem] def c3d7 : DT := (.rd none .t (.ld (some 5) S2) [2, 5, 10, 13, 19, 23, 25] (.rd none .t (.ld (some 5) S3) [2, 5, 10, 13, 19, 23, 25] (.rd none .t (.ld (some 5) S2) [5, 10, 13, 19, 23, 25] (.rd none .t (.ld (some 5) S3) [5, 10, 13, 19, 23, 25] (.ef 2 none .t (.call 12 [T3, T2]) (.ef 5 none .t (.call 13 [T2, T1]) (.rd none .t (.v (.beq false T1 T0)) [10, 13, 19, 23, 25] (rm T0 [10, 13, 19, 23, 25] (.rd (some (T0, true)) .t (.ld (some 5) S3) [10, 13, 19, 23, 25] (.rd (some (T1, true)) .t (.ld (some 5) S2) [10, 13, 19, 23, 25] (.rd (some (T2, true)) .t (.ld (some 5) S2) [13, 19, 23, 25] (.rd (some (T3, true)) .t (.ld (some 5) S3) [13, 19, 23, 25] (.ef 10 (some (T4, true)) .t (.call 12 [T3, T2]) (.ef 13 (some (T5, true)) .t (.call 12 [T2, T1]) (.rd (some (T6, true)) .t (.v (.beq false T1 T0)) [19, 23, 25] (.rd none .t (.v (.pick T7 T0 (.c (.bool false)))) [19, 23, 25] (rm T0 [19, 23, 25] (.rd (some (T0, true)) .t (.ld (some 5) S2) [19, 23, 25] (.rd (some (T1, true)) .t (.ld (some 5) S2) [19, 23, 25] (.ef 19 (some (T2, true)) .t (.call 12 [T1, T0]) (.rd none .t (.v (.pick T3 T0 (.c (.bool false)))) [23, 25] (rm T0 [23, 25] (.rd (some (T0, true)) .t (.ld (some 5) S2) [23, 25] (.rd (some (T1, true)) .t (.ld (some 5) S2) [25] (.ef 23 (some (T2, true)) .t (.call 14 [T1]) (.ef 25 (some (T3, true)) .t (.call 15 [T1]) (.rd (some (T4, true)) .t (.v (.bin .eql T1 T0)) [] (.rd none .t (.v (.pick T5 T0 (.c (.bool false)))) [] (.rd none (.s 4) (.v (.mv T0)) [] .done)))))))))))))))))))))))))))))
def c3s8 : SCode := (.seq (.seq (.ops c3r4) c3s6) (.seq (.de c3d7) .ret))
@[go_sem] theorem c3s8eq : U c3s8 (.seq (.seq (.ops c3r4) c3s6) (.seq (.de c3d7) .ret)) := fun _ _ _ _ _ => rfl
def c3s9 : SCode := (.seq (.seq (.ops c3r1) c3s3) c3s8)
@[go_sem] theorem c3s9eq : U c3s9 (.seq (.seq (.ops c3r1) c3s3) c3s8) := fun _ _ _ _ _ => rfl
def c3 : Gx.Fn := ⟨43, c3k, (.seq (.ops c3r0) c3s9), [(.tmp S4)]⟩
theorem c3ok : stripFn Tryd.prog c3k Tryd.f3 = some c3 := by kernel_rfl

/- plexuslaw16.ParserOffsets -/
@[go_sem] def c4k : List Nat := [0, 2, 3, 4, 5, 6, 7, 8, 10, 18, 46, 54, 72]
@[go_sem] def c4r0 : List GOp := [mS 1 (.c (.bool false))]
@[go_sem] def c4r1 : List GOp := [oT (.call 10 []), oS 8 (.v (.un .not T0))]
@[go_sem] def c4r2 : List GOp := [mS 1 (.c (.bool false))]
def c4s3 : SCode := (.cond S8 (.seq (.ops c4r2) .ret) .skip)
@[go_sem] theorem c4s3eq : U c4s3 (.cond S8 (.seq (.ops c4r2) .ret) .skip) := fun _ _ _ _ _ => rfl
@[go_sem] def c4r4 : List GOp := [mT S0, oT (.call 16 [T0]), mT T0, oT (.v (.ext T0 0)), oT (.v (.ext T1 1)), oS 2 (.al 24 [(I 0), (.string ⟨⟨[]⟩⟩), (I 0), (I 0), Z]), oS 3 (.al 31 [(I 0), (I 0)]), oN (.st 5 S2 T1), oN (.st 2 S3 T0)]
@[go_sem] def c4r5 : List GOp := [fT 0 S3, lT T0, oS 9 (.v (.bin .neq T0 (C 0)))]
@[go_sem] def c4r6 : List GOp := [fT 1 S3, lT T0, oT (.v (.bin .geq T0 (C 0))), mT T0, (.sel T0 true [(.op (.v (.fa 1 S3))), (.op (.ld none T0)), (.op (.v (.mv S0))), (.op (.v (.slen T0))), (.op (.v (.bin .leq T2 T0)))] .t T0 (.c (.bool false))), mT T0, (.op (some (T0, (true, true))) .t (.ld (some 5) S2)), (.op (some (T1, (true, false))) .t (.v (.bld [(I 0), (.string ⟨⟨[]⟩⟩), (I 0), (I 0), Z] []))), (.op (some (T2, (true, false))) .t (.call 12 [T1, T0])), oT (.v (.pick T3 T0 (.c (.bool false)))), mT T0, (.sel T0 true [(.op (.v (.fa 3 S2))), (.op (.ld none T0)), (.op (.v (.bin .eql T0 (C 0))))] .t T0 (.c (.bool false))), mS 1 T0]
def c4s7 : SCode := (.cond S9 (.seq (.ops c4r6) .ret) .skip)
@[go_sem] theorem c4s7eq : U c4s7 (.cond S9 (.seq (.ops c4r6) .ret) .skip) := fun _ _ _ _ _ => rfl
@[go_sem] def c4r8 : List GOp := [mT S0, oT (.call 17 [T0]), mT T0, oT (.v (.ext T0 0)), oT (.v (.ext T1 1)), oS 5 (.al 31 [(I 0), (I 0)]), mS 4 T1, oN (.st 2 S5 T0)]
@[go_sem] def c4r9 : List GOp := [fT 0 S5, lT T0, oS 10 (.v (.bin .neq T0 (C 0)))]
@[go_sem] def c4r10 : List GOp := [mS 1 (.c (.bool false))]
def c4s11 : SCode := (.seq (.ops c4r10) .ret)
@[go_sem] theorem c4s11eq : U c4s11 (.seq (.ops c4r10) .ret) := fun _ _ _ _ _ => rfl
@[go_sem] def c4r12 : List GOp := [mT S0, oT (.v (.slen T0)), oT (.v (.bin .add T0 (C 1))), oT (.mk 4 1 1 (.bool false) T0 T0), mS 6 T0]
@[go_sem] def c4r13 : List GOp := [mS 7 (C 0)]
@[go_sem] def c4r14 : List GOp := [mT S7, mT S4, nT T0, oS 11 (.v (.bin .lss T2 T0))]
def c4s15 : SCode := (.cond S11 .skip (.exit 0))
@[go_sem] theorem c4s15eq : U c4s15 (.cond S11 .skip (.exit 0)) := fun _ _ _ _ _ => rfl
@[go_sem] def c4r16 : List GOp := [mT S4, mT S7, oT (.v (.ix 4 T1 T0)), fT 3 T0, lT T0, oT (.v (.bin .lss T0 (C 0))), mT T0, (.op (some (T0, (false, true))) .t (.v (.mv S4))), (.op (some (T1, (false, false))) .t (.v (.mv S7))), (.op (some (T2, (false, false))) .t (.v (.ix 4 T1 T0))), (.op (some (T3, (false, false))) .t (.v (.fa 3 T0))), (.op (some (T4, (false, false))) .t (.ld none T0)), (.op (some (T5, (false, false))) .t (.v (.mv S0))), (.op (some (T6, (false, false))) .t (.v (.slen T0))), (.op (some (T7, (false, false))) .t (.v (.bin .gtr T2 T0))), oS 12 (.v (.pick T8 (.c (.bool true)) T0))]
@[go_sem] def c4r17 : List GOp := [mS 1 (.c (.bool false))]
def c4s18 : SCode := (.seq (.ops c4r17) .ret)
@[go_sem] theorem c4s18eq : U c4s18 (.seq (.ops c4r17) .ret) := fun _ _ _ _ _ => rfl
@[go_sem] def c4d19 : DT := (rm S6 [13] (rm S4 [13] (rm S7 [13] (.rd none .t (.v (.ix 4 T1 T0)) [13] (rf 3 T0 [13] (rl T0 [13] (rm S4 [13] (rm S7 [13] (.rd none .t (.v (.ix 4 T1 T0)) [13] (rf 0 T0 [13] (rl T0 [13] (.rd none .t (.v (.bin .neq T0 (C 6))) [13] (.rd none .t (.v (.ix 1 T11 T6)) [13] (.ef 13 none .no (.st 1 T0 T1) .done))))))))))))))
def c4s20 : SCode := (.de c4d19)
@[go_sem] theorem c4s20eq : U c4s20 (.de c4d19) := fun _ _ _ _ _ => rfl
@[go_sem] def c4r21 : List GOp := [mT S7, oT (.v (.bin .add T0 (C 1))), mS 7 T0]
def c4s22 : SCode := (.ops c4r21)
@[go_sem] theorem c4s22eq : U c4s22 (.ops c4r21) := fun _ _ _ _ _ => rfl
def c4s23 : SCode := (.seq (.block 1 (.seq (.seq (.ops c4r16) (.cond S12 c4s18 .skip)) c4s20)) c4s22)
@[go_sem] theorem c4s23eq : U c4s23 (.seq (.block 1 (.seq (.seq (.ops c4r16) (.cond S12 c4s18 .skip)) c4s20)) c4s22) := fun _ _ _ _ _ => rfl
def c4s24 : SCode := (.seq (.seq (.ops c4r14) c4s15) c4s23)
@[go_sem] theorem c4s24eq : U c4s24 (.seq (.seq (.ops c4r14) c4s15) c4s23) := fun _ _ _ _ _ => rfl
def c4s25 : SCode := (.block 0 (.loop c4k c4s24))
@[go_sem] theorem c4s25eq : U c4s25 (.block 0 (.loop c4k c4s24)) := fun _ _ _ _ _ => rfl
@[go_sem] def c4r26 : List GOp := [oT (.ld (some 5) S2), mT S6, oT (.call 18 [T1, T0]), mS 1 T0]
def c4s27 : SCode := (.seq (.ops c4r26) .ret)
@[go_sem] theorem c4s27eq : U c4s27 (.seq (.ops c4r26) .ret) := fun _ _ _ _ _ => rfl
def c4s28 : SCode := (.seq (.seq (.ops c4r13) c4s25) c4s27)
@[go_sem] theorem c4s28eq : U c4s28 (.seq (.seq (.ops c4r13) c4s25) c4s27) := fun _ _ _ _ _ => rfl
def c4s29 : SCode := (.seq (.ops c4r12) c4s28)
@[go_sem] theorem c4s29eq : U c4s29 (.seq (.ops c4r12) c4s28) := fun _ _ _ _ _ => rfl
def c4s30 : SCode := (.seq (.seq (.ops c4r9) (.cond S10 c4s11 .skip)) c4s29)
@[go_sem] theorem c4s30eq : U c4s30 (.seq (.seq (.ops c4r9) (.cond S10 c4s11 .skip)) c4s29) := fun _ _ _ _ _ => rfl
def c4s31 : SCode := (.seq (.ops c4r8) c4s30)
@[go_sem] theorem c4s31eq : U c4s31 (.seq (.ops c4r8) c4s30) := fun _ _ _ _ _ => rfl
def c4s32 : SCode := (.seq (.seq (.ops c4r5) c4s7) c4s31)
@[go_sem] theorem c4s32eq : U c4s32 (.seq (.seq (.ops c4r5) c4s7) c4s31) := fun _ _ _ _ _ => rfl
def c4s33 : SCode := (.seq (.ops c4r4) c4s32)
@[go_sem] theorem c4s33eq : U c4s33 (.seq (.ops c4r4) c4s32) := fun _ _ _ _ _ => rfl
def c4s34 : SCode := (.seq (.seq (.ops c4r1) c4s3) c4s33)
@[go_sem] theorem c4s34eq : U c4s34 (.seq (.seq (.ops c4r1) c4s3) c4s33) := fun _ _ _ _ _ => rfl
def c4 : Gx.Fn := ⟨89, c4k, (.seq (.ops c4r0) c4s34), [(.tmp S1)]⟩
theorem c4ok : stripFn Tryd.prog c4k Tryd.f4 = some c4 := by kernel_rfl

/- plexuslaw16.ParserParentheses -/
@[go_sem] def c5k : List Nat := [0, 1, 4, 5, 6, 7, 8, 9, 10, 12, 29, 58, 78]
@[go_sem] def c5r0 : List GOp := [mS 2 (.c (.bool false))]
@[go_sem] def c5r1 : List GOp := [oT (.call 10 []), oS 9 (.v (.un .not T0))]
@[go_sem] def c5r2 : List GOp := [mS 2 (.c (.bool false))]
def c5s3 : SCode := (.cond S9 (.seq (.ops c5r2) .ret) .skip)
@[go_sem] theorem c5s3eq : U c5s3 (.cond S9 (.seq (.ops c5r2) .ret) .skip) := fun _ _ _ _ _ => rfl
@[go_sem] def c5r4 : List GOp := [mT S1, oT (.v (.cvi .u64 T0)), oT (.v (.bin .rem T0 (.c (.int .u64 70)))), oT (.v (.cvi .i64 T0)), mS 1 T0]
@[go_sem] def c5r5 : List GOp := [mT S0, oT (.call 16 [T0]), mT T0, oT (.v (.ext T0 0)), oT (.v (.ext T1 1)), oS 3 (.al 24 [(I 0), (.string ⟨⟨[]⟩⟩), (I 0), (I 0), Z]), oS 4 (.al 31 [(I 0), (I 0)]), oN (.st 5 S3 T1), oN (.st 2 S4 T0)]
@[go_sem] def c5r6 : List GOp := [fT 0 S4, lT T0, oT (.v (.bin .neq T0 (C 0))), mT T0, (.sel T0 false [(.op (.v (.mv S0))), (.op (.v (.slen T0))), (.op (.v (.bin .gtr T0 (C 65000))))] (.s 10) (.c (.bool true)) T0)]
@[go_sem] def c5r7 : List GOp := [mS 2 (.c (.bool true))]
def c5s8 : SCode := (.cond S10 (.seq (.ops c5r7) .ret) .skip)
@[go_sem] theorem c5s8eq : U c5s8 (.cond S10 (.seq (.ops c5r7) .ret) .skip) := fun _ _ _ _ _ => rfl
@[go_sem] def c5r9 : List GOp := [mT S1, oT (.call 19 [(.c (.string ⟨⟨[40]⟩⟩)), T0]), mT S0, oT (.v (.bin .add T1 T0)), oT (.v (.bin .add T0 (.c (.string ⟨⟨[10]⟩⟩)))), mT S1, oT (.call 19 [(.c (.string ⟨⟨[41]⟩⟩)), T0]), oT (.v (.bin .add T2 T0)), oT (.call 16 [T0]), mT T0, oT (.v (.ext T0 0)), oT (.v (.ext T1 1)), oS 5 (.al 24 [(I 0), (.string ⟨⟨[]⟩⟩), (I 0), (I 0), Z]), oS 6 (.al 31 [(I 0), (I 0)]), oN (.st 5 S5 T1), oN (.st 2 S6 T0)]
@[go_sem] def c5r10 : List GOp := [mT S1, oT (.v (.bin .add T0 (C 1))), oT (.call 19 [(.c (.string ⟨⟨[40]⟩⟩)), T0]), mT S0, oT (.v (.bin .add T1 T0)), oT (.v (.bin .add T0 (.c (.string ⟨⟨[10]⟩⟩)))), mT S1, oT (.v (.bin .add T0 (C 1))), oT (.call 19 [(.c (.string ⟨⟨[41]⟩⟩)), T0]), oT (.v (.bin .add T3 T0)), oT (.call 16 [T0]), mT T0, oT (.v (.ext T0 0)), oT (.v (.ext T1 1)), oS 7 (.al 24 [(I 0), (.string ⟨⟨[]⟩⟩), (I 0), (I 0), Z]), oS 8 (.al 31 [(I 0), (I 0)]), oN (.st 5 S7 T1), oN (.st 2 S8 T0)]
@[go_sem] def c5r11 : List GOp := [fT 0 S6, lT T0, oS 11 (.v (.bin .eql T0 (C 6)))]
@[go_sem] def c5r12 : List GOp := [mT S1, oT (.v (.bin .gtr T0 (C 0))), mT T0, (.sel T0 true [(.op (.v (.fa 0 S8))), (.op (.ld none T0)), (.op (.v (.bin .eql T0 (C 6))))] .t T0 (.c (.bool false))), mS 2 T0]
def c5s13 : SCode := (.seq (.ops c5r12) .ret)
@[go_sem] theorem c5s13eq : U c5s13 (.seq (.ops c5r12) .ret) := fun _ _ _ _ _ => rfl
@[go_sem] def c5r14 : List GOp := [fT 0 S6, lT T0, oT (.v (.bin .neq T0 (C 0))), mT T0, (.op (some (T0, (false, true))) .t (.ld (some 5) S3)), (.op (some (T1, (false, false))) .t (.ld (some 5) S5)), (.op (some (T2, (false, false))) .t (.call 12 [T1, T0])), (.op (some (T3, (false, false))) .t (.v (.un .not T0))), oT (.v (.pick T4 (.c (.bool true)) T0)), mT T0, (.sel T0 false [(.op (.v (.mv S1))), (.op (.v (.bin .gtr T0 (C 64))))] (.s 12) (.c (.bool true)) T0)]
@[go_sem] def c5r15 : List GOp := [mS 2 (.c (.bool false))]
def c5s16 : SCode := (.seq (.ops c5r15) .ret)
@[go_sem] theorem c5s16eq : U c5s16 (.seq (.ops c5r15) .ret) := fun _ _ _ _ _ => rfl
@[go_sem] def c5r17 : List GOp := [fT 0 S8, lT T0, oT (.v (.bin .eql T0 (C 6))), mT T0, (.op (some (T0, (false, true))) .t (.v (.fa 0 S8))), (.op (some (T1, (false, false))) .t (.ld none T0)), (.op (some (T2, (false, false))) .t (.v (.bin .eql T0 (C 0)))), (.op (some (T3, (false, false))) .t (.v (.mv T0))), (.op (some (T0, (true, true))) .t (.ld (some 5) S3)), (.op (some (T1, (true, false))) .t (.ld (some 5) S7)), (.op (some (T2, (true, false))) .t (.call 12 [T1, T0])), (.op (some (T7, (false, true))) .t (.v (.pick T3 T0 (.c (.bool false))))), oT (.v (.pick T8 (.c (.bool true)) T0)), mS 2 T0]
def c5s18 : SCode := (.seq (.ops c5r17) .ret)
@[go_sem] theorem c5s18eq : U c5s18 (.seq (.ops c5r17) .ret) := fun _ _ _ _ _ => rfl
def c5s19 : SCode := (.seq (.seq (.ops c5r14) (.cond S12 c5s16 .skip)) c5s18)
@[go_sem] theorem c5s19eq : U c5s19 (.seq (.seq (.ops c5r14) (.cond S12 c5s16 .skip)) c5s18) := fun _ _ _ _ _ => rfl
def c5s20 : SCode := (.seq (.seq (.ops c5r11) (.cond S11 c5s13 .skip)) c5s19)
@[go_sem] theorem c5s20eq : U c5s20 (.seq (.seq (.ops c5r11) (.cond S11 c5s13 .skip)) c5s19) := fun _ _ _ _ _ => rfl
def c5s21 : SCode := (.seq (.ops c5r10) c5s20)
@[go_sem] theorem c5s21eq : U c5s21 (.seq (.ops c5r10) c5s20) := fun _ _ _ _ _ => rfl
def c5s22 : SCode := (.seq (.ops c5r9) c5s21)
@[go_sem] theorem c5s22eq : U c5s22 (.seq (.ops c5r9) c5s21) := fun _ _ _ _ _ => rfl
def c5s23 : SCode := (.seq (.seq (.ops c5r6) c5s8) c5s22)
@[go_sem] theorem c5s23eq : U c5s23 (.seq (.seq (.ops c5r6) c5s8) c5s22) := fun _ _ _ _ _ => rfl
def c5s24 : SCode := (.seq (.ops c5r5) c5s23)
@[go_sem] theorem c5s24eq : U c5s24 (.seq (.ops c5r5) c5s23) := fun _ _ _ _ _ => rfl
def c5s25 : SCode := (.seq (.ops c5r4) c5s24)
@[go_sem] theorem c5s25eq : U c5s25 (.seq (.ops c5r4) c5s24) := fun _ _ _ _ _ => rfl
def c5s26 : SCode := (.seq (.seq (.ops c5r1) c5s3) c5s25)
@[go_sem] theorem c5s26eq : U c5s26 (.seq (.seq (.ops c5r1) c5s3) c5s25) := fun _ _ _ _ _ => rfl
def c5 : Gx.Fn := ⟨92, c5k, (.seq (.ops c5r0) c5s26), [(.tmp S2)]⟩
theorem c5ok : stripFn Tryd.prog c5k Tryd.f5 = some c5 := by kernel_rfl

/- plexuslaw16.ParserPrecedence -/
@[go_sem] def c6k : List Nat := [0, 1, 2, 3, 4, 5, 6, 7, 8, 9, 10, 14, 15, 17, 18, 19, 20, 22, 25, 37, 49, 84, 90, 96, 99]
@[go_sem] def c6r0 : List GOp := [oS 2 (.bx 45 S0), oS 3 (.bx 46 S1), mS 4 (.c (.bool false))]
@[go_sem] def c6r1 : List GOp := [oT (.call 10 []), oS 17 (.v (.un .not T0))]
@[go_sem] def c6r2 : List GOp := [mS 4 (.c (.bool false))]
def c6s3 : SCode := (.cond S17 (.seq (.ops c6r2) .ret) .skip)
@[go_sem] theorem c6s3eq : U c6s3 (.cond S17 (.seq (.ops c6r2) .ret) .skip) := fun _ _ _ _ _ => rfl
@[go_sem] def c6r4 : List GOp := [oT (.v (.bld [(I 0), (.string ⟨⟨[]⟩⟩), (I 0), (I 0), Z, (I 0), (.string ⟨⟨[]⟩⟩), (I 0), (I 0), Z, (I 0), (.string ⟨⟨[]⟩⟩), (I 0), (I 0), Z] [])), oS 5 (.al 47 [(I 0), (.string ⟨⟨[]⟩⟩), (I 0), (I 0), Z, (I 0), (.string ⟨⟨[]⟩⟩), (I 0), (I 0), Z, (I 0), (.string ⟨⟨[]⟩⟩), (I 0), (I 0), Z]), oN (.st 15 S5 T0)]
@[go_sem] def c6r5 : List GOp := [mS 6 (.c (.string ⟨⟨[]⟩⟩))]
@[go_sem] def c6r6 : List GOp := [mS 7 (C 0)]
@[go_sem] def c6r7 : List GOp := [mT S7, oS 18 (.v (.bin .lss T0 (C 3)))]
def c6s8 : SCode := (.cond S18 .skip (.exit 0))
@[go_sem] theorem c6s8eq : U c6s8 (.cond S18 .skip (.exit 0)) := fun _ _ _ _ _ => rfl
@[go_sem] def c6r9 : List GOp := [mT S7, oT (.v (.ixa 1 3 S2 T0)), lT T0, oT (.call 16 [T0]), mT T0, oT (.v (.ext T0 0)), oT (.v (.ext T1 1)), oS 8 (.al 24 [(I 0), (.string ⟨⟨[]⟩⟩), (I 0), (I 0), Z]), oS 9 (.al 31 [(I 0), (I 0)]), oN (.st 5 S8 T1), oN (.st 2 S9 T0)]
@[go_sem] def c6r10 : List GOp := [fT 0 S9, lT T0, oS 19 (.v (.bin .neq T0 (C 0)))]
@[go_sem] def c6r11 : List GOp := [mS 4 (.c (.bool true))]
def c6s12 : SCode := (.seq (.ops c6r11) .ret)
@[go_sem] theorem c6s12eq : U c6s12 (.seq (.ops c6r11) .ret) := fun _ _ _ _ _ => rfl
@[go_sem] def c6r13 : List GOp := [mT S7, oT (.ld (some 5) S8), oT (.v (.ixa 5 3 S5 T1)), oN (.st 5 T0 T1)]
@[go_sem] def c6r14 : List GOp := [mT S6, mT S7, oT (.v (.ixa 1 3 S2 T0)), lT T0, oT (.v (.bin .add (.c (.string ⟨⟨[40]⟩⟩)) T0)), oT (.v (.bin .add T0 (.c (.string ⟨⟨[10, 41]⟩⟩)))), oT (.v (.bin .add T5 T0)), mS 6 T0]
@[go_sem] def c6r15 : List GOp := [mT S7, oS 20 (.v (.bin .lss T0 (C 2)))]
@[go_sem] def c6r16 : List GOp := [mT S7, oT (.v (.ixa 1 2 S3 T0)), lT T0, oT (.call 20 [T0]), mT T0, oT (.v (.ext T0 0)), oT (.v (.ext T1 1)), oT (.v (.ext T2 2)), mS 10 T2, mT T1, mT T1]
@[go_sem] def c6r17 : List GOp := [mT S6, mT S10, oT (.v (.bin .add (.c (.string ⟨⟨[32]⟩⟩)) T0)), oT (.v (.bin .add T0 (.c (.string ⟨⟨[32]⟩⟩)))), oT (.v (.bin .add T3 T0)), mS 6 T0]
def c6s18 : SCode := (.ops c6r17)
@[go_sem] theorem c6s18eq : U c6s18 (.ops c6r17) := fun _ _ _ _ _ => rfl
def c6s19 : SCode := (.seq (.ops c6r16) c6s18)
@[go_sem] theorem c6s19eq : U c6s19 (.seq (.ops c6r16) c6s18) := fun _ _ _ _ _ => rfl
def c6s20 : SCode := (.seq (.ops c6r15) (.cond S20 c6s19 .skip))
@[go_sem] theorem c6s20eq : U c6s20 (.seq (.ops c6r15) (.cond S20 c6s19 .skip)) := fun _ _ _ _ _ => rfl
def c6s21 : SCode := (.seq (.ops c6r14) c6s20)
@[go_sem] theorem c6s21eq : U c6s21 (.seq (.ops c6r14) c6s20) := fun _ _ _ _ _ => rfl
def c6s22 : SCode := (.seq (.ops c6r13) c6s21)
@[go_sem] theorem c6s22eq : U c6s22 (.seq (.ops c6r13) c6s21) := fun _ _ _ _ _ => rfl
def c6s23 : SCode := (.seq (.seq (.ops c6r10) (.cond S19 c6s12 .skip)) c6s22)
@[go_sem] theorem c6s23eq : U c6s23 (.seq (.seq (.ops c6r10) (.cond S19 c6s12 .skip)) c6s22) := fun _ _ _ _ _ => rfl
@[go_sem] def c6r24 : List GOp := [mT S7, oT (.v (.bin .add T0 (C 1))), mS 7 T0]
def c6s25 : SCode := (.ops c6r24)
@[go_sem] theorem c6s25eq : U c6s25 (.ops c6r24) := fun _ _ _ _ _ => rfl
def c6s26 : SCode := (.seq (.block 1 (.seq (.ops c6r9) c6s23)) c6s25)
@[go_sem] theorem c6s26eq : U c6s26 (.seq (.block 1 (.seq (.ops c6r9) c6s23)) c6s25) := fun _ _ _ _ _ => rfl
def c6s27 : SCode := (.seq (.seq (.ops c6r7) c6s8) c6s26)
@[go_sem] theorem c6s27eq : U c6s27 (.seq (.seq (.ops c6r7) c6s8) c6s26) := fun _ _ _ _ _ => rfl
def c6s28 : SCode := (.block 0 (.loop c6k c6s27))
@[go_sem] theorem c6s28eq : U c6s28 (.block 0 (.loop c6k c6s27)) := fun _ _ _ _ _ => rfl
@[go_sem] def c6r29 : List GOp := [oT (.v (.ixa 1 2 S3 (C 0))), lT T0, oT (.call 20 [T0]), mT T0, oT (.v (.ext T0 0)), oT (.v (.ext T1 1)), oT (.v (.ext T2 2)), mT T2, mS 11 T2, mS 12 T1]
@[go_sem] def c6r30 : List GOp := [oT (.v (.ixa 1 2 S3 (C 1))), lT T0, oT (.call 20 [T0]), mT T0, oT (.v (.ext T0 0)), oT (.v (.ext T1 1)), oT (.v (.ext T2 2)), mT T2, mS 13 T2, mS 14 T1]
@[go_sem] def c6r31 : List GOp := [mT S6, oT (.call 16 [T0]), mT T0, oT (.v (.ext T0 0)), oT (.v (.ext T1 1)), oS 15 (.al 24 [(I 0), (.string ⟨⟨[]⟩⟩), (I 0), (I 0), Z]), oS 16 (.al 31 [(I 0), (I 0)]), oN (.st 5 S15 T1), oN (.st 2 S16 T0)]
@[go_sem] def c6r32 : List GOp := [fT 0 S16, lT T0, oS 21 (.v (.bin .eql T0 (C 6)))]
@[go_sem] def c6r33 : List GOp := [mS 4 (.c (.bool true))]
def c6s34 : SCode := (.seq (.ops c6r33) .ret)
@[go_sem] theorem c6s34eq : U c6s34 (.seq (.ops c6r33) .ret) := fun _ _ _ _ _ => rfl
@[go_sem] def c6r35 : List GOp := [mT S12, oT (.v (.bin .eql T0 (C 2))), mT T0, (.sel T0 true [(.op (.v (.mv S14))), (.op (.v (.bin .eql T0 (C 2))))] (.s 22) T0 (.c (.bool false)))]
@[go_sem] def c6r36 : List GOp := [fT 0 S16, lT T0, oT (.v (.bin .eql T0 (C 2))), mS 4 T0]
def c6s37 : SCode := (.seq (.ops c6r36) .ret)
@[go_sem] theorem c6s37eq : U c6s37 (.seq (.ops c6r36) .ret) := fun _ _ _ _ _ => rfl
@[go_sem] def c6r38 : List GOp := [fT 0 S16, lT T0, oS 23 (.v (.bin .neq T0 (C 0)))]
@[go_sem] def c6r39 : List GOp := [mS 4 (.c (.bool false))]
def c6s40 : SCode := (.seq (.ops c6r39) .ret)
@[go_sem] theorem c6s40eq : U c6s40 (.seq (.ops c6r39) .ret) := fun _ _ _ _ _ => rfl
@[go_sem] def c6r41 : List GOp := [mT S12, mT S14, oS 24 (.v (.bin .geq T1 T0))]
@[go_sem] def c6r42 : List GOp := [oT (.ld (some 5) S15), mT S13, mT S11, oT (.v (.ixa 5 3 S5 (C 0))), oT (.ld (some 5) T0), oT (.v (.ixa 5 3 S5 (C 1))), oT (.ld (some 5) T0), oT (.bs 24 2 [(I 0), (.string ⟨⟨[]⟩⟩), (I 0), (I 0), Z, (I 0), (.string ⟨⟨[]⟩⟩), (I 0), (I 0), Z] [(0, (5, T2)), (5, (5, T0))]), oT (.v (.bld [(I 0), (.string ⟨⟨[]⟩⟩), (I 0), (I 0), Z] [(0, (1, T5)), (4, (1, T0))])), oT (.v (.ixa 5 3 S5 (C 2))), oT (.ld (some 5) T0), oT (.bs 24 2 [(I 0), (.string ⟨⟨[]⟩⟩), (I 0), (I 0), Z, (I 0), (.string ⟨⟨[]⟩⟩), (I 0), (I 0), Z] [(0, (5, T2)), (5, (5, T0))]), oT (.v (.bld [(I 0), (.string ⟨⟨[]⟩⟩), (I 0), (I 0), Z] [(0, (1, T10)), (4, (1, T0))])), oT (.call 12 [T12, T0]), mS 4 T0]
def c6s43 : SCode := (.seq (.ops c6r42) .ret)
@[go_sem] theorem c6s43eq : U c6s43 (.seq (.ops c6r42) .ret) := fun _ _ _ _ _ => rfl
@[go_sem] def c6r44 : List GOp := [oT (.ld (some 5) S15), mT S11, oT (.v (.ixa 5 3 S5 (C 0))), oT (.ld (some 5) T0), mT S13, oT (.v (.ixa 5 3 S5 (C 1))), oT (.ld (some 5) T0), oT (.v (.ixa 5 3 S5 (C 2))), oT (.ld (some 5) T0), oT (.bs 24 2 [(I 0), (.string ⟨⟨[]⟩⟩), (I 0), (I 0), Z, (I 0), (.string ⟨⟨[]⟩⟩), (I 0), (I 0), Z] [(0, (5, T2)), (5, (5, T0))]), oT (.v (.bld [(I 0), (.string ⟨⟨[]⟩⟩), (I 0), (I 0), Z] [(0, (1, T5)), (4, (1, T0))])), oT (.bs 24 2 [(I 0), (.string ⟨⟨[]⟩⟩), (I 0), (I 0), Z, (I 0), (.string ⟨⟨[]⟩⟩), (I 0), (I 0), Z] [(0, (5, T7)), (5, (5, T0))]), oT (.v (.bld [(I 0), (.string ⟨⟨[]⟩⟩), (I 0), (I 0), Z] [(0, (1, T10)), (4, (1, T0))])), oT (.call 12 [T12, T0]), mS 4 T0]
def c6s45 : SCode := (.seq (.ops c6r44) .ret)
@[go_sem] theorem c6s45eq : U c6s45 (.seq (.ops c6r44) .ret) := fun _ _ _ _ _ => rfl
def c6s46 : SCode := (.seq (.seq (.ops c6r41) (.cond S24 c6s43 .skip)) c6s45)
@[go_sem] theorem c6s46eq : U c6s46 (.seq (.seq (.ops c6r41) (.cond S24 c6s43 .skip)) c6s45) := fun _ _ _ _ _ => rfl
def c6s47 : SCode := (.seq (.seq (.ops c6r38) (.cond S23 c6s40 .skip)) c6s46)
@[go_sem] theorem c6s47eq : U c6s47 (.seq (.seq (.ops c6r38) (.cond S23 c6s40 .skip)) c6s46) := fun _ _ _ _ _ => rfl
def c6s48 : SCode := (.seq (.seq (.ops c6r35) (.cond S22 c6s37 .skip)) c6s47)
@[go_sem] theorem c6s48eq : U c6s48 (.seq (.seq (.ops c6r35) (.cond S22 c6s37 .skip)) c6s47) := fun _ _ _ _ _ => rfl
def c6s49 : SCode := (.seq (.seq (.ops c6r32) (.cond S21 c6s34 .skip)) c6s48)
@[go_sem] theorem c6s49eq : U c6s49 (.seq (.seq (.ops c6r32) (.cond S21 c6s34 .skip)) c6s48) := fun _ _ _ _ _ => rfl
def c6s50 : SCode := (.seq (.ops c6r31) c6s49)
@[go_sem] theorem c6s50eq : U c6s50 (.seq (.ops c6r31) c6s49) := fun _ _ _ _ _ => rfl
def c6s51 : SCode := (.seq (.ops c6r30) c6s50)
@[go_sem] theorem c6s51eq : U c6s51 (.seq (.ops c6r30) c6s50) := fun _ _ _ _ _ => rfl
def c6s52 : SCode := (.seq (.ops c6r29) c6s51)
@[go_sem] theorem c6s52eq : U c6s52 (.seq (.ops c6r29) c6s51) := fun _ _ _ _ _ => rfl
def c6s53 : SCode := (.seq (.seq (.ops c6r6) c6s28) c6s52)
@[go_sem] theorem c6s53eq : U c6s53 (.seq (.seq (.ops c6r6) c6s28) c6s52) := fun _ _ _ _ _ => rfl
def c6s54 : SCode := (.seq (.ops c6r5) c6s53)
@[go_sem] theorem c6s54eq : U c6s54 (.seq (.ops c6r5) c6s53) := fun _ _ _ _ _ => rfl
def c6s55 : SCode := (.seq (.ops c6r4) c6s54)
@[go_sem] theorem c6s55eq : U c6s55 (.seq (.ops c6r4) c6s54) := fun _ _ _ _ _ => rfl
def c6s56 : SCode := (.seq (.seq (.ops c6r1) c6s3) c6s55)
@[go_sem] theorem c6s56eq : U c6s56 (.seq (.seq (.ops c6r1) c6s3) c6s55) := fun _ _ _ _ _ => rfl
def c6 : Gx.Fn := ⟨128, c6k, (.seq (.ops c6r0) c6s56), [(.tmp S4)]⟩
theorem c6ok : stripFn Tryd.prog c6k Tryd.f6 = some c6 := by kernel_rfl

/- plexuslaw16.ParserAppends -/
@[go_sem] def c7k : List Nat := [0, 1, 4, 5, 6, 7, 8, 9, 10, 11, 13, 31, 42]
@[go_sem] def c7r0 : List GOp := [mS 2 (.c (.bool false))]
@[go_sem] def c7r1 : List GOp := [oT (.call 10 []), oS 10 (.v (.un .not T0))]
@[go_sem] def c7r2 : List GOp := [mS 2 (.c (.bool false))]
def c7s3 : SCode := (.cond S10 (.seq (.ops c7r2) .ret) .skip)
@[go_sem] theorem c7s3eq : U c7s3 (.cond S10 (.seq (.ops c7r2) .ret) .skip) := fun _ _ _ _ _ => rfl
@[go_sem] def c7r4 : List GOp := [mT S0, oT (.call 21 [T0]), mT T0, oT (.v (.ext T0 0)), oT (.v (.ext T1 1)), oS 3 (.al 24 [(I 0), (.string ⟨⟨[]⟩⟩), (I 0), (I 0), Z]), oS 4 (.al 31 [(I 0), (I 0)]), oN (.st 5 S3 T1), oN (.st 2 S4 T0)]
@[go_sem] def c7r5 : List GOp := [mT S1, oT (.call 21 [T0]), mT T0, oT (.v (.ext T0 0)), oT (.v (.ext T1 1)), oS 5 (.al 24 [(I 0), (.string ⟨⟨[]⟩⟩), (I 0), (I 0), Z]), oS 6 (.al 31 [(I 0), (I 0)]), oN (.st 5 S5 T1), oN (.st 2 S6 T0)]
@[go_sem] def c7r6 : List GOp := [fT 0 S4, lT T0, oT (.v (.bin .neq T0 (C 0))), mT T0, (.sel T0 false [(.op (.v (.fa 0 S6))), (.op (.ld none T0)), (.op (.v (.bin .neq T0 (C 0))))] (.s 11) (.c (.bool true)) T0)]
@[go_sem] def c7r7 : List GOp := [mS 2 (.c (.bool true))]
def c7s8 : SCode := (.cond S11 (.seq (.ops c7r7) .ret) .skip)
@[go_sem] theorem c7s8eq : U c7s8 (.cond S11 (.seq (.ops c7r7) .ret) .skip) := fun _ _ _ _ _ => rfl
@[go_sem] def c7r9 : List GOp := [mT S0, oT (.v (.bin .add T0 (.c (.string ⟨⟨[10]⟩⟩)))), mT S1, oT (.v (.bin .add T1 T0)), oT (.call 21 [T0]), mT T0, oT (.v (.ext T0 0)), oT (.v (.ext T1 1)), oS 7 (.al 24 [(I 0), (.string ⟨⟨[]⟩⟩), (I 0), (I 0), Z]), oS 8 (.al 31 [(I 0), (I 0)]), oN (.st 5 S7 T1), oN (.st 2 S8 T0)]
@[go_sem] def c7r10 : List GOp := [fT 0 S8, lT T0, oS 12 (.v (.bin .eql T0 (C 6)))]
@[go_sem] def c7r11 : List GOp := [mT S0, oT (.v (.slen T0)), mT S1, oT (.v (.slen T0)), oT (.v (.bin .add T2 T0)), oT (.v (.bin .geq T0 (C 65536))), mS 2 T0]
def c7s12 : SCode := (.seq (.ops c7r11) .ret)
@[go_sem] theorem c7s12eq : U c7s12 (.seq (.ops c7r11) .ret) := fun _ _ _ _ _ => rfl
@[go_sem] def c7d13 : DT := (rf 4 S3 [3, 6] (rl T0 [3, 6] (rf 4 S5 [6] (rl T0 [6] (.ef 0 none .t (.bs 24 0 [] []) (.ef 3 none .t (.ap 22 22 T0 T3) (.ef 6 none .t (.ap 22 22 T0 T2) (.rd none (.s 9) (.v (.mv T0)) [] .done))))))))
@[go_sem] def c7r14 : List GOp := [fT 0 S8, lT T0, oT (.v (.bin .eql T0 (C 0))), mT T0, (.op (some (T0, (true, true))) .t (.ld (some 5) S7)), (.op (some (T1, (true, false))) .t (.v (.mv S9))), (.op (some (T2, (true, false))) .t (.v (.bld [(I 0), (.string ⟨⟨[]⟩⟩), (I 0), (I 0), Z] [(0, (1, (C 1))), (4, (1, T0))]))), (.op (some (T3, (true, false))) .t (.call 12 [T2, T0])), oT (.v (.pick T4 T0 (.c (.bool false)))), mS 2 T0]
def c7s15 : SCode := (.seq (.ops c7r14) .ret)
@[go_sem] theorem c7s15eq : U c7s15 (.seq (.ops c7r14) .ret) := fun _ _ _ _ _ => rfl
def c7s16 : SCode := (.seq (.de c7d13) c7s15)
@[go_sem] theorem c7s16eq : U c7s16 (.seq (.de c7d13) c7s15) := fun _ _ _ _ _ => rfl
def c7s17 : SCode := (.seq (.seq (.ops c7r10) (.cond S12 c7s12 .skip)) c7s16)
@[go_sem] theorem c7s17eq : U c7s17 (.seq (.seq (.ops c7r10) (.cond S12 c7s12 .skip)) c7s16) := fun _ _ _ _ _ => rfl
def c7s18 : SCode := (.seq (.ops c7r9) c7s17)
@[go_sem] theorem c7s18eq : U c7s18 (.seq (.ops c7r9) c7s17) := fun _ _ _ _ _ => rfl
def c7s19 : SCode := (.seq (.seq (.ops c7r6) c7s8) c7s18)
@[go_sem] theorem c7s19eq : U c7s19 (.seq (.seq (.ops c7r6) c7s8) c7s18) := fun _ _ _ _ _ => rfl
def c7s20 : SCode := (.seq (.ops c7r5) c7s19)
@[go_sem] theorem c7s20eq : U c7s20 (.seq (.ops c7r5) c7s19) := fun _ _ _ _ _ => rfl
def c7s21 : SCode := (.seq (.ops c7r4) c7s20)
@[go_sem] theorem c7s21eq : U c7s21 (.seq (.ops c7r4) c7s20) := fun _ _ _ _ _ => rfl
def c7s22 : SCode := (.seq (.seq (.ops c7r1) c7s3) c7s21)
@[go_sem] theorem c7s22eq : U c7s22 (.seq (.seq (.ops c7r1) c7s3) c7s21) := fun _ _ _ _ _ => rfl
def c7 : Gx.Fn := ⟨65, c7k, (.seq (.ops c7r0) c7s22), [(.tmp S2)]⟩
theorem c7ok : stripFn Tryd.prog c7k Tryd.f7 = some c7 := by kernel_rfl

/- plexuslaw16.ParserPrefix -/
@[go_sem] def c8k : List Nat := [0, 1, 4, 5, 6, 7, 8, 10, 11, 12, 13, 14, 15, 16, 17, 19, 21, 49, 53, 71, 74, 99, 113]
@[go_sem] def c8r0 : List GOp := [mS 2 (.c (.bool false))]
@[go_sem] def c8r1 : List GOp := [oT (.call 10 []), oS 16 (.v (.un .not T0))]
@[go_sem] def c8r2 : List GOp := [mS 2 (.c (.bool false))]
def c8s3 : SCode := (.cond S16 (.seq (.ops c8r2) .ret) .skip)
@[go_sem] theorem c8s3eq : U c8s3 (.cond S16 (.seq (.ops c8r2) .ret) .skip) := fun _ _ _ _ _ => rfl
@[go_sem] def c8r4 : List GOp := [mT S0, oT (.call 17 [T0]), mT T0, oT (.v (.ext T0 0)), oT (.v (.ext T1 1)), oS 4 (.al 31 [(I 0), (I 0)]), mS 3 T1, oN (.st 2 S4 T0)]
@[go_sem] def c8r5 : List GOp := [mT S1, oT (.call 17 [T0]), mT T0, oT (.v (.ext T0 0)), oT (.v (.ext T1 1)), oS 6 (.al 31 [(I 0), (I 0)]), mS 5 T1, oN (.st 2 S6 T0)]
@[go_sem] def c8r6 : List GOp := [mT S0, oT (.call 21 [T0]), mT T0, oT (.v (.ext T0 0)), oT (.v (.ext T1 1)), oT (.al 24 [(I 0), (.string ⟨⟨[]⟩⟩), (I 0), (I 0), Z]), oS 7 (.al 31 [(I 0), (I 0)]), oN (.st 5 T0 T2), oN (.st 2 S7 T1)]
@[go_sem] def c8r7 : List GOp := [fT 0 S4, lT T0, oT (.v (.bin .neq T0 (C 0))), mT T0, (.sel T0 false [(.op (.v (.fa 0 S6))), (.op (.ld none T0)), (.op (.v (.bin .neq T0 (C 0))))] .t (.c (.bool true)) T0), mT T0, (.sel T0 false [(.op (.v (.fa 0 S7))), (.op (.ld none T0)), (.op (.v (.bin .eql T0 (C 0))))] (.s 17) (.c (.bool true)) T0)]
@[go_sem] def c8r8 : List GOp := [mS 2 (.c (.bool true))]
def c8s9 : SCode := (.cond S17 (.seq (.ops c8r8) .ret) .skip)
@[go_sem] theorem c8s9eq : U c8s9 (.cond S17 (.seq (.ops c8r8) .ret) .skip) := fun _ _ _ _ _ => rfl
@[go_sem] def c8r10 : List GOp := [mS 8 (C (-1))]
@[go_sem] def c8r11 : List GOp := [mS 9 (C 0)]
@[go_sem] def c8r12 : List GOp := [mT S9, mT S3, nT T0, oS 18 (.v (.bin .lss T2 T0))]
def c8s13 : SCode := (.cond S18 .skip (.exit 0))
@[go_sem] theorem c8s13eq : U c8s13 (.cond S18 .skip (.exit 0)) := fun _ _ _ _ _ => rfl
@[go_sem] def c8r14 : List GOp := [mT S3, mT S9, oT (.v (.ix 4 T1 T0)), fT 3 T0, lT T0, fT 1 S7, lT T0, oT (.v (.bin .eql T2 T0)), mT T0, (.op (some (T0, (true, true))) .t (.v (.mv S3))), (.op (some (T1, (true, false))) .t (.v (.mv S9))), (.op (some (T2, (true, false))) .t (.v (.ix 4 T1 T0))), (.op (some (T3, (true, false))) .t (.v (.fa 0 T0))), (.op (some (T4, (true, false))) .t (.ld none T0)), (.op (some (T5, (true, false))) .t (.v (.bin .neq T0 (C 6)))), oS 19 (.v (.pick T6 T0 (.c (.bool false))))]
@[go_sem] def c8r15 : List GOp := [mT S9, mS 8 T0]
def c8s16 : SCode := (.cond S19 (.ops c8r15) .skip)
@[go_sem] theorem c8s16eq : U c8s16 (.cond S19 (.ops c8r15) .skip) := fun _ _ _ _ _ => rfl
@[go_sem] def c8r17 : List GOp := [mT S9, oT (.v (.bin .add T0 (C 1))), mS 9 T0]
def c8s18 : SCode := (.ops c8r17)
@[go_sem] theorem c8s18eq : U c8s18 (.ops c8r17) := fun _ _ _ _ _ => rfl
def c8s19 : SCode := (.seq (.block 1 (.seq (.dq c8r14) c8s16)) c8s18)
@[go_sem] theorem c8s19eq : U c8s19 (.seq (.block 1 (.seq (.dq c8r14) c8s16)) c8s18) := fun _ _ _ _ _ => rfl
def c8s20 : SCode := (.seq (.seq (.ops c8r12) c8s13) c8s19)
@[go_sem] theorem c8s20eq : U c8s20 (.seq (.seq (.ops c8r12) c8s13) c8s19) := fun _ _ _ _ _ => rfl
def c8s21 : SCode := (.block 0 (.loop c8k c8s20))
@[go_sem] theorem c8s21eq : U c8s21 (.block 0 (.loop c8k c8s20)) := fun _ _ _ _ _ => rfl
@[go_sem] def c8r22 : List GOp := [mT S8, oS 20 (.v (.bin .lss T0 (C 0)))]
@[go_sem] def c8r23 : List GOp := [fT 1 S7, lT T0, mT S0, oT (.v (.slen T0)), oT (.v (.bin .eql T2 T0)), mT T0, (.sel T0 true [(.op (.v (.fa 0 S7))), (.op (.ld none T0)), (.op (.v (.bin .eql T0 (C 2))))] .t T0 (.c (.bool false))), mS 2 T0]
def c8s24 : SCode := (.seq (.ops c8r23) .ret)
@[go_sem] theorem c8s24eq : U c8s24 (.seq (.ops c8r23) .ret) := fun _ _ _ _ _ => rfl
@[go_sem] def c8r25 : List GOp := [oT (.bs 39 0 [] []), mT S3, mT S8, oT (.v (.bin .add T0 (C 1))), oT (.v (.sl 4 T2 none (some T0))), oT (.ap 34 34 T4 T0), mT S5, oT (.ap 34 34 T1 T0), mS 10 T0]
@[go_sem] def c8r26 : List GOp := [mT S10, oT (.call 22 [T0]), mT T0, oT (.v (.ext T0 0)), oT (.v (.ext T1 1)), mS 11 T1, mS 12 T0]
@[go_sem] def c8r27 : List GOp := [mT S12, oS 21 (.v (.bin .neq T0 (C 0)))]
@[go_sem] def c8r28 : List GOp := [mS 2 (.c (.bool true))]
def c8s29 : SCode := (.seq (.ops c8r28) .ret)
@[go_sem] theorem c8s29eq : U c8s29 (.seq (.ops c8r28) .ret) := fun _ _ _ _ _ => rfl
@[go_sem] def c8r30 : List GOp := [mT S11, oT (.call 17 [T0]), mT T0, oT (.v (.ext T0 0)), oT (.v (.ext T1 1)), oS 14 (.al 31 [(I 0), (I 0)]), mS 13 T1, oN (.st 2 S14 T0)]
@[go_sem] def c8r31 : List GOp := [fT 0 S14, lT T0, oT (.v (.bin .neq T0 (C 0))), mT T0, (.sel T0 false [(.op (.v (.mv S13))), (.op (.v (.len T0))), (.op (.v (.mv S8))), (.op (.v (.bin .leq T1 T0)))] (.s 22) (.c (.bool true)) T0)]
@[go_sem] def c8r32 : List GOp := [mS 2 (.c (.bool false))]
def c8s33 : SCode := (.seq (.ops c8r32) .ret)
@[go_sem] theorem c8s33eq : U c8s33 (.seq (.ops c8r32) .ret) := fun _ _ _ _ _ => rfl
@[go_sem] def c8r34 : List GOp := [mT S11, oT (.call 21 [T0]), mT T0, oT (.v (.ext T0 0)), oT (.v (.ext T1 1)), oT (.al 24 [(I 0), (.string ⟨⟨[]⟩⟩), (I 0), (I 0), Z]), oS 15 (.al 31 [(I 0), (I 0)]), oN (.st 5 T0 T2), oN (.st 2 S15 T1)]
@[go_sem] def c8r35 : List GOp := [fT 0 S15, lT T0, fT 0 S7, lT T0, oT (.v (.bin .eql T2 T0)), mT T0, (.op (some (T0, (true, true))) .t (.v (.fa 1 S15))), (.op (some (T1, (true, false))) .t (.ld none T0)), (.op (some (T2, (true, false))) .t (.v (.mv S13))), (.op (some (T3, (true, false))) .t (.v (.mv S8))), (.op (some (T4, (true, false))) .t (.v (.ix 4 T1 T0))), (.op (some (T5, (true, false))) .t (.v (.fa 3 T0))), (.op (some (T6, (true, false))) .t (.ld none T0)), (.op (some (T7, (true, false))) .t (.v (.bin .eql T5 T0))), oT (.v (.pick T8 T0 (.c (.bool false)))), mS 2 T0]
def c8s36 : SCode := (.seq (.ops c8r34) (.seq (.dq c8r35) .ret))
@[go_sem] theorem c8s36eq : U c8s36 (.seq (.ops c8r34) (.seq (.dq c8r35) .ret)) := fun _ _ _ _ _ => rfl
def c8s37 : SCode := (.seq (.seq (.ops c8r31) (.cond S22 c8s33 .skip)) c8s36)
@[go_sem] theorem c8s37eq : U c8s37 (.seq (.seq (.ops c8r31) (.cond S22 c8s33 .skip)) c8s36) := fun _ _ _ _ _ => rfl
def c8s38 : SCode := (.seq (.ops c8r30) c8s37)
@[go_sem] theorem c8s38eq : U c8s38 (.seq (.ops c8r30) c8s37) := fun _ _ _ _ _ => rfl
def c8s39 : SCode := (.seq (.seq (.ops c8r27) (.cond S21 c8s29 .skip)) c8s38)
@[go_sem] theorem c8s39eq : U c8s39 (.seq (.seq (.ops c8r27) (.cond S21 c8s29 .skip)) c8s38) := fun _ _ _ _ _ => rfl
def c8s40 : SCode := (.seq (.ops c8r26) c8s39)
@[go_sem] theorem c8s40eq : U c8s40 (.seq (.ops c8r26) c8s39) := fun _ _ _ _ _ => rfl
def c8s41 : SCode := (.seq (.ops c8r25) c8s40)
@[go_sem] theorem c8s41eq : U c8s41 (.seq (.ops c8r25) c8s40) := fun _ _ _ _ _ => rfl
def c8s42 : SCode := (.seq (.seq (.ops c8r22) (.cond S20 c8s24 .skip)) c8s41)
@[go_sem] theorem c8s42eq : U c8s42 (.seq (.seq (.ops c8r22) (.cond S20 c8s24 .skip)) c8s41) := fun _ _ _ _ _ => rfl
def c8s43 : SCode := (.seq (.seq (.ops c8r11) c8s21) c8s42)
@[go_sem] theorem c8s43eq : U c8s43 (.seq (.seq (.ops c8r11) c8s21) c8s42) := fun _ _ _ _ _ => rfl
def c8s44 : SCode := (.seq (.ops c8r10) c8s43)
@[go_sem] theorem c8s44eq : U c8s44 (.seq (.ops c8r10) c8s43) := fun _ _ _ _ _ => rfl
def c8s45 : SCode := (.seq (.seq (.ops c8r7) c8s9) c8s44)
@[go_sem] theorem c8s45eq : U c8s45 (.seq (.seq (.ops c8r7) c8s9) c8s44) := fun _ _ _ _ _ => rfl
def c8s46 : SCode := (.seq (.ops c8r6) c8s45)
@[go_sem] theorem c8s46eq : U c8s46 (.seq (.ops c8r6) c8s45) := fun _ _ _ _ _ => rfl
def c8s47 : SCode := (.seq (.ops c8r5) c8s46)
@[go_sem] theorem c8s47eq : U c8s47 (.seq (.ops c8r5) c8s46) := fun _ _ _ _ _ => rfl
def c8s48 : SCode := (.seq (.ops c8r4) c8s47)
@[go_sem] theorem c8s48eq : U c8s48 (.seq (.ops c8r4) c8s47) := fun _ _ _ _ _ => rfl
def c8s49 : SCode := (.seq (.seq (.ops c8r1) c8s3) c8s48)
@[go_sem] theorem c8s49eq : U c8s49 (.seq (.seq (.ops c8r1) c8s3) c8s48) := fun _ _ _ _ _ => rfl
def c8 : Gx.Fn := ⟨134, c8k, (.seq (.ops c8r0) c8s49), [(.tmp S2)]⟩
theorem c8ok : stripFn Tryd.prog c8k Tryd.f8 = some c8 := by kernel_rfl

/- plexuslaw16.ParserBlanks -/
@[go_sem] def c9k : List Nat := [0, 2, 3, 4, 5, 6, 7, 8, 9, 10, 11, 12, 13, 14, 15, 16, 18, 26, 46]
@[go_sem] def c9r0 : List GOp := [mS 1 (.c (.bool false))]
@[go_sem] def c9r1 : List GOp := [oT (.call 10 []), oS 16 (.v (.un .not T0))]
@[go_sem] def c9r2 : List GOp := [mS 1 (.c (.bool false))]
def c9s3 : SCode := (.cond S16 (.seq (.ops c9r2) .ret) .skip)
@[go_sem] theorem c9s3eq : U c9s3 (.cond S16 (.seq (.ops c9r2) .ret) .skip) := fun _ _ _ _ _ => rfl
@[go_sem] def c9r4 : List GOp := [mT S0, oT (.call 17 [T0]), mT T0, oT (.v (.ext T0 0)), oT (.v (.ext T1 1)), oS 3 (.al 31 [(I 0), (I 0)]), mS 2 T1, oN (.st 2 S3 T0)]
@[go_sem] def c9r5 : List GOp := [fT 0 S3, lT T0, oS 17 (.v (.bin .neq T0 (C 0)))]
@[go_sem] def c9r6 : List GOp := [mT S0, oT (.call 21 [T0]), mT T0, oT (.v (.ext T0 0)), oT (.v (.ext T1 1)), oS 4 (.al 24 [(I 0), (.string ⟨⟨[]⟩⟩), (I 0), (I 0), Z]), oS 5 (.al 31 [(I 0), (I 0)]), oN (.st 5 S4 T1), oN (.st 2 S5 T0)]
@[go_sem] def c9r7 : List GOp := [oT (.ld (some 2) S5), oT (.ld (some 2) S3), oT (.v (.steq false [(0, .i), (1, .i)] T1 T0)), mT T0, (.op (some (T0, (true, true))) .t (.ld (some 5) S4)), (.op (some (T1, (true, false))) .t (.v (.bld [(I 0), (.string ⟨⟨[]⟩⟩), (I 0), (I 0), Z] []))), (.op (some (T2, (true, false))) .t (.call 12 [T1, T0])), oT (.v (.pick T3 T0 (.c (.bool false)))), mS 1 T0]
def c9s8 : SCode := (.seq (.ops c9r6) (.seq (.ops c9r7) .ret))
@[go_sem] theorem c9s8eq : U c9s8 (.seq (.ops c9r6) (.seq (.ops c9r7) .ret)) := fun _ _ _ _ _ => rfl
@[go_sem] def c9r9 : List GOp := [mT S2, oT (.call 22 [T0]), mT T0, oT (.v (.ext T0 0)), oT (.v (.ext T1 1)), mS 6 T1, mS 7 T0]
@[go_sem] def c9r10 : List GOp := [mT S7, oS 18 (.v (.bin .neq T0 (C 0)))]
@[go_sem] def c9r11 : List GOp := [mS 1 (.c (.bool true))]
def c9s12 : SCode := (.seq (.ops c9r11) .ret)
@[go_sem] theorem c9s12eq : U c9s12 (.seq (.ops c9r11) .ret) := fun _ _ _ _ _ => rfl
@[go_sem] def c9r13 : List GOp := [mT S0, oT (.call 21 [T0]), mT T0, oT (.v (.ext T0 0)), oT (.v (.ext T1 1)), oS 8 (.al 24 [(I 0), (.string ⟨⟨[]⟩⟩), (I 0), (I 0), Z]), oS 9 (.al 31 [(I 0), (I 0)]), oN (.st 5 S8 T1), oN (.st 2 S9 T0)]
@[go_sem] def c9r14 : List GOp := [mT S6, oT (.call 21 [T0]), mT T0, oT (.v (.ext T0 0)), oT (.v (.ext T1 1)), oS 10 (.al 24 [(I 0), (.string ⟨⟨[]⟩⟩), (I 0), (I 0), Z]), oS 11 (.al 31 [(I 0), (I 0)]), oN (.st 5 S10 T1), oN (.st 2 S11 T0)]
@[go_sem] def c9r15 : List GOp := [mT S0, oT (.call 16 [T0]), mT T0, oT (.v (.ext T0 0)), oT (.v (.ext T1 1)), oS 12 (.al 24 [(I 0), (.string ⟨⟨[]⟩⟩), (I 0), (I 0), Z]), oS 13 (.al 31 [(I 0), (I 0)]), oN (.st 5 S12 T1), oN (.st 2 S13 T0)]
@[go_sem] def c9r16 : List GOp := [mT S6, oT (.call 16 [T0]), mT T0, oT (.v (.ext T0 0)), oT (.v (.ext T1 1)), oS 14 (.al 24 [(I 0), (.string ⟨⟨[]⟩⟩), (I 0), (I 0), Z]), oS 15 (.al 31 [(I 0), (I 0)]), oN (.st 5 S14 T1), oN (.st 2 S15 T0)]
@[go_sem] def c9r17 : List GOp := [fT 0 S9, lT T0, fT 0 S11, lT T0, oT (.v (.bin .eql T2 T0)), mT T0, (.op (some (T0, (true, true))) .t (.ld (some 5) S8)), (.op (some (T1, (true, false))) .t (.ld (some 5) S10)), (.op (some (T2, (true, false))) .t (.call 12 [T1, T0])), oT (.v (.pick T3 T0 (.c (.bool false)))), mT T0, (.sel T0 true [(.op (.v (.fa 0 S13))), (.op (.ld none T0)), (.op (.v (.fa 0 S15))), (.op (.ld none T0)), (.op (.v (.bin .eql T2 T0)))] .t T0 (.c (.bool false))), mT T0, (.op (some (T0, (true, true))) .t (.ld (some 5) S12)), (.op (some (T1, (true, false))) .t (.ld (some 5) S14)), (.op (some (T2, (true, false))) .t (.call 12 [T1, T0])), oT (.v (.pick T3 T0 (.c (.bool false)))), mS 1 T0]
def c9s18 : SCode := (.seq (.ops c9r17) .ret)
@[go_sem] theorem c9s18eq : U c9s18 (.seq (.ops c9r17) .ret) := fun _ _ _ _ _ => rfl
def c9s19 : SCode := (.seq (.ops c9r16) c9s18)
@[go_sem] theorem c9s19eq : U c9s19 (.seq (.ops c9r16) c9s18) := fun _ _ _ _ _ => rfl
def c9s20 : SCode := (.seq (.ops c9r15) c9s19)
@[go_sem] theorem c9s20eq : U c9s20 (.seq (.ops c9r15) c9s19) := fun _ _ _ _ _ => rfl
def c9s21 : SCode := (.seq (.ops c9r14) c9s20)
@[go_sem] theorem c9s21eq : U c9s21 (.seq (.ops c9r14) c9s20) := fun _ _ _ _ _ => rfl
def c9s22 : SCode := (.seq (.ops c9r13) c9s21)
@[go_sem] theorem c9s22eq : U c9s22 (.seq (.ops c9r13) c9s21) := fun _ _ _ _ _ => rfl
def c9s23 : SCode := (.seq (.seq (.ops c9r10) (.cond S18 c9s12 .skip)) c9s22)
@[go_sem] theorem c9s23eq : U c9s23 (.seq (.seq (.ops c9r10) (.cond S18 c9s12 .skip)) c9s22) := fun _ _ _ _ _ => rfl
def c9s24 : SCode := (.seq (.ops c9r9) c9s23)
@[go_sem] theorem c9s24eq : U c9s24 (.seq (.ops c9r9) c9s23) := fun _ _ _ _ _ => rfl
def c9s25 : SCode := (.seq (.seq (.ops c9r5) (.cond S17 c9s8 .skip)) c9s24)
@[go_sem] theorem c9s25eq : U c9s25 (.seq (.seq (.ops c9r5) (.cond S17 c9s8 .skip)) c9s24) := fun _ _ _ _ _ => rfl
def c9s26 : SCode := (.seq (.ops c9r4) c9s25)
@[go_sem] theorem c9s26eq : U c9s26 (.seq (.ops c9r4) c9s25) := fun _ _ _ _ _ => rfl
def c9s27 : SCode := (.seq (.seq (.ops c9r1) c9s3) c9s26)
@[go_sem] theorem c9s27eq : U c9s27 (.seq (.seq (.ops c9r1) c9s3) c9s26) := fun _ _ _ _ _ => rfl
def c9 : Gx.Fn := ⟨89, c9k, (.seq (.ops c9r0) c9s27), [(.tmp S1)]⟩
theorem c9ok : stripFn Tryd.prog c9k Tryd.f9 = some c9 := by kernel_rfl

/- plexuslaw16.awake -/
@[go_sem] def c10k : List Nat := [0, 1, 2]
@[go_sem] def c10r0 : List GOp := [mS 0 (.c (.bool false))]
@[go_sem] def c10r1 : List GOp := [oT (.call 16 [(.c (.string ⟨⟨[97, 32, 45, 32, 49, 32, 43, 32, 115]⟩⟩))]), mT T0, oT (.v (.ext T0 0)), oT (.v (.ext T1 1)), oS 1 (.al 24 [(I 0), (.string ⟨⟨[]⟩⟩), (I 0), (I 0), Z]), oS 2 (.al 31 [(I 0), (I 0)]), oN (.st 5 S1 T1), oN (.st 2 S2 T0)]
@[go_sem] def c10r2 : List GOp := [oT (.ld (some 2) S2), oT (.v (.bld [(I 0), (I 0)] [])), oT (.v (.steq false [(0, .i), (1, .i)] T1 T0)), mT T0, (.sel T0 true [(.op (.v (.fa 0 S1))), (.op (.ld none T0)), (.op (.v (.bin .eql T0 (C 40))))] .t T0 (.c (.bool false))), mT T0, (.sel T0 true [(.op (.v (.fa 3 S1))), (.op (.ld none T0)), (.op (.v (.bin .eql T0 (C 6))))] .t T0 (.c (.bool false))), mT T0, (.sel T0 true [(.op (.v (.fa 4 S1))), (.op (.ld none T0)), (.op (.v (.len T0))), (.op (.v (.bin .eql T0 (C 2))))] .t T0 (.c (.bool false))), mT T0, (.op (some (T0, (true, true))) .t (.v (.fa 4 S1))), (.op (some (T1, (true, false))) .t (.ld none T0)), (.op (some (T2, (true, false))) .t (.v (.ix 5 T0 (C 0)))), (.op (some (T3, (true, false))) .t (.v (.fa 0 T0))), (.op (some (T4, (true, false))) .t (.ld none T0)), (.op (some (T5, (true, false))) .t (.v (.bin .eql T0 (C 41)))), oT (.v (.pick T6 T0 (.c (.bool false)))), mT T0, (.op (some (T0, (true, true))) .t (.ld (some 5) S1)), (.op (some (T1, (true, false))) .t (.call 14 [T0])), (.op (some (T2, (true, false))) .t (.v (.bin .eql T0 (C 5)))), oT (.v (.pick T3 T0 (.c (.bool false)))), mS 0 T0]
def c10s3 : SCode := (.seq (.ops c10r2) .ret)
@[go_sem] theorem c10s3eq : U c10s3 (.seq (.ops c10r2) .ret) := fun _ _ _ _ _ => rfl
def c10s4 : SCode := (.seq (.ops c10r1) c10s3)
@[go_sem] theorem c10s4eq : U c10s4 (.seq (.ops c10r1) c10s3) := fun _ _ _ _ _ => rfl
def c10 : Gx.Fn := ⟨39, c10k, (.seq (.ops c10r0) c10s4), [(.tmp S0)]⟩
theorem c10ok : stripFn Tryd.prog c10k Tryd.f10 = some c10 := by kernel_rfl

/- plexusref16.Small -/
@[go_sem] def c11k : List Nat := [0, 1, 2, 4]
@[go_sem] def c11r0 : List GOp := [oS 2 (.bx 24 S0), mS 3 (.c (.bool false))]
@[go_sem] def c11r1 : List GOp := [oT (.ld (some 5) S2), mT S1, oT (.call 23 [T1, T0]), oT (.v (.bin .geq T0 (C 0))), mS 3 T0]
def c11s2 : SCode := (.seq (.ops c11r1) .ret)
@[go_sem] theorem c11s2eq : U c11s2 (.seq (.ops c11r1) .ret) := fun _ _ _ _ _ => rfl
def c11 : Gx.Fn := ⟨9, c11k, (.seq (.ops c11r0) c11s2), [(.tmp S3)]⟩
theorem c11ok : stripFn Tryd.prog c11k Tryd.f11 = some c11 := by kernel_rfl

/- plexusref16.Same -/
@[go_sem] def c13k : List Nat := [0, 1, 2, 3, 4, 5, 33, 38, 52]
@[go_sem] def c13r0 : List GOp := [oS 2 (.bx 24 S0), oS 3 (.bx 24 S1), mS 4 (.c (.bool false))]
@[go_sem] def c13r1 : List GOp := [fT 0 S2, lT T0, fT 0 S3, lT T0, oT (.v (.bin .neq T2 T0)), mT T0, (.sel T0 false [(.op (.v (.fa 1 S2))), (.op (.ld none T0)), (.op (.v (.fa 1 S3))), (.op (.ld none T0)), (.op (.v (.bin .neq T2 T0)))] .t (.c (.bool true)) T0), mT T0, (.sel T0 false [(.op (.v (.fa 2 S2))), (.op (.ld none T0)), (.op (.v (.fa 2 S3))), (.op (.ld none T0)), (.op (.v (.bin .neq T2 T0)))] .t (.c (.bool true)) T0), mT T0, (.sel T0 false [(.op (.v (.fa 4 S2))), (.op (.ld none T0)), (.op (.v (.len T0))), (.op (.v (.fa 4 S3))), (.op (.ld none T0)), (.op (.v (.len T0))), (.op (.v (.bin .neq T3 T0)))] (.s 6) (.c (.bool true)) T0)]
@[go_sem] def c13r2 : List GOp := [mS 4 (.c (.bool false))]
def c13s3 : SCode := (.seq (.ops c13r2) .ret)
@[go_sem] theorem c13s3eq : U c13s3 (.seq (.ops c13r2) .ret) := fun _ _ _ _ _ => rfl
@[go_sem] def c13r4 : List GOp := [mS 5 (C 0)]
@[go_sem] def c13r5 : List GOp := [mT S5, fT 4 S2, lT T0, nT T0, oS 7 (.v (.bin .lss T3 T0))]
def c13s6 : SCode := (.cond S7 .skip (.exit 0))
@[go_sem] theorem c13s6eq : U c13s6 (.cond S7 .skip (.exit 0)) := fun _ _ _ _ _ => rfl
@[go_sem] def c13d7 : DT := (rf 4 S2 [10] (rl T0 [10] (rm S5 [10] (.rd none .t (.v (.ix 5 T1 T0)) [10] (.rd none .t (.ld (some 5) T0) [10] (rf 4 S3 [10] (rl T0 [10] (rm S5 [10] (.rd none .t (.v (.ix 5 T1 T0)) [10] (.rd none .t (.ld (some 5) T0) [10] (.ef 10 none .t (.call 13 [T5, T0]) (.rd none (.s 8) (.v (.un .not T0)) [] .done))))))))))))
@[go_sem] def c13r8 : List GOp := [mS 4 (.c (.bool false))]
def c13s9 : SCode := (.seq (.ops c13r8) .ret)
@[go_sem] theorem c13s9eq : U c13s9 (.seq (.ops c13r8) .ret) := fun _ _ _ _ _ => rfl
@[go_sem] def c13r10 : List GOp := [mT S5, oT (.v (.bin .add T0 (C 1))), mS 5 T0]
def c13s11 : SCode := (.ops c13r10)
@[go_sem] theorem c13s11eq : U c13s11 (.ops c13r10) := fun _ _ _ _ _ => rfl
def c13s12 : SCode := (.seq (.block 1 (.seq (.de c13d7) (.cond S8 c13s9 .skip))) c13s11)
@[go_sem] theorem c13s12eq : U c13s12 (.seq (.block 1 (.seq (.de c13d7) (.cond S8 c13s9 .skip))) c13s11) := fun _ _ _ _ _ => rfl
def c13s13 : SCode := (.seq (.seq (.ops c13r5) c13s6) c13s12)
@[go_sem] theorem c13s13eq : U c13s13 (.seq (.seq (.ops c13r5) c13s6) c13s12) := fun _ _ _ _ _ => rfl
def c13s14 : SCode := (.block 0 (.loop c13k c13s13))
@[go_sem] theorem c13s14eq : U c13s14 (.block 0 (.loop c13k c13s13)) := fun _ _ _ _ _ => rfl
@[go_sem] def c13r15 : List GOp := [mS 4 (.c (.bool true))]
def c13s16 : SCode := (.seq (.ops c13r15) .ret)
@[go_sem] theorem c13s16eq : U c13s16 (.seq (.ops c13r15) .ret) := fun _ _ _ _ _ => rfl
def c13s17 : SCode := (.seq (.seq (.ops c13r4) c13s14) c13s16)
@[go_sem] theorem c13s17eq : U c13s17 (.seq (.seq (.ops c13r4) c13s14) c13s16) := fun _ _ _ _ _ => rfl
def c13s18 : SCode := (.seq (.seq (.ops c13r1) (.cond S6 c13s3 .skip)) c13s17)
@[go_sem] theorem c13s18eq : U c13s18 (.seq (.seq (.ops c13r1) (.cond S6 c13s3 .skip)) c13s17) := fun _ _ _ _ _ => rfl
def c13 : Gx.Fn := ⟨53, c13k, (.seq (.ops c13r0) c13s18), [(.tmp S4)]⟩
theorem c13ok : stripFn Tryd.prog c13k Tryd.f13 = some c13 := by kernel_rfl

/- plexusref16.Size -/
@[go_sem] def c15k : List Nat := [0, 1, 2, 3, 4, 9]
@[go_sem] def c15r0 : List GOp := [oS 1 (.bx 24 S0), mS 2 (C 0)]
@[go_sem] def c15r1 : List GOp := [mS 3 (C 1)]
@[go_sem] def c15r2 : List GOp := [mS 4 (C 0)]
@[go_sem] def c15r3 : List GOp := [mT S4, fT 4 S1, lT T0, nT T0, oS 5 (.v (.bin .lss T3 T0))]
def c15s4 : SCode := (.cond S5 .skip (.exit 0))
@[go_sem] theorem c15s4eq : U c15s4 (.cond S5 .skip (.exit 0)) := fun _ _ _ _ _ => rfl
@[go_sem] def c15r5 : List GOp := [mT S3, fT 4 S1, lT T0, mT S4, oT (.v (.ix 5 T1 T0)), oT (.ld (some 5) T0), oT (.call 15 [T0]), oT (.v (.bin .add T6 T0)), mS 3 T0]
@[go_sem] def c15r6 : List GOp := [mT S4, oT (.v (.bin .add T0 (C 1))), mS 4 T0]
def c15s7 : SCode := (.ops c15r6)
@[go_sem] theorem c15s7eq : U c15s7 (.ops c15r6) := fun _ _ _ _ _ => rfl
def c15s8 : SCode := (.seq (.block 1 (.ops c15r5)) c15s7)
@[go_sem] theorem c15s8eq : U c15s8 (.seq (.block 1 (.ops c15r5)) c15s7) := fun _ _ _ _ _ => rfl
def c15s9 : SCode := (.seq (.seq (.ops c15r3) c15s4) c15s8)
@[go_sem] theorem c15s9eq : U c15s9 (.seq (.seq (.ops c15r3) c15s4) c15s8) := fun _ _ _ _ _ => rfl
def c15s10 : SCode := (.block 0 (.loop c15k c15s9))
@[go_sem] theorem c15s10eq : U c15s10 (.block 0 (.loop c15k c15s9)) := fun _ _ _ _ _ => rfl
@[go_sem] def c15r11 : List GOp := [mT S3, mS 2 T0]
def c15s12 : SCode := (.seq (.ops c15r11) .ret)
@[go_sem] theorem c15s12eq : U c15s12 (.seq (.ops c15r11) .ret) := fun _ _ _ _ _ => rfl
def c15s13 : SCode := (.seq (.seq (.ops c15r2) c15s10) c15s12)
@[go_sem] theorem c15s13eq : U c15s13 (.seq (.seq (.ops c15r2) c15s10) c15s12) := fun _ _ _ _ _ => rfl
def c15s14 : SCode := (.seq (.ops c15r1) c15s13)
@[go_sem] theorem c15s14eq : U c15s14 (.seq (.ops c15r1) c15s13) := fun _ _ _ _ _ => rfl
def c15 : Gx.Fn := ⟨21, c15k, (.seq (.ops c15r0) c15s14), [(.tmp S2)]⟩
theorem c15ok : stripFn Tryd.prog c15k Tryd.f15 = some c15 := by kernel_rfl

/- plexuslaw16.placed -/
@[go_sem] def c18k : List Nat := [0, 1, 2, 4, 5, 23, 28, 38]
@[go_sem] def c18r0 : List GOp := [oS 2 (.bx 24 S0), mS 3 (.c (.bool false))]
@[go_sem] def c18r1 : List GOp := [fT 3 S2, lT T0, oT (.v (.bin .lss T0 (C 0))), mT T0, (.sel T0 false [(.op (.v (.fa 3 S2))), (.op (.ld none T0)), (.op (.v (.mv S1))), (.op (.v (.len T0))), (.op (.v (.bin .geq T2 T0)))] .t (.c (.bool true)) T0), mT T0, (.op (some (T0, (false, true))) .t (.v (.mv S1))), (.op (some (T1, (false, false))) .t (.v (.fa 3 S2))), (.op (some (T2, (false, false))) .t (.ld none T0)), (.op (some (T3, (false, false))) .t (.v (.ix 1 T2 T0))), (.op (some (T4, (false, false))) .t (.ld none T0)), (.op (some (T5, (false, false))) .t (.v (.un .not T0))), oS 5 (.v (.pick T6 (.c (.bool true)) T0))]
@[go_sem] def c18r2 : List GOp := [mS 3 (.c (.bool false))]
def c18s3 : SCode := (.seq (.ops c18r2) .ret)
@[go_sem] theorem c18s3eq : U c18s3 (.seq (.ops c18r2) .ret) := fun _ _ _ _ _ => rfl
@[go_sem] def c18r4 : List GOp := [mS 4 (C 0)]
@[go_sem] def c18r5 : List GOp := [mT S4, fT 4 S2, lT T0, nT T0, oS 6 (.v (.bin .lss T3 T0))]
def c18s6 : SCode := (.cond S6 .skip (.exit 0))
@[go_sem] theorem c18s6eq : U c18s6 (.cond S6 .skip (.exit 0)) := fun _ _ _ _ _ => rfl
@[go_sem] def c18r7 : List GOp := [fT 4 S2, lT T0, mT S4, oT (.v (.ix 5 T1 T0)), oT (.ld (some 5) T0), mT S1, oT (.call 18 [T1, T0]), oS 7 (.v (.un .not T0))]
@[go_sem] def c18r8 : List GOp := [mS 3 (.c (.bool false))]
def c18s9 : SCode := (.seq (.ops c18r8) .ret)
@[go_sem] theorem c18s9eq : U c18s9 (.seq (.ops c18r8) .ret) := fun _ _ _ _ _ => rfl
@[go_sem] def c18r10 : List GOp := [mT S4, oT (.v (.bin .add T0 (C 1))), mS 4 T0]
def c18s11 : SCode := (.ops c18r10)
@[go_sem] theorem c18s11eq : U c18s11 (.ops c18r10) := fun _ _ _ _ _ => rfl
def c18s12 : SCode := (.seq (.block 1 (.seq (.ops c18r7) (.cond S7 c18s9 .skip))) c18s11)
@[go_sem] theorem c18s12eq : U c18s12 (.seq (.block 1 (.seq (.ops c18r7) (.cond S7 c18s9 .skip))) c18s11) := fun _ _ _ _ _ => rfl
def c18s13 : SCode := (.seq (.seq (.ops c18r5) c18s6) c18s12)
@[go_sem] theorem c18s13eq : U c18s13 (.seq (.seq (.ops c18r5) c18s6) c18s12) := fun _ _ _ _ _ => rfl
def c18s14 : SCode := (.block 0 (.loop c18k c18s13))
@[go_sem] theorem c18s14eq : U c18s14 (.block 0 (.loop c18k c18s13)) := fun _ _ _ _ _ => rfl
@[go_sem] def c18r15 : List GOp := [mS 3 (.c (.bool true))]
def c18s16 : SCode := (.seq (.ops c18r15) .ret)
@[go_sem] theorem c18s16eq : U c18s16 (.seq (.ops c18r15) .ret) := fun _ _ _ _ _ => rfl
def c18s17 : SCode := (.seq (.seq (.ops c18r4) c18s14) c18s16)
@[go_sem] theorem c18s17eq : U c18s17 (.seq (.seq (.ops c18r4) c18s14) c18s16) := fun _ _ _ _ _ => rfl
def c18s18 : SCode := (.seq (.seq (.ops c18r1) (.cond S5 c18s3 .skip)) c18s17)
@[go_sem] theorem c18s18eq : U c18s18 (.seq (.seq (.ops c18r1) (.cond S5 c18s3 .skip)) c18s17) := fun _ _ _ _ _ => rfl
def c18 : Gx.Fn := ⟨39, c18k, (.seq (.ops c18r0) c18s18), [(.tmp S3)]⟩
theorem c18ok : stripFn Tryd.prog c18k Tryd.f18 = some c18 := by kernel_rfl

/- plexuslaw16.repeat -/
@[go_sem] def c19k : List Nat := [0, 1, 4, 5, 6, 9]
@[go_sem] def c19r0 : List GOp := [mS 2 (.c (.string ⟨⟨[]⟩⟩))]
@[go_sem] def c19r1 : List GOp := [mS 3 (.c (.string ⟨⟨[]⟩⟩))]
@[go_sem] def c19r2 : List GOp := [mS 4 (C 0)]
@[go_sem] def c19r3 : List GOp := [mT S4, mT S1, oS 5 (.v (.bin .lss T1 T0))]
def c19s4 : SCode := (.cond S5 .skip (.exit 0))
@[go_sem] theorem c19s4eq : U c19s4 (.cond S5 .skip (.exit 0)) := fun _ _ _ _ _ => rfl
@[go_sem] def c19r5 : List GOp := [mT S3, mT S0, oT (.v (.bin .add T1 T0)), mS 3 T0]
@[go_sem] def c19r6 : List GOp := [mT S4, oT (.v (.bin .add T0 (C 1))), mS 4 T0]
def c19s7 : SCode := (.ops c19r6)
@[go_sem] theorem c19s7eq : U c19s7 (.ops c19r6) := fun _ _ _ _ _ => rfl
def c19s8 : SCode := (.seq (.block 1 (.ops c19r5)) c19s7)
@[go_sem] theorem c19s8eq : U c19s8 (.seq (.block 1 (.ops c19r5)) c19s7) := fun _ _ _ _ _ => rfl
def c19s9 : SCode := (.seq (.seq (.ops c19r3) c19s4) c19s8)
@[go_sem] theorem c19s9eq : U c19s9 (.seq (.seq (.ops c19r3) c19s4) c19s8) := fun _ _ _ _ _ => rfl
def c19s10 : SCode := (.block 0 (.loop c19k c19s9))
@[go_sem] theorem c19s10eq : U c19s10 (.block 0 (.loop c19k c19s9)) := fun _ _ _ _ _ => rfl
@[go_sem] def c19r11 : List GOp := [mT S3, mS 2 T0]
def c19s12 : SCode := (.seq (.ops c19r11) .ret)
@[go_sem] theorem c19s12eq : U c19s12 (.seq (.ops c19r11) .ret) := fun _ _ _ _ _ => rfl
def c19s13 : SCode := (.seq (.seq (.ops c19r2) c19s10) c19s12)
@[go_sem] theorem c19s13eq : U c19s13 (.seq (.seq (.ops c19r2) c19s10) c19s12) := fun _ _ _ _ _ => rfl
def c19s14 : SCode := (.seq (.ops c19r1) c19s13)
@[go_sem] theorem c19s14eq : U c19s14 (.seq (.ops c19r1) c19s13) := fun _ _ _ _ _ => rfl
def c19 : Gx.Fn := ⟨16, c19k, (.seq (.ops c19r0) c19s14), [(.tmp S2)]⟩
theorem c19ok : stripFn Tryd.prog c19k Tryd.f19 = some c19 := by kernel_rfl

/- plexuslaw16.binary -/
@[go_sem] def c20k : List Nat := [0, 2, 3, 4, 7, 8, 10, 12, 14, 16, 18, 20, 22, 24]
@[go_sem] def c20r0 : List GOp := [mS 1 (.c (.string ⟨⟨[]⟩⟩)), mS 2 (C 0), mS 3 (C 0)]
@[go_sem] def c20r1 : List GOp := [mT S0, oT (.v (.cvi .u64 T0)), oS 4 (.v (.bin .rem T0 (.c (.int .u64 10))))]
@[go_sem] def c20r2 : List GOp := [oT (.v (.bin .eql S4 (.c (.int .u64 0)))), mS 5 T0]
@[go_sem] def c20r3 : List GOp := [mS 1 (.c (.string ⟨⟨[111, 114]⟩⟩)), mS 2 (C 31), mS 3 (C 0)]
def c20s4 : SCode := (.seq (.ops c20r3) .ret)
@[go_sem] theorem c20s4eq : U c20s4 (.seq (.ops c20r3) .ret) := fun _ _ _ _ _ => rfl
@[go_sem] def c20r5 : List GOp := [oT (.v (.bin .eql S4 (.c (.int .u64 1)))), mS 6 T0]
@[go_sem] def c20r6 : List GOp := [mS 1 (.c (.string ⟨⟨[97, 110, 100]⟩⟩)), mS 2 (C 32), mS 3 (C 1)]
def c20s7 : SCode := (.seq (.ops c20r6) .ret)
@[go_sem] theorem c20s7eq : U c20s7 (.seq (.ops c20r6) .ret) := fun _ _ _ _ _ => rfl
@[go_sem] def c20r8 : List GOp := [oT (.v (.bin .eql S4 (.c (.int .u64 2)))), mS 7 T0]
@[go_sem] def c20r9 : List GOp := [mS 1 (.c (.string ⟨⟨[60, 61]⟩⟩)), mS 2 (C 34), mS 3 (C 2)]
def c20s10 : SCode := (.seq (.ops c20r9) .ret)
@[go_sem] theorem c20s10eq : U c20s10 (.seq (.ops c20r9) .ret) := fun _ _ _ _ _ => rfl
@[go_sem] def c20r11 : List GOp := [oT (.v (.bin .eql S4 (.c (.int .u64 3)))), mS 8 T0]
@[go_sem] def c20r12 : List GOp := [mS 1 (.c (.string ⟨⟨[60]⟩⟩)), mS 2 (C 35), mS 3 (C 2)]
def c20s13 : SCode := (.seq (.ops c20r12) .ret)
@[go_sem] theorem c20s13eq : U c20s13 (.seq (.ops c20r12) .ret) := fun _ _ _ _ _ => rfl
@[go_sem] def c20r14 : List GOp := [oT (.v (.bin .eql S4 (.c (.int .u64 4)))), mS 9 T0]
@[go_sem] def c20r15 : List GOp := [mS 1 (.c (.string ⟨⟨[61, 61]⟩⟩)), mS 2 (C 36), mS 3 (C 2)]
def c20s16 : SCode := (.seq (.ops c20r15) .ret)
@[go_sem] theorem c20s16eq : U c20s16 (.seq (.ops c20r15) .ret) := fun _ _ _ _ _ => rfl
@[go_sem] def c20r17 : List GOp := [oT (.v (.bin .eql S4 (.c (.int .u64 5)))), mS 10 T0]
@[go_sem] def c20r18 : List GOp := [mS 1 (.c (.string ⟨⟨[105, 110]⟩⟩)), mS 2 (C 37), mS 3 (C 2)]
def c20s19 : SCode := (.seq (.ops c20r18) .ret)
@[go_sem] theorem c20s19eq : U c20s19 (.seq (.ops c20r18) .ret) := fun _ _ _ _ _ => rfl
@[go_sem] def c20r20 : List GOp := [oT (.v (.bin .eql S4 (.c (.int .u64 6)))), mS 11 T0]
@[go_sem] def c20r21 : List GOp := [mS 1 (.c (.string ⟨⟨[108, 101, 113]⟩⟩)), mS 2 (C 38), mS 3 (C 2)]
def c20s22 : SCode := (.seq (.ops c20r21) .ret)
@[go_sem] theorem c20s22eq : U c20s22 (.seq (.ops c20r21) .ret) := fun _ _ _ _ _ => rfl
@[go_sem] def c20r23 : List GOp := [oT (.v (.bin .eql S4 (.c (.int .u64 7)))), mS 12 T0]
@[go_sem] def c20r24 : List GOp := [mS 1 (.c (.string ⟨⟨[106, 111, 105, 110]⟩⟩)), mS 2 (C 39), mS 3 (C 3)]
def c20s25 : SCode := (.seq (.ops c20r24) .ret)
@[go_sem] theorem c20s25eq : U c20s25 (.seq (.ops c20r24) .ret) := fun _ _ _ _ _ => rfl
@[go_sem] def c20r26 : List GOp := [oT (.v (.bin .eql S4 (.c (.int .u64 8)))), mS 13 T0]
@[go_sem] def c20r27 : List GOp := [mS 1 (.c (.string ⟨⟨[43]⟩⟩)), mS 2 (C 40), mS 3 (C 4)]
def c20s28 : SCode := (.seq (.ops c20r27) .ret)
@[go_sem] theorem c20s28eq : U c20s28 (.seq (.ops c20r27) .ret) := fun _ _ _ _ _ => rfl
def c20s29 : SCode := (.cond S13 c20s28 .skip)
@[go_sem] theorem c20s29eq : U c20s29 (.cond S13 c20s28 .skip) := fun _ _ _ _ _ => rfl
def c20s30 : SCode := (.seq (.ops c20r26) c20s29)
@[go_sem] theorem c20s30eq : U c20s30 (.seq (.ops c20r26) c20s29) := fun _ _ _ _ _ => rfl
def c20s31 : SCode := (.cond S12 c20s25 c20s30)
@[go_sem] theorem c20s31eq : U c20s31 (.cond S12 c20s25 c20s30) := fun _ _ _ _ _ => rfl
def c20s32 : SCode := (.seq (.ops c20r23) c20s31)
@[go_sem] theorem c20s32eq : U c20s32 (.seq (.ops c20r23) c20s31) := fun _ _ _ _ _ => rfl
def c20s33 : SCode := (.cond S11 c20s22 c20s32)
@[go_sem] theorem c20s33eq : U c20s33 (.cond S11 c20s22 c20s32) := fun _ _ _ _ _ => rfl
def c20s34 : SCode := (.seq (.ops c20r20) c20s33)
@[go_sem] theorem c20s34eq : U c20s34 (.seq (.ops c20r20) c20s33) := fun _ _ _ _ _ => rfl
def c20s35 : SCode := (.cond S10 c20s19 c20s34)
@[go_sem] theorem c20s35eq : U c20s35 (.cond S10 c20s19 c20s34) := fun _ _ _ _ _ => rfl
def c20s36 : SCode := (.seq (.ops c20r17) c20s35)
@[go_sem] theorem c20s36eq : U c20s36 (.seq (.ops c20r17) c20s35) := fun _ _ _ _ _ => rfl
def c20s37 : SCode := (.cond S9 c20s16 c20s36)
@[go_sem] theorem c20s37eq : U c20s37 (.cond S9 c20s16 c20s36) := fun _ _ _ _ _ => rfl
def c20s38 : SCode := (.seq (.ops c20r14) c20s37)
@[go_sem] theorem c20s38eq : U c20s38 (.seq (.ops c20r14) c20s37) := fun _ _ _ _ _ => rfl
def c20s39 : SCode := (.cond S8 c20s13 c20s38)
@[go_sem] theorem c20s39eq : U c20s39 (.cond S8 c20s13 c20s38) := fun _ _ _ _ _ => rfl
def c20s40 : SCode := (.seq (.ops c20r11) c20s39)
@[go_sem] theorem c20s40eq : U c20s40 (.seq (.ops c20r11) c20s39) := fun _ _ _ _ _ => rfl
def c20s41 : SCode := (.cond S7 c20s10 c20s40)
@[go_sem] theorem c20s41eq : U c20s41 (.cond S7 c20s10 c20s40) := fun _ _ _ _ _ => rfl
def c20s42 : SCode := (.seq (.ops c20r8) c20s41)
@[go_sem] theorem c20s42eq : U c20s42 (.seq (.ops c20r8) c20s41) := fun _ _ _ _ _ => rfl
def c20s43 : SCode := (.seq (.ops c20r5) (.cond S6 c20s7 c20s42))
@[go_sem] theorem c20s43eq : U c20s43 (.seq (.ops c20r5) (.cond S6 c20s7 c20s42)) := fun _ _ _ _ _ => rfl
def c20s44 : SCode := (.block 0 (.seq (.ops c20r2) (.cond S5 c20s4 c20s43)))
@[go_sem] theorem c20s44eq : U c20s44 (.block 0 (.seq (.ops c20r2) (.cond S5 c20s4 c20s43))) := fun _ _ _ _ _ => rfl
@[go_sem] def c20r45 : List GOp := [mS 1 (.c (.string ⟨⟨[45]⟩⟩)), mS 2 (C 41), mS 3 (C 4)]
def c20s46 : SCode := (.seq (.ops c20r45) .ret)
@[go_sem] theorem c20s46eq : U c20s46 (.seq (.ops c20r45) .ret) := fun _ _ _ _ _ => rfl
def c20s47 : SCode := (.seq (.seq (.ops c20r1) c20s44) c20s46)
@[go_sem] theorem c20s47eq : U c20s47 (.seq (.seq (.ops c20r1) c20s44) c20s46) := fun _ _ _ _ _ => rfl
def c20 : Gx.Fn := ⟨26, c20k, (.seq (.ops c20r0) c20s47), [(.tmp S1), (.tmp S2), (.tmp S3)]⟩
theorem c20ok : stripFn Tryd.prog c20k Tryd.f20 = some c20 := by kernel_rfl

/- plexusref16.room -/
@[go_sem] def c23k : List Nat := [0, 1, 2, 4, 5, 16]
@[go_sem] def c23r0 : List GOp := [oS 2 (.bx 24 S0), mS 3 (C 0)]
@[go_sem] def c23r1 : List GOp := [mT S1, oT (.v (.bin .sub T0 (C 1))), mS 1 T0]
@[go_sem] def c23r2 : List GOp := [mS 4 (C 0)]
@[go_sem] def c23r3 : List GOp := [mT S4, fT 4 S2, lT T0, nT T0, oT (.v (.bin .lss T3 T0)), mT T0, (.sel T0 true [(.op (.v (.mv S1))), (.op (.v (.bin .geq T0 (C 0))))] (.s 5) T0 (.c (.bool false)))]
def c23s4 : SCode := (.cond S5 .skip (.exit 0))
@[go_sem] theorem c23s4eq : U c23s4 (.cond S5 .skip (.exit 0)) := fun _ _ _ _ _ => rfl
@[go_sem] def c23r5 : List GOp := [fT 4 S2, lT T0, mT S4, oT (.v (.ix 5 T1 T0)), oT (.ld (some 5) T0), mT S1, oT (.call 23 [T1, T0]), mS 1 T0]
@[go_sem] def c23r6 : List GOp := [mT S4, oT (.v (.bin .add T0 (C 1))), mS 4 T0]
def c23s7 : SCode := (.ops c23r6)
@[go_sem] theorem c23s7eq : U c23s7 (.ops c23r6) := fun _ _ _ _ _ => rfl
def c23s8 : SCode := (.seq (.block 1 (.ops c23r5)) c23s7)
@[go_sem] theorem c23s8eq : U c23s8 (.seq (.block 1 (.ops c23r5)) c23s7) := fun _ _ _ _ _ => rfl
def c23s9 : SCode := (.seq (.seq (.ops c23r3) c23s4) c23s8)
@[go_sem] theorem c23s9eq : U c23s9 (.seq (.seq (.ops c23r3) c23s4) c23s8) := fun _ _ _ _ _ => rfl
def c23s10 : SCode := (.block 0 (.loop c23k c23s9))
@[go_sem] theorem c23s10eq : U c23s10 (.block 0 (.loop c23k c23s9)) := fun _ _ _ _ _ => rfl
@[go_sem] def c23r11 : List GOp := [mT S1, mS 3 T0]
def c23s12 : SCode := (.seq (.ops c23r11) .ret)
@[go_sem] theorem c23s12eq : U c23s12 (.seq (.ops c23r11) .ret) := fun _ _ _ _ _ => rfl
def c23s13 : SCode := (.seq (.seq (.ops c23r2) c23s10) c23s12)
@[go_sem] theorem c23s13eq : U c23s13 (.seq (.seq (.ops c23r2) c23s10) c23s12) := fun _ _ _ _ _ => rfl
def c23s14 : SCode := (.seq (.ops c23r1) c23s13)
@[go_sem] theorem c23s14eq : U c23s14 (.seq (.ops c23r1) c23s13) := fun _ _ _ _ _ => rfl
def c23 : Gx.Fn := ⟨27, c23k, (.seq (.ops c23r0) c23s14), [(.tmp S3)]⟩
theorem c23ok : stripFn Tryd.prog c23k Tryd.f23 = some c23 := by kernel_rfl

/- parser.Same -/
@[go_sem] def c12k : List Nat := [0, 1, 2, 3, 4, 5, 33, 36, 37, 38, 51]
@[go_sem] def c12r0 : List GOp := [oS 2 (.bx 24 S0), oS 3 (.bx 24 S1), mS 4 (.c (.bool false))]
@[go_sem] def c12r1 : List GOp := [fT 0 S2, lT T0, fT 0 S3, lT T0, oT (.v (.bin .neq T2 T0)), mT T0, (.sel T0 false [(.op (.v (.fa 1 S2))), (.op (.ld none T0)), (.op (.v (.fa 1 S3))), (.op (.ld none T0)), (.op (.v (.bin .neq T2 T0)))] .t (.c (.bool true)) T0), mT T0, (.sel T0 false [(.op (.v (.fa 2 S2))), (.op (.ld none T0)), (.op (.v (.fa 2 S3))), (.op (.ld none T0)), (.op (.v (.bin .neq T2 T0)))] .t (.c (.bool true)) T0), mT T0, (.sel T0 false [(.op (.v (.fa 4 S2))), (.op (.ld none T0)), (.op (.v (.len T0))), (.op (.v (.fa 4 S3))), (.op (.ld none T0)), (.op (.v (.len T0))), (.op (.v (.bin .neq T3 T0)))] (.s 6) (.c (.bool true)) T0)]
@[go_sem] def c12r2 : List GOp := [mS 4 (.c (.bool false))]
def c12s3 : SCode := (.seq (.ops c12r2) .ret)
@[go_sem] theorem c12s3eq : U c12s3 (.seq (.ops c12r2) .ret) := fun _ _ _ _ _ => rfl
@[go_sem] def c12r4 : List GOp := [fT 4 S2, lT T0, oS 7 (.v (.len T0)), mS 8 (C 0)]
@[go_sem] def c12r5 : List GOp := [oS 9 (.v (.bin .lss S8 S7))]
@[go_sem] def c12r6 : List GOp := [mT S8, mS 5 T0]
@[go_sem] def c12d7 : DT := (rf 4 S2 [10] (rl T0 [10] (rm S5 [10] (.rd none .t (.v (.ix 5 T1 T0)) [10] (.rd none .t (.ld (some 5) T0) [10] (rf 4 S3 [10] (rl T0 [10] (rm S5 [10] (.rd none .t (.v (.ix 5 T1 T0)) [10] (.rd none .t (.ld (some 5) T0) [10] (.ef 10 none .t (.call 12 [T5, T0]) (.rd none (.s 10) (.v (.un .not T0)) [] .done))))))))))))
@[go_sem] def c12r8 : List GOp := [mS 4 (.c (.bool false))]
def c12s9 : SCode := (.seq (.ops c12r8) .ret)
@[go_sem] theorem c12s9eq : U c12s9 (.seq (.ops c12r8) .ret) := fun _ _ _ _ _ => rfl
def c12s10 : SCode := (.seq (.de c12d7) (.cond S10 c12s9 .skip))
@[go_sem] theorem c12s10eq : U c12s10 (.seq (.de c12d7) (.cond S10 c12s9 .skip)) := fun _ _ _ _ _ => rfl
@[go_sem] def c12r11 : List GOp := [oT (.v (.bin .add S8 (C 1))), mS 8 T0]
def c12s12 : SCode := (.ops c12r11)
@[go_sem] theorem c12s12eq : U c12s12 (.ops c12r11) := fun _ _ _ _ _ => rfl
def c12s13 : SCode := (.seq (.block 1 (.seq (.ops c12r6) c12s10)) c12s12)
@[go_sem] theorem c12s13eq : U c12s13 (.seq (.block 1 (.seq (.ops c12r6) c12s10)) c12s12) := fun _ _ _ _ _ => rfl
def c12s14 : SCode := (.seq (.cond S9 .skip (.exit 0)) c12s13)
@[go_sem] theorem c12s14eq : U c12s14 (.seq (.cond S9 .skip (.exit 0)) c12s13) := fun _ _ _ _ _ => rfl
def c12s15 : SCode := (.seq (.ops c12r5) c12s14)
@[go_sem] theorem c12s15eq : U c12s15 (.seq (.ops c12r5) c12s14) := fun _ _ _ _ _ => rfl
def c12s16 : SCode := (.block 0 (.loop c12k c12s15))
@[go_sem] theorem c12s16eq : U c12s16 (.block 0 (.loop c12k c12s15)) := fun _ _ _ _ _ => rfl
@[go_sem] def c12r17 : List GOp := [mS 4 (.c (.bool true))]
def c12s18 : SCode := (.seq (.ops c12r17) .ret)
@[go_sem] theorem c12s18eq : U c12s18 (.seq (.ops c12r17) .ret) := fun _ _ _ _ _ => rfl
def c12s19 : SCode := (.seq (.seq (.ops c12r4) c12s16) c12s18)
@[go_sem] theorem c12s19eq : U c12s19 (.seq (.seq (.ops c12r4) c12s16) c12s18) := fun _ _ _ _ _ => rfl
def c12s20 : SCode := (.seq (.seq (.ops c12r1) (.cond S6 c12s3 .skip)) c12s19)
@[go_sem] theorem c12s20eq : U c12s20 (.seq (.seq (.ops c12r1) (.cond S6 c12s3 .skip)) c12s19) := fun _ _ _ _ _ => rfl
def c12 : Gx.Fn := ⟨53, c12k, (.seq (.ops c12r0) c12s20), [(.tmp S4)]⟩
theorem c12ok : stripFn Tryd.prog c12k Tryd.f12 = some c12 := by kernel_rfl

/- parser.Size -/
@[go_sem] def c14k : List Nat := [0, 1, 2, 3, 5, 7, 8, 9, 10]
@[go_sem] def c14r0 : List GOp := [oS 1 (.bx 24 S0), mS 2 (C 0)]
@[go_sem] def c14r1 : List GOp := [mS 3 (C 1)]
@[go_sem] def c14r2 : List GOp := [fT 4 S1, oS 5 (.ld none T0), oS 6 (.v (.len S5)), mS 7 (C 0)]
@[go_sem] def c14r3 : List GOp := [oS 8 (.v (.bin .lss S7 S6))]
@[go_sem] def c14r4 : List GOp := [oT (.v (.ix 5 S5 S7)), oT (.ld (some 5) T0), oS 4 (.al 24 [(I 0), (.string ⟨⟨[]⟩⟩), (I 0), (I 0), Z]), oN (.st 5 S4 T0)]
@[go_sem] def c14r5 : List GOp := [mT S3, oT (.ld (some 5) S4), oT (.call 14 [T0]), oT (.v (.bin .add T2 T0)), mS 3 T0]
def c14s6 : SCode := (.ops c14r5)
@[go_sem] theorem c14s6eq : U c14s6 (.ops c14r5) := fun _ _ _ _ _ => rfl
@[go_sem] def c14r7 : List GOp := [oT (.v (.bin .add S7 (C 1))), mS 7 T0]
def c14s8 : SCode := (.ops c14r7)
@[go_sem] theorem c14s8eq : U c14s8 (.ops c14r7) := fun _ _ _ _ _ => rfl
def c14s9 : SCode := (.seq (.block 1 (.seq (.ops c14r4) c14s6)) c14s8)
@[go_sem] theorem c14s9eq : U c14s9 (.seq (.block 1 (.seq (.ops c14r4) c14s6)) c14s8) := fun _ _ _ _ _ => rfl
def c14s10 : SCode := (.seq (.cond S8 .skip (.exit 0)) c14s9)
@[go_sem] theorem c14s10eq : U c14s10 (.seq (.cond S8 .skip (.exit 0)) c14s9) := fun _ _ _ _ _ => rfl
def c14s11 : SCode := (.seq (.ops c14r3) c14s10)
@[go_sem] theorem c14s11eq : U c14s11 (.seq (.ops c14r3) c14s10) := fun _ _ _ _ _ => rfl
def c14s12 : SCode := (.block 0 (.loop c14k c14s11))
@[go_sem] theorem c14s12eq : U c14s12 (.block 0 (.loop c14k c14s11)) := fun _ _ _ _ _ => rfl
@[go_sem] def c14r13 : List GOp := [mT S3, mS 2 T0]
def c14s14 : SCode := (.seq (.ops c14r13) .ret)
@[go_sem] theorem c14s14eq : U c14s14 (.seq (.ops c14r13) .ret) := fun _ _ _ _ _ => rfl
def c14s15 : SCode := (.seq (.seq (.ops c14r2) c14s12) c14s14)
@[go_sem] theorem c14s15eq : U c14s15 (.seq (.seq (.ops c14r2) c14s12) c14s14) := fun _ _ _ _ _ => rfl
def c14s16 : SCode := (.seq (.ops c14r1) c14s15)
@[go_sem] theorem c14s16eq : U c14s16 (.seq (.ops c14r1) c14s15) := fun _ _ _ _ _ => rfl
def c14 : Gx.Fn := ⟨19, c14k, (.seq (.ops c14r0) c14s16), [(.tmp S2)]⟩
theorem c14ok : stripFn Tryd.prog c14k Tryd.f14 = some c14 := by kernel_rfl

/- parser.Expression -/
@[go_sem] def c16k : List Nat := [0, 2, 3]
@[go_sem] def c16r0 : List GOp := [oS 1 (.al 24 [(I 0), (.string ⟨⟨[]⟩⟩), (I 0), (I 0), Z]), oS 2 (.al 31 [(I 0), (I 0)])]
@[go_sem] def c16r1 : List GOp := [mT S0, oT (.call 24 [T0, (.f 25)]), oT (.v (.ext T0 0)), oT (.v (.ext T1 1)), oN (.st 5 S1 T1), oN (.st 2 S2 T0)]
def c16s2 : SCode := (.seq (.ops c16r1) .ret)
@[go_sem] theorem c16s2eq : U c16s2 (.seq (.ops c16r1) .ret) := fun _ _ _ _ _ => rfl
def c16 : Gx.Fn := ⟨8, c16k, (.seq (.ops c16r0) c16s2), [(.cell S1 (some 5)), (.cell S2 (some 2))]⟩
theorem c16ok : stripFn Tryd.prog c16k Tryd.f16 = some c16 := by kernel_rfl

/- parser.Parse -/
@[go_sem] def c21k : List Nat := [0, 2, 3]
@[go_sem] def c21r0 : List GOp := [oS 1 (.al 24 [(I 0), (.string ⟨⟨[]⟩⟩), (I 0), (I 0), Z]), oS 2 (.al 31 [(I 0), (I 0)])]
@[go_sem] def c21r1 : List GOp := [mT S0, oT (.call 24 [T0, (.f 28)]), oT (.v (.ext T0 0)), oT (.v (.ext T1 1)), oN (.st 5 S1 T1), oN (.st 2 S2 T0)]
def c21s2 : SCode := (.seq (.ops c21r1) .ret)
@[go_sem] theorem c21s2eq : U c21s2 (.seq (.ops c21r1) .ret) := fun _ _ _ _ _ => rfl
def c21 : Gx.Fn := ⟨8, c21k, (.seq (.ops c21r0) c21s2), [(.cell S1 (some 5)), (.cell S2 (some 2))]⟩
theorem c21ok : stripFn Tryd.prog c21k Tryd.f21 = some c21 := by kernel_rfl

end Go.Proofs.YtbgjgaaobnbijaaDoor
