/- Generated: the stripped code of Go functions, each held against the loaded program. -/
import Derived.Test.YtbgjgaaobnbijaaDoorProg
import Derived.Test.YtbgjgaaobnbijaaDoorGx20
namespace Go.Proofs.YtbgjgaaobnbijaaDoor
open Gx Go

/- lexer.Lex -/
@[go_sem] def c17k : List Nat := [0, 2, 3, 4, 5, 6, 7, 8, 18, 26]
@[go_sem] def c17r0 : List GOp := [mS 1 (.c Z), oS 2 (.al 31 [(I 0), (I 0)])]
@[go_sem] def c17r1 : List GOp := [mS 3 (.c Z)]
@[go_sem] def c17r2 : List GOp := [mS 4 (C 0)]
@[go_sem] def c17r3 : List GOp := [mT S0, mT S4, oT (.call 27 [T1, T0]), mT T0, oT (.v (.ext T0 0)), oT (.v (.ext T1 1)), oT (.v (.ext T2 2)), oS 5 (.al 39 [(I 0), (.string ⟨⟨[]⟩⟩), (I 0), (I 0)]), oS 7 (.al 31 [(I 0), (I 0)]), oN (.st 4 S5 T2), mS 6 T1, oN (.st 2 S7 T0)]
@[go_sem] def c17r4 : List GOp := [fT 0 S7, lT T0, oS 8 (.v (.bin .neq T0 (C 0)))]
@[go_sem] def c17d5 : DT := (.rd none .t (.ld (some 2) S7) [2] (.rd none (.s 1) (.v (.mv (.c Z))) [2] (.ef 2 none .no (.st 2 S2 T0) .done)))
def c17s6 : SCode := (.cond S8 (.seq (.de c17d5) .ret) .skip)
@[go_sem] theorem c17s6eq : U c17s6 (.cond S8 (.seq (.de c17d5) .ret) .skip) := fun _ _ _ _ _ => rfl
@[go_sem] def c17r7 : List GOp := [mT S3, oT (.ld (some 4) S5), oT (.bs 39 1 [(I 0), (.string ⟨⟨[]⟩⟩), (I 0), (I 0)] [(0, (4, T0))]), oT (.ap 34 34 T2 T0), mS 3 T0]
@[go_sem] def c17r8 : List GOp := [fT 0 S5, lT T0, oS 9 (.v (.bin .eql T0 (C 6)))]
@[go_sem] def c17r9 : List GOp := [mT S3, oT (.v (.bld [(I 0), (I 0)] [])), mS 1 T1, oN (.st 2 S2 T0)]
def c17s10 : SCode := (.seq (.ops c17r9) .ret)
@[go_sem] theorem c17s10eq : U c17s10 (.seq (.ops c17r9) .ret) := fun _ _ _ _ _ => rfl
@[go_sem] def c17r11 : List GOp := [mT S6, mS 4 T0]
def c17s12 : SCode := (.ops c17r11)
@[go_sem] theorem c17s12eq : U c17s12 (.ops c17r11) := fun _ _ _ _ _ => rfl
def c17s13 : SCode := (.seq (.seq (.ops c17r8) (.cond S9 c17s10 .skip)) c17s12)
@[go_sem] theorem c17s13eq : U c17s13 (.seq (.seq (.ops c17r8) (.cond S9 c17s10 .skip)) c17s12) := fun _ _ _ _ _ => rfl
def c17s14 : SCode := (.seq (.ops c17r7) c17s13)
@[go_sem] theorem c17s14eq : U c17s14 (.seq (.ops c17r7) c17s13) := fun _ _ _ _ _ => rfl
def c17s15 : SCode := (.seq (.seq (.ops c17r4) c17s6) c17s14)
@[go_sem] theorem c17s15eq : U c17s15 (.seq (.seq (.ops c17r4) c17s6) c17s14) := fun _ _ _ _ _ => rfl
def c17s16 : SCode := (.block 1 (.seq (.ops c17r3) c17s15))
@[go_sem] theorem c17s16eq : U c17s16 (.block 1 (.seq (.ops c17r3) c17s15)) := fun _ _ _ _ _ => rfl
def c17s17 : SCode := (.block 0 (.loop c17k c17s16))
@[go_sem] theorem c17s17eq : U c17s17 (.block 0 (.loop c17k c17s16)) := fun _ _ _ _ _ => rfl
def c17s18 : SCode := (.seq (.ops c17r2) c17s17)
@[go_sem] theorem c17s18eq : U c17s18 (.seq (.ops c17r2) c17s17) := fun _ _ _ _ _ => rfl
def c17s19 : SCode := (.seq (.ops c17r1) c17s18)
@[go_sem] theorem c17s19eq : U c17s19 (.seq (.ops c17r1) c17s18) := fun _ _ _ _ _ => rfl
def c17 : Gx.Fn := ⟨30, c17k, (.seq (.ops c17r0) c17s19), [(.tmp S1), (.cell S2 (some 2))]⟩
theorem c17ok : stripFn Tryd.prog c17k Tryd.f17 = some c17 := by kernel_rfl

/- lexer.Text -/
@[go_sem] def c22k : List Nat := [0, 2, 3, 4, 5, 6, 7, 8, 9, 10, 11, 12, 13, 34, 37, 45, 50]
@[go_sem] def c22r0 : List GOp := [mS 1 (.c (.string ⟨⟨[]⟩⟩)), mS 2 (C 0)]
@[go_sem] def c22r1 : List GOp := [mS 3 (.c Z)]
@[go_sem] def c22r2 : List GOp := [mS 9 S0, oS 10 (.v (.len S9)), mS 11 (C 0)]
@[go_sem] def c22r3 : List GOp := [oS 12 (.v (.bin .lss S11 S10))]
@[go_sem] def c22r4 : List GOp := [mT S11, oT (.v (.ix 4 S9 S11)), oT (.ld (some 4) T0), oS 5 (.al 39 [(I 0), (.string ⟨⟨[]⟩⟩), (I 0), (I 0)]), mS 4 T2, oN (.st 4 S5 T0)]
@[go_sem] def c22r5 : List GOp := [oT (.ld (some 4) S5), oT (.call 31 [T0]), mT T0, oT (.v (.ext T0 0)), oT (.v (.ext T1 1)), mS 6 T1, mS 7 T0]
@[go_sem] def c22r6 : List GOp := [mT S7, oT (.v (.un .not T0)), mT T0, (.sel T0 false [(.op (.v (.fa 0 S5))), (.op (.ld none T0)), (.op (.v (.bin .eql T0 (C 6)))), (.op (.v (.mv S4))), (.op (.v (.mv S0))), (.op (.v (.len T0))), (.op (.v (.bin .sub T0 (C 1)))), (.op (.v (.bin .eql T3 T0))), (.op (.v (.beq true T5 T0)))] (.s 13) (.c (.bool true)) T0)]
@[go_sem] def c22r7 : List GOp := [mS 1 (.c (.string ⟨⟨[]⟩⟩)), mS 2 (C 1)]
def c22s8 : SCode := (.seq (.ops c22r7) .ret)
@[go_sem] theorem c22s8eq : U c22s8 (.seq (.ops c22r7) .ret) := fun _ _ _ _ _ => rfl
@[go_sem] def c22r9 : List GOp := [fT 0 S5, lT T0, oS 14 (.v (.bin .neq T0 (C 6)))]
@[go_sem] def c22r10 : List GOp := [mT S3, mT S6, oT (.bs 9 1 [(.string ⟨⟨[]⟩⟩)] [(0, (1, T0))]), oT (.ap 62 62 T2 T0), mS 3 T0]
def c22s11 : SCode := (.cond S14 (.ops c22r10) .skip)
@[go_sem] theorem c22s11eq : U c22s11 (.cond S14 (.ops c22r10) .skip) := fun _ _ _ _ _ => rfl
def c22s12 : SCode := (.seq (.ops c22r9) c22s11)
@[go_sem] theorem c22s12eq : U c22s12 (.seq (.ops c22r9) c22s11) := fun _ _ _ _ _ => rfl
def c22s13 : SCode := (.seq (.seq (.ops c22r6) (.cond S13 c22s8 .skip)) c22s12)
@[go_sem] theorem c22s13eq : U c22s13 (.seq (.seq (.ops c22r6) (.cond S13 c22s8 .skip)) c22s12) := fun _ _ _ _ _ => rfl
def c22s14 : SCode := (.seq (.ops c22r5) c22s13)
@[go_sem] theorem c22s14eq : U c22s14 (.seq (.ops c22r5) c22s13) := fun _ _ _ _ _ => rfl
@[go_sem] def c22r15 : List GOp := [oT (.v (.bin .add S11 (C 1))), mS 11 T0]
def c22s16 : SCode := (.ops c22r15)
@[go_sem] theorem c22s16eq : U c22s16 (.ops c22r15) := fun _ _ _ _ _ => rfl
def c22s17 : SCode := (.seq (.block 1 (.seq (.ops c22r4) c22s14)) c22s16)
@[go_sem] theorem c22s17eq : U c22s17 (.seq (.block 1 (.seq (.ops c22r4) c22s14)) c22s16) := fun _ _ _ _ _ => rfl
def c22s18 : SCode := (.seq (.cond S12 .skip (.exit 0)) c22s17)
@[go_sem] theorem c22s18eq : U c22s18 (.seq (.cond S12 .skip (.exit 0)) c22s17) := fun _ _ _ _ _ => rfl
def c22s19 : SCode := (.seq (.ops c22r3) c22s18)
@[go_sem] theorem c22s19eq : U c22s19 (.seq (.ops c22r3) c22s18) := fun _ _ _ _ _ => rfl
def c22s20 : SCode := (.block 0 (.loop c22k c22s19))
@[go_sem] theorem c22s20eq : U c22s20 (.block 0 (.loop c22k c22s19)) := fun _ _ _ _ _ => rfl
@[go_sem] def c22r21 : List GOp := [mT S0, nT T0, oS 15 (.v (.bin .eql T0 (C 0)))]
@[go_sem] def c22r22 : List GOp := [mS 1 (.c (.string ⟨⟨[]⟩⟩)), mS 2 (C 1)]
def c22s23 : SCode := (.seq (.ops c22r22) .ret)
@[go_sem] theorem c22s23eq : U c22s23 (.seq (.ops c22r22) .ret) := fun _ _ _ _ _ => rfl
def c22s24 : SCode := (.cond S15 c22s23 .skip)
@[go_sem] theorem c22s24eq : U c22s24 (.cond S15 c22s23 .skip) := fun _ _ _ _ _ => rfl
@[go_sem] def c22r25 : List GOp := [mT S3, oT (.call 32 [T0, (.c (.string ⟨⟨[32]⟩⟩))]), mS 8 T0]
@[go_sem] def c22r26 : List GOp := [mT S8, oT (.v (.slen T0)), oS 16 (.v (.bin .gtr T0 (C 65536)))]
@[go_sem] def c22r27 : List GOp := [mS 1 (.c (.string ⟨⟨[]⟩⟩)), mS 2 (C 6)]
def c22s28 : SCode := (.seq (.ops c22r27) .ret)
@[go_sem] theorem c22s28eq : U c22s28 (.seq (.ops c22r27) .ret) := fun _ _ _ _ _ => rfl
def c22s29 : SCode := (.cond S16 c22s28 .skip)
@[go_sem] theorem c22s29eq : U c22s29 (.cond S16 c22s28 .skip) := fun _ _ _ _ _ => rfl
@[go_sem] def c22r30 : List GOp := [mT S8, mS 1 T0, mS 2 (C 0)]
def c22s31 : SCode := (.seq (.ops c22r30) .ret)
@[go_sem] theorem c22s31eq : U c22s31 (.seq (.ops c22r30) .ret) := fun _ _ _ _ _ => rfl
def c22s32 : SCode := (.seq (.seq (.ops c22r26) c22s29) c22s31)
@[go_sem] theorem c22s32eq : U c22s32 (.seq (.seq (.ops c22r26) c22s29) c22s31) := fun _ _ _ _ _ => rfl
def c22s33 : SCode := (.seq (.ops c22r25) c22s32)
@[go_sem] theorem c22s33eq : U c22s33 (.seq (.ops c22r25) c22s32) := fun _ _ _ _ _ => rfl
def c22s34 : SCode := (.seq (.seq (.ops c22r21) c22s24) c22s33)
@[go_sem] theorem c22s34eq : U c22s34 (.seq (.seq (.ops c22r21) c22s24) c22s33) := fun _ _ _ _ _ => rfl
def c22s35 : SCode := (.seq (.seq (.ops c22r2) c22s20) c22s34)
@[go_sem] theorem c22s35eq : U c22s35 (.seq (.seq (.ops c22r2) c22s20) c22s34) := fun _ _ _ _ _ => rfl
def c22s36 : SCode := (.seq (.ops c22r1) c22s35)
@[go_sem] theorem c22s36eq : U c22s36 (.seq (.ops c22r1) c22s35) := fun _ _ _ _ _ => rfl
def c22 : Gx.Fn := ⟨52, c22k, (.seq (.ops c22r0) c22s36), [(.tmp S1), (.tmp S2)]⟩
theorem c22ok : stripFn Tryd.prog c22k Tryd.f22 = some c22 := by kernel_rfl

/- lexer.Next -/
@[go_sem] def c27k : List Nat := [0, 1, 4, 5, 6, 7, 8, 9, 10, 13, 23, 37]
@[go_sem] def c27r0 : List GOp := [oS 2 (.al 39 [(I 0), (.string ⟨⟨[]⟩⟩), (I 0), (I 0)]), mS 3 (C 0), oS 4 (.al 31 [(I 0), (I 0)])]
@[go_sem] def c27r1 : List GOp := [mT S0, oT (.v (.slen T0)), oS 9 (.v (.bin .gtr T0 (C 65536)))]
@[go_sem] def c27r2 : List GOp := [oT (.v (.bld [(I 0), (.string ⟨⟨[]⟩⟩), (I 0), (I 0)] [])), oT (.v (.bld [(I 0), (I 0)] [(0, (1, (C 6))), (1, (1, (C 65536)))])), oN (.st 4 S2 T1), mS 3 (C 0), oN (.st 2 S4 T0)]
def c27s3 : SCode := (.seq (.ops c27r2) .ret)
@[go_sem] theorem c27s3eq : U c27s3 (.seq (.ops c27r2) .ret) := fun _ _ _ _ _ => rfl
@[go_sem] def c27r4 : List GOp := [mT S1, oT (.v (.bin .lss T0 (C 0))), mT T0, (.sel T0 false [(.op (.v (.mv S1))), (.op (.v (.mv S0))), (.op (.v (.slen T0))), (.op (.v (.bin .gtr T2 T0)))] (.s 10) (.c (.bool true)) T0)]
@[go_sem] def c27r5 : List GOp := [oT (.v (.bld [(I 0), (.string ⟨⟨[]⟩⟩), (I 0), (I 0)] [])), oT (.v (.bld [(I 0), (I 0)] [(0, (1, (C 1)))])), oN (.st 4 S2 T1), mS 3 (C 0), oN (.st 2 S4 T0)]
def c27s6 : SCode := (.seq (.ops c27r5) .ret)
@[go_sem] theorem c27s6eq : U c27s6 (.seq (.ops c27r5) .ret) := fun _ _ _ _ _ => rfl
@[go_sem] def c27r7 : List GOp := [mT S0, mT S1, oT (.v (.bld [(.string ⟨⟨[]⟩⟩), (I 0)] [(0, (1, T1)), (1, (1, T0))])), oS 5 (.al 71 [(.string ⟨⟨[]⟩⟩), (I 0)]), oN (.st 2 S5 T0)]
@[go_sem] def c27r8 : List GOp := [oT (.call 40 [S5])]
@[go_sem] def c27r9 : List GOp := [fT 1 S5, lT T0, mS 6 T0]
@[go_sem] def c27r10 : List GOp := [oT (.call 41 [S5]), mT T0, oT (.v (.ext T0 0)), oT (.v (.ext T1 1)), oS 7 (.al 39 [(I 0), (.string ⟨⟨[]⟩⟩), (I 0), (I 0)]), oN (.st 4 S7 T1), mS 8 T0]
@[go_sem] def c27r11 : List GOp := [mT S8, oS 11 (.v (.bin .neq T0 (C 0)))]
@[go_sem] def c27r12 : List GOp := [oT (.v (.bld [(I 0), (.string ⟨⟨[]⟩⟩), (I 0), (I 0)] [])), mT S8, mT S6, oT (.v (.bld [(I 0), (I 0)] [(0, (1, T1)), (1, (1, T0))])), oN (.st 4 S2 T3), mS 3 (C 0), oN (.st 2 S4 T0)]
def c27s13 : SCode := (.seq (.ops c27r12) .ret)
@[go_sem] theorem c27s13eq : U c27s13 (.seq (.ops c27r12) .ret) := fun _ _ _ _ _ => rfl
def c27s14 : SCode := (.cond S11 c27s13 .skip)
@[go_sem] theorem c27s14eq : U c27s14 (.cond S11 c27s13 .skip) := fun _ _ _ _ _ => rfl
@[go_sem] def c27d15 : DT := (.rd none .t (.ld (some 4) S7) [4, 6] (rf 1 S5 [6] (rl T0 [6] (.rd none .t (.v (.bld [(I 0), (I 0)] [])) [6] (.ef 4 none .no (.st 4 S2 T3) (.rd none (.s 3) (.v (.mv T1)) [6] (.ef 6 none .no (.st 2 S4 T0) .done)))))))
def c27s16 : SCode := (.seq (.de c27d15) .ret)
@[go_sem] theorem c27s16eq : U c27s16 (.seq (.de c27d15) .ret) := fun _ _ _ _ _ => rfl
def c27s17 : SCode := (.seq (.seq (.ops c27r11) c27s14) c27s16)
@[go_sem] theorem c27s17eq : U c27s17 (.seq (.seq (.ops c27r11) c27s14) c27s16) := fun _ _ _ _ _ => rfl
def c27s18 : SCode := (.seq (.ops c27r10) c27s17)
@[go_sem] theorem c27s18eq : U c27s18 (.seq (.ops c27r10) c27s17) := fun _ _ _ _ _ => rfl
def c27s19 : SCode := (.seq (.ops c27r9) c27s18)
@[go_sem] theorem c27s19eq : U c27s19 (.seq (.ops c27r9) c27s18) := fun _ _ _ _ _ => rfl
def c27s20 : SCode := (.seq (.ops c27r8) c27s19)
@[go_sem] theorem c27s20eq : U c27s20 (.seq (.ops c27r8) c27s19) := fun _ _ _ _ _ => rfl
def c27s21 : SCode := (.seq (.ops c27r7) c27s20)
@[go_sem] theorem c27s21eq : U c27s21 (.seq (.ops c27r7) c27s20) := fun _ _ _ _ _ => rfl
def c27s22 : SCode := (.seq (.seq (.ops c27r4) (.cond S10 c27s6 .skip)) c27s21)
@[go_sem] theorem c27s22eq : U c27s22 (.seq (.seq (.ops c27r4) (.cond S10 c27s6 .skip)) c27s21) := fun _ _ _ _ _ => rfl
def c27s23 : SCode := (.seq (.seq (.ops c27r1) (.cond S9 c27s3 .skip)) c27s22)
@[go_sem] theorem c27s23eq : U c27s23 (.seq (.seq (.ops c27r1) (.cond S9 c27s3 .skip)) c27s22) := fun _ _ _ _ _ => rfl
def c27 : Gx.Fn := ⟨46, c27k, (.seq (.ops c27r0) c27s23), [(.cell S2 (some 4)), (.tmp S3), (.cell S4 (some 2))]⟩
theorem c27ok : stripFn Tryd.prog c27k Tryd.f27 = some c27 := by kernel_rfl

/- lexer.spelling -/
@[go_sem] def c31k : List Nat := [0, 1, 2, 3, 11, 13, 14, 27, 34, 52, 61, 68]
@[go_sem] def c31r0 : List GOp := [oS 1 (.bx 39 S0), mS 2 (.c (.string ⟨⟨[]⟩⟩)), mS 3 (.c (.bool false))]
@[go_sem] def c31r1 : List GOp := [fT 0 S1, lT T0, oT (.v (.bin .neq T0 (C 3))), mT T0, (.sel T0 true [(.op (.v (.fa 2 S1))), (.op (.ld none T0)), (.op (.v (.bin .neq T0 (C 0))))] (.s 4) T0 (.c (.bool false)))]
@[go_sem] def c31r2 : List GOp := [mS 2 (.c (.string ⟨⟨[]⟩⟩)), mS 3 (.c (.bool false))]
def c31s3 : SCode := (.seq (.ops c31r2) .ret)
@[go_sem] theorem c31s3eq : U c31s3 (.seq (.ops c31r2) .ret) := fun _ _ _ _ _ => rfl
@[go_sem] def c31r4 : List GOp := [fT 0 S1, oS 5 (.ld none T0)]
@[go_sem] def c31r5 : List GOp := [oT (.v (.bin .eql S5 (C 1))), mS 6 T0]
@[go_sem] def c31d6 : DT := (rf 1 S1 [] (rl T0 [] (rf 1 S1 [4, 8] (rl T0 [4, 8] (.ef 4 none .t (.call 49 [T0]) (rm T0 [8] (.rd (some (T0, true)) .t (.v (.fa 1 S1)) [8] (.rd (some (T1, true)) .t (.ld none T0) [8] (.ef 8 (some (T2, true)) .t (.call 50 [T0]) (.rd (some (T3, true)) .t (.v (.un .not T0)) [] (.rd none .t (.v (.pick T4 T0 (.c (.bool false)))) [] (.rd none (.s 2) (.v (.mv T9)) [] (.rd none (.s 3) (.v (.mv T0)) [] .done)))))))))))))
@[go_sem] def c31r7 : List GOp := [oT (.v (.bin .eql S5 (C 2))), mS 7 T0]
@[go_sem] def c31d8 : DT := (rf 1 S1 [] (rl T0 [] (rf 1 S1 [4] (rl T0 [4] (.ef 4 none .t (.call 50 [T0]) (.rd none (.s 2) (.v (.mv T3)) [] (.rd none (.s 3) (.v (.mv T0)) [] .done)))))))
@[go_sem] def c31r9 : List GOp := [oT (.v (.bin .eql S5 (C 3))), mS 8 T0]
@[go_sem] def c31d10 : DT := (rf 2 S1 [2] (rl T0 [2] (rf 1 S1 [] (rl T0 [] (.rd none .t (.v (.bin .eql T0 (.c (.string ⟨⟨[]⟩⟩)))) [] (.ef 2 none .t (.call 51 [T3, (C 10)]) (rm T1 [] (.rd (some (T0, true)) .t (.v (.fa 2 S1)) [] (.rd (some (T1, true)) .t (.ld none T0) [] (.rd (some (T2, true)) .t (.v (.bin .geq T0 (C 0))) [] (.rd none .t (.v (.pick T3 T0 (.c (.bool false)))) [] (rm T0 [] (.rd (some (T0, true)) .t (.v (.fa 2 S1)) [] (.rd (some (T1, true)) .t (.ld none T0) [] (.rd (some (T2, true)) .t (.v (.bin .leq T0 (C 1000000000000000))) [] (.rd none .t (.v (.pick T3 T0 (.c (.bool false)))) [] (.rd none (.s 2) (.v (.mv T10)) [] (.rd none (.s 3) (.v (.mv T0)) [] .done))))))))))))))))))
def c31s11 : SCode := (.seq (.de c31d10) .ret)
@[go_sem] theorem c31s11eq : U c31s11 (.seq (.de c31d10) .ret) := fun _ _ _ _ _ => rfl
@[go_sem] def c31r12 : List GOp := [oT (.v (.bin .eql S5 (C 4))), mS 9 T0]
@[go_sem] def c31d13 : DT := (rf 1 S1 [] (rl T0 [] (.rd none .t (.v (.bin .add (.c (.string ⟨⟨[39]⟩⟩)) T0)) [] (.rd none .t (.v (.bin .add T0 (.c (.string ⟨⟨[39]⟩⟩)))) [] (rf 1 S1 [6] (rl T0 [6] (.ef 6 none .t (.call 49 [T0]) (.rd none (.s 2) (.v (.mv T3)) [] (.rd none (.s 3) (.v (.mv T0)) [] .done)))))))))
def c31s14 : SCode := (.seq (.de c31d13) .ret)
@[go_sem] theorem c31s14eq : U c31s14 (.seq (.de c31d13) .ret) := fun _ _ _ _ _ => rfl
@[go_sem] def c31r15 : List GOp := [oT (.v (.bin .eql S5 (C 5))), mS 10 T0]
@[go_sem] def c31d16 : DT := (rf 1 S1 [] (rl T0 [] (rf 1 S1 [4] (rl T0 [4] (.ef 4 none .t (.call 52 [T0]) (.rd none (.s 2) (.v (.mv T3)) [] (.rd none (.s 3) (.v (.mv T0)) [] .done)))))))
def c31s17 : SCode := (.seq (.de c31d16) .ret)
@[go_sem] theorem c31s17eq : U c31s17 (.seq (.de c31d16) .ret) := fun _ _ _ _ _ => rfl
@[go_sem] def c31r18 : List GOp := [oT (.v (.bin .eql S5 (C 6))), mS 11 T0]
@[go_sem] def c31r19 : List GOp := [fT 1 S1, lT T0, oT (.v (.bin .eql T0 (.c (.string ⟨⟨[]⟩⟩)))), mS 2 (.c (.string ⟨⟨[]⟩⟩)), mS 3 T0]
def c31s20 : SCode := (.seq (.dq c31r19) .ret)
@[go_sem] theorem c31s20eq : U c31s20 (.seq (.dq c31r19) .ret) := fun _ _ _ _ _ => rfl
def c31s21 : SCode := (.cond S11 c31s20 .skip)
@[go_sem] theorem c31s21eq : U c31s21 (.cond S11 c31s20 .skip) := fun _ _ _ _ _ => rfl
def c31s22 : SCode := (.seq (.ops c31r18) c31s21)
@[go_sem] theorem c31s22eq : U c31s22 (.seq (.ops c31r18) c31s21) := fun _ _ _ _ _ => rfl
def c31s23 : SCode := (.cond S10 c31s17 c31s22)
@[go_sem] theorem c31s23eq : U c31s23 (.cond S10 c31s17 c31s22) := fun _ _ _ _ _ => rfl
def c31s24 : SCode := (.seq (.ops c31r15) c31s23)
@[go_sem] theorem c31s24eq : U c31s24 (.seq (.ops c31r15) c31s23) := fun _ _ _ _ _ => rfl
def c31s25 : SCode := (.cond S9 c31s14 c31s24)
@[go_sem] theorem c31s25eq : U c31s25 (.cond S9 c31s14 c31s24) := fun _ _ _ _ _ => rfl
def c31s26 : SCode := (.seq (.ops c31r12) c31s25)
@[go_sem] theorem c31s26eq : U c31s26 (.seq (.ops c31r12) c31s25) := fun _ _ _ _ _ => rfl
def c31s27 : SCode := (.cond S8 c31s11 c31s26)
@[go_sem] theorem c31s27eq : U c31s27 (.cond S8 c31s11 c31s26) := fun _ _ _ _ _ => rfl
def c31s28 : SCode := (.seq (.ops c31r9) c31s27)
@[go_sem] theorem c31s28eq : U c31s28 (.seq (.ops c31r9) c31s27) := fun _ _ _ _ _ => rfl
def c31s29 : SCode := (.cond S7 (.seq (.de c31d8) .ret) c31s28)
@[go_sem] theorem c31s29eq : U c31s29 (.cond S7 (.seq (.de c31d8) .ret) c31s28) := fun _ _ _ _ _ => rfl
def c31s30 : SCode := (.seq (.ops c31r7) c31s29)
@[go_sem] theorem c31s30eq : U c31s30 (.seq (.ops c31r7) c31s29) := fun _ _ _ _ _ => rfl
def c31s31 : SCode := (.cond S6 (.seq (.de c31d6) .ret) c31s30)
@[go_sem] theorem c31s31eq : U c31s31 (.cond S6 (.seq (.de c31d6) .ret) c31s30) := fun _ _ _ _ _ => rfl
def c31s32 : SCode := (.block 0 (.seq (.ops c31r5) c31s31))
@[go_sem] theorem c31s32eq : U c31s32 (.block 0 (.seq (.ops c31r5) c31s31)) := fun _ _ _ _ _ => rfl
@[go_sem] def c31r33 : List GOp := [mS 2 (.c (.string ⟨⟨[]⟩⟩)), mS 3 (.c (.bool false))]
def c31s34 : SCode := (.seq (.ops c31r33) .ret)
@[go_sem] theorem c31s34eq : U c31s34 (.seq (.ops c31r33) .ret) := fun _ _ _ _ _ => rfl
def c31s35 : SCode := (.seq (.seq (.ops c31r4) c31s32) c31s34)
@[go_sem] theorem c31s35eq : U c31s35 (.seq (.seq (.ops c31r4) c31s32) c31s34) := fun _ _ _ _ _ => rfl
def c31s36 : SCode := (.seq (.seq (.ops c31r1) (.cond S4 c31s3 .skip)) c31s35)
@[go_sem] theorem c31s36eq : U c31s36 (.seq (.seq (.ops c31r1) (.cond S4 c31s3 .skip)) c31s35) := fun _ _ _ _ _ => rfl
def c31 : Gx.Fn := ⟨73, c31k, (.seq (.ops c31r0) c31s36), [(.tmp S2), (.tmp S3)]⟩
theorem c31ok : stripFn Tryd.prog c31k Tryd.f31 = some c31 := by kernel_rfl

/- (*lexer.scanner).skip -/
@[go_sem] def c40k : List Nat := [0, 25]
@[go_sem] def c40r0 : List GOp := [mT S0, oT (.call 58 [T0, (.f 59)])]
@[go_sem] def c40r1 : List GOp := [mT S0, oT (.v (.nc T0)), fT 1 T0, lT T0, mT S0, oT (.v (.nc T0)), fT 0 T0, lT T0, oT (.v (.slen T0)), oT (.v (.bin .geq T5 T0)), mT T0, (.op (some (T0, (false, true))) .t (.v (.mv S0))), (.op (some (T1, (false, false))) .t (.v (.nc T0))), (.op (some (T2, (false, false))) .t (.v (.fa 0 T0))), (.op (some (T3, (false, false))) .t (.ld none T0)), (.op (some (T4, (false, false))) .t (.v (.mv S0))), (.op (some (T5, (false, false))) .t (.v (.nc T0))), (.op (some (T6, (false, false))) .t (.v (.fa 1 T0))), (.op (some (T7, (false, false))) .t (.ld none T0)), (.op (some (T8, (false, false))) .t (.v (.six T4 T0))), (.op (some (T9, (false, false))) .t (.v (.bin .neq T0 (.c (.int .u8 35))))), oS 1 (.v (.pick T10 (.c (.bool true)) T0))]
@[go_sem] def c40r2 : List GOp := [mT S0, oT (.call 58 [T0, (.f 60)])]
def c40s3 : SCode := (.ops c40r2)
@[go_sem] theorem c40s3eq : U c40s3 (.ops c40r2) := fun _ _ _ _ _ => rfl
def c40s4 : SCode := (.seq (.seq (.dq c40r1) (.cond S1 .ret .skip)) c40s3)
@[go_sem] theorem c40s4eq : U c40s4 (.seq (.seq (.dq c40r1) (.cond S1 .ret .skip)) c40s3) := fun _ _ _ _ _ => rfl
def c40s5 : SCode := (.block 1 (.seq (.ops c40r0) c40s4))
@[go_sem] theorem c40s5eq : U c40s5 (.block 1 (.seq (.ops c40r0) c40s4)) := fun _ _ _ _ _ => rfl
def c40 : Gx.Fn := ⟨28, c40k, (.block 0 (.loop c40k c40s5)), []⟩
theorem c40ok : stripFn Tryd.prog c40k Tryd.f40 = some c40 := by kernel_rfl

/- (*lexer.scanner).token -/
@[go_sem] def c41k : List Nat := [0, 2, 3, 4, 5, 6, 7, 8, 9, 24, 64, 85, 95, 105, 109, 111, 123, 135, 140, 174, 186]
@[go_sem] def c41r0 : List GOp := [oS 1 (.al 39 [(I 0), (.string ⟨⟨[]⟩⟩), (I 0), (I 0)]), mS 2 (C 0)]
@[go_sem] def c41r1 : List GOp := [mT S0, oT (.v (.nc T0)), fT 1 T0, lT T0, oT (.v (.bld [(I 0), (.string ⟨⟨[]⟩⟩), (I 0), (I 0)] [(3, (1, T0))])), oS 3 (.al 39 [(I 0), (.string ⟨⟨[]⟩⟩), (I 0), (I 0)]), oN (.st 4 S3 T0)]
@[go_sem] def c41r2 : List GOp := [mT S0, oT (.v (.nc T0)), fT 1 T0, lT T0, mT S0, oT (.v (.nc T0)), fT 0 T0, lT T0, oT (.v (.slen T0)), oS 9 (.v (.bin .eql T5 T0))]
@[go_sem] def c41r3 : List GOp := [fT 0 S3, oN (.st 1 T0 (C 6))]
@[go_sem] def c41r4 : List GOp := [oT (.ld (some 4) S3), oN (.st 4 S1 T0), mS 2 (C 0)]
def c41s5 : SCode := (.seq (.ops c41r4) .ret)
@[go_sem] theorem c41s5eq : U c41s5 (.seq (.ops c41r4) .ret) := fun _ _ _ _ _ => rfl
def c41s6 : SCode := (.seq (.ops c41r3) c41s5)
@[go_sem] theorem c41s6eq : U c41s6 (.seq (.ops c41r3) c41s5) := fun _ _ _ _ _ => rfl
@[go_sem] def c41r7 : List GOp := [mT S0, oT (.v (.nc T0)), fT 0 T0, lT T0, mT S0, oT (.v (.nc T0)), fT 1 T0, lT T0, oT (.v (.six T4 T0)), mS 4 T0]
@[go_sem] def c41r8 : List GOp := [mT S4, oT (.call 61 [T0]), mS 12 T0]
@[go_sem] def c41r9 : List GOp := [mT S0, oT (.call 58 [T0, (.f 62)]), fT 1 S3, oN (.st 1 T0 T1)]
@[go_sem] def c41r10 : List GOp := [fT 0 S3, oN (.st 1 T0 (C 1))]
@[go_sem] def c41r11 : List GOp := [fT 1 S3, lT T0, oT (.v (.slen T0)), oS 13 (.v (.bin .gtr T0 (C 16)))]
@[go_sem] def c41r12 : List GOp := [oT (.ld (some 4) S3), oN (.st 4 S1 T0), mS 2 (C 3)]
def c41s13 : SCode := (.seq (.ops c41r12) .ret)
@[go_sem] theorem c41s13eq : U c41s13 (.seq (.ops c41r12) .ret) := fun _ _ _ _ _ => rfl
def c41s14 : SCode := (.cond S13 c41s13 .skip)
@[go_sem] theorem c41s14eq : U c41s14 (.cond S13 c41s13 .skip) := fun _ _ _ _ _ => rfl
@[go_sem] def c41r15 : List GOp := [fT 1 S3, lT T0, oS 14 (.call 50 [T0])]
@[go_sem] def c41r16 : List GOp := [fT 0 S3, oN (.st 1 T0 (C 2))]
def c41s17 : SCode := (.cond S14 (.ops c41r16) .skip)
@[go_sem] theorem c41s17eq : U c41s17 (.cond S14 (.ops c41r16) .skip) := fun _ _ _ _ _ => rfl
def c41s18 : SCode := (.seq (.ops c41r15) c41s17)
@[go_sem] theorem c41s18eq : U c41s18 (.seq (.ops c41r15) c41s17) := fun _ _ _ _ _ => rfl
def c41s19 : SCode := (.seq (.seq (.ops c41r11) c41s14) c41s18)
@[go_sem] theorem c41s19eq : U c41s19 (.seq (.seq (.ops c41r11) c41s14) c41s18) := fun _ _ _ _ _ => rfl
def c41s20 : SCode := (.seq (.ops c41r10) c41s19)
@[go_sem] theorem c41s20eq : U c41s20 (.seq (.ops c41r10) c41s19) := fun _ _ _ _ _ => rfl
def c41s21 : SCode := (.seq (.ops c41r9) c41s20)
@[go_sem] theorem c41s21eq : U c41s21 (.seq (.ops c41r9) c41s20) := fun _ _ _ _ _ => rfl
@[go_sem] def c41r22 : List GOp := [mT S4, oT (.call 63 [T0]), mS 15 T0]
@[go_sem] def c41r23 : List GOp := [mT S0, oT (.call 58 [T0, (.f 63)]), mS 5 T0]
@[go_sem] def c41r24 : List GOp := [mT S5, oT (.v (.slen T0)), oT (.v (.bin .gtr T0 (C 1))), mT T0, (.op (some (T0, (true, true))) .t (.v (.mv S5))), (.op (some (T1, (true, false))) .t (.v (.six T0 (C 0)))), (.op (some (T2, (true, false))) .t (.v (.bin .eql T0 (.c (.int .u8 48))))), oS 16 (.v (.pick T3 T0 (.c (.bool false))))]
@[go_sem] def c41r25 : List GOp := [oT (.ld (some 4) S3), oN (.st 4 S1 T0), mS 2 (C 2)]
def c41s26 : SCode := (.seq (.ops c41r25) .ret)
@[go_sem] theorem c41s26eq : U c41s26 (.seq (.ops c41r25) .ret) := fun _ _ _ _ _ => rfl
def c41s27 : SCode := (.cond S16 c41s26 .skip)
@[go_sem] theorem c41s27eq : U c41s27 (.cond S16 c41s26 .skip) := fun _ _ _ _ _ => rfl
@[go_sem] def c41r28 : List GOp := [mT S5, oT (.call 64 [T0, (C 10), (C 64)]), mT T0, oT (.v (.ext T0 0)), oT (.v (.ext T1 1)), mS 6 T1, mS 7 T0]
@[go_sem] def c41r29 : List GOp := [mT S7, oT (.v (.isnilf true T0)), mT T0, (.sel T0 false [(.op (.v (.mv S6))), (.op (.v (.bin .gtr T0 (C 1000000000000000))))] (.s 17) (.c (.bool true)) T0)]
@[go_sem] def c41r30 : List GOp := [oT (.ld (some 4) S3), oN (.st 4 S1 T0), mS 2 (C 5)]
def c41s31 : SCode := (.seq (.ops c41r30) .ret)
@[go_sem] theorem c41s31eq : U c41s31 (.seq (.ops c41r30) .ret) := fun _ _ _ _ _ => rfl
def c41s32 : SCode := (.cond S17 c41s31 .skip)
@[go_sem] theorem c41s32eq : U c41s32 (.cond S17 c41s31 .skip) := fun _ _ _ _ _ => rfl
@[go_sem] def c41r33 : List GOp := [mT S6, fT 0 S3, oN (.st 1 T0 (C 3)), fT 2 S3, oN (.st 1 T0 T2)]
def c41s34 : SCode := (.ops c41r33)
@[go_sem] theorem c41s34eq : U c41s34 (.ops c41r33) := fun _ _ _ _ _ => rfl
def c41s35 : SCode := (.seq (.seq (.ops c41r29) c41s32) c41s34)
@[go_sem] theorem c41s35eq : U c41s35 (.seq (.seq (.ops c41r29) c41s32) c41s34) := fun _ _ _ _ _ => rfl
def c41s36 : SCode := (.seq (.ops c41r28) c41s35)
@[go_sem] theorem c41s36eq : U c41s36 (.seq (.ops c41r28) c41s35) := fun _ _ _ _ _ => rfl
def c41s37 : SCode := (.seq (.seq (.ops c41r24) c41s27) c41s36)
@[go_sem] theorem c41s37eq : U c41s37 (.seq (.seq (.ops c41r24) c41s27) c41s36) := fun _ _ _ _ _ => rfl
def c41s38 : SCode := (.seq (.ops c41r23) c41s37)
@[go_sem] theorem c41s38eq : U c41s38 (.seq (.ops c41r23) c41s37) := fun _ _ _ _ _ => rfl
@[go_sem] def c41r39 : List GOp := [mT S4, oT (.v (.bin .eql T0 (.c (.int .u8 39)))), mS 18 T0]
@[go_sem] def c41r40 : List GOp := [mT S0, oT (.v (.nc T0)), fT 1 T0, lT T0, oT (.v (.bin .add T0 (C 1))), oT (.v (.nc T4)), fT 1 T0, oN (.st 1 T0 T2)]
@[go_sem] def c41r41 : List GOp := [mT S0, oT (.call 58 [T0, (.f 62)]), fT 1 S3, oN (.st 1 T0 T1)]
@[go_sem] def c41r42 : List GOp := [mT S0, oT (.v (.nc T0)), fT 1 T0, lT T0, mT S0, oT (.v (.nc T0)), fT 0 T0, lT T0, oT (.v (.slen T0)), oT (.v (.bin .eql T5 T0)), mT T0, (.op (some (T0, (false, true))) .t (.v (.mv S0))), (.op (some (T1, (false, false))) .t (.v (.nc T0))), (.op (some (T2, (false, false))) .t (.v (.fa 0 T0))), (.op (some (T3, (false, false))) .t (.ld none T0)), (.op (some (T4, (false, false))) .t (.v (.mv S0))), (.op (some (T5, (false, false))) .t (.v (.nc T0))), (.op (some (T6, (false, false))) .t (.v (.fa 1 T0))), (.op (some (T7, (false, false))) .t (.ld none T0)), (.op (some (T8, (false, false))) .t (.v (.six T4 T0))), (.op (some (T9, (false, false))) .t (.v (.bin .neq T0 (.c (.int .u8 39))))), oS 19 (.v (.pick T10 (.c (.bool true)) T0))]
@[go_sem] def c41r43 : List GOp := [oT (.ld (some 4) S3), oN (.st 4 S1 T0), mS 2 (C 2)]
def c41s44 : SCode := (.seq (.ops c41r43) .ret)
@[go_sem] theorem c41s44eq : U c41s44 (.seq (.ops c41r43) .ret) := fun _ _ _ _ _ => rfl
def c41s45 : SCode := (.cond S19 c41s44 .skip)
@[go_sem] theorem c41s45eq : U c41s45 (.cond S19 c41s44 .skip) := fun _ _ _ _ _ => rfl
@[go_sem] def c41r46 : List GOp := [mT S0, oT (.v (.nc T0)), fT 1 T0, lT T0, oT (.v (.bin .add T0 (C 1))), oT (.v (.nc T4)), fT 1 T0, oN (.st 1 T0 T2)]
@[go_sem] def c41r47 : List GOp := [fT 1 S3, lT T0, oT (.call 49 [T0]), oS 20 (.v (.un .not T0))]
@[go_sem] def c41r48 : List GOp := [oT (.ld (some 4) S3), oN (.st 4 S1 T0), mS 2 (C 3)]
def c41s49 : SCode := (.seq (.ops c41r48) .ret)
@[go_sem] theorem c41s49eq : U c41s49 (.seq (.ops c41r48) .ret) := fun _ _ _ _ _ => rfl
def c41s50 : SCode := (.cond S20 c41s49 .skip)
@[go_sem] theorem c41s50eq : U c41s50 (.cond S20 c41s49 .skip) := fun _ _ _ _ _ => rfl
@[go_sem] def c41r51 : List GOp := [fT 0 S3, oN (.st 1 T0 (C 4))]
def c41s52 : SCode := (.ops c41r51)
@[go_sem] theorem c41s52eq : U c41s52 (.ops c41r51) := fun _ _ _ _ _ => rfl
def c41s53 : SCode := (.seq (.seq (.ops c41r47) c41s50) c41s52)
@[go_sem] theorem c41s53eq : U c41s53 (.seq (.seq (.ops c41r47) c41s50) c41s52) := fun _ _ _ _ _ => rfl
def c41s54 : SCode := (.seq (.ops c41r46) c41s53)
@[go_sem] theorem c41s54eq : U c41s54 (.seq (.ops c41r46) c41s53) := fun _ _ _ _ _ => rfl
def c41s55 : SCode := (.seq (.seq (.dq c41r42) c41s45) c41s54)
@[go_sem] theorem c41s55eq : U c41s55 (.seq (.seq (.dq c41r42) c41s45) c41s54) := fun _ _ _ _ _ => rfl
def c41s56 : SCode := (.seq (.ops c41r41) c41s55)
@[go_sem] theorem c41s56eq : U c41s56 (.seq (.ops c41r41) c41s55) := fun _ _ _ _ _ => rfl
def c41s57 : SCode := (.seq (.ops c41r40) c41s56)
@[go_sem] theorem c41s57eq : U c41s57 (.seq (.ops c41r40) c41s56) := fun _ _ _ _ _ => rfl
@[go_sem] def c41r58 : List GOp := [mS 8 (C 2)]
@[go_sem] def c41d59 : DT := (rm S0 [26] (.rd none .t (.v (.nc T0)) [26] (rf 1 T0 [26] (rl T0 [26] (.rd none .t (.v (.bin .add T0 (C 2))) [26] (rm S0 [26] (.rd none .t (.v (.nc T0)) [26] (rf 0 T0 [26] (rl T0 [26] (.rd none .t (.v (.slen T0)) [26] (.rd none .t (.v (.bin .gtr T5 T0)) [26] (rm T0 [26] (.rd (some (T0, false)) .t (.v (.mv S0)) [26] (.rd (some (T1, false)) .t (.v (.nc T0)) [26] (.rd (some (T2, false)) .t (.v (.fa 0 T0)) [26] (.rd (some (T3, false)) .t (.ld none T0) [26] (.rd (some (T4, false)) .t (.v (.mv S0)) [26] (.rd (some (T5, false)) .t (.v (.nc T0)) [26] (.rd (some (T6, false)) .t (.v (.fa 1 T0)) [26] (.rd (some (T7, false)) .t (.ld none T0) [26] (.rd (some (T8, false)) .t (.v (.mv S0)) [26] (.rd (some (T9, false)) .t (.v (.nc T0)) [26] (.rd (some (T10, false)) .t (.v (.fa 1 T0)) [26] (.rd (some (T11, false)) .t (.ld none T0) [26] (.rd (some (T12, false)) .t (.v (.bin .add T0 (C 2))) [26] (.rd (some (T13, false)) .t (.v (.ssl T9 (some T5) (some T0))) [26] (.ef 26 (some (T14, false)) .t (.call 52 [T0]) (.rd (some (T15, false)) .t (.v (.un .not T0)) [] (.rd none (.s 10) (.v (.pick T16 (.c (.bool true)) T0)) [] .done)))))))))))))))))))))))))))))
@[go_sem] def c41r60 : List GOp := [mS 8 (C 1)]
def c41s61 : SCode := (.cond S10 (.ops c41r60) .skip)
@[go_sem] theorem c41s61eq : U c41s61 (.cond S10 (.ops c41r60) .skip) := fun _ _ _ _ _ => rfl
@[go_sem] def c41d62 : DT := (rm S0 [18] (.rd none .t (.v (.nc T0)) [18] (rf 0 T0 [18] (rl T0 [18] (rm S0 [18] (.rd none .t (.v (.nc T0)) [18] (rf 1 T0 [18] (rl T0 [18] (rm S0 [18] (.rd none .t (.v (.nc T0)) [18] (rf 1 T0 [18] (rl T0 [18] (rm S8 [18] (.rd none .t (.v (.bin .add T1 T0)) [18] (.rd none .t (.v (.ssl T10 (some T6) (some T0))) [18] (rf 0 S3 [16, 18] (.ef 16 none .no (.st 1 T0 (C 5)) (rf 1 S3 [18] (.ef 18 none .no (.st 1 T0 T2) .done)))))))))))))))))))
@[go_sem] def c41r63 : List GOp := [fT 1 S3, lT T0, oT (.call 52 [T0]), oS 11 (.v (.un .not T0))]
@[go_sem] def c41r64 : List GOp := [oT (.ld (some 4) S3), oN (.st 4 S1 T0), mS 2 (C 2)]
def c41s65 : SCode := (.seq (.ops c41r64) .ret)
@[go_sem] theorem c41s65eq : U c41s65 (.seq (.ops c41r64) .ret) := fun _ _ _ _ _ => rfl
def c41s66 : SCode := (.cond S11 c41s65 .skip)
@[go_sem] theorem c41s66eq : U c41s66 (.cond S11 c41s65 .skip) := fun _ _ _ _ _ => rfl
@[go_sem] def c41r67 : List GOp := [mT S0, oT (.v (.nc T0)), fT 1 T0, lT T0, mT S8, oT (.v (.bin .add T1 T0)), oT (.v (.nc T5)), fT 1 T0, oN (.st 1 T0 T2)]
def c41s68 : SCode := (.ops c41r67)
@[go_sem] theorem c41s68eq : U c41s68 (.ops c41r67) := fun _ _ _ _ _ => rfl
def c41s69 : SCode := (.seq (.seq (.ops c41r63) c41s66) c41s68)
@[go_sem] theorem c41s69eq : U c41s69 (.seq (.seq (.ops c41r63) c41s66) c41s68) := fun _ _ _ _ _ => rfl
def c41s70 : SCode := (.seq (.de c41d62) c41s69)
@[go_sem] theorem c41s70eq : U c41s70 (.seq (.de c41d62) c41s69) := fun _ _ _ _ _ => rfl
def c41s71 : SCode := (.seq (.seq (.de c41d59) c41s61) c41s70)
@[go_sem] theorem c41s71eq : U c41s71 (.seq (.seq (.de c41d59) c41s61) c41s70) := fun _ _ _ _ _ => rfl
def c41s72 : SCode := (.seq (.ops c41r58) c41s71)
@[go_sem] theorem c41s72eq : U c41s72 (.seq (.ops c41r58) c41s71) := fun _ _ _ _ _ => rfl
def c41s73 : SCode := (.cond S18 c41s57 c41s72)
@[go_sem] theorem c41s73eq : U c41s73 (.cond S18 c41s57 c41s72) := fun _ _ _ _ _ => rfl
def c41s74 : SCode := (.seq (.ops c41r39) c41s73)
@[go_sem] theorem c41s74eq : U c41s74 (.seq (.ops c41r39) c41s73) := fun _ _ _ _ _ => rfl
def c41s75 : SCode := (.cond S15 c41s38 c41s74)
@[go_sem] theorem c41s75eq : U c41s75 (.cond S15 c41s38 c41s74) := fun _ _ _ _ _ => rfl
def c41s76 : SCode := (.seq (.ops c41r22) c41s75)
@[go_sem] theorem c41s76eq : U c41s76 (.seq (.ops c41r22) c41s75) := fun _ _ _ _ _ => rfl
def c41s77 : SCode := (.cond S12 c41s21 c41s76)
@[go_sem] theorem c41s77eq : U c41s77 (.cond S12 c41s21 c41s76) := fun _ _ _ _ _ => rfl
@[go_sem] def c41r78 : List GOp := [oT (.ld (some 4) S3), oN (.st 4 S1 T0), mS 2 (C 0)]
def c41s79 : SCode := (.seq (.ops c41r78) .ret)
@[go_sem] theorem c41s79eq : U c41s79 (.seq (.ops c41r78) .ret) := fun _ _ _ _ _ => rfl
def c41s80 : SCode := (.seq (.block 0 (.seq (.ops c41r8) c41s77)) c41s79)
@[go_sem] theorem c41s80eq : U c41s80 (.seq (.block 0 (.seq (.ops c41r8) c41s77)) c41s79) := fun _ _ _ _ _ => rfl
def c41s81 : SCode := (.seq (.dq c41r7) c41s80)
@[go_sem] theorem c41s81eq : U c41s81 (.seq (.dq c41r7) c41s80) := fun _ _ _ _ _ => rfl
def c41s82 : SCode := (.seq (.seq (.dq c41r2) (.cond S9 c41s6 .skip)) c41s81)
@[go_sem] theorem c41s82eq : U c41s82 (.seq (.seq (.dq c41r2) (.cond S9 c41s6 .skip)) c41s81) := fun _ _ _ _ _ => rfl
def c41s83 : SCode := (.seq (.ops c41r1) c41s82)
@[go_sem] theorem c41s83eq : U c41s83 (.seq (.ops c41r1) c41s82) := fun _ _ _ _ _ => rfl
def c41 : Gx.Fn := ⟨190, c41k, (.seq (.ops c41r0) c41s83), [(.cell S1 (some 4)), (.tmp S2)]⟩
theorem c41ok : stripFn Tryd.prog c41k Tryd.f41 = some c41 := by kernel_rfl

/- names.Valid -/
@[go_sem] def c49k : List Nat := [0, 2, 3, 21, 23, 24, 25, 31]
@[go_sem] def c49r0 : List GOp := [mS 1 (.c (.bool false))]
@[go_sem] def c49r1 : List GOp := [mT S0, oT (.v (.slen T0)), oT (.v (.bin .eql T0 (C 0))), mT T0, (.sel T0 false [(.op (.v (.mv S0))), (.op (.v (.slen T0))), (.op (.v (.bin .gtr T0 (C 16))))] .t (.c (.bool true)) T0), mT T0, (.op (some (T0, (false, true))) .t (.v (.mv S0))), (.op (some (T1, (false, false))) .t (.v (.six T0 (C 0)))), (.op (some (T2, (false, false))) .t (.v (.bin .lss T0 (.c (.int .u8 97))))), oT (.v (.pick T3 (.c (.bool true)) T0)), mT T0, (.op (some (T0, (false, true))) .t (.v (.mv S0))), (.op (some (T1, (false, false))) .t (.v (.six T0 (C 0)))), (.op (some (T2, (false, false))) .t (.v (.bin .gtr T0 (.c (.int .u8 122))))), oS 3 (.v (.pick T3 (.c (.bool true)) T0))]
@[go_sem] def c49r2 : List GOp := [mS 1 (.c (.bool false))]
def c49s3 : SCode := (.seq (.ops c49r2) .ret)
@[go_sem] theorem c49s3eq : U c49s3 (.seq (.ops c49r2) .ret) := fun _ _ _ _ _ => rfl
@[go_sem] def c49r4 : List GOp := [mT S0, oS 4 (.v (.slen T0)), mS 5 (C 0)]
@[go_sem] def c49r5 : List GOp := [oS 6 (.v (.bin .lss S5 S4))]
@[go_sem] def c49r6 : List GOp := [mT S5, mS 2 T0]
@[go_sem] def c49r7 : List GOp := [mT S0, mT S2, oT (.v (.six T1 T0)), oT (.call 69 [T0]), oS 7 (.v (.un .not T0))]
@[go_sem] def c49r8 : List GOp := [mS 1 (.c (.bool false))]
def c49s9 : SCode := (.seq (.ops c49r8) .ret)
@[go_sem] theorem c49s9eq : U c49s9 (.seq (.ops c49r8) .ret) := fun _ _ _ _ _ => rfl
def c49s10 : SCode := (.seq (.ops c49r7) (.cond S7 c49s9 .skip))
@[go_sem] theorem c49s10eq : U c49s10 (.seq (.ops c49r7) (.cond S7 c49s9 .skip)) := fun _ _ _ _ _ => rfl
@[go_sem] def c49r11 : List GOp := [oT (.v (.bin .add S5 (C 1))), mS 5 T0]
def c49s12 : SCode := (.ops c49r11)
@[go_sem] theorem c49s12eq : U c49s12 (.ops c49r11) := fun _ _ _ _ _ => rfl
def c49s13 : SCode := (.seq (.block 1 (.seq (.ops c49r6) c49s10)) c49s12)
@[go_sem] theorem c49s13eq : U c49s13 (.seq (.block 1 (.seq (.ops c49r6) c49s10)) c49s12) := fun _ _ _ _ _ => rfl
def c49s14 : SCode := (.seq (.cond S6 .skip (.exit 0)) c49s13)
@[go_sem] theorem c49s14eq : U c49s14 (.seq (.cond S6 .skip (.exit 0)) c49s13) := fun _ _ _ _ _ => rfl
def c49s15 : SCode := (.seq (.ops c49r5) c49s14)
@[go_sem] theorem c49s15eq : U c49s15 (.seq (.ops c49r5) c49s14) := fun _ _ _ _ _ => rfl
def c49s16 : SCode := (.block 0 (.loop c49k c49s15))
@[go_sem] theorem c49s16eq : U c49s16 (.block 0 (.loop c49k c49s15)) := fun _ _ _ _ _ => rfl
@[go_sem] def c49r17 : List GOp := [mS 1 (.c (.bool true))]
def c49s18 : SCode := (.seq (.ops c49r17) .ret)
@[go_sem] theorem c49s18eq : U c49s18 (.seq (.ops c49r17) .ret) := fun _ _ _ _ _ => rfl
def c49s19 : SCode := (.seq (.seq (.ops c49r4) c49s16) c49s18)
@[go_sem] theorem c49s19eq : U c49s19 (.seq (.seq (.ops c49r4) c49s16) c49s18) := fun _ _ _ _ _ => rfl
def c49s20 : SCode := (.seq (.seq (.ops c49r1) (.cond S3 c49s3 .skip)) c49s19)
@[go_sem] theorem c49s20eq : U c49s20 (.seq (.seq (.ops c49r1) (.cond S3 c49s3 .skip)) c49s19) := fun _ _ _ _ _ => rfl
def c49 : Gx.Fn := ⟨33, c49k, (.seq (.ops c49r0) c49s20), [(.tmp S1)]⟩
theorem c49ok : stripFn Tryd.prog c49k Tryd.f49 = some c49 := by kernel_rfl

/- lexer.Keyword -/
@[go_sem] def c50k : List Nat := [0, 2, 3]
@[go_sem] def c50r0 : List GOp := [mS 1 (.c (.bool false))]
@[go_sem] def c50r1 : List GOp := [oT (.bs 9 44 [(.string ⟨⟨[]⟩⟩), (.string ⟨⟨[]⟩⟩), (.string ⟨⟨[]⟩⟩), (.string ⟨⟨[]⟩⟩), (.string ⟨⟨[]⟩⟩), (.string ⟨⟨[]⟩⟩), (.string ⟨⟨[]⟩⟩), (.string ⟨⟨[]⟩⟩), (.string ⟨⟨[]⟩⟩), (.string ⟨⟨[]⟩⟩), (.string ⟨⟨[]⟩⟩), (.string ⟨⟨[]⟩⟩), (.string ⟨⟨[]⟩⟩), (.string ⟨⟨[]⟩⟩), (.string ⟨⟨[]⟩⟩), (.string ⟨⟨[]⟩⟩), (.string ⟨⟨[]⟩⟩), (.string ⟨⟨[]⟩⟩), (.string ⟨⟨[]⟩⟩), (.string ⟨⟨[]⟩⟩), (.string ⟨⟨[]⟩⟩), (.string ⟨⟨[]⟩⟩), (.string ⟨⟨[]⟩⟩), (.string ⟨⟨[]⟩⟩), (.string ⟨⟨[]⟩⟩), (.string ⟨⟨[]⟩⟩), (.string ⟨⟨[]⟩⟩), (.string ⟨⟨[]⟩⟩), (.string ⟨⟨[]⟩⟩), (.string ⟨⟨[]⟩⟩), (.string ⟨⟨[]⟩⟩), (.string ⟨⟨[]⟩⟩), (.string ⟨⟨[]⟩⟩), (.string ⟨⟨[]⟩⟩), (.string ⟨⟨[]⟩⟩), (.string ⟨⟨[]⟩⟩), (.string ⟨⟨[]⟩⟩), (.string ⟨⟨[]⟩⟩), (.string ⟨⟨[]⟩⟩), (.string ⟨⟨[]⟩⟩), (.string ⟨⟨[]⟩⟩), (.string ⟨⟨[]⟩⟩), (.string ⟨⟨[]⟩⟩), (.string ⟨⟨[]⟩⟩)] [(0, (1, (.c (.string ⟨⟨[97, 110, 100]⟩⟩)))), (1, (1, (.c (.string ⟨⟨[98, 111, 111, 108]⟩⟩)))), (2, (1, (.c (.string ⟨⟨[98, 111, 116, 116, 111, 109]⟩⟩)))), (3, (1, (.c (.string ⟨⟨[99, 108, 111, 115, 101, 100]⟩⟩)))), (4, (1, (.c (.string ⟨⟨[99, 111, 110, 102, 108, 105, 99, 116]⟩⟩)))), (5, (1, (.c (.string ⟨⟨[101, 108, 115, 101]⟩⟩)))), (6, (1, (.c (.string ⟨⟨[102, 97, 108, 115, 101]⟩⟩)))), (7, (1, (.c (.string ⟨⟨[102, 105, 114, 115, 116]⟩⟩)))), (8, (1, (.c (.string ⟨⟨[102, 108, 97, 103]⟩⟩)))), (9, (1, (.c (.string ⟨⟨[102, 108, 97, 116]⟩⟩)))), (10, (1, (.c (.string ⟨⟨[105, 102]⟩⟩)))), (11, (1, (.c (.string ⟨⟨[105, 110]⟩⟩)))), (12, (1, (.c (.string ⟨⟨[105, 110, 116]⟩⟩)))), (13, (1, (.c (.string ⟨⟨[106, 111, 105, 110]⟩⟩)))), (14, (1, (.c (.string ⟨⟨[107, 101, 121, 115]⟩⟩)))), (15, (1, (.c (.string ⟨⟨[108, 97, 116, 116, 105, 99, 101]⟩⟩)))), (16, (1, (.c (.string ⟨⟨[108, 101, 113]⟩⟩)))), (17, (1, (.c (.string ⟨⟨[108, 101, 120]⟩⟩)))), (18, (1, (.c (.string ⟨⟨[109, 97, 112]⟩⟩)))), (19, (1, (.c (.string ⟨⟨[109, 97, 120]⟩⟩)))), (20, (1, (.c (.string ⟨⟨[109, 105, 110]⟩⟩)))), (21, (1, (.c (.string ⟨⟨[110, 97, 109, 101]⟩⟩)))), (22, (1, (.c (.string ⟨⟨[110, 97, 109, 101, 115]⟩⟩)))), (23, (1, (.c (.string ⟨⟨[110, 111, 116]⟩⟩)))), (24, (1, (.c (.string ⟨⟨[110, 117, 109]⟩⟩)))), (25, (1, (.c (.string ⟨⟨[110, 117, 109, 98, 101, 114]⟩⟩)))), (26, (1, (.c (.string ⟨⟨[111, 98, 106, 101, 99, 116]⟩⟩)))), (27, (1, (.c (.string ⟨⟨[111, 110]⟩⟩)))), (28, (1, (.c (.string ⟨⟨[111, 110, 101]⟩⟩)))), (29, (1, (.c (.string ⟨⟨[111, 114]⟩⟩)))), (30, (1, (.c (.string ⟨⟨[112, 97, 105, 114]⟩⟩)))), (31, (1, (.c (.string ⟨⟨[113, 117, 101, 114, 121]⟩⟩)))), (32, (1, (.c (.string ⟨⟨[114, 101, 99]⟩⟩)))), (33, (1, (.c (.string ⟨⟨[114, 101, 103, 105, 115, 116, 101, 114]⟩⟩)))), (34, (1, (.c (.string ⟨⟨[115]⟩⟩)))), (35, (1, (.c (.string ⟨⟨[115, 101, 99, 111, 110, 100]⟩⟩)))), (36, (1, (.c (.string ⟨⟨[115, 101, 116]⟩⟩)))), (37, (1, (.c (.string ⟨⟨[115, 105, 122, 101]⟩⟩)))), (38, (1, (.c (.string ⟨⟨[115, 117, 109]⟩⟩)))), (39, (1, (.c (.string ⟨⟨[116, 104, 101, 110]⟩⟩)))), (40, (1, (.c (.string ⟨⟨[116, 114, 117, 101]⟩⟩)))), (41, (1, (.c (.string ⟨⟨[117, 112, 100, 97, 116, 101]⟩⟩)))), (42, (1, (.c (.string ⟨⟨[118, 97, 108, 117, 101, 115]⟩⟩)))), (43, (1, (.c (.string ⟨⟨[119, 114, 105, 116, 101]⟩⟩))))]), mS 2 T0]
@[go_sem] def c50r2 : List GOp := [mT S2, mT S0, oT (.call 70 [T1, T0]), mS 1 T0]
def c50s3 : SCode := (.seq (.ops c50r2) .ret)
@[go_sem] theorem c50s3eq : U c50s3 (.seq (.ops c50r2) .ret) := fun _ _ _ _ _ => rfl
def c50s4 : SCode := (.seq (.ops c50r1) c50s3)
@[go_sem] theorem c50s4eq : U c50s4 (.seq (.ops c50r1) c50s3) := fun _ _ _ _ _ => rfl
def c50 : Gx.Fn := ⟨8, c50k, (.seq (.ops c50r0) c50s4), [(.tmp S1)]⟩
theorem c50ok : stripFn Tryd.prog c50k Tryd.f50 = some c50 := by kernel_rfl

/- lexer.Sign -/
@[go_sem] def c52k : List Nat := [0, 2, 3]
@[go_sem] def c52r0 : List GOp := [mS 1 (.c (.bool false))]
@[go_sem] def c52r1 : List GOp := [oT (.bs 9 17 [(.string ⟨⟨[]⟩⟩), (.string ⟨⟨[]⟩⟩), (.string ⟨⟨[]⟩⟩), (.string ⟨⟨[]⟩⟩), (.string ⟨⟨[]⟩⟩), (.string ⟨⟨[]⟩⟩), (.string ⟨⟨[]⟩⟩), (.string ⟨⟨[]⟩⟩), (.string ⟨⟨[]⟩⟩), (.string ⟨⟨[]⟩⟩), (.string ⟨⟨[]⟩⟩), (.string ⟨⟨[]⟩⟩), (.string ⟨⟨[]⟩⟩), (.string ⟨⟨[]⟩⟩), (.string ⟨⟨[]⟩⟩), (.string ⟨⟨[]⟩⟩), (.string ⟨⟨[]⟩⟩)] [(0, (1, (.c (.string ⟨⟨[61]⟩⟩)))), (1, (1, (.c (.string ⟨⟨[58]⟩⟩)))), (2, (1, (.c (.string ⟨⟨[59]⟩⟩)))), (3, (1, (.c (.string ⟨⟨[44]⟩⟩)))), (4, (1, (.c (.string ⟨⟨[40]⟩⟩)))), (5, (1, (.c (.string ⟨⟨[41]⟩⟩)))), (6, (1, (.c (.string ⟨⟨[123]⟩⟩)))), (7, (1, (.c (.string ⟨⟨[125]⟩⟩)))), (8, (1, (.c (.string ⟨⟨[91]⟩⟩)))), (9, (1, (.c (.string ⟨⟨[93]⟩⟩)))), (10, (1, (.c (.string ⟨⟨[46]⟩⟩)))), (11, (1, (.c (.string ⟨⟨[43]⟩⟩)))), (12, (1, (.c (.string ⟨⟨[45]⟩⟩)))), (13, (1, (.c (.string ⟨⟨[60]⟩⟩)))), (14, (1, (.c (.string ⟨⟨[60, 61]⟩⟩)))), (15, (1, (.c (.string ⟨⟨[61, 61]⟩⟩)))), (16, (1, (.c (.string ⟨⟨[61, 62]⟩⟩))))]), mS 2 T0]
@[go_sem] def c52r2 : List GOp := [mT S2, mT S0, oT (.call 70 [T1, T0]), mS 1 T0]
def c52s3 : SCode := (.seq (.ops c52r2) .ret)
@[go_sem] theorem c52s3eq : U c52s3 (.seq (.ops c52r2) .ret) := fun _ _ _ _ _ => rfl
def c52s4 : SCode := (.seq (.ops c52r1) c52s3)
@[go_sem] theorem c52s4eq : U c52s4 (.seq (.ops c52r1) c52s3) := fun _ _ _ _ _ => rfl
def c52 : Gx.Fn := ⟨8, c52k, (.seq (.ops c52r0) c52s4), [(.tmp S1)]⟩
theorem c52ok : stripFn Tryd.prog c52k Tryd.f52 = some c52 := by kernel_rfl

/- (*lexer.scanner).run -/
@[go_sem] def c58k : List Nat := [0, 1, 4, 5, 32]
@[go_sem] def c58r0 : List GOp := [mS 2 (.c (.string ⟨⟨[]⟩⟩))]
@[go_sem] def c58r1 : List GOp := [mT S0, oT (.v (.nc T0)), fT 1 T0, lT T0, mS 3 T0]
@[go_sem] def c58d2 : DT := (rm S0 [21] (.rd none .t (.v (.nc T0)) [21] (rf 1 T0 [21] (rl T0 [21] (rm S0 [21] (.rd none .t (.v (.nc T0)) [21] (rf 0 T0 [21] (rl T0 [21] (.rd none .t (.v (.slen T0)) [21] (.rd none .t (.v (.bin .lss T5 T0)) [21] (rm T0 [21] (.rd (some (T0, true)) .t (.v (.mv S1)) [21] (.rd (some (T1, true)) .t (.v (.mv S0)) [21] (.rd (some (T2, true)) .t (.v (.nc T0)) [21] (.rd (some (T3, true)) .t (.v (.fa 0 T0)) [21] (.rd (some (T4, true)) .t (.ld none T0) [21] (.rd (some (T5, true)) .t (.v (.mv S0)) [21] (.rd (some (T6, true)) .t (.v (.nc T0)) [21] (.rd (some (T7, true)) .t (.v (.fa 1 T0)) [21] (.rd (some (T8, true)) .t (.ld none T0) [21] (.rd (some (T9, true)) .t (.v (.six T4 T0)) [21] (.ef 21 (some (T10, true)) .t (.cv T9 [T0]) (.rd none (.s 4) (.v (.pick T11 T0 (.c (.bool false)))) [] .done)))))))))))))))))))))))
def c58s3 : SCode := (.cond S4 .skip (.exit 0))
@[go_sem] theorem c58s3eq : U c58s3 (.cond S4 .skip (.exit 0)) := fun _ _ _ _ _ => rfl
@[go_sem] def c58r4 : List GOp := [mT S0, oT (.v (.nc T0)), fT 1 T0, lT T0, oT (.v (.bin .add T0 (C 1))), oT (.v (.nc T4)), fT 1 T0, oN (.st 1 T0 T2)]
def c58s5 : SCode := (.seq (.seq (.de c58d2) c58s3) (.block 1 (.ops c58r4)))
@[go_sem] theorem c58s5eq : U c58s5 (.seq (.seq (.de c58d2) c58s3) (.block 1 (.ops c58r4))) := fun _ _ _ _ _ => rfl
@[go_sem] def c58r6 : List GOp := [mT S0, oT (.v (.nc T0)), fT 0 T0, lT T0, mT S3, mT S0, oT (.v (.nc T0)), fT 1 T0, lT T0, oT (.v (.ssl T5 (some T4) (some T0))), mS 2 T0]
def c58s7 : SCode := (.seq (.block 0 (.loop c58k c58s5)) (.seq (.dq c58r6) .ret))
@[go_sem] theorem c58s7eq : U c58s7 (.seq (.block 0 (.loop c58k c58s5)) (.seq (.dq c58r6) .ret)) := fun _ _ _ _ _ => rfl
def c58s8 : SCode := (.seq (.ops c58r1) c58s7)
@[go_sem] theorem c58s8eq : U c58s8 (.seq (.ops c58r1) c58s7) := fun _ _ _ _ _ => rfl
def c58 : Gx.Fn := ⟨50, c58k, (.seq (.ops c58r0) c58s8), [(.tmp S2)]⟩
theorem c58ok : stripFn Tryd.prog c58k Tryd.f58 = some c58 := by kernel_rfl

/- (*lexer.scanner).skip$1 -/
@[go_sem] def c59k : List Nat := [0, 2]
@[go_sem] def c59r0 : List GOp := [mS 1 (.c (.bool false))]
@[go_sem] def c59r1 : List GOp := [mT S0, oT (.v (.bin .eql T0 (.c (.int .u8 32)))), mT T0, (.sel T0 false [(.op (.v (.mv S0))), (.op (.v (.bin .eql T0 (.c (.int .u8 9)))))] .t (.c (.bool true)) T0), mT T0, (.sel T0 false [(.op (.v (.mv S0))), (.op (.v (.bin .eql T0 (.c (.int .u8 10)))))] .t (.c (.bool true)) T0), mT T0, (.sel T0 false [(.op (.v (.mv S0))), (.op (.v (.bin .eql T0 (.c (.int .u8 13)))))] .t (.c (.bool true)) T0), mS 1 T0]
def c59s2 : SCode := (.seq (.ops c59r1) .ret)
@[go_sem] theorem c59s2eq : U c59s2 (.seq (.ops c59r1) .ret) := fun _ _ _ _ _ => rfl
def c59 : Gx.Fn := ⟨17, c59k, (.seq (.ops c59r0) c59s2), [(.tmp S1)]⟩
theorem c59ok : stripFn Tryd.prog c59k Tryd.f59 = some c59 := by kernel_rfl

/- (*lexer.scanner).skip$2 -/
@[go_sem] def c60k : List Nat := [0, 2]
@[go_sem] def c60r0 : List GOp := [mS 1 (.c (.bool false))]
@[go_sem] def c60r1 : List GOp := [mT S0, oT (.v (.bin .neq T0 (.c (.int .u8 10)))), mS 1 T0]
def c60s2 : SCode := (.seq (.ops c60r1) .ret)
@[go_sem] theorem c60s2eq : U c60s2 (.seq (.ops c60r1) .ret) := fun _ _ _ _ _ => rfl
def c60 : Gx.Fn := ⟨5, c60k, (.seq (.ops c60r0) c60s2), [(.tmp S1)]⟩
theorem c60ok : stripFn Tryd.prog c60k Tryd.f60 = some c60 := by kernel_rfl

/- lexer.letter -/
@[go_sem] def c61k : List Nat := [0, 2]
@[go_sem] def c61r0 : List GOp := [mS 1 (.c (.bool false))]
@[go_sem] def c61r1 : List GOp := [mT S0, oT (.v (.bin .geq T0 (.c (.int .u8 97)))), mT T0, (.sel T0 true [(.op (.v (.mv S0))), (.op (.v (.bin .leq T0 (.c (.int .u8 122)))))] .t T0 (.c (.bool false))), mS 1 T0]
def c61s2 : SCode := (.seq (.ops c61r1) .ret)
@[go_sem] theorem c61s2eq : U c61s2 (.seq (.ops c61r1) .ret) := fun _ _ _ _ _ => rfl
def c61 : Gx.Fn := ⟨9, c61k, (.seq (.ops c61r0) c61s2), [(.tmp S1)]⟩
theorem c61ok : stripFn Tryd.prog c61k Tryd.f61 = some c61 := by kernel_rfl

/- lexer.part -/
@[go_sem] def c62k : List Nat := [0, 2]
@[go_sem] def c62r0 : List GOp := [mS 1 (.c (.bool false))]
@[go_sem] def c62r1 : List GOp := [mT S0, oT (.call 61 [T0]), mT T0, (.op (some (T0, (false, true))) .t (.v (.mv S0))), (.op (some (T1, (false, false))) .t (.call 63 [T0])), oT (.v (.pick T2 (.c (.bool true)) T0)), mT T0, (.sel T0 false [(.op (.v (.mv S0))), (.op (.v (.bin .eql T0 (.c (.int .u8 45)))))] .t (.c (.bool true)) T0), mS 1 T0]
def c62s2 : SCode := (.seq (.ops c62r1) .ret)
@[go_sem] theorem c62s2eq : U c62s2 (.seq (.ops c62r1) .ret) := fun _ _ _ _ _ => rfl
def c62 : Gx.Fn := ⟨13, c62k, (.seq (.ops c62r0) c62s2), [(.tmp S1)]⟩
theorem c62ok : stripFn Tryd.prog c62k Tryd.f62 = some c62 := by kernel_rfl

/- lexer.digit -/
@[go_sem] def c63k : List Nat := [0, 2]
@[go_sem] def c63r0 : List GOp := [mS 1 (.c (.bool false))]
@[go_sem] def c63r1 : List GOp := [mT S0, oT (.v (.bin .geq T0 (.c (.int .u8 48)))), mT T0, (.sel T0 true [(.op (.v (.mv S0))), (.op (.v (.bin .leq T0 (.c (.int .u8 57)))))] .t T0 (.c (.bool false))), mS 1 T0]
def c63s2 : SCode := (.seq (.ops c63r1) .ret)
@[go_sem] theorem c63s2eq : U c63s2 (.seq (.ops c63r1) .ret) := fun _ _ _ _ _ => rfl
def c63 : Gx.Fn := ⟨9, c63k, (.seq (.ops c63r0) c63s2), [(.tmp S1)]⟩
theorem c63ok : stripFn Tryd.prog c63k Tryd.f63 = some c63 := by kernel_rfl

/- names.wordByte -/
@[go_sem] def c69k : List Nat := [0, 2]
@[go_sem] def c69r0 : List GOp := [mS 1 (.c (.bool false))]
@[go_sem] def c69r1 : List GOp := [mT S0, oT (.v (.bin .leq (.c (.int .u8 97)) T0)), mT T0, (.sel T0 true [(.op (.v (.mv S0))), (.op (.v (.bin .leq T0 (.c (.int .u8 122)))))] .t T0 (.c (.bool false))), mT T0, (.sel T0 false [(.op (.v (.mv S0))), (.op (.v (.bin .leq (.c (.int .u8 48)) T0))), (.op (.v (.mv T0))), (.nst T0 true [(.op (.v (.mv S0))), (.op (.v (.bin .leq T0 (.c (.int .u8 57)))))] T0 (.c (.bool false)))] .t (.c (.bool true)) T0), mT T0, (.sel T0 false [(.op (.v (.mv S0))), (.op (.v (.bin .eql T0 (.c (.int .u8 45)))))] .t (.c (.bool true)) T0), mS 1 T0]
def c69s2 : SCode := (.seq (.ops c69r1) .ret)
@[go_sem] theorem c69s2eq : U c69s2 (.seq (.ops c69r1) .ret) := fun _ _ _ _ _ => rfl
def c69 : Gx.Fn := ⟨21, c69k, (.seq (.ops c69r0) c69s2), [(.tmp S1)]⟩
theorem c69ok : stripFn Tryd.prog c69k Tryd.f69 = some c69 := by kernel_rfl

/- slices.Contains[[]string,string] -/
@[go_sem] def c70k : List Nat := [0, 1, 4]
@[go_sem] def c70r0 : List GOp := [mS 2 (.c (.bool false))]
@[go_sem] def c70r1 : List GOp := [mT S0, mT S1, oT (.call 79 [T1, T0]), oT (.v (.bin .geq T0 (C 0))), mS 2 T0]
def c70s2 : SCode := (.seq (.ops c70r1) .ret)
@[go_sem] theorem c70s2eq : U c70s2 (.seq (.ops c70r1) .ret) := fun _ _ _ _ _ => rfl
def c70 : Gx.Fn := ⟨9, c70k, (.seq (.ops c70r0) c70s2), [(.tmp S2)]⟩
theorem c70ok : stripFn Tryd.prog c70k Tryd.f70 = some c70 := by kernel_rfl

/- slices.Index[[]string,string] -/
@[go_sem] def c79k : List Nat := [0, 1, 4, 5, 7, 8, 9, 16]
@[go_sem] def c79r0 : List GOp := [mS 2 (C 0)]
@[go_sem] def c79r1 : List GOp := [mT S0, oS 4 (.v (.len T0)), mS 5 (C 0)]
@[go_sem] def c79r2 : List GOp := [oS 6 (.v (.bin .lss S5 S4))]
@[go_sem] def c79r3 : List GOp := [mT S5, mS 3 T0]
@[go_sem] def c79r4 : List GOp := [mT S1, mT S0, mT S3, oT (.v (.ix 1 T1 T0)), lT T0, oS 7 (.v (.bin .eql T4 T0))]
@[go_sem] def c79r5 : List GOp := [mT S3, mS 2 T0]
def c79s6 : SCode := (.seq (.ops c79r5) .ret)
@[go_sem] theorem c79s6eq : U c79s6 (.seq (.ops c79r5) .ret) := fun _ _ _ _ _ => rfl
def c79s7 : SCode := (.seq (.ops c79r4) (.cond S7 c79s6 .skip))
@[go_sem] theorem c79s7eq : U c79s7 (.seq (.ops c79r4) (.cond S7 c79s6 .skip)) := fun _ _ _ _ _ => rfl
@[go_sem] def c79r8 : List GOp := [oT (.v (.bin .add S5 (C 1))), mS 5 T0]
def c79s9 : SCode := (.ops c79r8)
@[go_sem] theorem c79s9eq : U c79s9 (.ops c79r8) := fun _ _ _ _ _ => rfl
def c79s10 : SCode := (.seq (.block 1 (.seq (.ops c79r3) c79s7)) c79s9)
@[go_sem] theorem c79s10eq : U c79s10 (.seq (.block 1 (.seq (.ops c79r3) c79s7)) c79s9) := fun _ _ _ _ _ => rfl
def c79s11 : SCode := (.seq (.cond S6 .skip (.exit 0)) c79s10)
@[go_sem] theorem c79s11eq : U c79s11 (.seq (.cond S6 .skip (.exit 0)) c79s10) := fun _ _ _ _ _ => rfl
def c79s12 : SCode := (.seq (.ops c79r2) c79s11)
@[go_sem] theorem c79s12eq : U c79s12 (.seq (.ops c79r2) c79s11) := fun _ _ _ _ _ => rfl
def c79s13 : SCode := (.block 0 (.loop c79k c79s12))
@[go_sem] theorem c79s13eq : U c79s13 (.block 0 (.loop c79k c79s12)) := fun _ _ _ _ _ => rfl
@[go_sem] def c79r14 : List GOp := [mS 2 (C (-1))]
def c79s15 : SCode := (.seq (.ops c79r14) .ret)
@[go_sem] theorem c79s15eq : U c79s15 (.seq (.ops c79r14) .ret) := fun _ _ _ _ _ => rfl
def c79s16 : SCode := (.seq (.seq (.ops c79r1) c79s13) c79s15)
@[go_sem] theorem c79s16eq : U c79s16 (.seq (.seq (.ops c79r1) c79s13) c79s15) := fun _ _ _ _ _ => rfl
def c79 : Gx.Fn := ⟨19, c79k, (.seq (.ops c79r0) c79s16), [(.tmp S2)]⟩
theorem c79ok : stripFn Tryd.prog c79k Tryd.f79 = some c79 := by kernel_rfl

end Go.Proofs.YtbgjgaaobnbijaaDoor
