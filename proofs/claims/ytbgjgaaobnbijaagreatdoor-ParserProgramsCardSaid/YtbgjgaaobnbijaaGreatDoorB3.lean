import Derived.Test.YtbgjgaaobnbijaaGreatDoorProg
import Derived.Test.YtbgjgaaobnbijaaGreatDoorB2
import Derived.Recover
section
/- Generated: the stripped code of Go functions, each held against the loaded program. -/
namespace Go.Proofs.YtbgjgaaobnbijaaGreatDoor
open Gx Go

/- parser.Expression$1 -/
@[go_sem] def c16k : List Nat := [0, 2]
@[go_sem] def c16r0 : List GOp := [oS 1 (.al 25 [(I 0), (.string ⟨⟨[]⟩⟩), (I 0), (I 0), Z])]
@[go_sem] def c16r1 : List GOp := [mT S0, oT (.call 17 [T0]), oN (.st 5 S1 T0)]
def c16s2 : SCode := (.seq (.ops c16r1) .ret)
@[go_sem] theorem c16s2eq : U c16s2 (.seq (.ops c16r1) .ret) := fun _ _ _ _ _ => rfl
def c16 : Gx.Fn := ⟨5, c16k, (.seq (.ops c16r0) c16s2), [(.cell S1 (some 5))]⟩
theorem c16ok : stripFn Tryz.prog c16k Tryz.f16 = some c16 := by kernel_rfl

/- (*parser.parser).expression -/
@[go_sem] def c17k : List Nat := [0, 2, 3, 4, 5, 8]
@[go_sem] def c17r0 : List GOp := [oS 1 (.al 25 [(I 0), (.string ⟨⟨[]⟩⟩), (I 0), (I 0), Z])]
@[go_sem] def c17r1 : List GOp := [mT S0, oT (.call 28 [T0, (.c (.string ⟨⟨[105, 102]⟩⟩))]), oS 5 (.v (.un .not T0))]
@[go_sem] def c17r2 : List GOp := [mT S0, oT (.call 29 [T0]), oN (.st 5 S1 T0)]
def c17s3 : SCode := (.seq (.ops c17r2) .ret)
@[go_sem] theorem c17s3eq : U c17s3 (.seq (.ops c17r2) .ret) := fun _ _ _ _ _ => rfl
@[go_sem] def c17r4 : List GOp := [mT S0, oT (.call 30 [T0, (.c (.string ⟨⟨[105, 102]⟩⟩))]), oT (.v (.bld [(I 0), (.string ⟨⟨[]⟩⟩), (I 0), (I 0), Z] [(0, (1, (C 30))), (3, (1, T0))])), oS 2 (.al 25 [(I 0), (.string ⟨⟨[]⟩⟩), (I 0), (I 0), Z]), oN (.st 5 S2 T0)]
@[go_sem] def c17r5 : List GOp := [mT S0, oT (.call 17 [T0]), oS 3 (.al 25 [(I 0), (.string ⟨⟨[]⟩⟩), (I 0), (I 0), Z]), oN (.st 5 S3 T0)]
@[go_sem] def c17r6 : List GOp := [mT S0, oT (.call 31 [T0, (.c (.string ⟨⟨[116, 104, 101, 110]⟩⟩))])]
@[go_sem] def c17r7 : List GOp := [mT S0, oT (.call 17 [T0]), oS 4 (.al 25 [(I 0), (.string ⟨⟨[]⟩⟩), (I 0), (I 0), Z]), oN (.st 5 S4 T0)]
@[go_sem] def c17r8 : List GOp := [mT S0, oT (.call 31 [T0, (.c (.string ⟨⟨[101, 108, 115, 101]⟩⟩))])]
@[go_sem] def c17d9 : DT := (.rd none .t (.ld (some 5) S3) [4, 6] (.rd none .t (.ld (some 5) S4) [4, 6] (rm S0 [3, 4, 6] (.ef 3 none .t (.call 17 [T0]) (.ef 4 none .t (.bs 25 3 [(I 0), (.string ⟨⟨[]⟩⟩), (I 0), (I 0), Z, (I 0), (.string ⟨⟨[]⟩⟩), (I 0), (I 0), Z, (I 0), (.string ⟨⟨[]⟩⟩), (I 0), (I 0), Z] [(0, (5, T3)), (5, (5, T2)), (10, (5, T0))]) (rf 4 S2 [6] (.ef 6 none .no (.st 1 T0 T1) .done)))))))
@[go_sem] def c17r10 : List GOp := [mT S0, oT (.call 32 [T0])]
@[go_sem] def c17r11 : List GOp := [oT (.ld (some 5) S2), oN (.st 5 S1 T0)]
def c17s12 : SCode := (.seq (.ops c17r11) .ret)
@[go_sem] theorem c17s12eq : U c17s12 (.seq (.ops c17r11) .ret) := fun _ _ _ _ _ => rfl
def c17s13 : SCode := (.seq (.ops c17r10) c17s12)
@[go_sem] theorem c17s13eq : U c17s13 (.seq (.ops c17r10) c17s12) := fun _ _ _ _ _ => rfl
def c17s14 : SCode := (.seq (.de c17d9) c17s13)
@[go_sem] theorem c17s14eq : U c17s14 (.seq (.de c17d9) c17s13) := fun _ _ _ _ _ => rfl
def c17s15 : SCode := (.seq (.ops c17r8) c17s14)
@[go_sem] theorem c17s15eq : U c17s15 (.seq (.ops c17r8) c17s14) := fun _ _ _ _ _ => rfl
def c17s16 : SCode := (.seq (.ops c17r7) c17s15)
@[go_sem] theorem c17s16eq : U c17s16 (.seq (.ops c17r7) c17s15) := fun _ _ _ _ _ => rfl
def c17s17 : SCode := (.seq (.ops c17r6) c17s16)
@[go_sem] theorem c17s17eq : U c17s17 (.seq (.ops c17r6) c17s16) := fun _ _ _ _ _ => rfl
def c17s18 : SCode := (.seq (.ops c17r5) c17s17)
@[go_sem] theorem c17s18eq : U c17s18 (.seq (.ops c17r5) c17s17) := fun _ _ _ _ _ => rfl
def c17s19 : SCode := (.seq (.ops c17r4) c17s18)
@[go_sem] theorem c17s19eq : U c17s19 (.seq (.ops c17r4) c17s18) := fun _ _ _ _ _ => rfl
def c17s20 : SCode := (.seq (.seq (.ops c17r1) (.cond S5 c17s3 .skip)) c17s19)
@[go_sem] theorem c17s20eq : U c17s20 (.seq (.seq (.ops c17r1) (.cond S5 c17s3 .skip)) c17s19) := fun _ _ _ _ _ => rfl
def c17 : Gx.Fn := ⟨31, c17k, (.seq (.ops c17r0) c17s20), [(.cell S1 (some 5))]⟩
theorem c17ok : stripFn Tryz.prog c17k Tryz.f17 = some c17 := by kernel_rfl

/- parser.Lattice$1 -/
@[go_sem] def c20k : List Nat := [0, 2]
@[go_sem] def c20r0 : List GOp := [oS 1 (.al 25 [(I 0), (.string ⟨⟨[]⟩⟩), (I 0), (I 0), Z])]
@[go_sem] def c20r1 : List GOp := [mT S0, oT (.call 21 [T0]), oN (.st 5 S1 T0)]
def c20s2 : SCode := (.seq (.ops c20r1) .ret)
@[go_sem] theorem c20s2eq : U c20s2 (.seq (.ops c20r1) .ret) := fun _ _ _ _ _ => rfl
def c20 : Gx.Fn := ⟨5, c20k, (.seq (.ops c20r0) c20s2), [(.cell S1 (some 5))]⟩
theorem c20ok : stripFn Tryz.prog c20k Tryz.f20 = some c20 := by kernel_rfl

/- (*parser.parser).lattice -/
@[go_sem] def c21k : List Nat := [0, 2, 3, 4, 5, 6, 14, 20, 24, 28, 35, 42, 60, 69, 78, 91, 97, 118]
@[go_sem] def c21r0 : List GOp := [oS 1 (.al 25 [(I 0), (.string ⟨⟨[]⟩⟩), (I 0), (I 0), Z])]
@[go_sem] def c21r1 : List GOp := [mT S0, oT (.call 23 [T0]), oS 2 (.al 41 [(I 0), (.string ⟨⟨[]⟩⟩), (I 0), (I 0)]), oN (.st 4 S2 T0)]
@[go_sem] def c21r2 : List GOp := [fT 3 S2, lT T0, oT (.v (.bld [(I 0), (.string ⟨⟨[]⟩⟩), (I 0), (I 0), Z] [(3, (1, T0))])), oS 3 (.al 25 [(I 0), (.string ⟨⟨[]⟩⟩), (I 0), (I 0), Z]), oN (.st 5 S3 T0)]
@[go_sem] def c21r3 : List GOp := [fT 0 S2, lT T0, oT (.v (.bin .eql T0 (C 1))), mS 6 T0]
@[go_sem] def c21r4 : List GOp := [mT S0, oT (.call 39 [T0, (C 21)]), oN (.st 5 S1 T0)]
def c21s5 : SCode := (.seq (.ops c21r4) .ret)
@[go_sem] theorem c21s5eq : U c21s5 (.seq (.ops c21r4) .ret) := fun _ _ _ _ _ => rfl
@[go_sem] def c21r6 : List GOp := [mT S0, oT (.call 40 [T0, (.c (.string ⟨⟨[102, 108, 97, 103]⟩⟩))]), mS 7 T0]
@[go_sem] def c21r7 : List GOp := [fT 0 S3, oN (.st 1 T0 (C 10))]
@[go_sem] def c21r8 : List GOp := [mT S0, oT (.call 40 [T0, (.c (.string ⟨⟨[114, 101, 103, 105, 115, 116, 101, 114]⟩⟩))]), mS 8 T0]
@[go_sem] def c21r9 : List GOp := [fT 0 S3, oN (.st 1 T0 (C 18))]
@[go_sem] def c21r10 : List GOp := [mT S0, oT (.call 40 [T0, (.c (.string ⟨⟨[115, 101, 116]⟩⟩))]), mS 9 T0]
@[go_sem] def c21r11 : List GOp := [mT S0, oT (.call 41 [T0]), fT 0 S3, oN (.st 1 T0 (C 13)), fT 4 S3, oN (.st 1 T0 T2)]
@[go_sem] def c21r12 : List GOp := [mT S0, oT (.call 40 [T0, (.c (.string ⟨⟨[102, 108, 97, 116]⟩⟩))]), mS 10 T0]
@[go_sem] def c21r13 : List GOp := [mT S0, oT (.call 41 [T0]), fT 0 S3, oN (.st 1 T0 (C 17)), fT 4 S3, oN (.st 1 T0 T2)]
@[go_sem] def c21r14 : List GOp := [mT S0, oT (.call 28 [T0, (.c (.string ⟨⟨[109, 97, 112]⟩⟩))]), mS 11 T0]
@[go_sem] def c21r15 : List GOp := [mT S0, oT (.call 30 [T0, (.c (.string ⟨⟨[109, 97, 112]⟩⟩))])]
@[go_sem] def c21r16 : List GOp := [mT S0, oT (.call 41 [T0]), fT 0 S3, oN (.st 1 T0 (C 14)), fT 4 S3, oN (.st 1 T0 T2)]
@[go_sem] def c21d17 : DT := (rf 4 S3 [5, 7] (rl T0 [5, 7] (rm S0 [3, 4, 5, 7] (.ef 3 none .t (.call 21 [T0]) (.ef 4 none .t (.bs 25 1 [(I 0), (.string ⟨⟨[]⟩⟩), (I 0), (I 0), Z] [(0, (5, T0))]) (.ef 5 none .t (.ap 23 23 T3 T0) (rf 4 S3 [7] (.ef 7 none .no (.st 1 T0 T1) .done))))))))
@[go_sem] def c21r18 : List GOp := [mT S0, oT (.call 32 [T0])]
def c21s19 : SCode := (.ops c21r18)
@[go_sem] theorem c21s19eq : U c21s19 (.ops c21r18) := fun _ _ _ _ _ => rfl
def c21s20 : SCode := (.seq (.de c21d17) c21s19)
@[go_sem] theorem c21s20eq : U c21s20 (.seq (.de c21d17) c21s19) := fun _ _ _ _ _ => rfl
def c21s21 : SCode := (.seq (.ops c21r16) c21s20)
@[go_sem] theorem c21s21eq : U c21s21 (.seq (.ops c21r16) c21s20) := fun _ _ _ _ _ => rfl
def c21s22 : SCode := (.seq (.ops c21r15) c21s21)
@[go_sem] theorem c21s22eq : U c21s22 (.seq (.ops c21r15) c21s21) := fun _ _ _ _ _ => rfl
@[go_sem] def c21r23 : List GOp := [mT S0, oT (.call 40 [T0, (.c (.string ⟨⟨[109, 97, 120]⟩⟩))]), mS 12 T0]
@[go_sem] def c21r24 : List GOp := [mT S0, mT S0, oT (.v (.mkf 43 [T0] [])), oT (.call 42 [T2, T0]), fT 0 S3, oN (.st 1 T0 (C 11)), fT 4 S3, oN (.st 1 T0 T2)]
@[go_sem] def c21r25 : List GOp := [mT S0, oT (.call 40 [T0, (.c (.string ⟨⟨[109, 105, 110]⟩⟩))]), mS 13 T0]
@[go_sem] def c21r26 : List GOp := [mT S0, mT S0, oT (.v (.mkf 43 [T0] [])), oT (.call 42 [T2, T0]), fT 0 S3, oN (.st 1 T0 (C 12)), fT 4 S3, oN (.st 1 T0 T2)]
@[go_sem] def c21r27 : List GOp := [mT S0, oT (.call 28 [T0, (.c (.string ⟨⟨[108, 101, 120]⟩⟩))]), mS 14 T0]
@[go_sem] def c21r28 : List GOp := [mT S0, oT (.call 30 [T0, (.c (.string ⟨⟨[108, 101, 120]⟩⟩))])]
@[go_sem] def c21r29 : List GOp := [mT S0, mT S0, oT (.v (.mkf 21 [T0] [])), oT (.call 42 [T2, T0]), fT 0 S3, oN (.st 1 T0 (C 16)), fT 4 S3, oN (.st 1 T0 T2)]
@[go_sem] def c21r30 : List GOp := [mT S0, oT (.call 32 [T0])]
def c21s31 : SCode := (.ops c21r30)
@[go_sem] theorem c21s31eq : U c21s31 (.ops c21r30) := fun _ _ _ _ _ => rfl
def c21s32 : SCode := (.seq (.ops c21r29) c21s31)
@[go_sem] theorem c21s32eq : U c21s32 (.seq (.ops c21r29) c21s31) := fun _ _ _ _ _ => rfl
def c21s33 : SCode := (.seq (.ops c21r28) c21s32)
@[go_sem] theorem c21s33eq : U c21s33 (.seq (.ops c21r28) c21s32) := fun _ _ _ _ _ => rfl
@[go_sem] def c21r34 : List GOp := [mT S0, oT (.call 28 [T0, (.c (.string ⟨⟨[123]⟩⟩))]), mS 15 T0]
@[go_sem] def c21r35 : List GOp := [mT S0, oT (.call 30 [T0, (.c (.string ⟨⟨[123]⟩⟩))])]
@[go_sem] def c21r36 : List GOp := [fT 0 S3, oN (.st 1 T0 (C 15))]
@[go_sem] def c21r37 : List GOp := [mS 4 (.c (.bool true))]
@[go_sem] def c21r38 : List GOp := [mS 16 S4]
def c21s39 : SCode := (.cond S16 .skip (.exit 1))
@[go_sem] theorem c21s39eq : U c21s39 (.cond S16 .skip (.exit 1)) := fun _ _ _ _ _ => rfl
@[go_sem] def c21r40 : List GOp := [mT S0, oT (.call 39 [T0, (C 22)]), oS 5 (.al 25 [(I 0), (.string ⟨⟨[]⟩⟩), (I 0), (I 0), Z]), oN (.st 5 S5 T0)]
@[go_sem] def c21r41 : List GOp := [mT S0, oT (.call 31 [T0, (.c (.string ⟨⟨[58]⟩⟩))])]
@[go_sem] def c21r42 : List GOp := [mT S0, oT (.call 21 [T0]), oT (.bs 25 1 [(I 0), (.string ⟨⟨[]⟩⟩), (I 0), (I 0), Z] [(0, (5, T0))]), fT 4 S5, oN (.st 1 T0 T1)]
@[go_sem] def c21r43 : List GOp := [fT 4 S3, lT T0, oT (.ld (some 5) S5), oT (.bs 25 1 [(I 0), (.string ⟨⟨[]⟩⟩), (I 0), (I 0), Z] [(0, (5, T0))]), oT (.ap 23 23 T2 T0), fT 4 S3, oN (.st 1 T0 T1)]
def c21s44 : SCode := (.ops c21r43)
@[go_sem] theorem c21s44eq : U c21s44 (.ops c21r43) := fun _ _ _ _ _ => rfl
def c21s45 : SCode := (.seq (.ops c21r42) c21s44)
@[go_sem] theorem c21s45eq : U c21s45 (.seq (.ops c21r42) c21s44) := fun _ _ _ _ _ => rfl
def c21s46 : SCode := (.seq (.ops c21r41) c21s45)
@[go_sem] theorem c21s46eq : U c21s46 (.seq (.ops c21r41) c21s45) := fun _ _ _ _ _ => rfl
@[go_sem] def c21r47 : List GOp := [mT S0, oT (.call 40 [T0, (.c (.string ⟨⟨[44]⟩⟩))]), mS 4 T0]
def c21s48 : SCode := (.ops c21r47)
@[go_sem] theorem c21s48eq : U c21s48 (.ops c21r47) := fun _ _ _ _ _ => rfl
def c21s49 : SCode := (.seq (.block 2 (.seq (.ops c21r40) c21s46)) c21s48)
@[go_sem] theorem c21s49eq : U c21s49 (.seq (.block 2 (.seq (.ops c21r40) c21s46)) c21s48) := fun _ _ _ _ _ => rfl
def c21s50 : SCode := (.seq (.seq (.ops c21r38) c21s39) c21s49)
@[go_sem] theorem c21s50eq : U c21s50 (.seq (.seq (.ops c21r38) c21s39) c21s49) := fun _ _ _ _ _ => rfl
def c21s51 : SCode := (.block 1 (.loop c21k c21s50))
@[go_sem] theorem c21s51eq : U c21s51 (.block 1 (.loop c21k c21s50)) := fun _ _ _ _ _ => rfl
@[go_sem] def c21r52 : List GOp := [mT S0, oT (.call 31 [T0, (.c (.string ⟨⟨[125]⟩⟩))])]
@[go_sem] def c21r53 : List GOp := [mT S0, oT (.call 32 [T0])]
def c21s54 : SCode := (.ops c21r53)
@[go_sem] theorem c21s54eq : U c21s54 (.ops c21r53) := fun _ _ _ _ _ => rfl
def c21s55 : SCode := (.seq (.ops c21r52) c21s54)
@[go_sem] theorem c21s55eq : U c21s55 (.seq (.ops c21r52) c21s54) := fun _ _ _ _ _ => rfl
def c21s56 : SCode := (.seq (.seq (.ops c21r37) c21s51) c21s55)
@[go_sem] theorem c21s56eq : U c21s56 (.seq (.seq (.ops c21r37) c21s51) c21s55) := fun _ _ _ _ _ => rfl
def c21s57 : SCode := (.seq (.ops c21r36) c21s56)
@[go_sem] theorem c21s57eq : U c21s57 (.seq (.ops c21r36) c21s56) := fun _ _ _ _ _ => rfl
def c21s58 : SCode := (.seq (.ops c21r35) c21s57)
@[go_sem] theorem c21s58eq : U c21s58 (.seq (.ops c21r35) c21s57) := fun _ _ _ _ _ => rfl
@[go_sem] def c21r59 : List GOp := [mT S0, oT (.call 40 [T0, (.c (.string ⟨⟨[99, 108, 111, 115, 101, 100]⟩⟩))]), mS 17 T0]
@[go_sem] def c21r60 : List GOp := [mT S0, oT (.call 44 [T0]), fT 0 S3, oN (.st 1 T0 (C 19)), fT 4 S3, oN (.st 1 T0 T2)]
@[go_sem] def c21r61 : List GOp := [mT S0, oT (.call 27 [T0, (C 2)])]
def c21s62 : SCode := (.cond S17 (.ops c21r60) (.ops c21r61))
@[go_sem] theorem c21s62eq : U c21s62 (.cond S17 (.ops c21r60) (.ops c21r61)) := fun _ _ _ _ _ => rfl
def c21s63 : SCode := (.seq (.ops c21r59) c21s62)
@[go_sem] theorem c21s63eq : U c21s63 (.seq (.ops c21r59) c21s62) := fun _ _ _ _ _ => rfl
def c21s64 : SCode := (.cond S15 c21s58 c21s63)
@[go_sem] theorem c21s64eq : U c21s64 (.cond S15 c21s58 c21s63) := fun _ _ _ _ _ => rfl
def c21s65 : SCode := (.seq (.ops c21r34) c21s64)
@[go_sem] theorem c21s65eq : U c21s65 (.seq (.ops c21r34) c21s64) := fun _ _ _ _ _ => rfl
def c21s66 : SCode := (.cond S14 c21s33 c21s65)
@[go_sem] theorem c21s66eq : U c21s66 (.cond S14 c21s33 c21s65) := fun _ _ _ _ _ => rfl
def c21s67 : SCode := (.seq (.ops c21r27) c21s66)
@[go_sem] theorem c21s67eq : U c21s67 (.seq (.ops c21r27) c21s66) := fun _ _ _ _ _ => rfl
def c21s68 : SCode := (.cond S13 (.ops c21r26) c21s67)
@[go_sem] theorem c21s68eq : U c21s68 (.cond S13 (.ops c21r26) c21s67) := fun _ _ _ _ _ => rfl
def c21s69 : SCode := (.seq (.ops c21r25) c21s68)
@[go_sem] theorem c21s69eq : U c21s69 (.seq (.ops c21r25) c21s68) := fun _ _ _ _ _ => rfl
def c21s70 : SCode := (.cond S12 (.ops c21r24) c21s69)
@[go_sem] theorem c21s70eq : U c21s70 (.cond S12 (.ops c21r24) c21s69) := fun _ _ _ _ _ => rfl
def c21s71 : SCode := (.seq (.ops c21r23) c21s70)
@[go_sem] theorem c21s71eq : U c21s71 (.seq (.ops c21r23) c21s70) := fun _ _ _ _ _ => rfl
def c21s72 : SCode := (.cond S11 c21s22 c21s71)
@[go_sem] theorem c21s72eq : U c21s72 (.cond S11 c21s22 c21s71) := fun _ _ _ _ _ => rfl
def c21s73 : SCode := (.seq (.ops c21r14) c21s72)
@[go_sem] theorem c21s73eq : U c21s73 (.seq (.ops c21r14) c21s72) := fun _ _ _ _ _ => rfl
def c21s74 : SCode := (.cond S10 (.ops c21r13) c21s73)
@[go_sem] theorem c21s74eq : U c21s74 (.cond S10 (.ops c21r13) c21s73) := fun _ _ _ _ _ => rfl
def c21s75 : SCode := (.seq (.ops c21r12) c21s74)
@[go_sem] theorem c21s75eq : U c21s75 (.seq (.ops c21r12) c21s74) := fun _ _ _ _ _ => rfl
def c21s76 : SCode := (.cond S9 (.ops c21r11) c21s75)
@[go_sem] theorem c21s76eq : U c21s76 (.cond S9 (.ops c21r11) c21s75) := fun _ _ _ _ _ => rfl
def c21s77 : SCode := (.seq (.ops c21r10) c21s76)
@[go_sem] theorem c21s77eq : U c21s77 (.seq (.ops c21r10) c21s76) := fun _ _ _ _ _ => rfl
def c21s78 : SCode := (.cond S8 (.ops c21r9) c21s77)
@[go_sem] theorem c21s78eq : U c21s78 (.cond S8 (.ops c21r9) c21s77) := fun _ _ _ _ _ => rfl
def c21s79 : SCode := (.seq (.ops c21r8) c21s78)
@[go_sem] theorem c21s79eq : U c21s79 (.seq (.ops c21r8) c21s78) := fun _ _ _ _ _ => rfl
def c21s80 : SCode := (.cond S7 (.ops c21r7) c21s79)
@[go_sem] theorem c21s80eq : U c21s80 (.cond S7 (.ops c21r7) c21s79) := fun _ _ _ _ _ => rfl
def c21s81 : SCode := (.seq (.ops c21r6) c21s80)
@[go_sem] theorem c21s81eq : U c21s81 (.seq (.ops c21r6) c21s80) := fun _ _ _ _ _ => rfl
@[go_sem] def c21r82 : List GOp := [oT (.ld (some 5) S3), oN (.st 5 S1 T0)]
def c21s83 : SCode := (.seq (.ops c21r82) .ret)
@[go_sem] theorem c21s83eq : U c21s83 (.seq (.ops c21r82) .ret) := fun _ _ _ _ _ => rfl
def c21s84 : SCode := (.seq (.block 0 (.seq (.ops c21r3) (.cond S6 c21s5 c21s81))) c21s83)
@[go_sem] theorem c21s84eq : U c21s84 (.seq (.block 0 (.seq (.ops c21r3) (.cond S6 c21s5 c21s81))) c21s83) := fun _ _ _ _ _ => rfl
def c21s85 : SCode := (.seq (.ops c21r2) c21s84)
@[go_sem] theorem c21s85eq : U c21s85 (.seq (.ops c21r2) c21s84) := fun _ _ _ _ _ => rfl
def c21s86 : SCode := (.seq (.ops c21r1) c21s85)
@[go_sem] theorem c21s86eq : U c21s86 (.seq (.ops c21r1) c21s85) := fun _ _ _ _ _ => rfl
def c21 : Gx.Fn := ⟨126, c21k, (.seq (.ops c21r0) c21s86), [(.cell S1 (some 5))]⟩
theorem c21ok : stripFn Tryz.prog c21k Tryz.f21 = some c21 := by kernel_rfl

/- parser.Parse$1 -/
@[go_sem] def c22k : List Nat := [0, 2, 3, 8]
@[go_sem] def c22r0 : List GOp := [oS 1 (.al 25 [(I 0), (.string ⟨⟨[]⟩⟩), (I 0), (I 0), Z])]
@[go_sem] def c22r1 : List GOp := [oT (.v (.bld [(I 0), (.string ⟨⟨[]⟩⟩), (I 0), (I 0), Z] [(0, (1, (C 1)))])), oS 2 (.al 25 [(I 0), (.string ⟨⟨[]⟩⟩), (I 0), (I 0), Z]), oN (.st 5 S2 T0)]
@[go_sem] def c22r2 : List GOp := [mT S0, oT (.call 23 [T0]), oT (.v (.fld1 0 T0)), oS 3 (.v (.bin .neq T0 (C 6)))]
def c22s3 : SCode := (.cond S3 .skip (.exit 0))
@[go_sem] theorem c22s3eq : U c22s3 (.cond S3 .skip (.exit 0)) := fun _ _ _ _ _ => rfl
@[go_sem] def c22d4 : DT := (rf 4 S2 [5, 7] (rl T0 [5, 7] (rm S0 [3, 4, 5, 7] (.ef 3 none .t (.call 24 [T0]) (.ef 4 none .t (.bs 25 1 [(I 0), (.string ⟨⟨[]⟩⟩), (I 0), (I 0), Z] [(0, (5, T0))]) (.ef 5 none .t (.ap 23 23 T3 T0) (rf 4 S2 [7] (.ef 7 none .no (.st 1 T0 T1) .done))))))))
def c22s5 : SCode := (.seq (.seq (.ops c22r2) c22s3) (.block 1 (.de c22d4)))
@[go_sem] theorem c22s5eq : U c22s5 (.seq (.seq (.ops c22r2) c22s3) (.block 1 (.de c22d4))) := fun _ _ _ _ _ => rfl
@[go_sem] def c22r6 : List GOp := [oT (.ld (some 5) S2), oN (.st 5 S1 T0)]
def c22s7 : SCode := (.seq (.ops c22r6) .ret)
@[go_sem] theorem c22s7eq : U c22s7 (.seq (.ops c22r6) .ret) := fun _ _ _ _ _ => rfl
def c22s8 : SCode := (.seq (.block 0 (.loop c22k c22s5)) c22s7)
@[go_sem] theorem c22s8eq : U c22s8 (.seq (.block 0 (.loop c22k c22s5)) c22s7) := fun _ _ _ _ _ => rfl
def c22s9 : SCode := (.seq (.ops c22r1) c22s8)
@[go_sem] theorem c22s9eq : U c22s9 (.seq (.ops c22r1) c22s8) := fun _ _ _ _ _ => rfl
def c22 : Gx.Fn := ⟨17, c22k, (.seq (.ops c22r0) c22s9), [(.cell S1 (some 5))]⟩
theorem c22ok : stripFn Tryz.prog c22k Tryz.f22 = some c22 := by kernel_rfl

/- (*parser.parser).look -/
@[go_sem] def c23k : List Nat := [0, 2]
@[go_sem] def c23r0 : List GOp := [oS 1 (.al 41 [(I 0), (.string ⟨⟨[]⟩⟩), (I 0), (I 0)])]
@[go_sem] def c23d1 : DT := (rm S0 [10] (.rd none .t (.v (.nc T0)) [10] (rf 0 T0 [10] (rl T0 [10] (rm S0 [10] (.rd none .t (.v (.nc T0)) [10] (rf 1 T0 [10] (rl T0 [10] (.rd none .t (.v (.ix 4 T4 T0)) [10] (.rd none .t (.ld (some 4) T0) [10] (.ef 10 none .no (.st 4 S1 T0) .done)))))))))))
def c23 : Gx.Fn := ⟨13, c23k, (.seq (.ops c23r0) (.seq (.de c23d1) .ret)), [(.cell S1 (some 4))]⟩
theorem c23ok : stripFn Tryz.prog c23k Tryz.f23 = some c23 := by kernel_rfl

/- (*parser.parser).declaration -/
@[go_sem] def c24k : List Nat := [0, 2, 3, 4, 11, 15, 19, 23, 32, 38, 59, 74, 82]
@[go_sem] def c24r0 : List GOp := [oS 1 (.al 25 [(I 0), (.string ⟨⟨[]⟩⟩), (I 0), (I 0), Z])]
@[go_sem] def c24r1 : List GOp := [mT S0, oT (.call 23 [T0]), oT (.v (.fld1 3 T0)), oT (.v (.bld [(I 0), (.string ⟨⟨[]⟩⟩), (I 0), (I 0), Z] [(3, (1, T0))])), oS 2 (.al 25 [(I 0), (.string ⟨⟨[]⟩⟩), (I 0), (I 0), Z]), oN (.st 5 S2 T0)]
@[go_sem] def c24r2 : List GOp := [mT S0, oT (.call 40 [T0, (.c (.string ⟨⟨[108, 97, 116, 116, 105, 99, 101]⟩⟩))]), mS 4 T0]
@[go_sem] def c24r3 : List GOp := [fT 0 S2, oN (.st 1 T0 (C 2))]
@[go_sem] def c24r4 : List GOp := [mT S0, oT (.call 40 [T0, (.c (.string ⟨⟨[111, 98, 106, 101, 99, 116]⟩⟩))]), mS 5 T0]
@[go_sem] def c24r5 : List GOp := [fT 0 S2, oN (.st 1 T0 (C 3))]
@[go_sem] def c24r6 : List GOp := [mT S0, oT (.call 40 [T0, (.c (.string ⟨⟨[117, 112, 100, 97, 116, 101]⟩⟩))]), mS 6 T0]
@[go_sem] def c24r7 : List GOp := [fT 0 S2, oN (.st 1 T0 (C 4))]
@[go_sem] def c24r8 : List GOp := [mT S0, oT (.call 40 [T0, (.c (.string ⟨⟨[113, 117, 101, 114, 121]⟩⟩))]), mS 7 T0]
@[go_sem] def c24r9 : List GOp := [fT 0 S2, oN (.st 1 T0 (C 5))]
@[go_sem] def c24r10 : List GOp := [mT S0, oT (.call 27 [T0, (C 2)])]
def c24s11 : SCode := (.cond S7 (.ops c24r9) (.ops c24r10))
@[go_sem] theorem c24s11eq : U c24s11 (.cond S7 (.ops c24r9) (.ops c24r10)) := fun _ _ _ _ _ => rfl
def c24s12 : SCode := (.seq (.ops c24r8) c24s11)
@[go_sem] theorem c24s12eq : U c24s12 (.seq (.ops c24r8) c24s11) := fun _ _ _ _ _ => rfl
def c24s13 : SCode := (.cond S6 (.ops c24r7) c24s12)
@[go_sem] theorem c24s13eq : U c24s13 (.cond S6 (.ops c24r7) c24s12) := fun _ _ _ _ _ => rfl
def c24s14 : SCode := (.seq (.ops c24r6) c24s13)
@[go_sem] theorem c24s14eq : U c24s14 (.seq (.ops c24r6) c24s13) := fun _ _ _ _ _ => rfl
def c24s15 : SCode := (.cond S5 (.ops c24r5) c24s14)
@[go_sem] theorem c24s15eq : U c24s15 (.cond S5 (.ops c24r5) c24s14) := fun _ _ _ _ _ => rfl
def c24s16 : SCode := (.seq (.ops c24r4) c24s15)
@[go_sem] theorem c24s16eq : U c24s16 (.seq (.ops c24r4) c24s15) := fun _ _ _ _ _ => rfl
def c24s17 : SCode := (.cond S4 (.ops c24r3) c24s16)
@[go_sem] theorem c24s17eq : U c24s17 (.cond S4 (.ops c24r3) c24s16) := fun _ _ _ _ _ => rfl
@[go_sem] def c24r18 : List GOp := [mT S0, oT (.call 45 [T0, (C 1)]), oT (.v (.fld1 1 T0)), fT 1 S2, oN (.st 1 T0 T1)]
@[go_sem] def c24r19 : List GOp := [fT 0 S2, oS 8 (.ld none T0)]
@[go_sem] def c24r20 : List GOp := [oT (.v (.bin .eql S8 (C 2))), mS 11 T0]
@[go_sem] def c24r21 : List GOp := [mT S0, oT (.call 31 [T0, (.c (.string ⟨⟨[61]⟩⟩))])]
@[go_sem] def c24r22 : List GOp := [mT S0, oT (.call 21 [T0]), oT (.bs 25 1 [(I 0), (.string ⟨⟨[]⟩⟩), (I 0), (I 0), Z] [(0, (5, T0))]), fT 4 S2, oN (.st 1 T0 T1)]
def c24s23 : SCode := (.ops c24r22)
@[go_sem] theorem c24s23eq : U c24s23 (.ops c24r22) := fun _ _ _ _ _ => rfl
def c24s24 : SCode := (.seq (.ops c24r21) c24s23)
@[go_sem] theorem c24s24eq : U c24s24 (.seq (.ops c24r21) c24s23) := fun _ _ _ _ _ => rfl
@[go_sem] def c24r25 : List GOp := [oT (.v (.bin .eql S8 (C 3))), mS 12 T0]
@[go_sem] def c24r26 : List GOp := [mT S0, oT (.call 31 [T0, (.c (.string ⟨⟨[58]⟩⟩))])]
@[go_sem] def c24r27 : List GOp := [mT S0, oT (.call 21 [T0]), oT (.bs 25 1 [(I 0), (.string ⟨⟨[]⟩⟩), (I 0), (I 0), Z] [(0, (5, T0))]), fT 4 S2, oN (.st 1 T0 T1)]
def c24s28 : SCode := (.ops c24r27)
@[go_sem] theorem c24s28eq : U c24s28 (.ops c24r27) := fun _ _ _ _ _ => rfl
def c24s29 : SCode := (.seq (.ops c24r26) c24s28)
@[go_sem] theorem c24s29eq : U c24s29 (.seq (.ops c24r26) c24s28) := fun _ _ _ _ _ => rfl
@[go_sem] def c24r30 : List GOp := [mT S0, oT (.call 31 [T0, (.c (.string ⟨⟨[40]⟩⟩))])]
@[go_sem] def c24r31 : List GOp := [mT S0, oT (.call 40 [T0, (.c (.string ⟨⟨[41]⟩⟩))]), oT (.v (.un .not T0)), mS 3 T0]
@[go_sem] def c24r32 : List GOp := [mS 9 S3]
def c24s33 : SCode := (.cond S9 .skip (.exit 2))
@[go_sem] theorem c24s33eq : U c24s33 (.cond S9 .skip (.exit 2)) := fun _ _ _ _ _ => rfl
@[go_sem] def c24d34 : DT := (rf 4 S2 [5, 7] (rl T0 [5, 7] (rm S0 [3, 4, 5, 7] (.ef 3 none .t (.call 47 [T0]) (.ef 4 none .t (.bs 25 1 [(I 0), (.string ⟨⟨[]⟩⟩), (I 0), (I 0), Z] [(0, (5, T0))]) (.ef 5 none .t (.ap 23 23 T3 T0) (rf 4 S2 [7] (.ef 7 none .no (.st 1 T0 T1) .done))))))))
@[go_sem] def c24r35 : List GOp := [mT S0, oT (.call 46 [T0]), mS 3 T0]
def c24s36 : SCode := (.ops c24r35)
@[go_sem] theorem c24s36eq : U c24s36 (.ops c24r35) := fun _ _ _ _ _ => rfl
def c24s37 : SCode := (.seq (.block 3 (.de c24d34)) c24s36)
@[go_sem] theorem c24s37eq : U c24s37 (.seq (.block 3 (.de c24d34)) c24s36) := fun _ _ _ _ _ => rfl
def c24s38 : SCode := (.seq (.seq (.ops c24r32) c24s33) c24s37)
@[go_sem] theorem c24s38eq : U c24s38 (.seq (.seq (.ops c24r32) c24s33) c24s37) := fun _ _ _ _ _ => rfl
def c24s39 : SCode := (.block 2 (.loop c24k c24s38))
@[go_sem] theorem c24s39eq : U c24s39 (.block 2 (.loop c24k c24s38)) := fun _ _ _ _ _ => rfl
@[go_sem] def c24r40 : List GOp := [mT S0, oT (.call 31 [T0, (.c (.string ⟨⟨[111, 110]⟩⟩))])]
@[go_sem] def c24d41 : DT := (rf 4 S2 [5, 7] (rl T0 [5, 7] (rm S0 [3, 4, 5, 7] (.ef 3 none .t (.call 39 [T0, (C 48)]) (.ef 4 none .t (.bs 25 1 [(I 0), (.string ⟨⟨[]⟩⟩), (I 0), (I 0), Z] [(0, (5, T0))]) (.ef 5 none .t (.ap 23 23 T3 T0) (rf 4 S2 [7] (.ef 7 none .no (.st 1 T0 T1) .done))))))))
@[go_sem] def c24r42 : List GOp := [fT 0 S2, lT T0, oS 10 (.v (.bin .eql T0 (C 5)))]
@[go_sem] def c24r43 : List GOp := [mT S0, oT (.call 31 [T0, (.c (.string ⟨⟨[58]⟩⟩))])]
@[go_sem] def c24r44 : List GOp := [mT S0, oT (.call 48 [T0]), fT 2 S2, oN (.st 1 T0 T1)]
def c24s45 : SCode := (.ops c24r44)
@[go_sem] theorem c24s45eq : U c24s45 (.ops c24r44) := fun _ _ _ _ _ => rfl
def c24s46 : SCode := (.seq (.ops c24r43) c24s45)
@[go_sem] theorem c24s46eq : U c24s46 (.seq (.ops c24r43) c24s45) := fun _ _ _ _ _ => rfl
def c24s47 : SCode := (.cond S10 c24s46 .skip)
@[go_sem] theorem c24s47eq : U c24s47 (.cond S10 c24s46 .skip) := fun _ _ _ _ _ => rfl
@[go_sem] def c24r48 : List GOp := [mT S0, oT (.call 31 [T0, (.c (.string ⟨⟨[61]⟩⟩))])]
@[go_sem] def c24d49 : DT := (rf 4 S2 [5, 7] (rl T0 [5, 7] (rm S0 [3, 4, 5, 7] (.ef 3 none .t (.call 17 [T0]) (.ef 4 none .t (.bs 25 1 [(I 0), (.string ⟨⟨[]⟩⟩), (I 0), (I 0), Z] [(0, (5, T0))]) (.ef 5 none .t (.ap 23 23 T3 T0) (rf 4 S2 [7] (.ef 7 none .no (.st 1 T0 T1) .done))))))))
def c24s50 : SCode := (.de c24d49)
@[go_sem] theorem c24s50eq : U c24s50 (.de c24d49) := fun _ _ _ _ _ => rfl
def c24s51 : SCode := (.seq (.ops c24r48) c24s50)
theorem c24s51eq : U c24s51 (.seq (.ops c24r48) c24s50) := fun _ _ _ _ _ => rfl
def c24s52 : SCode := (.seq (.seq (.ops c24r42) c24s47) c24s51)
@[go_sem] theorem c24s52eq : U c24s52 (.seq (.seq (.ops c24r42) c24s47) c24s51) := fun _ _ _ _ _ => rfl
def c24s53 : SCode := (.seq (.de c24d41) c24s52)
@[go_sem] theorem c24s53eq : U c24s53 (.seq (.de c24d41) c24s52) := fun _ _ _ _ _ => rfl
def c24s54 : SCode := (.seq (.ops c24r40) c24s53)
@[go_sem] theorem c24s54eq : U c24s54 (.seq (.ops c24r40) c24s53) := fun _ _ _ _ _ => rfl
def c24s55 : SCode := (.seq (.seq (.ops c24r31) c24s39) c24s54)
@[go_sem] theorem c24s55eq : U c24s55 (.seq (.seq (.ops c24r31) c24s39) c24s54) := fun _ _ _ _ _ => rfl
def c24s56 : SCode := (.seq (.ops c24r30) c24s55)
theorem c24s56eq : U c24s56 (.seq (.ops c24r30) c24s55) := fun _ _ _ _ _ => rfl
def c24s57 : SCode := (.cond S12 c24s29 c24s56)
@[go_sem] theorem c24s57eq : U c24s57 (.cond S12 c24s29 c24s56) := fun _ _ _ _ _ => rfl
def c24s58 : SCode := (.seq (.ops c24r25) c24s57)
@[go_sem] theorem c24s58eq : U c24s58 (.seq (.ops c24r25) c24s57) := fun _ _ _ _ _ => rfl
def c24s59 : SCode := (.cond S11 c24s24 c24s58)
@[go_sem] theorem c24s59eq : U c24s59 (.cond S11 c24s24 c24s58) := fun _ _ _ _ _ => rfl
def c24s60 : SCode := (.block 1 (.seq (.ops c24r20) c24s59))
@[go_sem] theorem c24s60eq : U c24s60 (.block 1 (.seq (.ops c24r20) c24s59)) := fun _ _ _ _ _ => rfl
@[go_sem] def c24r61 : List GOp := [mT S0, oT (.call 31 [T0, (.c (.string ⟨⟨[59]⟩⟩))])]
@[go_sem] def c24r62 : List GOp := [oT (.ld (some 5) S2), oN (.st 5 S1 T0)]
def c24s63 : SCode := (.seq (.ops c24r62) .ret)
@[go_sem] theorem c24s63eq : U c24s63 (.seq (.ops c24r62) .ret) := fun _ _ _ _ _ => rfl
def c24s64 : SCode := (.seq (.ops c24r61) c24s63)
@[go_sem] theorem c24s64eq : U c24s64 (.seq (.ops c24r61) c24s63) := fun _ _ _ _ _ => rfl
def c24s65 : SCode := (.seq (.seq (.ops c24r19) c24s60) c24s64)
@[go_sem] theorem c24s65eq : U c24s65 (.seq (.seq (.ops c24r19) c24s60) c24s64) := fun _ _ _ _ _ => rfl
def c24s66 : SCode := (.seq (.ops c24r18) c24s65)
@[go_sem] theorem c24s66eq : U c24s66 (.seq (.ops c24r18) c24s65) := fun _ _ _ _ _ => rfl
def c24s67 : SCode := (.seq (.block 0 (.seq (.ops c24r2) c24s17)) c24s66)
@[go_sem] theorem c24s67eq : U c24s67 (.seq (.block 0 (.seq (.ops c24r2) c24s17)) c24s66) := fun _ _ _ _ _ => rfl
def c24s68 : SCode := (.seq (.ops c24r1) c24s67)
@[go_sem] theorem c24s68eq : U c24s68 (.seq (.ops c24r1) c24s67) := fun _ _ _ _ _ => rfl
def c24 : Gx.Fn := ⟨93, c24k, (.seq (.ops c24r0) c24s68), [(.cell S1 (some 5))]⟩
theorem c24ok : stripFn Tryz.prog c24k Tryz.f24 = some c24 := by kernel_rfl

/- (*parser.parser).fail -/
@[go_sem] def c27k : List Nat := [0, 1]
@[go_sem] def c27r0 : List GOp := [mT S1, mT S0, oT (.call 23 [T0]), oT (.v (.fld1 3 T0)), oT (.v (.bld [(I 0), (I 0)] [(0, (1, T3)), (1, (1, T0))])), oT (.v (.mki 28 T0)), oN (.pnc T0)]
def c27 : Gx.Fn := ⟨10, c27k, (.ops c27r0), []⟩
theorem c27ok : stripFn Tryz.prog c27k Tryz.f27 = some c27 := by kernel_rfl

/- (*parser.parser).is -/
@[go_sem] def c28k : List Nat := [0, 1, 4, 5]
@[go_sem] def c28r0 : List GOp := [mS 2 (.c (.bool false))]
@[go_sem] def c28r1 : List GOp := [mT S0, oT (.call 23 [T0]), oS 3 (.al 41 [(I 0), (.string ⟨⟨[]⟩⟩), (I 0), (I 0)]), oN (.st 4 S3 T0)]
@[go_sem] def c28r2 : List GOp := [fT 0 S3, lT T0, oT (.v (.bin .eql T0 (C 2))), mT T0, (.sel T0 false [(.op (.v (.fa 0 S3))), (.op (.ld none T0)), (.op (.v (.bin .eql T0 (C 5))))] .t (.c (.bool true)) T0), mT T0, (.sel T0 true [(.op (.v (.fa 1 S3))), (.op (.ld none T0)), (.op (.v (.mv S1))), (.op (.v (.bin .eql T1 T0)))] .t T0 (.c (.bool false))), mS 2 T0]
def c28s3 : SCode := (.seq (.ops c28r2) .ret)
@[go_sem] theorem c28s3eq : U c28s3 (.seq (.ops c28r2) .ret) := fun _ _ _ _ _ => rfl
def c28s4 : SCode := (.seq (.ops c28r1) c28s3)
@[go_sem] theorem c28s4eq : U c28s4 (.seq (.ops c28r1) c28s3) := fun _ _ _ _ _ => rfl
def c28 : Gx.Fn := ⟨22, c28k, (.seq (.ops c28r0) c28s4), [(.tmp S2)]⟩
theorem c28ok : stripFn Tryz.prog c28k Tryz.f28 = some c28 := by kernel_rfl

/- (*parser.parser).or -/
@[go_sem] def c29k : List Nat := [0, 2]
@[go_sem] def c29r0 : List GOp := [oS 1 (.al 25 [(I 0), (.string ⟨⟨[]⟩⟩), (I 0), (I 0), Z])]
@[go_sem] def c29r1 : List GOp := [mT S0, mT S0, oT (.v (.mkf 51 [T0] [])), oT .mm, oN (.ins T0 (.c (.string ⟨⟨[111, 114]⟩⟩)) (C 31)), mT T0, oT (.call 50 [T4, T2, T0]), oN (.st 5 S1 T0)]
def c29s2 : SCode := (.seq (.ops c29r1) .ret)
@[go_sem] theorem c29s2eq : U c29s2 (.seq (.ops c29r1) .ret) := fun _ _ _ _ _ => rfl
def c29 : Gx.Fn := ⟨9, c29k, (.seq (.ops c29r0) c29s2), [(.cell S1 (some 5))]⟩
theorem c29ok : stripFn Tryz.prog c29k Tryz.f29 = some c29 := by kernel_rfl

/- (*parser.parser).enter -/
@[go_sem] def c30k : List Nat := [0, 1, 4, 5, 15]
@[go_sem] def c30r0 : List GOp := [mS 2 (C 0)]
@[go_sem] def c30r1 : List GOp := [mT S0, mT S1, oT (.call 28 [T1, T0]), mT T0, (.sel T0 true [(.op (.v (.mv S0))), (.op (.v (.nc T0))), (.op (.v (.fa 2 T0))), (.op (.ld none T0)), (.op (.v (.bin .eql T0 (C 64))))] (.s 4) T0 (.c (.bool false)))]
@[go_sem] def c30r2 : List GOp := [mT S0, oT (.call 27 [T0, (C 6)])]
def c30s3 : SCode := (.cond S4 (.ops c30r2) .skip)
@[go_sem] theorem c30s3eq : U c30s3 (.cond S4 (.ops c30r2) .skip) := fun _ _ _ _ _ => rfl
@[go_sem] def c30r4 : List GOp := [mT S0, mT S1, oT (.call 31 [T1, T0]), mS 3 T0]
@[go_sem] def c30r5 : List GOp := [mT S0, oT (.v (.nc T0)), fT 2 T0, lT T0, oT (.v (.bin .add T0 (C 1))), oT (.v (.nc T4)), fT 2 T0, oN (.st 1 T0 T2)]
@[go_sem] def c30r6 : List GOp := [mT S3, mS 2 T0]
def c30s7 : SCode := (.seq (.ops c30r6) .ret)
@[go_sem] theorem c30s7eq : U c30s7 (.seq (.ops c30r6) .ret) := fun _ _ _ _ _ => rfl
def c30s8 : SCode := (.seq (.ops c30r5) c30s7)
@[go_sem] theorem c30s8eq : U c30s8 (.seq (.ops c30r5) c30s7) := fun _ _ _ _ _ => rfl
def c30s9 : SCode := (.seq (.ops c30r4) c30s8)
@[go_sem] theorem c30s9eq : U c30s9 (.seq (.ops c30r4) c30s8) := fun _ _ _ _ _ => rfl
def c30s10 : SCode := (.seq (.seq (.ops c30r1) c30s3) c30s9)
@[go_sem] theorem c30s10eq : U c30s10 (.seq (.seq (.ops c30r1) c30s3) c30s9) := fun _ _ _ _ _ => rfl
def c30 : Gx.Fn := ⟨29, c30k, (.seq (.ops c30r0) c30s10), [(.tmp S2)]⟩
theorem c30ok : stripFn Tryz.prog c30k Tryz.f30 = some c30 := by kernel_rfl

/- (*parser.parser).expect -/
@[go_sem] def c31k : List Nat := [0, 1, 4, 5, 12]
@[go_sem] def c31r0 : List GOp := [mS 2 (C 0)]
@[go_sem] def c31r1 : List GOp := [mT S0, oT (.call 23 [T0]), oT (.v (.fld1 3 T0)), mS 3 T0]
@[go_sem] def c31r2 : List GOp := [mT S0, mT S1, oT (.call 40 [T1, T0]), oS 4 (.v (.un .not T0))]
@[go_sem] def c31r3 : List GOp := [mT S0, oT (.call 27 [T0, (C 2)])]
def c31s4 : SCode := (.cond S4 (.ops c31r3) .skip)
@[go_sem] theorem c31s4eq : U c31s4 (.cond S4 (.ops c31r3) .skip) := fun _ _ _ _ _ => rfl
@[go_sem] def c31r5 : List GOp := [mT S3, mS 2 T0]
def c31s6 : SCode := (.seq (.ops c31r5) .ret)
@[go_sem] theorem c31s6eq : U c31s6 (.seq (.ops c31r5) .ret) := fun _ _ _ _ _ => rfl
def c31s7 : SCode := (.seq (.seq (.ops c31r2) c31s4) c31s6)
@[go_sem] theorem c31s7eq : U c31s7 (.seq (.seq (.ops c31r2) c31s4) c31s6) := fun _ _ _ _ _ => rfl
def c31s8 : SCode := (.seq (.ops c31r1) c31s7)
@[go_sem] theorem c31s8eq : U c31s8 (.seq (.ops c31r1) c31s7) := fun _ _ _ _ _ => rfl
def c31 : Gx.Fn := ⟨16, c31k, (.seq (.ops c31r0) c31s8), [(.tmp S2)]⟩
theorem c31ok : stripFn Tryz.prog c31k Tryz.f31 = some c31 := by kernel_rfl

/- (*parser.parser).leave -/
@[go_sem] def c32k : List Nat := [0]
@[go_sem] def c32r0 : List GOp := [mT S0, oT (.v (.nc T0)), fT 2 T0, lT T0, oT (.v (.bin .sub T0 (C 1))), oT (.v (.nc T4)), fT 2 T0, oN (.st 1 T0 T2)]
def c32 : Gx.Fn := ⟨9, c32k, (.ops c32r0), []⟩
theorem c32ok : stripFn Tryz.prog c32k Tryz.f32 = some c32 := by kernel_rfl

/- (*parser.parser).named -/
@[go_sem] def c39k : List Nat := [0, 1, 4, 5]
@[go_sem] def c39r0 : List GOp := [oS 2 (.al 25 [(I 0), (.string ⟨⟨[]⟩⟩), (I 0), (I 0), Z])]
@[go_sem] def c39r1 : List GOp := [mT S0, oT (.call 45 [T0, (C 1)]), oS 3 (.al 41 [(I 0), (.string ⟨⟨[]⟩⟩), (I 0), (I 0)]), oN (.st 4 S3 T0)]
@[go_sem] def c39r2 : List GOp := [mT S1, fT 1 S3, lT T0, fT 3 S3, lT T0, oT (.v (.bld [(I 0), (.string ⟨⟨[]⟩⟩), (I 0), (I 0), Z] [(0, (1, T4)), (1, (1, T2)), (3, (1, T0))])), oN (.st 5 S2 T0)]
def c39s3 : SCode := (.seq (.ops c39r2) .ret)
@[go_sem] theorem c39s3eq : U c39s3 (.seq (.ops c39r2) .ret) := fun _ _ _ _ _ => rfl
def c39s4 : SCode := (.seq (.ops c39r1) c39s3)
@[go_sem] theorem c39s4eq : U c39s4 (.seq (.ops c39r1) c39s3) := fun _ _ _ _ _ => rfl
def c39 : Gx.Fn := ⟨14, c39k, (.seq (.ops c39r0) c39s4), [(.cell S2 (some 5))]⟩
theorem c39ok : stripFn Tryz.prog c39k Tryz.f39 = some c39 := by kernel_rfl

/- (*parser.parser).accept -/
@[go_sem] def c40k : List Nat := [0, 1, 4, 8]
@[go_sem] def c40r0 : List GOp := [mS 2 (.c (.bool false))]
@[go_sem] def c40r1 : List GOp := [mT S0, mT S1, oT (.call 28 [T1, T0]), oS 3 (.v (.un .not T0))]
@[go_sem] def c40r2 : List GOp := [mS 2 (.c (.bool false))]
def c40s3 : SCode := (.seq (.ops c40r2) .ret)
@[go_sem] theorem c40s3eq : U c40s3 (.seq (.ops c40r2) .ret) := fun _ _ _ _ _ => rfl
@[go_sem] def c40r4 : List GOp := [mT S0, oT (.v (.nc T0)), fT 1 T0, lT T0, oT (.v (.bin .add T0 (C 1))), oT (.v (.nc T4)), fT 1 T0, oN (.st 1 T0 T2)]
@[go_sem] def c40r5 : List GOp := [mS 2 (.c (.bool true))]
def c40s6 : SCode := (.seq (.ops c40r5) .ret)
@[go_sem] theorem c40s6eq : U c40s6 (.seq (.ops c40r5) .ret) := fun _ _ _ _ _ => rfl
def c40s7 : SCode := (.seq (.ops c40r4) c40s6)
@[go_sem] theorem c40s7eq : U c40s7 (.seq (.ops c40r4) c40s6) := fun _ _ _ _ _ => rfl
def c40s8 : SCode := (.seq (.seq (.ops c40r1) (.cond S3 c40s3 .skip)) c40s7)
@[go_sem] theorem c40s8eq : U c40s8 (.seq (.seq (.ops c40r1) (.cond S3 c40s3 .skip)) c40s7) := fun _ _ _ _ _ => rfl
def c40 : Gx.Fn := ⟨16, c40k, (.seq (.ops c40r0) c40s8), [(.tmp S2)]⟩
theorem c40ok : stripFn Tryz.prog c40k Tryz.f40 = some c40 := by kernel_rfl

/- (*parser.parser).allowed -/
@[go_sem] def c41k : List Nat := [0, 2, 3, 6]
@[go_sem] def c41r0 : List GOp := [mS 1 (.c Z)]
@[go_sem] def c41r1 : List GOp := [mT S0, oT (.call 40 [T0, (.c (.string ⟨⟨[40]⟩⟩))]), oS 3 (.v (.un .not T0))]
@[go_sem] def c41r2 : List GOp := [mS 1 (.c Z)]
def c41s3 : SCode := (.seq (.ops c41r2) .ret)
@[go_sem] theorem c41s3eq : U c41s3 (.seq (.ops c41r2) .ret) := fun _ _ _ _ _ => rfl
@[go_sem] def c41r4 : List GOp := [mT S0, oT (.call 62 [T0]), mS 2 T0]
@[go_sem] def c41r5 : List GOp := [mT S0, oT (.call 31 [T0, (.c (.string ⟨⟨[41]⟩⟩))])]
@[go_sem] def c41r6 : List GOp := [mT S2, mS 1 T0]
def c41s7 : SCode := (.seq (.ops c41r6) .ret)
@[go_sem] theorem c41s7eq : U c41s7 (.seq (.ops c41r6) .ret) := fun _ _ _ _ _ => rfl
def c41s8 : SCode := (.seq (.ops c41r5) c41s7)
@[go_sem] theorem c41s8eq : U c41s8 (.seq (.ops c41r5) c41s7) := fun _ _ _ _ _ => rfl
def c41s9 : SCode := (.seq (.ops c41r4) c41s8)
@[go_sem] theorem c41s9eq : U c41s9 (.seq (.ops c41r4) c41s8) := fun _ _ _ _ _ => rfl
def c41s10 : SCode := (.seq (.seq (.ops c41r1) (.cond S3 c41s3 .skip)) c41s9)
@[go_sem] theorem c41s10eq : U c41s10 (.seq (.seq (.ops c41r1) (.cond S3 c41s3 .skip)) c41s9) := fun _ _ _ _ _ => rfl
def c41 : Gx.Fn := ⟨12, c41k, (.seq (.ops c41r0) c41s10), [(.tmp S1)]⟩
theorem c41ok : stripFn Tryz.prog c41k Tryz.f41 = some c41 := by kernel_rfl

/- (*parser.parser).two -/
@[go_sem] def c42k : List Nat := [0, 1, 4, 5, 6]
@[go_sem] def c42r0 : List GOp := [mS 2 (.c Z)]
@[go_sem] def c42r1 : List GOp := [mT S0, oT (.call 31 [T0, (.c (.string ⟨⟨[40]⟩⟩))])]
@[go_sem] def c42r2 : List GOp := [mT S1, oT (.cv T0 []), oS 3 (.al 25 [(I 0), (.string ⟨⟨[]⟩⟩), (I 0), (I 0), Z]), oN (.st 5 S3 T0)]
@[go_sem] def c42r3 : List GOp := [mT S0, oT (.call 31 [T0, (.c (.string ⟨⟨[44]⟩⟩))])]
@[go_sem] def c42r4 : List GOp := [mT S1, oT (.cv T0 []), oS 4 (.al 25 [(I 0), (.string ⟨⟨[]⟩⟩), (I 0), (I 0), Z]), oN (.st 5 S4 T0)]
@[go_sem] def c42r5 : List GOp := [mT S0, oT (.call 31 [T0, (.c (.string ⟨⟨[41]⟩⟩))])]
@[go_sem] def c42r6 : List GOp := [oT (.ld (some 5) S3), oT (.ld (some 5) S4), oT (.bs 25 2 [(I 0), (.string ⟨⟨[]⟩⟩), (I 0), (I 0), Z, (I 0), (.string ⟨⟨[]⟩⟩), (I 0), (I 0), Z] [(0, (5, T1)), (5, (5, T0))]), mS 2 T0]
def c42s7 : SCode := (.seq (.ops c42r6) .ret)
@[go_sem] theorem c42s7eq : U c42s7 (.seq (.ops c42r6) .ret) := fun _ _ _ _ _ => rfl
def c42s8 : SCode := (.seq (.ops c42r5) c42s7)
@[go_sem] theorem c42s8eq : U c42s8 (.seq (.ops c42r5) c42s7) := fun _ _ _ _ _ => rfl
def c42s9 : SCode := (.seq (.ops c42r4) c42s8)
@[go_sem] theorem c42s9eq : U c42s9 (.seq (.ops c42r4) c42s8) := fun _ _ _ _ _ => rfl
def c42s10 : SCode := (.seq (.ops c42r3) c42s9)
@[go_sem] theorem c42s10eq : U c42s10 (.seq (.ops c42r3) c42s9) := fun _ _ _ _ _ => rfl
def c42s11 : SCode := (.seq (.ops c42r2) c42s10)
@[go_sem] theorem c42s11eq : U c42s11 (.seq (.ops c42r2) c42s10) := fun _ _ _ _ _ => rfl
def c42s12 : SCode := (.seq (.ops c42r1) c42s11)
@[go_sem] theorem c42s12eq : U c42s12 (.seq (.ops c42r1) c42s11) := fun _ _ _ _ _ => rfl
def c42 : Gx.Fn := ⟨20, c42k, (.seq (.ops c42r0) c42s12), [(.tmp S2)]⟩
theorem c42ok : stripFn Tryz.prog c42k Tryz.f42 = some c42 := by kernel_rfl

/- (*parser.parser).integer -/
@[go_sem] def c43k : List Nat := [0, 2, 3, 9]
@[go_sem] def c43r0 : List GOp := [oS 1 (.al 25 [(I 0), (.string ⟨⟨[]⟩⟩), (I 0), (I 0), Z])]
@[go_sem] def c43r1 : List GOp := [mT S0, oT (.call 23 [T0]), oT (.v (.fld1 3 T0)), oT (.v (.bld [(I 0), (.string ⟨⟨[]⟩⟩), (I 0), (I 0), Z] [(0, (1, (C 44))), (3, (1, T0))])), oS 2 (.al 25 [(I 0), (.string ⟨⟨[]⟩⟩), (I 0), (I 0), Z]), oN (.st 5 S2 T0)]
@[go_sem] def c43r2 : List GOp := [mT S0, oS 3 (.call 40 [T0, (.c (.string ⟨⟨[45]⟩⟩))])]
@[go_sem] def c43r3 : List GOp := [mT S0, oT (.call 45 [T0, (C 3)]), oT (.v (.fld1 2 T0)), oT (.v (.un .neg T0)), fT 2 S2, oN (.st 1 T0 T1)]
@[go_sem] def c43r4 : List GOp := [oT (.ld (some 5) S2), oN (.st 5 S1 T0)]
def c43s5 : SCode := (.seq (.ops c43r4) .ret)
@[go_sem] theorem c43s5eq : U c43s5 (.seq (.ops c43r4) .ret) := fun _ _ _ _ _ => rfl
def c43s6 : SCode := (.seq (.ops c43r3) c43s5)
@[go_sem] theorem c43s6eq : U c43s6 (.seq (.ops c43r3) c43s5) := fun _ _ _ _ _ => rfl
@[go_sem] def c43r7 : List GOp := [mT S0, oT (.call 45 [T0, (C 3)]), oT (.v (.fld1 2 T0)), fT 2 S2, oN (.st 1 T0 T1)]
@[go_sem] def c43r8 : List GOp := [oT (.ld (some 5) S2), oN (.st 5 S1 T0)]
def c43s9 : SCode := (.seq (.ops c43r8) .ret)
@[go_sem] theorem c43s9eq : U c43s9 (.seq (.ops c43r8) .ret) := fun _ _ _ _ _ => rfl
def c43s10 : SCode := (.seq (.ops c43r7) c43s9)
@[go_sem] theorem c43s10eq : U c43s10 (.seq (.ops c43r7) c43s9) := fun _ _ _ _ _ => rfl
def c43s11 : SCode := (.seq (.seq (.ops c43r2) (.cond S3 c43s6 .skip)) c43s10)
@[go_sem] theorem c43s11eq : U c43s11 (.seq (.seq (.ops c43r2) (.cond S3 c43s6 .skip)) c43s10) := fun _ _ _ _ _ => rfl
def c43s12 : SCode := (.seq (.ops c43r1) c43s11)
@[go_sem] theorem c43s12eq : U c43s12 (.seq (.ops c43r1) c43s11) := fun _ _ _ _ _ => rfl
def c43 : Gx.Fn := ⟨21, c43k, (.seq (.ops c43r0) c43s12), [(.cell S1 (some 5))]⟩
theorem c43ok : stripFn Tryz.prog c43k Tryz.f43 = some c43 := by kernel_rfl

/- (*parser.parser).closed -/
@[go_sem] def c44k : List Nat := [0, 2, 3, 4, 10, 14, 22]
@[go_sem] def c44r0 : List GOp := [mS 1 (.c Z)]
@[go_sem] def c44r1 : List GOp := [mS 2 (.c Z)]
@[go_sem] def c44r2 : List GOp := [mT S0, oT (.call 31 [T0, (.c (.string ⟨⟨[40]⟩⟩))])]
@[go_sem] def c44r3 : List GOp := [mT S0, oT (.call 23 [T0]), oT (.v (.fld1 0 T0)), oS 4 (.v (.bin .eql T0 (C 4)))]
@[go_sem] def c44r4 : List GOp := [mT S0, oT (.call 62 [T0]), mS 2 T0]
def c44s5 : SCode := (.cond S4 (.ops c44r4) .skip)
@[go_sem] theorem c44s5eq : U c44s5 (.cond S4 (.ops c44r4) .skip) := fun _ _ _ _ _ => rfl
@[go_sem] def c44r6 : List GOp := [mT S0, oS 5 (.call 40 [T0, (.c (.string ⟨⟨[59]⟩⟩))])]
def c44s7 : SCode := (.cond S5 .skip (.exit 0))
@[go_sem] theorem c44s7eq : U c44s7 (.cond S5 .skip (.exit 0)) := fun _ _ _ _ _ => rfl
@[go_sem] def c44r8 : List GOp := [mT S0, oT (.call 23 [T0]), oT (.v (.fld1 3 T0)), oT (.v (.bld [(I 0), (.string ⟨⟨[]⟩⟩), (I 0), (I 0), Z] [(0, (1, (C 20))), (3, (1, T0))])), oS 3 (.al 25 [(I 0), (.string ⟨⟨[]⟩⟩), (I 0), (I 0), Z]), oN (.st 5 S3 T0)]
@[go_sem] def c44r9 : List GOp := [mT S0, oT (.call 23 [T0]), oT (.v (.fld1 0 T0)), oS 6 (.v (.bin .eql T0 (C 4)))]
@[go_sem] def c44r10 : List GOp := [mT S0, oT (.call 62 [T0]), fT 4 S3, oN (.st 1 T0 T1)]
def c44s11 : SCode := (.cond S6 (.ops c44r10) .skip)
@[go_sem] theorem c44s11eq : U c44s11 (.cond S6 (.ops c44r10) .skip) := fun _ _ _ _ _ => rfl
@[go_sem] def c44r12 : List GOp := [mT S0, oT (.call 31 [T0, (.c (.string ⟨⟨[61, 62]⟩⟩))])]
@[go_sem] def c44d13 : DT := (rf 4 S3 [5, 7] (rl T0 [5, 7] (rm S0 [3, 4, 5, 7] (.ef 3 none .t (.call 63 [T0]) (.ef 4 none .t (.bs 25 1 [(I 0), (.string ⟨⟨[]⟩⟩), (I 0), (I 0), Z] [(0, (5, T0))]) (.ef 5 none .t (.ap 23 23 T3 T0) (rf 4 S3 [7] (.ef 7 none .no (.st 1 T0 T1) .done))))))))
@[go_sem] def c44r14 : List GOp := [mT S2, oT (.ld (some 5) S3), oT (.bs 25 1 [(I 0), (.string ⟨⟨[]⟩⟩), (I 0), (I 0), Z] [(0, (5, T0))]), oT (.ap 23 23 T2 T0), mS 2 T0]
def c44s15 : SCode := (.ops c44r14)
@[go_sem] theorem c44s15eq : U c44s15 (.ops c44r14) := fun _ _ _ _ _ => rfl
def c44s16 : SCode := (.seq (.de c44d13) c44s15)
@[go_sem] theorem c44s16eq : U c44s16 (.seq (.de c44d13) c44s15) := fun _ _ _ _ _ => rfl
def c44s17 : SCode := (.seq (.ops c44r12) c44s16)
theorem c44s17eq : U c44s17 (.seq (.ops c44r12) c44s16) := fun _ _ _ _ _ => rfl
def c44s18 : SCode := (.seq (.seq (.ops c44r9) c44s11) c44s17)
@[go_sem] theorem c44s18eq : U c44s18 (.seq (.seq (.ops c44r9) c44s11) c44s17) := fun _ _ _ _ _ => rfl
def c44s19 : SCode := (.block 1 (.seq (.ops c44r8) c44s18))
@[go_sem] theorem c44s19eq : U c44s19 (.block 1 (.seq (.ops c44r8) c44s18)) := fun _ _ _ _ _ => rfl
def c44s20 : SCode := (.seq (.seq (.ops c44r6) c44s7) c44s19)
@[go_sem] theorem c44s20eq : U c44s20 (.seq (.seq (.ops c44r6) c44s7) c44s19) := fun _ _ _ _ _ => rfl
@[go_sem] def c44r21 : List GOp := [mT S0, oT (.call 31 [T0, (.c (.string ⟨⟨[41]⟩⟩))])]
@[go_sem] def c44r22 : List GOp := [mT S2, mS 1 T0]
def c44s23 : SCode := (.seq (.ops c44r22) .ret)
@[go_sem] theorem c44s23eq : U c44s23 (.seq (.ops c44r22) .ret) := fun _ _ _ _ _ => rfl
def c44s24 : SCode := (.seq (.ops c44r21) c44s23)
@[go_sem] theorem c44s24eq : U c44s24 (.seq (.ops c44r21) c44s23) := fun _ _ _ _ _ => rfl
def c44s25 : SCode := (.seq (.block 0 (.loop c44k c44s20)) c44s24)
theorem c44s25eq : U c44s25 (.seq (.block 0 (.loop c44k c44s20)) c44s24) := fun _ _ _ _ _ => rfl
def c44s26 : SCode := (.seq (.seq (.ops c44r3) c44s5) c44s25)
@[go_sem] theorem c44s26eq : U c44s26 (.seq (.seq (.ops c44r3) c44s5) c44s25) := fun _ _ _ _ _ => rfl
def c44s27 : SCode := (.seq (.ops c44r2) c44s26)
@[go_sem] theorem c44s27eq : U c44s27 (.seq (.ops c44r2) c44s26) := fun _ _ _ _ _ => rfl
def c44s28 : SCode := (.seq (.ops c44r1) c44s27)
@[go_sem] theorem c44s28eq : U c44s28 (.seq (.ops c44r1) c44s27) := fun _ _ _ _ _ => rfl
def c44 : Gx.Fn := ⟨42, c44k, (.seq (.ops c44r0) c44s28), [(.tmp S1)]⟩
theorem c44ok : stripFn Tryz.prog c44k Tryz.f44 = some c44 := by kernel_rfl

/- (*parser.parser).take -/
@[go_sem] def c45k : List Nat := [0, 1, 4, 5, 11]
@[go_sem] def c45r0 : List GOp := [oS 2 (.al 41 [(I 0), (.string ⟨⟨[]⟩⟩), (I 0), (I 0)])]
@[go_sem] def c45r1 : List GOp := [mT S0, oT (.call 23 [T0]), oS 3 (.al 41 [(I 0), (.string ⟨⟨[]⟩⟩), (I 0), (I 0)]), oN (.st 4 S3 T0)]
@[go_sem] def c45r2 : List GOp := [fT 0 S3, lT T0, mT S1, oS 4 (.v (.bin .neq T1 T0))]
@[go_sem] def c45r3 : List GOp := [mT S0, oT (.call 27 [T0, (C 2)])]
def c45s4 : SCode := (.cond S4 (.ops c45r3) .skip)
@[go_sem] theorem c45s4eq : U c45s4 (.cond S4 (.ops c45r3) .skip) := fun _ _ _ _ _ => rfl
@[go_sem] def c45r5 : List GOp := [mT S0, oT (.v (.nc T0)), fT 1 T0, lT T0, oT (.v (.bin .add T0 (C 1))), oT (.v (.nc T4)), fT 1 T0, oN (.st 1 T0 T2)]
@[go_sem] def c45r6 : List GOp := [oT (.ld (some 4) S3), oN (.st 4 S2 T0)]
def c45s7 : SCode := (.seq (.ops c45r6) .ret)
@[go_sem] theorem c45s7eq : U c45s7 (.seq (.ops c45r6) .ret) := fun _ _ _ _ _ => rfl
def c45s8 : SCode := (.seq (.ops c45r5) c45s7)
@[go_sem] theorem c45s8eq : U c45s8 (.seq (.ops c45r5) c45s7) := fun _ _ _ _ _ => rfl
def c45s9 : SCode := (.seq (.seq (.ops c45r2) c45s4) c45s8)
@[go_sem] theorem c45s9eq : U c45s9 (.seq (.seq (.ops c45r2) c45s4) c45s8) := fun _ _ _ _ _ => rfl
def c45s10 : SCode := (.seq (.ops c45r1) c45s9)
@[go_sem] theorem c45s10eq : U c45s10 (.seq (.ops c45r1) c45s9) := fun _ _ _ _ _ => rfl
def c45 : Gx.Fn := ⟨22, c45k, (.seq (.ops c45r0) c45s10), [(.cell S2 (some 4))]⟩
theorem c45ok : stripFn Tryz.prog c45k Tryz.f45 = some c45 := by kernel_rfl

/- (*parser.parser).comma -/
@[go_sem] def c46k : List Nat := [0, 2, 4]
@[go_sem] def c46r0 : List GOp := [mS 1 (.c (.bool false))]
@[go_sem] def c46r1 : List GOp := [mT S0, oS 2 (.call 40 [T0, (.c (.string ⟨⟨[44]⟩⟩))])]
@[go_sem] def c46r2 : List GOp := [mS 1 (.c (.bool true))]
def c46s3 : SCode := (.seq (.ops c46r2) .ret)
@[go_sem] theorem c46s3eq : U c46s3 (.seq (.ops c46r2) .ret) := fun _ _ _ _ _ => rfl
@[go_sem] def c46r4 : List GOp := [mT S0, oT (.call 31 [T0, (.c (.string ⟨⟨[41]⟩⟩))])]
@[go_sem] def c46r5 : List GOp := [mS 1 (.c (.bool false))]
def c46s6 : SCode := (.seq (.ops c46r5) .ret)
@[go_sem] theorem c46s6eq : U c46s6 (.seq (.ops c46r5) .ret) := fun _ _ _ _ _ => rfl
def c46s7 : SCode := (.seq (.ops c46r4) c46s6)
@[go_sem] theorem c46s7eq : U c46s7 (.seq (.ops c46r4) c46s6) := fun _ _ _ _ _ => rfl
def c46s8 : SCode := (.seq (.seq (.ops c46r1) (.cond S2 c46s3 .skip)) c46s7)
@[go_sem] theorem c46s8eq : U c46s8 (.seq (.seq (.ops c46r1) (.cond S2 c46s3 .skip)) c46s7) := fun _ _ _ _ _ => rfl
def c46 : Gx.Fn := ⟨7, c46k, (.seq (.ops c46r0) c46s8), [(.tmp S1)]⟩
theorem c46ok : stripFn Tryz.prog c46k Tryz.f46 = some c46 := by kernel_rfl

/- (*parser.parser).param -/
@[go_sem] def c47k : List Nat := [0, 2, 3]
@[go_sem] def c47r0 : List GOp := [oS 1 (.al 25 [(I 0), (.string ⟨⟨[]⟩⟩), (I 0), (I 0), Z])]
@[go_sem] def c47r1 : List GOp := [mT S0, oT (.call 39 [T0, (C 6)]), oS 2 (.al 25 [(I 0), (.string ⟨⟨[]⟩⟩), (I 0), (I 0), Z]), oN (.st 5 S2 T0)]
@[go_sem] def c47r2 : List GOp := [mT S0, oT (.call 31 [T0, (.c (.string ⟨⟨[58]⟩⟩))])]
@[go_sem] def c47r3 : List GOp := [mT S0, oT (.call 48 [T0]), fT 2 S2, oN (.st 1 T0 T1)]
@[go_sem] def c47r4 : List GOp := [oT (.ld (some 5) S2), oN (.st 5 S1 T0)]
def c47s5 : SCode := (.seq (.ops c47r4) .ret)
@[go_sem] theorem c47s5eq : U c47s5 (.seq (.ops c47r4) .ret) := fun _ _ _ _ _ => rfl
def c47s6 : SCode := (.seq (.ops c47r3) c47s5)
@[go_sem] theorem c47s6eq : U c47s6 (.seq (.ops c47r3) c47s5) := fun _ _ _ _ _ => rfl
def c47s7 : SCode := (.seq (.ops c47r2) c47s6)
@[go_sem] theorem c47s7eq : U c47s7 (.seq (.ops c47r2) c47s6) := fun _ _ _ _ _ => rfl
def c47s8 : SCode := (.seq (.ops c47r1) c47s7)
@[go_sem] theorem c47s8eq : U c47s8 (.seq (.ops c47r1) c47s7) := fun _ _ _ _ _ => rfl
def c47 : Gx.Fn := ⟨12, c47k, (.seq (.ops c47r0) c47s8), [(.cell S1 (some 5))]⟩
theorem c47ok : stripFn Tryz.prog c47k Tryz.f47 = some c47 := by kernel_rfl

/- (*parser.parser).sort -/
@[go_sem] def c48k : List Nat := [0, 2, 3, 4, 5, 6, 7, 8, 14]
@[go_sem] def c48r0 : List GOp := [mS 1 (C 0)]
@[go_sem] def c48r1 : List GOp := [oS 4 (.bs 9 4 [(.string ⟨⟨[]⟩⟩), (.string ⟨⟨[]⟩⟩), (.string ⟨⟨[]⟩⟩), (.string ⟨⟨[]⟩⟩)] [(0, (1, (.c (.string ⟨⟨[105, 110, 116]⟩⟩)))), (1, (1, (.c (.string ⟨⟨[98, 111, 111, 108]⟩⟩)))), (2, (1, (.c (.string ⟨⟨[110, 97, 109, 101]⟩⟩)))), (3, (1, (.c (.string ⟨⟨[110, 97, 109, 101, 115]⟩⟩))))]), oS 5 (.v (.len S4)), mS 6 (C 0)]
@[go_sem] def c48r2 : List GOp := [oS 7 (.v (.bin .lss S6 S5))]
@[go_sem] def c48r3 : List GOp := [mT S6, oT (.v (.ix 1 S4 S6)), lT T0, mS 2 T2, mS 3 T0]
@[go_sem] def c48r4 : List GOp := [mT S0, mT S3, oS 8 (.call 40 [T1, T0])]
@[go_sem] def c48r5 : List GOp := [mT S2, oT (.v (.bin .add T0 (C 1))), mS 1 T0]
def c48s6 : SCode := (.seq (.ops c48r5) .ret)
@[go_sem] theorem c48s6eq : U c48s6 (.seq (.ops c48r5) .ret) := fun _ _ _ _ _ => rfl
def c48s7 : SCode := (.seq (.ops c48r4) (.cond S8 c48s6 .skip))
@[go_sem] theorem c48s7eq : U c48s7 (.seq (.ops c48r4) (.cond S8 c48s6 .skip)) := fun _ _ _ _ _ => rfl
@[go_sem] def c48r8 : List GOp := [oT (.v (.bin .add S6 (C 1))), mS 6 T0]
def c48s9 : SCode := (.ops c48r8)
@[go_sem] theorem c48s9eq : U c48s9 (.ops c48r8) := fun _ _ _ _ _ => rfl
def c48s10 : SCode := (.seq (.block 1 (.seq (.ops c48r3) c48s7)) c48s9)
@[go_sem] theorem c48s10eq : U c48s10 (.seq (.block 1 (.seq (.ops c48r3) c48s7)) c48s9) := fun _ _ _ _ _ => rfl
def c48s11 : SCode := (.seq (.cond S7 .skip (.exit 0)) c48s10)
@[go_sem] theorem c48s11eq : U c48s11 (.seq (.cond S7 .skip (.exit 0)) c48s10) := fun _ _ _ _ _ => rfl
def c48s12 : SCode := (.seq (.ops c48r2) c48s11)
@[go_sem] theorem c48s12eq : U c48s12 (.seq (.ops c48r2) c48s11) := fun _ _ _ _ _ => rfl
def c48s13 : SCode := (.block 0 (.loop c48k c48s12))
@[go_sem] theorem c48s13eq : U c48s13 (.block 0 (.loop c48k c48s12)) := fun _ _ _ _ _ => rfl
@[go_sem] def c48r14 : List GOp := [mT S0, oT (.call 27 [T0, (C 2)])]
@[go_sem] def c48r15 : List GOp := [mS 1 (C 0)]
def c48s16 : SCode := (.seq (.ops c48r15) .ret)
@[go_sem] theorem c48s16eq : U c48s16 (.seq (.ops c48r15) .ret) := fun _ _ _ _ _ => rfl
def c48s17 : SCode := (.seq (.ops c48r14) c48s16)
@[go_sem] theorem c48s17eq : U c48s17 (.seq (.ops c48r14) c48s16) := fun _ _ _ _ _ => rfl
def c48s18 : SCode := (.seq (.seq (.ops c48r1) c48s13) c48s17)
@[go_sem] theorem c48s18eq : U c48s18 (.seq (.seq (.ops c48r1) c48s13) c48s17) := fun _ _ _ _ _ => rfl
def c48 : Gx.Fn := ⟨20, c48k, (.seq (.ops c48r0) c48s18), [(.tmp S1)]⟩
theorem c48ok : stripFn Tryz.prog c48k Tryz.f48 = some c48 := by kernel_rfl

/- (*parser.parser).chain -/
@[go_sem] def c50k : List Nat := [0, 1, 2, 6, 7, 8, 9, 26]
@[go_sem] def c50r0 : List GOp := [oS 3 (.al 25 [(I 0), (.string ⟨⟨[]⟩⟩), (I 0), (I 0), Z])]
@[go_sem] def c50r1 : List GOp := [mT S1, oT (.cv T0 []), oS 4 (.al 25 [(I 0), (.string ⟨⟨[]⟩⟩), (I 0), (I 0), Z]), oN (.st 5 S4 T0)]
@[go_sem] def c50r2 : List GOp := [mT S0, oT (.call 23 [T0]), oS 5 (.al 41 [(I 0), (.string ⟨⟨[]⟩⟩), (I 0), (I 0)]), oN (.st 4 S5 T0)]
@[go_sem] def c50r3 : List GOp := [mT S2, fT 1 S5, lT T0, oT (.lkp (I 0) T2 T0), mS 6 T0]
@[go_sem] def c50r4 : List GOp := [mT S6, oT (.v (.bin .eql T0 (C 0))), mT T0, (.op (some (T0, (false, true))) .t (.v (.mv S0))), (.op (some (T1, (false, false))) .t (.v (.fa 1 S5))), (.op (some (T2, (false, false))) .t (.ld none T0)), (.op (some (T3, (false, false))) .t (.call 40 [T2, T0])), (.op (some (T4, (false, false))) .t (.v (.un .not T0))), oS 7 (.v (.pick T5 (.c (.bool true)) T0))]
@[go_sem] def c50r5 : List GOp := [oT (.ld (some 5) S4), oN (.st 5 S3 T0)]
def c50s6 : SCode := (.seq (.ops c50r5) .ret)
@[go_sem] theorem c50s6eq : U c50s6 (.seq (.ops c50r5) .ret) := fun _ _ _ _ _ => rfl
@[go_sem] def c50d7 : DT := (rm S6 [8] (rf 3 S5 [8] (rl T0 [8] (.rd none .t (.ld (some 5) S4) [6, 8] (rm S1 [5, 6, 8] (.ef 5 none .t (.cv T0 []) (.ef 6 none .t (.bs 25 2 [(I 0), (.string ⟨⟨[]⟩⟩), (I 0), (I 0), Z, (I 0), (.string ⟨⟨[]⟩⟩), (I 0), (I 0), Z] [(0, (5, T2)), (5, (5, T0))]) (.rd none .t (.v (.bld [(I 0), (.string ⟨⟨[]⟩⟩), (I 0), (I 0), Z] [(0, (1, T6)), (3, (1, T4)), (4, (1, T0))])) [8] (.ef 8 none .no (.st 5 S4 T0) .done)))))))))
def c50s8 : SCode := (.de c50d7)
@[go_sem] theorem c50s8eq : U c50s8 (.de c50d7) := fun _ _ _ _ _ => rfl
def c50s9 : SCode := (.seq (.seq (.ops c50r4) (.cond S7 c50s6 .skip)) c50s8)
@[go_sem] theorem c50s9eq : U c50s9 (.seq (.seq (.ops c50r4) (.cond S7 c50s6 .skip)) c50s8) := fun _ _ _ _ _ => rfl
def c50s10 : SCode := (.seq (.ops c50r3) c50s9)
@[go_sem] theorem c50s10eq : U c50s10 (.seq (.ops c50r3) c50s9) := fun _ _ _ _ _ => rfl
def c50s11 : SCode := (.block 1 (.seq (.ops c50r2) c50s10))
@[go_sem] theorem c50s11eq : U c50s11 (.block 1 (.seq (.ops c50r2) c50s10)) := fun _ _ _ _ _ => rfl
def c50s12 : SCode := (.block 0 (.loop c50k c50s11))
@[go_sem] theorem c50s12eq : U c50s12 (.block 0 (.loop c50k c50s11)) := fun _ _ _ _ _ => rfl
def c50s13 : SCode := (.seq (.ops c50r1) c50s12)
@[go_sem] theorem c50s13eq : U c50s13 (.seq (.ops c50r1) c50s12) := fun _ _ _ _ _ => rfl
def c50 : Gx.Fn := ⟨36, c50k, (.seq (.ops c50r0) c50s13), [(.cell S3 (some 5))]⟩
theorem c50ok : stripFn Tryz.prog c50k Tryz.f50 = some c50 := by kernel_rfl

/- (*parser.parser).and -/
@[go_sem] def c51k : List Nat := [0, 2]
@[go_sem] def c51r0 : List GOp := [oS 1 (.al 25 [(I 0), (.string ⟨⟨[]⟩⟩), (I 0), (I 0), Z])]
@[go_sem] def c51r1 : List GOp := [mT S0, mT S0, oT (.v (.mkf 66 [T0] [])), oT .mm, oN (.ins T0 (.c (.string ⟨⟨[97, 110, 100]⟩⟩)) (C 32)), mT T0, oT (.call 50 [T4, T2, T0]), oN (.st 5 S1 T0)]
def c51s2 : SCode := (.seq (.ops c51r1) .ret)
@[go_sem] theorem c51s2eq : U c51s2 (.seq (.ops c51r1) .ret) := fun _ _ _ _ _ => rfl
def c51 : Gx.Fn := ⟨9, c51k, (.seq (.ops c51r0) c51s2), [(.cell S1 (some 5))]⟩
theorem c51ok : stripFn Tryz.prog c51k Tryz.f51 = some c51 := by kernel_rfl

/- (*parser.parser).quotes -/
@[go_sem] def c62k : List Nat := [0, 2, 3, 8]
@[go_sem] def c62r0 : List GOp := [mS 1 (.c Z)]
@[go_sem] def c62r1 : List GOp := [mT S0, oT (.call 63 [T0]), oT (.bs 25 1 [(I 0), (.string ⟨⟨[]⟩⟩), (I 0), (I 0), Z] [(0, (5, T0))]), mS 2 T0]
@[go_sem] def c62r2 : List GOp := [mT S0, oS 3 (.call 40 [T0, (.c (.string ⟨⟨[44]⟩⟩))])]
def c62s3 : SCode := (.cond S3 .skip (.exit 0))
@[go_sem] theorem c62s3eq : U c62s3 (.cond S3 .skip (.exit 0)) := fun _ _ _ _ _ => rfl
@[go_sem] def c62r4 : List GOp := [mT S2, mT S0, oT (.call 63 [T0]), oT (.bs 25 1 [(I 0), (.string ⟨⟨[]⟩⟩), (I 0), (I 0), Z] [(0, (5, T0))]), oT (.ap 23 23 T3 T0), mS 2 T0]
def c62s5 : SCode := (.seq (.seq (.ops c62r2) c62s3) (.block 1 (.ops c62r4)))
@[go_sem] theorem c62s5eq : U c62s5 (.seq (.seq (.ops c62r2) c62s3) (.block 1 (.ops c62r4))) := fun _ _ _ _ _ => rfl
@[go_sem] def c62r6 : List GOp := [mT S2, mS 1 T0]
def c62s7 : SCode := (.seq (.ops c62r6) .ret)
@[go_sem] theorem c62s7eq : U c62s7 (.seq (.ops c62r6) .ret) := fun _ _ _ _ _ => rfl
def c62s8 : SCode := (.seq (.block 0 (.loop c62k c62s5)) c62s7)
@[go_sem] theorem c62s8eq : U c62s8 (.seq (.block 0 (.loop c62k c62s5)) c62s7) := fun _ _ _ _ _ => rfl
def c62s9 : SCode := (.seq (.ops c62r1) c62s8)
@[go_sem] theorem c62s9eq : U c62s9 (.seq (.ops c62r1) c62s8) := fun _ _ _ _ _ => rfl
def c62 : Gx.Fn := ⟨15, c62k, (.seq (.ops c62r0) c62s9), [(.tmp S1)]⟩
theorem c62ok : stripFn Tryz.prog c62k Tryz.f62 = some c62 := by kernel_rfl

/- (*parser.parser).quote -/
@[go_sem] def c63k : List Nat := [0, 2, 3]
@[go_sem] def c63r0 : List GOp := [oS 1 (.al 25 [(I 0), (.string ⟨⟨[]⟩⟩), (I 0), (I 0), Z])]
@[go_sem] def c63r1 : List GOp := [mT S0, oT (.call 45 [T0, (C 4)]), oS 2 (.al 41 [(I 0), (.string ⟨⟨[]⟩⟩), (I 0), (I 0)]), oN (.st 4 S2 T0)]
@[go_sem] def c63r2 : List GOp := [fT 1 S2, lT T0, fT 3 S2, lT T0, oT (.v (.bld [(I 0), (.string ⟨⟨[]⟩⟩), (I 0), (I 0), Z] [(0, (1, (C 47))), (1, (1, T2)), (3, (1, T0))])), oN (.st 5 S1 T0)]
def c63s3 : SCode := (.seq (.ops c63r2) .ret)
@[go_sem] theorem c63s3eq : U c63s3 (.seq (.ops c63r2) .ret) := fun _ _ _ _ _ => rfl
def c63s4 : SCode := (.seq (.ops c63r1) c63s3)
@[go_sem] theorem c63s4eq : U c63s4 (.seq (.ops c63r1) c63s3) := fun _ _ _ _ _ => rfl
def c63 : Gx.Fn := ⟨11, c63k, (.seq (.ops c63r0) c63s4), [(.cell S1 (some 5))]⟩
theorem c63ok : stripFn Tryz.prog c63k Tryz.f63 = some c63 := by kernel_rfl

/- (*parser.parser).not -/
@[go_sem] def c66k : List Nat := [0, 2, 3, 6]
@[go_sem] def c66r0 : List GOp := [oS 1 (.al 25 [(I 0), (.string ⟨⟨[]⟩⟩), (I 0), (I 0), Z])]
@[go_sem] def c66r1 : List GOp := [mT S0, oT (.call 28 [T0, (.c (.string ⟨⟨[110, 111, 116]⟩⟩))]), oS 3 (.v (.un .not T0))]
@[go_sem] def c66r2 : List GOp := [mT S0, oT (.call 82 [T0]), oN (.st 5 S1 T0)]
def c66s3 : SCode := (.seq (.ops c66r2) .ret)
@[go_sem] theorem c66s3eq : U c66s3 (.seq (.ops c66r2) .ret) := fun _ _ _ _ _ => rfl
@[go_sem] def c66r4 : List GOp := [mT S0, oT (.call 30 [T0, (.c (.string ⟨⟨[110, 111, 116]⟩⟩))]), oT (.v (.bld [(I 0), (.string ⟨⟨[]⟩⟩), (I 0), (I 0), Z] [(0, (1, (C 33))), (3, (1, T0))])), oS 2 (.al 25 [(I 0), (.string ⟨⟨[]⟩⟩), (I 0), (I 0), Z]), oN (.st 5 S2 T0)]
@[go_sem] def c66r5 : List GOp := [mT S0, oT (.call 66 [T0]), oT (.bs 25 1 [(I 0), (.string ⟨⟨[]⟩⟩), (I 0), (I 0), Z] [(0, (5, T0))]), fT 4 S2, oN (.st 1 T0 T1)]
@[go_sem] def c66r6 : List GOp := [mT S0, oT (.call 32 [T0])]
@[go_sem] def c66r7 : List GOp := [oT (.ld (some 5) S2), oN (.st 5 S1 T0)]
def c66s8 : SCode := (.seq (.ops c66r7) .ret)
@[go_sem] theorem c66s8eq : U c66s8 (.seq (.ops c66r7) .ret) := fun _ _ _ _ _ => rfl
def c66s9 : SCode := (.seq (.ops c66r6) c66s8)
@[go_sem] theorem c66s9eq : U c66s9 (.seq (.ops c66r6) c66s8) := fun _ _ _ _ _ => rfl
def c66s10 : SCode := (.seq (.ops c66r5) c66s9)
@[go_sem] theorem c66s10eq : U c66s10 (.seq (.ops c66r5) c66s9) := fun _ _ _ _ _ => rfl
def c66s11 : SCode := (.seq (.ops c66r4) c66s10)
@[go_sem] theorem c66s11eq : U c66s11 (.seq (.ops c66r4) c66s10) := fun _ _ _ _ _ => rfl
def c66s12 : SCode := (.seq (.seq (.ops c66r1) (.cond S3 c66s3 .skip)) c66s11)
@[go_sem] theorem c66s12eq : U c66s12 (.seq (.seq (.ops c66r1) (.cond S3 c66s3 .skip)) c66s11) := fun _ _ _ _ _ => rfl
def c66 : Gx.Fn := ⟨19, c66k, (.seq (.ops c66r0) c66s12), [(.cell S1 (some 5))]⟩
theorem c66ok : stripFn Tryz.prog c66k Tryz.f66 = some c66 := by kernel_rfl

/- (*parser.parser).comparison -/
@[go_sem] def c82k : List Nat := [0, 2, 3, 4, 5, 6, 24]
@[go_sem] def c82r0 : List GOp := [oS 1 (.al 25 [(I 0), (.string ⟨⟨[]⟩⟩), (I 0), (I 0), Z])]
@[go_sem] def c82r1 : List GOp := [mT S0, oT (.call 96 [T0]), oS 2 (.al 25 [(I 0), (.string ⟨⟨[]⟩⟩), (I 0), (I 0), Z]), oN (.st 5 S2 T0)]
@[go_sem] def c82r2 : List GOp := [oT .mm, oN (.ins T0 (.c (.string ⟨⟨[60, 61]⟩⟩)) (C 34)), oN (.ins T0 (.c (.string ⟨⟨[60]⟩⟩)) (C 35)), oN (.ins T0 (.c (.string ⟨⟨[61, 61]⟩⟩)) (C 36)), oN (.ins T0 (.c (.string ⟨⟨[105, 110]⟩⟩)) (C 37)), oN (.ins T0 (.c (.string ⟨⟨[108, 101, 113]⟩⟩)) (C 38)), mT T0, mS 3 T0]
@[go_sem] def c82r3 : List GOp := [mT S0, oT (.call 23 [T0]), oS 4 (.al 41 [(I 0), (.string ⟨⟨[]⟩⟩), (I 0), (I 0)]), oN (.st 4 S4 T0)]
@[go_sem] def c82r4 : List GOp := [mT S3, fT 1 S4, lT T0, oT (.lkp (I 0) T2 T0), mS 5 T0]
@[go_sem] def c82r5 : List GOp := [mT S5, oT (.v (.bin .neq T0 (C 0))), mT T0, (.op (some (T0, (true, true))) .t (.v (.mv S0))), (.op (some (T1, (true, false))) .t (.v (.fa 1 S4))), (.op (some (T2, (true, false))) .t (.ld none T0)), (.op (some (T3, (true, false))) .t (.call 40 [T2, T0])), oS 6 (.v (.pick T4 T0 (.c (.bool false))))]
@[go_sem] def c82d6 : DT := (rm S5 [8] (rf 3 S4 [8] (rl T0 [8] (.rd none .t (.ld (some 5) S2) [6, 8] (rm S0 [5, 6, 8] (.ef 5 none .t (.call 96 [T0]) (.ef 6 none .t (.bs 25 2 [(I 0), (.string ⟨⟨[]⟩⟩), (I 0), (I 0), Z, (I 0), (.string ⟨⟨[]⟩⟩), (I 0), (I 0), Z] [(0, (5, T2)), (5, (5, T0))]) (.rd none .t (.v (.bld [(I 0), (.string ⟨⟨[]⟩⟩), (I 0), (I 0), Z] [(0, (1, T6)), (3, (1, T4)), (4, (1, T0))])) [8] (.ef 8 none .no (.st 5 S1 T0) .done)))))))))
def c82s7 : SCode := (.cond S6 (.seq (.de c82d6) .ret) .skip)
@[go_sem] theorem c82s7eq : U c82s7 (.cond S6 (.seq (.de c82d6) .ret) .skip) := fun _ _ _ _ _ => rfl
def c82s8 : SCode := (.seq (.ops c82r5) c82s7)
@[go_sem] theorem c82s8eq : U c82s8 (.seq (.ops c82r5) c82s7) := fun _ _ _ _ _ => rfl
@[go_sem] def c82r9 : List GOp := [oT (.ld (some 5) S2), oN (.st 5 S1 T0)]
def c82s10 : SCode := (.seq (.ops c82r9) .ret)
@[go_sem] theorem c82s10eq : U c82s10 (.seq (.ops c82r9) .ret) := fun _ _ _ _ _ => rfl
def c82s11 : SCode := (.seq (.seq (.ops c82r4) c82s8) c82s10)
@[go_sem] theorem c82s11eq : U c82s11 (.seq (.seq (.ops c82r4) c82s8) c82s10) := fun _ _ _ _ _ => rfl
def c82s12 : SCode := (.seq (.ops c82r3) c82s11)
@[go_sem] theorem c82s12eq : U c82s12 (.seq (.ops c82r3) c82s11) := fun _ _ _ _ _ => rfl
def c82s13 : SCode := (.seq (.ops c82r2) c82s12)
@[go_sem] theorem c82s13eq : U c82s13 (.seq (.ops c82r2) c82s12) := fun _ _ _ _ _ => rfl
def c82s14 : SCode := (.seq (.ops c82r1) c82s13)
@[go_sem] theorem c82s14eq : U c82s14 (.seq (.ops c82r1) c82s13) := fun _ _ _ _ _ => rfl
def c82 : Gx.Fn := ⟨34, c82k, (.seq (.ops c82r0) c82s14), [(.cell S1 (some 5))]⟩
theorem c82ok : stripFn Tryz.prog c82k Tryz.f82 = some c82 := by kernel_rfl

/- (*parser.parser).joined -/
@[go_sem] def c96k : List Nat := [0, 2]
@[go_sem] def c96r0 : List GOp := [oS 1 (.al 25 [(I 0), (.string ⟨⟨[]⟩⟩), (I 0), (I 0), Z])]
@[go_sem] def c96r1 : List GOp := [mT S0, mT S0, oT (.v (.mkf 109 [T0] [])), oT .mm, oN (.ins T0 (.c (.string ⟨⟨[106, 111, 105, 110]⟩⟩)) (C 39)), mT T0, oT (.call 50 [T4, T2, T0]), oN (.st 5 S1 T0)]
def c96s2 : SCode := (.seq (.ops c96r1) .ret)
@[go_sem] theorem c96s2eq : U c96s2 (.seq (.ops c96r1) .ret) := fun _ _ _ _ _ => rfl
def c96 : Gx.Fn := ⟨9, c96k, (.seq (.ops c96r0) c96s2), [(.cell S1 (some 5))]⟩
theorem c96ok : stripFn Tryz.prog c96k Tryz.f96 = some c96 := by kernel_rfl

/- (*parser.parser).sum -/
@[go_sem] def c109k : List Nat := [0, 2]
@[go_sem] def c109r0 : List GOp := [oS 1 (.al 25 [(I 0), (.string ⟨⟨[]⟩⟩), (I 0), (I 0), Z])]
@[go_sem] def c109r1 : List GOp := [mT S0, mT S0, oT (.v (.mkf 116 [T0] [])), oT .mm, oN (.ins T0 (.c (.string ⟨⟨[43]⟩⟩)) (C 40)), oN (.ins T0 (.c (.string ⟨⟨[45]⟩⟩)) (C 41)), mT T0, oT (.call 50 [T4, T2, T0]), oN (.st 5 S1 T0)]
def c109s2 : SCode := (.seq (.ops c109r1) .ret)
@[go_sem] theorem c109s2eq : U c109s2 (.seq (.ops c109r1) .ret) := fun _ _ _ _ _ => rfl
def c109 : Gx.Fn := ⟨9, c109k, (.seq (.ops c109r0) c109s2), [(.cell S1 (some 5))]⟩
theorem c109ok : stripFn Tryz.prog c109k Tryz.f109 = some c109 := by kernel_rfl

/- (*parser.parser).postfix -/
@[go_sem] def c116k : List Nat := [0, 2, 3, 4, 11, 21]
@[go_sem] def c116r0 : List GOp := [oS 1 (.al 25 [(I 0), (.string ⟨⟨[]⟩⟩), (I 0), (I 0), Z])]
@[go_sem] def c116r1 : List GOp := [mT S0, oT (.call 118 [T0]), oS 2 (.al 25 [(I 0), (.string ⟨⟨[]⟩⟩), (I 0), (I 0), Z]), oN (.st 5 S2 T0)]
@[go_sem] def c116r2 : List GOp := [mT S0, oT (.call 23 [T0]), oT (.v (.fld1 3 T0)), mS 3 T0]
@[go_sem] def c116r3 : List GOp := [mT S0, oT (.call 40 [T0, (.c (.string ⟨⟨[46]⟩⟩))]), mS 4 T0]
@[go_sem] def c116d4 : DT := (rm S3 [7] (rm S0 [2, 7] (.rd none .t (.ld (some 5) S2) [5, 7] (.br (.ef 2 none .t (.call 45 [T1, (C 1)]) (.rd none .t (.v (.fld1 1 T0)) [7] (.ef 5 none .t (.bs 25 1 [(I 0), (.string ⟨⟨[]⟩⟩), (I 0), (I 0), Z] [(0, (5, T2))]) (.rd none .t (.v (.bld [(I 0), (.string ⟨⟨[]⟩⟩), (I 0), (I 0), Z] [(0, (1, (C 42))), (3, (1, T5)), (1, (1, T1)), (4, (1, T0))])) [7] (.ef 7 none .no (.st 5 S2 T0) .done))))) (.ef 5 none .t (.bs 25 1 [(I 0), (.string ⟨⟨[]⟩⟩), (I 0), (I 0), Z] [(0, (5, T0))]) (.ef 2 none .t (.call 45 [T2, (C 1)]) (.rd none .t (.v (.fld1 1 T0)) [7] (.rd none .t (.v (.bld [(I 0), (.string ⟨⟨[]⟩⟩), (I 0), (I 0), Z] [(0, (1, (C 42))), (3, (1, T5)), (1, (1, T0)), (4, (1, T2))])) [7] (.ef 7 none .no (.st 5 S2 T0) .done)))))))))
@[go_sem] def c116r5 : List GOp := [mT S0, oT (.call 28 [T0, (.c (.string ⟨⟨[91]⟩⟩))]), mS 5 T0]
@[go_sem] def c116r6 : List GOp := [mT S0, oT (.call 30 [T0, (.c (.string ⟨⟨[91]⟩⟩))])]
@[go_sem] def c116d7 : DT := (rm S3 [6] (.rd none .t (.ld (some 5) S2) [4, 6] (rm S0 [3, 4, 6] (.ef 3 none .t (.call 17 [T0]) (.ef 4 none .t (.bs 25 2 [(I 0), (.string ⟨⟨[]⟩⟩), (I 0), (I 0), Z, (I 0), (.string ⟨⟨[]⟩⟩), (I 0), (I 0), Z] [(0, (5, T2)), (5, (5, T0))]) (.rd none .t (.v (.bld [(I 0), (.string ⟨⟨[]⟩⟩), (I 0), (I 0), Z] [(0, (1, (C 43))), (3, (1, T4)), (4, (1, T0))])) [6] (.ef 6 none .no (.st 5 S2 T0) .done)))))))
@[go_sem] def c116r8 : List GOp := [mT S0, oT (.call 31 [T0, (.c (.string ⟨⟨[93]⟩⟩))])]
@[go_sem] def c116r9 : List GOp := [mT S0, oT (.call 32 [T0])]
def c116s10 : SCode := (.ops c116r9)
@[go_sem] theorem c116s10eq : U c116s10 (.ops c116r9) := fun _ _ _ _ _ => rfl
def c116s11 : SCode := (.seq (.ops c116r8) c116s10)
@[go_sem] theorem c116s11eq : U c116s11 (.seq (.ops c116r8) c116s10) := fun _ _ _ _ _ => rfl
def c116s12 : SCode := (.seq (.de c116d7) c116s11)
@[go_sem] theorem c116s12eq : U c116s12 (.seq (.de c116d7) c116s11) := fun _ _ _ _ _ => rfl
def c116s13 : SCode := (.seq (.ops c116r6) c116s12)
@[go_sem] theorem c116s13eq : U c116s13 (.seq (.ops c116r6) c116s12) := fun _ _ _ _ _ => rfl
@[go_sem] def c116r14 : List GOp := [oT (.ld (some 5) S2), oN (.st 5 S1 T0)]
def c116s15 : SCode := (.seq (.ops c116r14) .ret)
@[go_sem] theorem c116s15eq : U c116s15 (.seq (.ops c116r14) .ret) := fun _ _ _ _ _ => rfl
def c116s16 : SCode := (.cond S5 c116s13 c116s15)
@[go_sem] theorem c116s16eq : U c116s16 (.cond S5 c116s13 c116s15) := fun _ _ _ _ _ => rfl
def c116s17 : SCode := (.seq (.ops c116r5) c116s16)
@[go_sem] theorem c116s17eq : U c116s17 (.seq (.ops c116r5) c116s16) := fun _ _ _ _ _ => rfl
def c116s18 : SCode := (.cond S4 (.de c116d4) c116s17)
@[go_sem] theorem c116s18eq : U c116s18 (.cond S4 (.de c116d4) c116s17) := fun _ _ _ _ _ => rfl
def c116s19 : SCode := (.block 2 (.seq (.ops c116r3) c116s18))
@[go_sem] theorem c116s19eq : U c116s19 (.block 2 (.seq (.ops c116r3) c116s18)) := fun _ _ _ _ _ => rfl
def c116s20 : SCode := (.block 1 (.seq (.ops c116r2) c116s19))
@[go_sem] theorem c116s20eq : U c116s20 (.block 1 (.seq (.ops c116r2) c116s19)) := fun _ _ _ _ _ => rfl
def c116s21 : SCode := (.block 0 (.loop c116k c116s20))
@[go_sem] theorem c116s21eq : U c116s21 (.block 0 (.loop c116k c116s20)) := fun _ _ _ _ _ => rfl
def c116s22 : SCode := (.seq (.ops c116r1) c116s21)
@[go_sem] theorem c116s22eq : U c116s22 (.seq (.ops c116r1) c116s21) := fun _ _ _ _ _ => rfl
def c116 : Gx.Fn := ⟨36, c116k, (.seq (.ops c116r0) c116s22), [(.cell S1 (some 5))]⟩
theorem c116ok : stripFn Tryz.prog c116k Tryz.f116 = some c116 := by kernel_rfl

/- (*parser.parser).primary -/
@[go_sem] def c118k : List Nat := [0, 2, 3, 4, 5, 13, 23, 29, 35, 39, 43, 47, 51, 62, 87]
@[go_sem] def c118r0 : List GOp := [oS 1 (.al 25 [(I 0), (.string ⟨⟨[]⟩⟩), (I 0), (I 0), Z])]
@[go_sem] def c118r1 : List GOp := [mT S0, oT (.call 23 [T0]), oS 2 (.al 41 [(I 0), (.string ⟨⟨[]⟩⟩), (I 0), (I 0)]), oN (.st 4 S2 T0)]
@[go_sem] def c118r2 : List GOp := [fT 3 S2, lT T0, oT (.v (.bld [(I 0), (.string ⟨⟨[]⟩⟩), (I 0), (I 0), Z] [(3, (1, T0))])), oS 3 (.al 25 [(I 0), (.string ⟨⟨[]⟩⟩), (I 0), (I 0), Z]), oN (.st 5 S3 T0)]
@[go_sem] def c118r3 : List GOp := [fT 0 S2, lT T0, oT (.v (.bin .eql T0 (C 3))), mT T0, (.op (some (T0, (false, true))) .t (.v (.mv S0))), (.op (some (T1, (false, false))) .t (.call 28 [T0, (.c (.string ⟨⟨[45]⟩⟩))])), oT (.v (.pick T2 (.c (.bool true)) T0)), mS 5 T0]
@[go_sem] def c118r4 : List GOp := [mT S0, oT (.call 43 [T0]), oN (.st 5 S1 T0)]
def c118s5 : SCode := (.seq (.ops c118r4) .ret)
@[go_sem] theorem c118s5eq : U c118s5 (.seq (.ops c118r4) .ret) := fun _ _ _ _ _ => rfl
@[go_sem] def c118r6 : List GOp := [fT 0 S2, lT T0, oT (.v (.bin .eql T0 (C 4))), mS 6 T0]
@[go_sem] def c118r7 : List GOp := [mT S0, oT (.call 63 [T0]), oN (.st 5 S1 T0)]
def c118s8 : SCode := (.seq (.ops c118r7) .ret)
@[go_sem] theorem c118s8eq : U c118s8 (.seq (.ops c118r7) .ret) := fun _ _ _ _ _ => rfl
@[go_sem] def c118r9 : List GOp := [fT 0 S2, lT T0, oT (.v (.bin .eql T0 (C 1))), mS 7 T0]
@[go_sem] def c118r10 : List GOp := [mT S0, oT (.call 39 [T0, (C 48)]), oN (.st 5 S1 T0)]
def c118s11 : SCode := (.seq (.ops c118r10) .ret)
@[go_sem] theorem c118s11eq : U c118s11 (.seq (.ops c118r10) .ret) := fun _ _ _ _ _ => rfl
@[go_sem] def c118r12 : List GOp := [mT S0, oT (.call 40 [T0, (.c (.string ⟨⟨[116, 114, 117, 101]⟩⟩))]), mS 8 T0]
@[go_sem] def c118r13 : List GOp := [fT 0 S3, oN (.st 1 T0 (C 45))]
@[go_sem] def c118r14 : List GOp := [mT S0, oT (.call 40 [T0, (.c (.string ⟨⟨[102, 97, 108, 115, 101]⟩⟩))]), mS 9 T0]
@[go_sem] def c118r15 : List GOp := [fT 0 S3, oN (.st 1 T0 (C 46))]
@[go_sem] def c118r16 : List GOp := [mT S0, oT (.call 40 [T0, (.c (.string ⟨⟨[115]⟩⟩))]), mS 10 T0]
@[go_sem] def c118r17 : List GOp := [fT 0 S3, oN (.st 1 T0 (C 49))]
@[go_sem] def c118r18 : List GOp := [mT S0, oT (.call 40 [T0, (.c (.string ⟨⟨[98, 111, 116, 116, 111, 109]⟩⟩))]), mS 11 T0]
@[go_sem] def c118r19 : List GOp := [fT 0 S3, oN (.st 1 T0 (C 50))]
@[go_sem] def c118r20 : List GOp := [mT S0, oT (.call 28 [T0, (.c (.string ⟨⟨[40]⟩⟩))]), mS 12 T0]
@[go_sem] def c118r21 : List GOp := [mT S0, oT (.call 30 [T0, (.c (.string ⟨⟨[40]⟩⟩))])]
@[go_sem] def c118r22 : List GOp := [mT S0, oT (.call 17 [T0]), oN (.st 5 S3 T0)]
@[go_sem] def c118r23 : List GOp := [mT S0, oT (.call 31 [T0, (.c (.string ⟨⟨[41]⟩⟩))])]
@[go_sem] def c118r24 : List GOp := [mT S0, oT (.call 32 [T0])]
def c118s25 : SCode := (.ops c118r24)
@[go_sem] theorem c118s25eq : U c118s25 (.ops c118r24) := fun _ _ _ _ _ => rfl
def c118s26 : SCode := (.seq (.ops c118r23) c118s25)
@[go_sem] theorem c118s26eq : U c118s26 (.seq (.ops c118r23) c118s25) := fun _ _ _ _ _ => rfl
def c118s27 : SCode := (.seq (.ops c118r22) c118s26)
@[go_sem] theorem c118s27eq : U c118s27 (.seq (.ops c118r22) c118s26) := fun _ _ _ _ _ => rfl
def c118s28 : SCode := (.seq (.ops c118r21) c118s27)
@[go_sem] theorem c118s28eq : U c118s28 (.seq (.ops c118r21) c118s27) := fun _ _ _ _ _ => rfl
@[go_sem] def c118r29 : List GOp := [fT 0 S2, lT T0, oT (.v (.bin .eql T0 (C 2))), mT T0, (.op (some (T0, (true, true))) .t (.v (.fa 1 S2))), (.op (some (T1, (true, false))) .t (.ld none T0)), (.op (some (T2, (true, false))) .t (.call 120 [T0])), oT (.v (.pick T3 T0 (.c (.bool false)))), mS 13 T0]
@[go_sem] def c118r30 : List GOp := [mT S0, oT (.v (.nc T0)), fT 1 T0, lT T0, oT (.v (.bin .add T0 (C 1))), oT (.v (.nc T4)), fT 1 T0, oN (.st 1 T0 T2)]
@[go_sem] def c118d31 : DT := (rf 1 S2 [5] (rl T0 [5] (rf 0 S3 [3, 5] (.ef 3 none .no (.st 1 T0 (C 51)) (rf 1 S3 [5] (.ef 5 none .no (.st 1 T0 T2) .done))))))
@[go_sem] def c118r32 : List GOp := [mT S0, oT (.call 30 [T0, (.c (.string ⟨⟨[40]⟩⟩))])]
@[go_sem] def c118r33 : List GOp := [mT S0, oT (.call 40 [T0, (.c (.string ⟨⟨[41]⟩⟩))]), oT (.v (.un .not T0)), mS 4 T0]
@[go_sem] def c118r34 : List GOp := [mS 14 S4]
def c118s35 : SCode := (.cond S14 .skip (.exit 1))
@[go_sem] theorem c118s35eq : U c118s35 (.cond S14 .skip (.exit 1)) := fun _ _ _ _ _ => rfl
@[go_sem] def c118d36 : DT := (rf 4 S3 [7, 9] (rl T0 [7, 9] (rm S0 [5, 6, 7, 9] (rf 1 S2 [5, 6, 7, 9] (rl T0 [5, 6, 7, 9] (.ef 5 none .t (.call 121 [T2, T0]) (.ef 6 none .t (.bs 25 1 [(I 0), (.string ⟨⟨[]⟩⟩), (I 0), (I 0), Z] [(0, (5, T0))]) (.ef 7 none .t (.ap 23 23 T5 T0) (rf 4 S3 [9] (.ef 9 none .no (.st 1 T0 T1) .done))))))))))
@[go_sem] def c118r37 : List GOp := [mT S0, oT (.call 46 [T0]), mS 4 T0]
def c118s38 : SCode := (.ops c118r37)
@[go_sem] theorem c118s38eq : U c118s38 (.ops c118r37) := fun _ _ _ _ _ => rfl
def c118s39 : SCode := (.seq (.block 2 (.de c118d36)) c118s38)
@[go_sem] theorem c118s39eq : U c118s39 (.seq (.block 2 (.de c118d36)) c118s38) := fun _ _ _ _ _ => rfl
def c118s40 : SCode := (.seq (.seq (.ops c118r34) c118s35) c118s39)
@[go_sem] theorem c118s40eq : U c118s40 (.seq (.seq (.ops c118r34) c118s35) c118s39) := fun _ _ _ _ _ => rfl
def c118s41 : SCode := (.block 1 (.loop c118k c118s40))
@[go_sem] theorem c118s41eq : U c118s41 (.block 1 (.loop c118k c118s40)) := fun _ _ _ _ _ => rfl
@[go_sem] def c118r42 : List GOp := [mT S0, oT (.call 32 [T0])]
def c118s43 : SCode := (.ops c118r42)
@[go_sem] theorem c118s43eq : U c118s43 (.ops c118r42) := fun _ _ _ _ _ => rfl
def c118s44 : SCode := (.seq (.seq (.ops c118r33) c118s41) c118s43)
@[go_sem] theorem c118s44eq : U c118s44 (.seq (.seq (.ops c118r33) c118s41) c118s43) := fun _ _ _ _ _ => rfl
def c118s45 : SCode := (.seq (.ops c118r32) c118s44)
@[go_sem] theorem c118s45eq : U c118s45 (.seq (.ops c118r32) c118s44) := fun _ _ _ _ _ => rfl
def c118s46 : SCode := (.seq (.de c118d31) c118s45)
@[go_sem] theorem c118s46eq : U c118s46 (.seq (.de c118d31) c118s45) := fun _ _ _ _ _ => rfl
def c118s47 : SCode := (.seq (.ops c118r30) c118s46)
@[go_sem] theorem c118s47eq : U c118s47 (.seq (.ops c118r30) c118s46) := fun _ _ _ _ _ => rfl
@[go_sem] def c118r48 : List GOp := [mT S0, oT (.call 27 [T0, (C 2)])]
def c118s49 : SCode := (.cond S13 c118s47 (.ops c118r48))
@[go_sem] theorem c118s49eq : U c118s49 (.cond S13 c118s47 (.ops c118r48)) := fun _ _ _ _ _ => rfl
def c118s50 : SCode := (.seq (.ops c118r29) c118s49)
@[go_sem] theorem c118s50eq : U c118s50 (.seq (.ops c118r29) c118s49) := fun _ _ _ _ _ => rfl
def c118s51 : SCode := (.cond S12 c118s28 c118s50)
@[go_sem] theorem c118s51eq : U c118s51 (.cond S12 c118s28 c118s50) := fun _ _ _ _ _ => rfl
def c118s52 : SCode := (.seq (.ops c118r20) c118s51)
@[go_sem] theorem c118s52eq : U c118s52 (.seq (.ops c118r20) c118s51) := fun _ _ _ _ _ => rfl
def c118s53 : SCode := (.cond S11 (.ops c118r19) c118s52)
@[go_sem] theorem c118s53eq : U c118s53 (.cond S11 (.ops c118r19) c118s52) := fun _ _ _ _ _ => rfl
def c118s54 : SCode := (.seq (.ops c118r18) c118s53)
@[go_sem] theorem c118s54eq : U c118s54 (.seq (.ops c118r18) c118s53) := fun _ _ _ _ _ => rfl
def c118s55 : SCode := (.cond S10 (.ops c118r17) c118s54)
@[go_sem] theorem c118s55eq : U c118s55 (.cond S10 (.ops c118r17) c118s54) := fun _ _ _ _ _ => rfl
def c118s56 : SCode := (.seq (.ops c118r16) c118s55)
@[go_sem] theorem c118s56eq : U c118s56 (.seq (.ops c118r16) c118s55) := fun _ _ _ _ _ => rfl
def c118s57 : SCode := (.cond S9 (.ops c118r15) c118s56)
@[go_sem] theorem c118s57eq : U c118s57 (.cond S9 (.ops c118r15) c118s56) := fun _ _ _ _ _ => rfl
def c118s58 : SCode := (.seq (.ops c118r14) c118s57)
@[go_sem] theorem c118s58eq : U c118s58 (.seq (.ops c118r14) c118s57) := fun _ _ _ _ _ => rfl
def c118s59 : SCode := (.cond S8 (.ops c118r13) c118s58)
@[go_sem] theorem c118s59eq : U c118s59 (.cond S8 (.ops c118r13) c118s58) := fun _ _ _ _ _ => rfl
def c118s60 : SCode := (.seq (.ops c118r12) c118s59)
@[go_sem] theorem c118s60eq : U c118s60 (.seq (.ops c118r12) c118s59) := fun _ _ _ _ _ => rfl
def c118s61 : SCode := (.cond S7 c118s11 c118s60)
@[go_sem] theorem c118s61eq : U c118s61 (.cond S7 c118s11 c118s60) := fun _ _ _ _ _ => rfl
def c118s62 : SCode := (.seq (.ops c118r9) c118s61)
@[go_sem] theorem c118s62eq : U c118s62 (.seq (.ops c118r9) c118s61) := fun _ _ _ _ _ => rfl
def c118s63 : SCode := (.cond S6 c118s8 c118s62)
@[go_sem] theorem c118s63eq : U c118s63 (.cond S6 c118s8 c118s62) := fun _ _ _ _ _ => rfl
def c118s64 : SCode := (.seq (.ops c118r6) c118s63)
@[go_sem] theorem c118s64eq : U c118s64 (.seq (.ops c118r6) c118s63) := fun _ _ _ _ _ => rfl
def c118s65 : SCode := (.cond S5 c118s5 c118s64)
@[go_sem] theorem c118s65eq : U c118s65 (.cond S5 c118s5 c118s64) := fun _ _ _ _ _ => rfl
@[go_sem] def c118r66 : List GOp := [oT (.ld (some 5) S3), oN (.st 5 S1 T0)]
def c118s67 : SCode := (.seq (.ops c118r66) .ret)
@[go_sem] theorem c118s67eq : U c118s67 (.seq (.ops c118r66) .ret) := fun _ _ _ _ _ => rfl
def c118s68 : SCode := (.seq (.block 0 (.seq (.ops c118r3) c118s65)) c118s67)
@[go_sem] theorem c118s68eq : U c118s68 (.seq (.block 0 (.seq (.ops c118r3) c118s65)) c118s67) := fun _ _ _ _ _ => rfl
def c118s69 : SCode := (.seq (.ops c118r2) c118s68)
@[go_sem] theorem c118s69eq : U c118s69 (.seq (.ops c118r2) c118s68) := fun _ _ _ _ _ => rfl
def c118s70 : SCode := (.seq (.ops c118r1) c118s69)
@[go_sem] theorem c118s70eq : U c118s70 (.seq (.ops c118r1) c118s69) := fun _ _ _ _ _ => rfl
def c118 : Gx.Fn := ⟨102, c118k, (.seq (.ops c118r0) c118s70), [(.cell S1 (some 5))]⟩
theorem c118ok : stripFn Tryz.prog c118k Tryz.f118 = some c118 := by kernel_rfl

/- parser.functions -/
@[go_sem] def c120k : List Nat := [0, 2, 3, 4]
@[go_sem] def c120r0 : List GOp := [mS 1 (.c (.bool false))]
@[go_sem] def c120r1 : List GOp := [mS 2 S0]
@[go_sem] def c120r2 : List GOp := [oT (.v (.bin .eql S2 (.c (.string ⟨⟨[102, 108, 97, 103]⟩⟩)))), mS 3 T0]
@[go_sem] def c120r3 : List GOp := [oT (.v (.bin .eql S2 (.c (.string ⟨⟨[110, 117, 109]⟩⟩)))), mS 3 T0]
@[go_sem] def c120r4 : List GOp := [oT (.v (.bin .eql S2 (.c (.string ⟨⟨[115, 101, 116]⟩⟩)))), mS 3 T0]
@[go_sem] def c120r5 : List GOp := [oT (.v (.bin .eql S2 (.c (.string ⟨⟨[109, 97, 112]⟩⟩)))), mS 3 T0]
@[go_sem] def c120r6 : List GOp := [oT (.v (.bin .eql S2 (.c (.string ⟨⟨[114, 101, 99]⟩⟩)))), mS 3 T0]
@[go_sem] def c120r7 : List GOp := [oT (.v (.bin .eql S2 (.c (.string ⟨⟨[112, 97, 105, 114]⟩⟩)))), mS 3 T0]
@[go_sem] def c120r8 : List GOp := [oT (.v (.bin .eql S2 (.c (.string ⟨⟨[111, 110, 101]⟩⟩)))), mS 3 T0]
@[go_sem] def c120r9 : List GOp := [oT (.v (.bin .eql S2 (.c (.string ⟨⟨[119, 114, 105, 116, 101]⟩⟩)))), mS 3 T0]
@[go_sem] def c120r10 : List GOp := [oT (.v (.bin .eql S2 (.c (.string ⟨⟨[115, 105, 122, 101]⟩⟩)))), mS 3 T0]
@[go_sem] def c120r11 : List GOp := [oT (.v (.bin .eql S2 (.c (.string ⟨⟨[115, 117, 109]⟩⟩)))), mS 3 T0]
@[go_sem] def c120r12 : List GOp := [oT (.v (.bin .eql S2 (.c (.string ⟨⟨[110, 117, 109, 98, 101, 114]⟩⟩)))), mS 3 T0]
@[go_sem] def c120r13 : List GOp := [oT (.v (.bin .eql S2 (.c (.string ⟨⟨[111, 110]⟩⟩)))), mS 3 T0]
@[go_sem] def c120r14 : List GOp := [oT (.v (.bin .eql S2 (.c (.string ⟨⟨[107, 101, 121, 115]⟩⟩)))), mS 3 T0]
@[go_sem] def c120r15 : List GOp := [oT (.v (.bin .eql S2 (.c (.string ⟨⟨[118, 97, 108, 117, 101, 115]⟩⟩)))), mS 3 T0]
@[go_sem] def c120r16 : List GOp := [oT (.v (.bin .eql S2 (.c (.string ⟨⟨[102, 105, 114, 115, 116]⟩⟩)))), mS 3 T0]
@[go_sem] def c120r17 : List GOp := [oT (.v (.bin .eql S2 (.c (.string ⟨⟨[115, 101, 99, 111, 110, 100]⟩⟩)))), mS 3 T0]
@[go_sem] def c120r18 : List GOp := [oT (.v (.bin .eql S2 (.c (.string ⟨⟨[99, 111, 110, 102, 108, 105, 99, 116]⟩⟩)))), mS 3 T0]
def c120s19 : SCode := (.cond S3 .skip (.ops c120r18))
@[go_sem] theorem c120s19eq : U c120s19 (.cond S3 .skip (.ops c120r18)) := fun _ _ _ _ _ => rfl
def c120s20 : SCode := (.seq (.ops c120r17) c120s19)
@[go_sem] theorem c120s20eq : U c120s20 (.seq (.ops c120r17) c120s19) := fun _ _ _ _ _ => rfl
def c120s21 : SCode := (.cond S3 .skip c120s20)
@[go_sem] theorem c120s21eq : U c120s21 (.cond S3 .skip c120s20) := fun _ _ _ _ _ => rfl
def c120s22 : SCode := (.seq (.ops c120r16) c120s21)
@[go_sem] theorem c120s22eq : U c120s22 (.seq (.ops c120r16) c120s21) := fun _ _ _ _ _ => rfl
def c120s23 : SCode := (.cond S3 .skip c120s22)
@[go_sem] theorem c120s23eq : U c120s23 (.cond S3 .skip c120s22) := fun _ _ _ _ _ => rfl
def c120s24 : SCode := (.seq (.ops c120r15) c120s23)
@[go_sem] theorem c120s24eq : U c120s24 (.seq (.ops c120r15) c120s23) := fun _ _ _ _ _ => rfl
def c120s25 : SCode := (.cond S3 .skip c120s24)
@[go_sem] theorem c120s25eq : U c120s25 (.cond S3 .skip c120s24) := fun _ _ _ _ _ => rfl
def c120s26 : SCode := (.seq (.ops c120r14) c120s25)
@[go_sem] theorem c120s26eq : U c120s26 (.seq (.ops c120r14) c120s25) := fun _ _ _ _ _ => rfl
def c120s27 : SCode := (.cond S3 .skip c120s26)
@[go_sem] theorem c120s27eq : U c120s27 (.cond S3 .skip c120s26) := fun _ _ _ _ _ => rfl
def c120s28 : SCode := (.seq (.ops c120r13) c120s27)
@[go_sem] theorem c120s28eq : U c120s28 (.seq (.ops c120r13) c120s27) := fun _ _ _ _ _ => rfl
def c120s29 : SCode := (.cond S3 .skip c120s28)
@[go_sem] theorem c120s29eq : U c120s29 (.cond S3 .skip c120s28) := fun _ _ _ _ _ => rfl
def c120s30 : SCode := (.seq (.ops c120r12) c120s29)
@[go_sem] theorem c120s30eq : U c120s30 (.seq (.ops c120r12) c120s29) := fun _ _ _ _ _ => rfl
def c120s31 : SCode := (.cond S3 .skip c120s30)
@[go_sem] theorem c120s31eq : U c120s31 (.cond S3 .skip c120s30) := fun _ _ _ _ _ => rfl
def c120s32 : SCode := (.seq (.ops c120r11) c120s31)
@[go_sem] theorem c120s32eq : U c120s32 (.seq (.ops c120r11) c120s31) := fun _ _ _ _ _ => rfl
def c120s33 : SCode := (.cond S3 .skip c120s32)
@[go_sem] theorem c120s33eq : U c120s33 (.cond S3 .skip c120s32) := fun _ _ _ _ _ => rfl
def c120s34 : SCode := (.seq (.ops c120r10) c120s33)
@[go_sem] theorem c120s34eq : U c120s34 (.seq (.ops c120r10) c120s33) := fun _ _ _ _ _ => rfl
def c120s35 : SCode := (.cond S3 .skip c120s34)
@[go_sem] theorem c120s35eq : U c120s35 (.cond S3 .skip c120s34) := fun _ _ _ _ _ => rfl
def c120s36 : SCode := (.seq (.ops c120r9) c120s35)
@[go_sem] theorem c120s36eq : U c120s36 (.seq (.ops c120r9) c120s35) := fun _ _ _ _ _ => rfl
def c120s37 : SCode := (.cond S3 .skip c120s36)
@[go_sem] theorem c120s37eq : U c120s37 (.cond S3 .skip c120s36) := fun _ _ _ _ _ => rfl
def c120s38 : SCode := (.seq (.ops c120r8) c120s37)
@[go_sem] theorem c120s38eq : U c120s38 (.seq (.ops c120r8) c120s37) := fun _ _ _ _ _ => rfl
def c120s39 : SCode := (.cond S3 .skip c120s38)
@[go_sem] theorem c120s39eq : U c120s39 (.cond S3 .skip c120s38) := fun _ _ _ _ _ => rfl
def c120s40 : SCode := (.seq (.ops c120r7) c120s39)
@[go_sem] theorem c120s40eq : U c120s40 (.seq (.ops c120r7) c120s39) := fun _ _ _ _ _ => rfl
def c120s41 : SCode := (.cond S3 .skip c120s40)
@[go_sem] theorem c120s41eq : U c120s41 (.cond S3 .skip c120s40) := fun _ _ _ _ _ => rfl
def c120s42 : SCode := (.seq (.ops c120r6) c120s41)
@[go_sem] theorem c120s42eq : U c120s42 (.seq (.ops c120r6) c120s41) := fun _ _ _ _ _ => rfl
def c120s43 : SCode := (.cond S3 .skip c120s42)
@[go_sem] theorem c120s43eq : U c120s43 (.cond S3 .skip c120s42) := fun _ _ _ _ _ => rfl
def c120s44 : SCode := (.seq (.ops c120r5) c120s43)
@[go_sem] theorem c120s44eq : U c120s44 (.seq (.ops c120r5) c120s43) := fun _ _ _ _ _ => rfl
def c120s45 : SCode := (.cond S3 .skip c120s44)
@[go_sem] theorem c120s45eq : U c120s45 (.cond S3 .skip c120s44) := fun _ _ _ _ _ => rfl
def c120s46 : SCode := (.seq (.ops c120r4) c120s45)
@[go_sem] theorem c120s46eq : U c120s46 (.seq (.ops c120r4) c120s45) := fun _ _ _ _ _ => rfl
def c120s47 : SCode := (.cond S3 .skip c120s46)
@[go_sem] theorem c120s47eq : U c120s47 (.cond S3 .skip c120s46) := fun _ _ _ _ _ => rfl
def c120s48 : SCode := (.seq (.ops c120r3) c120s47)
@[go_sem] theorem c120s48eq : U c120s48 (.seq (.ops c120r3) c120s47) := fun _ _ _ _ _ => rfl
def c120s49 : SCode := (.cond S3 .skip c120s48)
@[go_sem] theorem c120s49eq : U c120s49 (.cond S3 .skip c120s48) := fun _ _ _ _ _ => rfl
@[go_sem] def c120r50 : List GOp := [mS 1 (.c (.bool true))]
def c120s51 : SCode := (.seq (.ops c120r50) .ret)
@[go_sem] theorem c120s51eq : U c120s51 (.seq (.ops c120r50) .ret) := fun _ _ _ _ _ => rfl
def c120s52 : SCode := (.cond S3 c120s51 .skip)
@[go_sem] theorem c120s52eq : U c120s52 (.cond S3 c120s51 .skip) := fun _ _ _ _ _ => rfl
def c120s53 : SCode := (.block 0 (.seq (.seq (.ops c120r2) c120s49) c120s52))
@[go_sem] theorem c120s53eq : U c120s53 (.block 0 (.seq (.seq (.ops c120r2) c120s49) c120s52)) := fun _ _ _ _ _ => rfl
@[go_sem] def c120r54 : List GOp := [mS 1 (.c (.bool false))]
def c120s55 : SCode := (.seq (.ops c120r54) .ret)
@[go_sem] theorem c120s55eq : U c120s55 (.seq (.ops c120r54) .ret) := fun _ _ _ _ _ => rfl
def c120s56 : SCode := (.seq (.seq (.ops c120r1) c120s53) c120s55)
@[go_sem] theorem c120s56eq : U c120s56 (.seq (.seq (.ops c120r1) c120s53) c120s55) := fun _ _ _ _ _ => rfl
def c120 : Gx.Fn := ⟨22, c120k, (.seq (.ops c120r0) c120s56), [(.tmp S1)]⟩
theorem c120ok : stripFn Tryz.prog c120k Tryz.f120 = some c120 := by kernel_rfl

/- (*parser.parser).argument -/
@[go_sem] def c121k : List Nat := [0, 1, 4, 5, 10, 13, 19]
@[go_sem] def c121r0 : List GOp := [oS 2 (.al 25 [(I 0), (.string ⟨⟨[]⟩⟩), (I 0), (I 0), Z])]
@[go_sem] def c121r1 : List GOp := [mT S0, oT (.call 23 [T0]), oT (.v (.fld1 3 T0)), oT (.v (.bld [(I 0), (.string ⟨⟨[]⟩⟩), (I 0), (I 0), Z] [(0, (1, (C 52))), (3, (1, T0))])), oS 3 (.al 25 [(I 0), (.string ⟨⟨[]⟩⟩), (I 0), (I 0), Z]), oN (.st 5 S3 T0)]
@[go_sem] def c121r2 : List GOp := [mS 4 S1]
@[go_sem] def c121r3 : List GOp := [oT (.v (.bin .eql S4 (.c (.string ⟨⟨[114, 101, 99]⟩⟩)))), mS 5 T0]
@[go_sem] def c121r4 : List GOp := [mT S0, oT (.call 45 [T0, (C 1)]), oT (.v (.fld1 1 T0)), fT 1 S3, oN (.st 1 T0 T1)]
@[go_sem] def c121r5 : List GOp := [oT (.v (.bin .eql S4 (.c (.string ⟨⟨[109, 97, 112]⟩⟩)))), mS 6 T0]
@[go_sem] def c121r6 : List GOp := [mT S0, oT (.call 17 [T0]), oT (.bs 25 1 [(I 0), (.string ⟨⟨[]⟩⟩), (I 0), (I 0), Z] [(0, (5, T0))]), fT 4 S3, oN (.st 1 T0 T1)]
@[go_sem] def c121r7 : List GOp := [mT S0, oT (.call 17 [T0]), oN (.st 5 S2 T0)]
def c121s8 : SCode := (.seq (.ops c121r7) .ret)
@[go_sem] theorem c121s8eq : U c121s8 (.seq (.ops c121r7) .ret) := fun _ _ _ _ _ => rfl
def c121s9 : SCode := (.cond S6 (.ops c121r6) c121s8)
@[go_sem] theorem c121s9eq : U c121s9 (.cond S6 (.ops c121r6) c121s8) := fun _ _ _ _ _ => rfl
def c121s10 : SCode := (.seq (.ops c121r5) c121s9)
@[go_sem] theorem c121s10eq : U c121s10 (.seq (.ops c121r5) c121s9) := fun _ _ _ _ _ => rfl
def c121s11 : SCode := (.cond S5 (.ops c121r4) c121s10)
@[go_sem] theorem c121s11eq : U c121s11 (.cond S5 (.ops c121r4) c121s10) := fun _ _ _ _ _ => rfl
def c121s12 : SCode := (.block 0 (.seq (.ops c121r3) c121s11))
@[go_sem] theorem c121s12eq : U c121s12 (.block 0 (.seq (.ops c121r3) c121s11)) := fun _ _ _ _ _ => rfl
@[go_sem] def c121r13 : List GOp := [mT S0, oT (.call 31 [T0, (.c (.string ⟨⟨[58]⟩⟩))])]
@[go_sem] def c121d14 : DT := (rf 4 S3 [5, 7] (rl T0 [5, 7] (rm S0 [3, 4, 5, 7] (.ef 3 none .t (.call 17 [T0]) (.ef 4 none .t (.bs 25 1 [(I 0), (.string ⟨⟨[]⟩⟩), (I 0), (I 0), Z] [(0, (5, T0))]) (.ef 5 none .t (.ap 23 23 T3 T0) (rf 4 S3 [7] (.ef 7 none .no (.st 1 T0 T1) .done))))))))
@[go_sem] def c121r15 : List GOp := [oT (.ld (some 5) S3), oN (.st 5 S2 T0)]
def c121s16 : SCode := (.seq (.ops c121r15) .ret)
@[go_sem] theorem c121s16eq : U c121s16 (.seq (.ops c121r15) .ret) := fun _ _ _ _ _ => rfl
def c121s17 : SCode := (.seq (.de c121d14) c121s16)
@[go_sem] theorem c121s17eq : U c121s17 (.seq (.de c121d14) c121s16) := fun _ _ _ _ _ => rfl
def c121s18 : SCode := (.seq (.ops c121r13) c121s17)
@[go_sem] theorem c121s18eq : U c121s18 (.seq (.ops c121r13) c121s17) := fun _ _ _ _ _ => rfl
def c121s19 : SCode := (.seq (.seq (.ops c121r2) c121s12) c121s18)
@[go_sem] theorem c121s19eq : U c121s19 (.seq (.seq (.ops c121r2) c121s12) c121s18) := fun _ _ _ _ _ => rfl
def c121s20 : SCode := (.seq (.ops c121r1) c121s19)
@[go_sem] theorem c121s20eq : U c121s20 (.seq (.ops c121r1) c121s19) := fun _ _ _ _ _ => rfl
def c121 : Gx.Fn := ⟨35, c121k, (.seq (.ops c121r0) c121s20), [(.cell S2 (some 5))]⟩
theorem c121ok : stripFn Tryz.prog c121k Tryz.f121 = some c121 := by kernel_rfl

end Go.Proofs.YtbgjgaaobnbijaaGreatDoor
end
section
/- Functions that defer one call, and calls that recover. -/
namespace Gx
open Go

/-- A deferred call, from every world with this heap, the frame below being in mode `u`: it returns, and leaves it in mode `u'`. -/
def DCalls (P : Program) (g : FuncId) (args : Array Value) (u u' : FrameMode) (H : Heap) (R : Heap → Prop) : Prop :=
  ∀ w : World, w.heap = H → CallsD P g args u w fun e m w' => ∃ v, e = .returned v ∧ settle m = u' ∧ R w'.heap ∧ Same w w'

theorem DCalls.mono {P : Program} {g : FuncId} {args : Array Value} {u u' : FrameMode} {H : Heap} {R R' : Heap → Prop} (h : DCalls P g args u u' H R) (hr : ∀ H', R H' → R' H') : DCalls P g args u u' H R' :=
  fun w hw => (h w hw).mono fun _ _ _ ⟨v, h1, h2, h3, h4⟩ => ⟨v, h1, h2, hr _ h3, h4⟩

/-- The region that defers: the closure is made; its call is deferred. -/
def defTarget (o1 o2 : Oper) : Option (Nat × Nat × List Nat) :=
  match o1.op, o1.dst, o1.guard, o2.op, o2.dst, o2.guard with
  | .makeFunc (.func g) first caps, some d, none, .defer { callee := .value (.tmp d'), args, argTypes := _ }, none, none =>
    if d = d' ∧ first.toList.isEmpty = true ∧ args.toList.isEmpty = true then
      match caps.toList.mapM (fun (x : Operand) => match x with | .tmp t => some t | _ => none) with
      | some cs => some (g, d, cs)
      | none => none
    else none
  | _, _, _, _, _, _ => none

structure DFn where
  n : Nat
  keep : List Nat
  fx : List Nat
  pre : SCode
  g : Nat
  caps : List Nat
  code : SCode
  res : List RV
  res0 : List RV

def isDef : Code → Bool
  | .region _ ops false => match ops.toList with
    | [o1, o2] => (defTarget o1 o2).isSome
    | _ => false
  | _ => false
/-- The pieces in front of the region that defers. -/
def unspine : Code → Option (List Code × Code)
  | .seq a b => if isDef a then some ([], .seq a b) else match unspine b with
    | some (l, r) => some (a :: l, r)
    | none => none
  | _ => none
def spine : List Code → Code → Code
  | [], r => r
  | a :: l, r => .seq a (spine l r)
theorem unspine_spec : ∀ {c : Code} {l : List Code} {r : Code}, unspine c = some (l, r) → c = spine l r
  | .seq a b, l, r, h => by
    simp only [unspine] at h
    split at h
    · simp only [Option.some.injEq, Prod.mk.injEq] at h
      obtain ⟨rfl, rfl⟩ := h; rfl
    · split at h
      · rename_i l' r' hb
        simp only [Option.some.injEq, Prod.mk.injEq] at h
        obtain ⟨rfl, rfl⟩ := h
        rw [spine, ← unspine_spec hb]
      · cases h
  | .skip, _, _, h => by simp [unspine] at h
  | .region .., _, _, h => by simp [unspine] at h
  | .cond .., _, _, h => by simp [unspine] at h
  | .block .., _, _, h => by simp [unspine] at h
  | .loop .., _, _, h => by simp [unspine] at h
  | .exit .., _, _, h => by simp [unspine] at h
  | .ret, _, _, h => by simp [unspine] at h
  | .rangeFunc .., _, _, h => by simp [unspine] at h
  | .scope .., _, _, h => by simp [unspine] at h
  | .label .., _, _, h => by simp [unspine] at h
  | .goto .., _, _, h => by simp [unspine] at h
  | .refuse .., _, _, h => by simp [unspine] at h
def stripAll (P : Program) (n : Nx) (keep : List Nat) : List Code → Option SCode
  | [] => some .skip
  | a :: l => match strip P n keep a, stripAll P n keep l with
    | some x, some y => some (.seq x y)
    | _, _ => none

def stripDef (P : Program) (keep fx : List Nat) (fn : Func) : Option DFn :=
  if keep.all (fun t => decide (t < fn.ntmps)) then
    match fn.body with
    | some c => match unspine c with
      | some (A, .seq (.region _ ops false) C) =>
        match ops.toList with
        | [o1, o2] => match defTarget o1 o2 with
          | some (g, d, cs) =>
            if decide (d < fn.ntmps) && (posOf keep d).isNone && !fx.elem d && hasBody P g then
              match stripAll P ⟨fn.ntmps, []⟩ keep A, strip P ⟨fn.ntmps, fx⟩ keep C, stripRVs P fx fn.results.toList, stripRVs P keep fn.results.toList with
              | some a, some c, some rs, some rs0 => some ⟨fn.ntmps, keep, fx, a, g, cs, c, rs, rs0⟩
              | _, _, _, _ => none
            else none
          | none => none
        | _ => none
      | _ => none
    | none => none
  else none

def lookL (keep : List Nat) (σ : Slots) : List Nat → Option (List Value)
  | [] => some []
  | t :: r => match lookS keep σ t, lookL keep σ r with
    | some v, some vs => some (v :: vs)
    | _, _ => none

/-- What must hold where the deferred call begins. -/
def defQ (P : Program) (F : DFn) (R : Value → Heap → Prop) : Post
  | .nrm, σ, H => ∃ vs cs, lookL F.keep σ F.fx = some vs ∧ lookL F.keep σ F.caps = some cs ∧
      vc P (fun c H' => DCalls P F.g cs.toArray (.panicking c) .returning H' fun H'' => finN R H'' (resV (vs.map some) H'' F.res)) F.code σ H fun x _ H' =>
        match x with
        | .ext _ => False
        | _ => DCalls P F.g cs.toArray .returning .returning H' fun H'' => finN R H'' (resV (vs.map some) H'' F.res)
  | .ret, σ, H => finN R H (resV σ H F.res0)
  | .ext _, _, _ => False

section
variable {P : Program}

theorem lookL_tmps {n : Nx} {dd : DD} {keep : List Nat} {σ : Slots} {a : Act} (h : F2 n dd keep [] σ [] a) : ∀ {ts : List Nat} {vs : List Value}, lookL keep σ ts = some vs → ts.map (fun t => a.tmps.getD t undef) = vs ∧ ∀ t ∈ ts, a.tmps[t]? = some (a.tmps.getD t undef)
  | [], vs, hv => by simp [lookL] at hv; subst hv; exact ⟨rfl, fun t ht => by cases ht⟩
  | t :: ts, vs, hv => by
    simp only [lookL] at hv
    split at hv
    · rename_i v vs' h1 h2
      simp at hv; subst hv
      obtain ⟨k, hk, hs⟩ := lookS_pos h1
      have e := h.slots t k v hk hs
      obtain ⟨i1, i2⟩ := lookL_tmps h h2
      have e' : a.tmps.getD t undef = v := by simp [Array.getD_eq_getD_getElem?, e]
      refine ⟨by rw [List.map_cons, e', i1], fun t' ht' => ?_⟩
      rcases List.mem_cons.1 ht' with rfl | ht'
      · rw [e', e]
      · exact i2 t' ht'
    · cases hv

theorem mapM_tmps {xs : List Operand} {cs : List Nat} (h : xs.mapM (fun (x : Operand) => match x with | .tmp t => some t | _ => none) = some cs) : xs = cs.map .tmp := by
  induction xs generalizing cs with
  | nil => simp at h; subst h; rfl
  | cons x xs ih =>
    simp only [List.mapM_cons, Option.bind_eq_bind, Option.bind_eq_some_iff, Option.pure_def, Option.some.injEq] at h
    obtain ⟨t, h1, ts, h2, rfl⟩ := h
    cases x with
    | tmp u => simp at h1; subst h1; simp [ih h2]
    | const u => simp at h1
    | global u => simp at h1
    | func u => simp at h1

theorem defTarget_spec {o1 o2 : Oper} {g d : Nat} {cs : List Nat} (h : defTarget o1 o2 = some (g, d, cs)) :
    o1.op = .makeFunc (.func g) #[] (cs.map Operand.tmp).toArray ∧ o1.dst = some d ∧ o1.guard = none ∧ (∃ tys, o2.op = .defer { callee := .value (.tmp d), args := #[], argTypes := tys }) ∧ o2.dst = none ∧ o2.guard = none := by
  unfold defTarget at h
  split at h
  · rename_i g' first caps d' d'' args tys h1 h2 h3 h4 h5 h6
    split at h
    · rename_i hc
      obtain ⟨rfl, hc2, hc3⟩ := hc
      split at h
      · rename_i cs' hcs
        simp at h
        obtain ⟨rfl, rfl, rfl⟩ := h
        have e1 : first = #[] := by
          apply Array.toList_inj.1; simpa using hc2
        have e2 : args = #[] := by
          apply Array.toList_inj.1; simpa using hc3
        have e3 : caps = (cs'.map Operand.tmp).toArray := by
          apply Array.toList_inj.1; simpa using mapM_tmps hcs
        subst e1 e2 e3
        exact ⟨h1, h2, h3, ⟨tys, h4⟩, h5, h6⟩
      · cases h
    · cases h
  · cases h

theorem pre_sound {E : Chain → Heap → Prop} {n : Nx} {dd : DD} {keep : List Nat} {rest : Code} {T : Exit → Act → World → Prop} {Q : Post} {w0 : World} (hT : ∀ e a w, e ≠ .normal → QX E n dd keep w0 Q e a w → T e a w)
    (hrest : ∀ a w σ, F2 n dd keep [] σ [] a → Same w0 w → Q .nrm σ w.heap → rest.wp P T a w) : ∀ {l : List Code} {s : SCode}, stripAll P n keep l = some s → ∀ {σ : Slots} {a : Act} {w : World}, F2 n dd keep [] σ [] a → Same w0 w → vc P E s σ w.heap Q → (spine l rest).wp P T a w
  | [], s, hs, σ, a, w, hf, hw, hv => by
    simp only [stripAll, Option.some.injEq] at hs; subst hs
    exact hrest a w σ hf hw hv
  | x :: l, s, hs, σ, a, w, hf, hw, hv => by
    simp only [stripAll] at hs
    split at hs
    · rename_i sx sl h1 h2
      simp only [Option.some.injEq] at hs; subst hs
      refine wp_seq (wp_mono (vc_sound x h1 hf hw hv) fun e a' w' hq => ?_)
      cases e with
      | normal =>
        obtain ⟨hw', σ', hf', hv'⟩ := hq
        exact pre_sound hT hrest h2 hf' hw' hv'
      | exit i => exact hT _ _ _ (by simp) hq
      | ret => exact hT _ _ _ (by simp) hq
      | panic c => exact hT _ _ _ (by simp) hq
      | _ => first | exact hq.elim | exact hT _ _ _ (by simp) hq
    · cases hs

theorem calls_of_defers {f : Nat} {fn : Func} {keep fx : List Nat} {F : DFn} {args : List Value} {H : Heap} {R : Value → Heap → Prop} (hf : P.funcs[f]? = some fn) (hs : stripDef P keep fx fn = some F)
    (hn : args.length ≤ F.n) (h : vc P (fun _ _ => False) F.pre (argS F.keep args) H (defQ P F R)) : HCalls P f args.toArray H R := by
  unfold stripDef at hs
  split at hs
  case isFalse => cases hs
  rename_i hkn
  split at hs
  case h_2 => cases hs
  rename_i body hb
  split at hs
  case h_2 => cases hs
  rename_i A rid ops C hsp
  have hb0 := unspine_spec hsp
  subst hb0
  split at hs
  case h_2 => cases hs
  rename_i o1 o2 hops
  split at hs
  case h_2 => cases hs
  rename_i g d cs hdt
  split at hs
  case isFalse => cases hs
  rename_i hc
  split at hs
  case h_2 => cases hs
  rename_i sa sc rs rs0 hA hC hR hR0
  simp at hs; subst hs
  simp only [Bool.and_eq_true, decide_eq_true_eq, Bool.not_eq_true', Option.isNone_iff_eq_none] at hc
  obtain ⟨⟨⟨hdn, hdk⟩, hdx⟩, hgb⟩ := hc
  obtain ⟨e1, e2, e3, ⟨tys, e4⟩, e5, e6⟩ := defTarget_spec hdt
  intro w hw
  subst hw
  refine calls_of_wp_defers hf hb ?_
  refine pre_sound (fun e a w1 he hq => ?_) (fun a w1 σ hfit hs1 hq => ?_) hA (fits_args (dd := ⟨[], fun _ => undef⟩) hn hkn) (Same.refl w) h
  · cases e <;> simp only [QX, bodyPostD] at hq ⊢
    case normal => exact absurd rfl he
    case exit => exact hq.2.elim fun σ h => h.2.elim
    case panic => exact hq.2.2.elim
    case ret =>
      obtain ⟨hs1, σ, hfit, hfin⟩ := hq
      rw [hfit.fixd.1]
      unfold Leaves
      replace hfin : finN R w1.heap (resV σ w1.heap rs0) := hfin
      cases hr : resV σ w1.heap rs0 with
      | none => rw [hr] at hfin; exact hfin.elim
      | some us =>
        rw [hr] at hfin
        refine ⟨_, results_ok hfit hR0 hr, ?_, hs1⟩
        match us, hfin with
        | [], hfin => exact hfin
        | [v], hfin => exact hfin
        | v :: u :: r, hfin => exact hfin
  obtain ⟨vs, cvs, hvs, hcvs, hv⟩ := hq
  obtain ⟨f1, f2⟩ := lookL_tmps hfit hvs
  obtain ⟨g1, g2⟩ := lookL_tmps hfit hcvs
  -- the frame behind the deferring
  let fv : Value := .func (.func g) #[] cvs.toArray
  let a2 : Act := { (a.put (some d) fv) with defers := [{ target := .fn (.func g) cvs.toArray, args := #[] }] }
  have hd : d < a.tmps.size := by rw [hfit.size]; exact hdn
  have ha0 : a.defers = [] := hfit.fixd.1
  refine wp_seq (wp_region_list ?_)
  rw [hops]
  have w1' : Region.wanted o1 (yielded ops a.tmps) = true := by simp [Region.wanted, e3]
  have w2' : Region.wanted o2 (yielded ops (a.put o1.dst fv).tmps) = true := by simp [Region.wanted, e6]
  have x1 : (execOp a.eval o1).run P w1 = .ok (.value fv) w1 := by
    have : (cs.map Operand.tmp).toArray.map a.eval = cvs.toArray := by
      apply Array.toList_inj.1
      simp only [List.map_toArray, List.map_map]
      rw [← g1]
      apply List.map_congr_left
      intro t ht
      rfl
    simp [execOp, e1, Instr.makeFunc, fv, ← this]
  have x2 : (execOp (a.put o1.dst fv).eval o2).run P w1 = .ok (.defer { target := .fn (.func g) cvs.toArray, args := #[] }) w1 := by
    have : (a.put o1.dst fv).eval (.tmp d) = fv := by
      simp [Act.eval, e2, Act.put, Array.getD_eq_getD_getElem?, hd]
    simp [execOp, e4, resolve, this, fv, Deferred.ofValue]
  unfold wpList
  rw [if_pos w1']
  refine .inl ?_
  unfold Oper.wp
  rw [x1]
  simp only [Oper.upon_value]
  unfold wpList
  rw [if_pos w2']
  refine .inl ?_
  unfold Oper.wp
  rw [x2]
  simp only [Oper.upon_defer]
  unfold wpList
  have hact : ({ (a.put o1.dst fv) with defers := { target := .fn (.func g) cvs.toArray, args := #[] } :: (a.put o1.dst fv).defers } : Act).put o2.dst undef = a2 := by
    simp [e2, e5, a2, Act.put, ha0]
  rw [hact]
  simp only [Exit.then]
  -- the code behind it
  let dd : DD := ⟨[{ target := .fn (.func g) cvs.toArray, args := #[] }], fun t => a.tmps.getD t undef⟩
  have hne : ∀ t ∈ fx, d ≠ t := by
    rintro t ht rfl
    simp only [List.elem_eq_contains, List.contains_eq_mem, decide_eq_false_iff_not] at hdx
    exact hdx ht
  have hget : ∀ t, d ≠ t → a2.tmps[t]? = a.tmps[t]? := fun t ht => by simp [a2, Act.put, Array.getElem?_setIfInBounds_ne ht]
  have hfit2 : F2 ⟨fn.ntmps, fx⟩ dd keep [] σ [] a2 := by
    refine ⟨by simp [a2, Act.put]; exact hfit.size, ⟨rfl, fun t ht => ?_⟩, fun t k v ht hu => ?_, fun t k v _ hk _ => by simp [posOf] at hk⟩
    · rw [hget t (hne t ht)]; exact f2 t ht
    · have : d ≠ t := by rintro rfl; rw [hdk] at ht; cases ht
      rw [hget t this]; exact hfit.slots t k v ht hu
  have fin : ∀ (a' : Act) (w' : World) (u : FrameMode), u ≠ .run → Fixed ⟨fn.ntmps, fx⟩ dd a' → Same w w' → DCalls P g cvs.toArray u .returning w'.heap (fun H'' => finN R H'' (resV (vs.map some) H'' rs)) →
      Leaves P fn a'.tmps (EndH R (fun _ _ => False) w) a'.defers u w' := by
    intro a' w' u hu hfx hs' hD
    rw [hfx.1]
    refine leaves_cons (f := g) (args := cvs.toArray) hu ?_ ((hD w' rfl).mono fun e m w'' ⟨v, he, hm, hR', hs''⟩ => ?_)
    · simp [invoke, run_callFunc hgb]
    · subst he
      simp only [hm]
      unfold Leaves
      -- the results
      have hF : F2 ⟨a'.tmps.size, fx⟩ dd fx [] (vs.map some) [] a' := by
        refine ⟨rfl, hfx, fun t k v' ht hu => ?_, fun t k v _ hk _ => by simp [posOf] at hk⟩
        have hg := posOf_get ht
        have hm' : t ∈ fx := List.mem_of_getElem? hg
        rw [hfx.2 t hm']
        rw [← f1] at hu
        simp only [List.getElem?_map, hg, Option.map_some, Option.some.injEq] at hu
        simpa [dd] using hu
      replace hR' : finN R w''.heap (resV (vs.map some) w''.heap rs) := hR'
      cases hr : resV (vs.map some) w''.heap rs with
      | none => rw [hr] at hR'; exact hR'.elim
      | some us =>
        rw [hr] at hR'
        refine ⟨_, results_ok hF hR hr, ?_, hs'.trans hs''⟩
        match us, hR' with
        | [], hfin => exact hfin
        | [v], hfin => exact hfin
        | v :: u :: r, hfin => exact hfin
  refine wp_mono (vc_sound C hC hfit2 hs1 hv) fun e a' w' hq => ?_
  cases e <;> simp only [QX, bodyPostD] at hq ⊢
  · obtain ⟨hs', σ', hf', hq⟩ := hq; exact fin a' w' _ (by simp) hf'.fixd hs' hq
  · exact hq.2.elim fun _ h => h.2.elim
  · obtain ⟨hs', σ', hf', hq⟩ := hq; exact fin a' w' _ (by simp) hf'.fixd hs' hq
  · obtain ⟨hs', hfx, hq⟩ := hq; exact fin a' w' _ (by simp) hfx hs' hq


/-- A function that begins with a recover. -/
structure RFn where
  n : Nat
  keep : List Nat
  d0 : Nat
  d1 : Nat
  code : SCode
  res : List RV

def recOps (o0 o1 : Oper) : Option (Nat × Nat) :=
  match o0.op, o0.dst, o0.guard, o1.op, o1.dst, o1.guard with
  | .call { callee := .builtin .recover, args := _, argTypes := _ }, some d0, none, .assign (.tmp d), some d1, none => if d = d0 then some (d0, d1) else none
  | _, _, _, _, _, _ => none

def stripRec (P : Program) (keep : List Nat) (fn : Func) : Option RFn :=
  if keep.all (fun t => decide (t < fn.ntmps)) then
    match fn.body with
    | some (.seq (.region _ ops false) C) =>
      match ops.toList with
      | [o0, o1] => match recOps o0 o1 with
        | some (d0, d1) =>
          if decide (d0 < fn.ntmps) && decide (d1 < fn.ntmps) then
            match strip P ⟨fn.ntmps, []⟩ keep C, stripRVs P keep fn.results.toList with
            | some c, some rs => some ⟨fn.ntmps, keep, d0, d1, c, rs⟩
            | _, _ => none
          else none
        | none => none
      | _ => none
    | _ => none
  else none

/-- What a recover gives, and what it leaves. -/
def recV : FrameMode → Option (Value × FrameMode)
  | .returning => some (.nilIface, .returning)
  | .panicking [{ v, recovered := false, goexit := false }] => some (v, .panicking [{ v, recovered := true }])
  | _ => none

theorem recOps_spec {o0 o1 : Oper} {d0 d1 : Nat} (h : recOps o0 o1 = some (d0, d1)) :
    (∃ xs tys, o0.op = .call { callee := .builtin .recover, args := xs, argTypes := tys }) ∧ o0.dst = some d0 ∧ o0.guard = none ∧ o1.op = .assign (.tmp d0) ∧ o1.dst = some d1 ∧ o1.guard = none := by
  unfold recOps at h
  split at h
  · rename_i xs tys e0 d e1 h1 h2 h3 h4 h5 h6
    split at h
    · rename_i hc
      simp at h; obtain ⟨rfl, rfl⟩ := h
      subst hc
      exact ⟨⟨_, _, h1⟩, h2, h3, h4, h5, h6⟩
    · cases h
  · cases h

theorem dcalls_of_rec {g : Nat} {fn : Func} {keep : List Nat} {F : RFn} {args : List Value} {H : Heap} {R : Heap → Prop} {u m : FrameMode} {v : Value} (hf : P.funcs[g]? = some fn) (hs : stripRec P keep fn = some F)
    (hn : args.length ≤ F.n) (hu : recV u = some (v, m)) (h : vc P (fun _ _ => False) F.code (putS (cD F.keep (some F.d1)) v (putS (cD F.keep (some F.d0)) v (argS F.keep args))) H (finQ F.res (fun _ H' => R H'))) :
    DCalls P g args.toArray u (settle m) H R := by
  unfold stripRec at hs
  split at hs
  case isFalse => cases hs
  rename_i hkn
  split at hs
  case h_2 => cases hs
  rename_i rid ops C hb
  split at hs
  case h_2 => cases hs
  rename_i o0 o1 hops
  split at hs
  case h_2 => cases hs
  rename_i d0 d1 hro
  split at hs
  case isFalse => cases hs
  rename_i hc
  split at hs
  case h_2 => cases hs
  rename_i sc rs hC hR
  simp at hs; subst hs
  simp only [Bool.and_eq_true, decide_eq_true_eq] at hc
  obtain ⟨hd0, hd1⟩ := hc
  obtain ⟨⟨xs, tys, e1⟩, e2, e3, e4, e5, e6⟩ := recOps_spec hro
  intro w hw
  subst hw
  refine callsD_of_wpS hf hb fun c₀ cs hc₀ => ?_
  refine wpS_seq (wpS_region ?_)
  have hsz : ops.size = 2 := by rw [← Array.length_toList, hops]; rfl
  have hg0 : ops[0]? = some o0 := by rw [← Array.getElem?_toList, hops]; rfl
  have hg1 : ops[1]? = some o1 := by rw [← Array.getElem?_toList, hops]; rfl
  have hrange : List.range ops.size = [0, 1] := by rw [hsz]; rfl
  rw [hrange]
  let a0 : Act := { tmps := args.toArray ++ Array.replicate (fn.ntmps - args.toArray.size) undef, defers := [] }
  have hF0 : F2 ⟨fn.ntmps, []⟩ ⟨[], fun _ => undef⟩ keep [] (argS keep args) [] a0 := fits_args (dd := ⟨[], fun _ => undef⟩) hn hkn
  have hF1 := (hF0.put (d := some d0) (by simp [dstOk, hd0]) v).rest
  have hF2 := (hF1.put (d := some d1) (by simp [dstOk, hd1]) v).rest
  -- the two operations
  have x0 : (execOp a0.eval o0).run P w = .ok .recover w := by simp [execOp, e1, resolve, invoke, builtin]
  have x1 : (execOp (a0.put o0.dst v).eval o1).run P w = .ok (.value v) w := by
    have hsz0 : d0 < a0.tmps.size := by rw [hF0.size]; exact hd0
    have : (a0.put o0.dst v).eval (.tmp d0) = v := by
      simp [Act.eval, e2, Act.put, Array.getD_eq_getD_getElem?, hsz0]
    simp [execOp, e4, this]
  have w0' : Region.wanted o0 (yielded ops a0.tmps) = true := by simp [Region.wanted, e3]
  have w1' : Region.wanted o1 (yielded ops (a0.put o0.dst v).tmps) = true := by simp [Region.wanted, e6]
  have hrec : ∃ cs', (∀ Q : Exit → Act → List Frame → World → Prop, wpOpsS P ops Q [1] (a0.put o0.dst v) cs' w → wpOpsS P ops Q [0, 1] a0 (c₀ :: cs) w) ∧ cs' = { c₀ with mode := m } :: cs := by
    cases u with
    | run => simp [recV] at hu
    | returning =>
      simp [recV] at hu; obtain ⟨rfl, rfl⟩ := hu
      refine ⟨c₀ :: cs, fun Q hq => ?_, by rw [← hc₀]⟩
      rw [wpOpsS, hg0]
      simp only [if_pos w0', x0, recoverD, hc₀]
      exact hq
    | panicking chain =>
      match chain, hu with
      | [{ v := v', recovered := false, goexit := false }], hu =>
        simp [recV] at hu; obtain ⟨rfl, rfl⟩ := hu
        refine ⟨_, fun Q hq => ?_, rfl⟩
        rw [wpOpsS, hg0]
        simp only [if_pos w0', x0, recoverD, hc₀]
        exact hq
  obtain ⟨cs', hstep, rfl⟩ := hrec
  refine hstep _ ?_
  rw [wpOpsS, hg1]
  simp only [if_pos w1', x1, Oper.upon_value]
  rw [wpOpsS]
  simp only [Exit.thenS]
  rw [e2, e5]
  refine wpS_of_wp ?_
  refine wp_mono (vc_sound C hC hF2 (Same.refl w) h) fun e a w' hq => ?_
  have fin : ∀ σ, F2 ⟨fn.ntmps, []⟩ ⟨[], fun _ => undef⟩ keep [] σ [] a → Same w w' → finN (fun _ H' => R H') w'.heap (resV σ w'.heap rs) →
      a.defers = [] ∧ ∃ u', { c₀ with mode := m } :: cs = { c₀ with mode := u' } :: cs ∧ ∃ v, (results fn a.tmps).run P w' = .ok v w' ∧ ∃ v', Ending.returned v = .returned v' ∧ settle u' = settle m ∧ R w'.heap ∧ Same w w' := by
    intro σ hfit hsame hfin
    refine ⟨hfit.fixd.1, m, rfl, ?_⟩
    cases hr : resV σ w'.heap rs with
    | none => rw [hr] at hfin; exact hfin.elim
    | some vs =>
      rw [hr] at hfin
      refine ⟨_, results_ok hfit hR hr, _, rfl, rfl, ?_, hsame⟩
      match vs, hfin with
      | [], hfin => exact hfin
      | [v], hfin => exact hfin
      | v :: u :: r, hfin => exact hfin
  cases e <;> simp only [QX, bodyPostS, finQ] at hq ⊢
  · obtain ⟨hsame, σ, hfit, hfin⟩ := hq; exact fin σ hfit hsame hfin
  · obtain ⟨_, _, _, hfin⟩ := hq; exact hfin
  · obtain ⟨hsame, σ, hfit, hfin⟩ := hq; exact fin σ hfit hsame hfin
  · exact hq.2.2.elim

end
end Gx
end
section
/- Generated: the stripped code of functions that defer or recover. -/
namespace Go.Proofs.YtbgjgaaobnbijaaGreatDoor
open Gx Go
def c15a : SCode := (.seq (.ops [(.op none (.s 2) (.al 25 [(.int .i64 0), (.string ⟨⟨[]⟩⟩), (.int .i64 0), (.int .i64 0), (.slice none 0 0)])), (.op none (.s 3) (.al 28 [(.int .i64 0), (.int .i64 0)]))]) (.seq (.ops [(.op none .t (.v (.mv (.s 0)))), (.op none .t (.call 25 [(.t 0)])), (.op none .t (.v (.mv (.t 0)))), (.op none .t (.v (.ext (.t 0) 0))), (.op none .t (.v (.ext (.t 1) 1))), (.op none (.s 5) (.al 28 [(.int .i64 0), (.int .i64 0)])), (.op none (.s 4) (.v (.mv (.t 1)))), (.op none .no (.st 2 (.s 5) (.t 0)))]) (.seq (.seq (.ops [(.op none .t (.v (.fa 0 (.s 5)))), (.op none .t (.ld none (.t 0))), (.op none (.s 7) (.v (.bin .neq (.t 0) (.c (.int .i64 0)))))]) (.cond (.s 7) (.seq (.de (.rd none .t (.v (.bld [(.int .i64 0), (.string ⟨⟨[]⟩⟩), (.int .i64 0), (.int .i64 0), (.slice none 0 0)] [])) [2, 3] (.rd none .t (.ld (some 2) (.s 5)) [3] (.ef 2 none .no (.st 5 (.s 2) (.t 1)) (.ef 3 none .no (.st 2 (.s 3) (.t 0)) .done))))) .ret) .skip)) (.seq (.ops [(.op none .t (.v (.mv (.s 4)))), (.op none .t (.v (.bld [(.slice none 0 0), (.int .i64 0), (.int .i64 0)] [(0, (1, (.t 0)))]))), (.op none .t (.bx 47 (.t 0))), (.op none (.s 6) (.v (.mv (.t 0))))]) .skip))))
def c15b : SCode := (.seq (.ops [(.op none .t (.v (.mv (.s 1)))), (.op none .t (.v (.mv (.s 6)))), (.op none .t (.cv (.t 1) [(.t 0)])), (.op none .no (.st 5 (.s 2) (.t 0)))]) (.seq (.seq (.ops [(.op none .t (.v (.mv (.s 6)))), (.op none .t (.call 23 [(.t 0)])), (.op none .t (.v (.fld1 0 (.t 0)))), (.op none (.s 8) (.v (.bin .neq (.t 0) (.c (.int .i64 6)))))]) (.cond (.s 8) (.ops [(.op none .t (.v (.mv (.s 6)))), (.op none .t (.call 27 [(.t 0), (.c (.int .i64 2))]))]) .skip)) (.seq (.ops [(.op none .t (.ld (some 5) (.s 2))), (.op none .t (.v (.bld [(.int .i64 0), (.int .i64 0)] []))), (.op none .no (.st 5 (.s 2) (.t 1))), (.op none .no (.st 2 (.s 3) (.t 0)))]) .ret)))
def c15 : Gx.DFn := ⟨34, [0, 1, 4, 5, 6, 7, 8, 16, 29], [4, 5], c15a, 26, [5, 4], c15b, [(.cell (.s 0) (some 5)), (.cell (.s 1) (some 2))], [(.cell (.s 2) (some 5)), (.cell (.s 3) (some 2))]⟩
theorem c15ok : stripDef Tryz.prog [0, 1, 4, 5, 6, 7, 8, 16, 29] [4, 5] Tryz.f15 = some c15 := by kernel_rfl
def c26b : SCode := (.seq (.ops [(.op none .t (.v (.mv (.s 2)))), (.op none (.s 3) (.v (.isnilf true (.t 0))))]) (.cond (.s 3) (.seq (.ops [(.op none .t (.v (.mv (.s 2)))), (.op none .t (.v (.tyb 28 (.t 0)))), (.op none .no (.st 2 (.s 0) (.t 0)))]) (.ops [(.op none .t (.v (.bld [(.int .i64 0), (.string ⟨⟨[]⟩⟩), (.int .i64 0), (.int .i64 0), (.slice none 0 0)] []))), (.op none .no (.st 5 (.s 1) (.t 0)))])) .skip))
def c26 : Gx.RFn := ⟨9, [0, 1, 2, 5], 3, 2, c26b, []⟩
theorem c26ok : stripRec Tryz.prog [0, 1, 2, 5] Tryz.f26 = some c26 := by kernel_rfl
end Go.Proofs.YtbgjgaaobnbijaaGreatDoor
end
section
/- Generated: the stripped code of Go functions, each held against the loaded program. -/
namespace Go.Proofs.YtbgjgaaobnbijaaGreatDoor
open Gx Go

/- plexuslaw16.ParserExpressions -/
@[go_sem] def c3k : List Nat := [0, 2, 3, 4, 5, 6, 8]
@[go_sem] def c3r0 : List GOp := [mS 1 (.c (.bool false))]
@[go_sem] def c3r1 : List GOp := [oT (.call 6 []), oS 6 (.v (.un .not T0))]
@[go_sem] def c3r2 : List GOp := [mS 1 (.c (.bool false))]
def c3s3 : SCode := (.cond S6 (.seq (.ops c3r2) .ret) .skip)
@[go_sem] theorem c3s3eq : U c3s3 (.cond S6 (.seq (.ops c3r2) .ret) .skip) := fun _ _ _ _ _ => rfl
@[go_sem] def c3r4 : List GOp := [mT S0, oT (.call 7 [T0]), mT T0, oT (.v (.ext T0 0)), oT (.v (.ext T1 1)), oS 2 (.al 25 [(I 0), (.string ⟨⟨[]⟩⟩), (I 0), (I 0), Z]), oS 3 (.al 28 [(I 0), (I 0)]), oN (.st 5 S2 T1), oN (.st 2 S3 T0)]
@[go_sem] def c3r5 : List GOp := [mT S0, oT (.call 8 [T0]), mT T0, oT (.v (.ext T0 0)), oT (.v (.ext T1 1)), oS 4 (.al 25 [(I 0), (.string ⟨⟨[]⟩⟩), (I 0), (I 0), Z]), oS 5 (.al 28 [(I 0), (I 0)]), oN (.st 5 S4 T1), oN (.st 2 S5 T0)]
@[go_sem] def c3r6 : List GOp := [oT (.ld (some 5) S2), oT (.ld (some 2) S3), oT (.ld (some 5) S4), oT (.ld (some 2) S5), oT (.call 9 [T3, T2, T1, T0]), mS 1 T0]
def c3s7 : SCode := (.seq (.ops c3r5) (.seq (.ops c3r6) .ret))
@[go_sem] theorem c3s7eq : U c3s7 (.seq (.ops c3r5) (.seq (.ops c3r6) .ret)) := fun _ _ _ _ _ => rfl
def c3s8 : SCode := (.seq (.seq (.ops c3r1) c3s3) (.seq (.ops c3r4) c3s7))
@[go_sem] theorem c3s8eq : U c3s8 (.seq (.seq (.ops c3r1) c3s3) (.seq (.ops c3r4) c3s7)) := fun _ _ _ _ _ => rfl
def c3 : Gx.Fn := ⟨24, c3k, (.seq (.ops c3r0) c3s8), [(.tmp S1)]⟩
theorem c3ok : stripFn Tryz.prog c3k Tryz.f3 = some c3 := by kernel_rfl

/- plexuslaw16.ParserLattices -/
@[go_sem] def c4k : List Nat := [0, 2, 3, 4, 5, 6, 8]
@[go_sem] def c4r0 : List GOp := [mS 1 (.c (.bool false))]
@[go_sem] def c4r1 : List GOp := [oT (.call 6 []), oS 6 (.v (.un .not T0))]
@[go_sem] def c4r2 : List GOp := [mS 1 (.c (.bool false))]
def c4s3 : SCode := (.cond S6 (.seq (.ops c4r2) .ret) .skip)
@[go_sem] theorem c4s3eq : U c4s3 (.cond S6 (.seq (.ops c4r2) .ret) .skip) := fun _ _ _ _ _ => rfl
@[go_sem] def c4r4 : List GOp := [mT S0, oT (.call 10 [T0]), mT T0, oT (.v (.ext T0 0)), oT (.v (.ext T1 1)), oS 2 (.al 25 [(I 0), (.string ⟨⟨[]⟩⟩), (I 0), (I 0), Z]), oS 3 (.al 28 [(I 0), (I 0)]), oN (.st 5 S2 T1), oN (.st 2 S3 T0)]
@[go_sem] def c4r5 : List GOp := [mT S0, oT (.call 11 [T0]), mT T0, oT (.v (.ext T0 0)), oT (.v (.ext T1 1)), oS 4 (.al 25 [(I 0), (.string ⟨⟨[]⟩⟩), (I 0), (I 0), Z]), oS 5 (.al 28 [(I 0), (I 0)]), oN (.st 5 S4 T1), oN (.st 2 S5 T0)]
@[go_sem] def c4r6 : List GOp := [oT (.ld (some 5) S2), oT (.ld (some 2) S3), oT (.ld (some 5) S4), oT (.ld (some 2) S5), oT (.call 9 [T3, T2, T1, T0]), mS 1 T0]
def c4s7 : SCode := (.seq (.ops c4r5) (.seq (.ops c4r6) .ret))
@[go_sem] theorem c4s7eq : U c4s7 (.seq (.ops c4r5) (.seq (.ops c4r6) .ret)) := fun _ _ _ _ _ => rfl
def c4s8 : SCode := (.seq (.seq (.ops c4r1) c4s3) (.seq (.ops c4r4) c4s7))
@[go_sem] theorem c4s8eq : U c4s8 (.seq (.seq (.ops c4r1) c4s3) (.seq (.ops c4r4) c4s7)) := fun _ _ _ _ _ => rfl
def c4 : Gx.Fn := ⟨24, c4k, (.seq (.ops c4r0) c4s8), [(.tmp S1)]⟩
theorem c4ok : stripFn Tryz.prog c4k Tryz.f4 = some c4 := by kernel_rfl

/- plexuslaw16.ParserPrograms -/
@[go_sem] def c5k : List Nat := [0, 2, 3, 4, 5, 6, 8]
@[go_sem] def c5r0 : List GOp := [mS 1 (.c (.bool false))]
@[go_sem] def c5r1 : List GOp := [oT (.call 6 []), oS 6 (.v (.un .not T0))]
@[go_sem] def c5r2 : List GOp := [mS 1 (.c (.bool false))]
def c5s3 : SCode := (.cond S6 (.seq (.ops c5r2) .ret) .skip)
@[go_sem] theorem c5s3eq : U c5s3 (.cond S6 (.seq (.ops c5r2) .ret) .skip) := fun _ _ _ _ _ => rfl
@[go_sem] def c5r4 : List GOp := [mT S0, oT (.call 12 [T0]), mT T0, oT (.v (.ext T0 0)), oT (.v (.ext T1 1)), oS 2 (.al 25 [(I 0), (.string ⟨⟨[]⟩⟩), (I 0), (I 0), Z]), oS 3 (.al 28 [(I 0), (I 0)]), oN (.st 5 S2 T1), oN (.st 2 S3 T0)]
@[go_sem] def c5r5 : List GOp := [mT S0, oT (.call 13 [T0]), mT T0, oT (.v (.ext T0 0)), oT (.v (.ext T1 1)), oS 4 (.al 25 [(I 0), (.string ⟨⟨[]⟩⟩), (I 0), (I 0), Z]), oS 5 (.al 28 [(I 0), (I 0)]), oN (.st 5 S4 T1), oN (.st 2 S5 T0)]
@[go_sem] def c5r6 : List GOp := [oT (.ld (some 5) S2), oT (.ld (some 2) S3), oT (.ld (some 5) S4), oT (.ld (some 2) S5), oT (.call 9 [T3, T2, T1, T0]), mS 1 T0]
def c5s7 : SCode := (.seq (.ops c5r5) (.seq (.ops c5r6) .ret))
@[go_sem] theorem c5s7eq : U c5s7 (.seq (.ops c5r5) (.seq (.ops c5r6) .ret)) := fun _ _ _ _ _ => rfl
def c5s8 : SCode := (.seq (.seq (.ops c5r1) c5s3) (.seq (.ops c5r4) c5s7))
@[go_sem] theorem c5s8eq : U c5s8 (.seq (.seq (.ops c5r1) c5s3) (.seq (.ops c5r4) c5s7)) := fun _ _ _ _ _ => rfl
def c5 : Gx.Fn := ⟨24, c5k, (.seq (.ops c5r0) c5s8), [(.tmp S1)]⟩
theorem c5ok : stripFn Tryz.prog c5k Tryz.f5 = some c5 := by kernel_rfl

/- plexuslaw16.awake -/
@[go_sem] def c6k : List Nat := [0, 1, 2]
@[go_sem] def c6r0 : List GOp := [mS 0 (.c (.bool false))]
@[go_sem] def c6r1 : List GOp := [oT (.call 7 [(.c (.string ⟨⟨[97, 32, 45, 32, 49, 32, 43, 32, 115]⟩⟩))]), mT T0, oT (.v (.ext T0 0)), oT (.v (.ext T1 1)), oS 1 (.al 25 [(I 0), (.string ⟨⟨[]⟩⟩), (I 0), (I 0), Z]), oS 2 (.al 28 [(I 0), (I 0)]), oN (.st 5 S1 T1), oN (.st 2 S2 T0)]
@[go_sem] def c6r2 : List GOp := [oT (.ld (some 2) S2), oT (.v (.bld [(I 0), (I 0)] [])), oT (.v (.steq false [(0, .i), (1, .i)] T1 T0)), mT T0, (.sel T0 true [(.op (.v (.fa 0 S1))), (.op (.ld none T0)), (.op (.v (.bin .eql T0 (C 40))))] .t T0 (.c (.bool false))), mT T0, (.sel T0 true [(.op (.v (.fa 3 S1))), (.op (.ld none T0)), (.op (.v (.bin .eql T0 (C 6))))] .t T0 (.c (.bool false))), mT T0, (.sel T0 true [(.op (.v (.fa 4 S1))), (.op (.ld none T0)), (.op (.v (.len T0))), (.op (.v (.bin .eql T0 (C 2))))] .t T0 (.c (.bool false))), mT T0, (.op (some (T0, (true, true))) .t (.v (.fa 4 S1))), (.op (some (T1, (true, false))) .t (.ld none T0)), (.op (some (T2, (true, false))) .t (.v (.ix 5 T0 (C 0)))), (.op (some (T3, (true, false))) .t (.v (.fa 0 T0))), (.op (some (T4, (true, false))) .t (.ld none T0)), (.op (some (T5, (true, false))) .t (.v (.bin .eql T0 (C 41)))), oT (.v (.pick T6 T0 (.c (.bool false)))), mT T0, (.op (some (T0, (true, true))) .t (.ld (some 5) S1)), (.op (some (T1, (true, false))) .t (.call 14 [T0])), (.op (some (T2, (true, false))) .t (.v (.bin .eql T0 (C 5)))), oT (.v (.pick T3 T0 (.c (.bool false)))), mS 0 T0]
def c6s3 : SCode := (.seq (.ops c6r1) (.seq (.ops c6r2) .ret))
@[go_sem] theorem c6s3eq : U c6s3 (.seq (.ops c6r1) (.seq (.ops c6r2) .ret)) := fun _ _ _ _ _ => rfl
def c6 : Gx.Fn := ⟨39, c6k, (.seq (.ops c6r0) c6s3), [(.tmp S0)]⟩
theorem c6ok : stripFn Tryz.prog c6k Tryz.f6 = some c6 := by kernel_rfl

/- parser.Expression -/
@[go_sem] def c7k : List Nat := [0, 2, 3]
@[go_sem] def c7r0 : List GOp := [oS 1 (.al 25 [(I 0), (.string ⟨⟨[]⟩⟩), (I 0), (I 0), Z]), oS 2 (.al 28 [(I 0), (I 0)])]
@[go_sem] def c7r1 : List GOp := [mT S0, oT (.call 15 [T0, (.f 16)]), oT (.v (.ext T0 0)), oT (.v (.ext T1 1)), oN (.st 5 S1 T1), oN (.st 2 S2 T0)]
def c7 : Gx.Fn := ⟨8, c7k, (.seq (.ops c7r0) (.seq (.ops c7r1) .ret)), [(.cell S1 (some 5)), (.cell S2 (some 2))]⟩
theorem c7ok : stripFn Tryz.prog c7k Tryz.f7 = some c7 := by kernel_rfl

/- parser.Lattice -/
@[go_sem] def c10k : List Nat := [0, 2, 3]
@[go_sem] def c10r0 : List GOp := [oS 1 (.al 25 [(I 0), (.string ⟨⟨[]⟩⟩), (I 0), (I 0), Z]), oS 2 (.al 28 [(I 0), (I 0)])]
@[go_sem] def c10r1 : List GOp := [mT S0, oT (.call 15 [T0, (.f 20)]), oT (.v (.ext T0 0)), oT (.v (.ext T1 1)), oN (.st 5 S1 T1), oN (.st 2 S2 T0)]
def c10s2 : SCode := (.seq (.ops c10r1) .ret)
@[go_sem] theorem c10s2eq : U c10s2 (.seq (.ops c10r1) .ret) := fun _ _ _ _ _ => rfl
def c10 : Gx.Fn := ⟨8, c10k, (.seq (.ops c10r0) c10s2), [(.cell S1 (some 5)), (.cell S2 (some 2))]⟩
theorem c10ok : stripFn Tryz.prog c10k Tryz.f10 = some c10 := by kernel_rfl

/- parser.Parse -/
@[go_sem] def c12k : List Nat := [0, 2, 3]
@[go_sem] def c12r0 : List GOp := [oS 1 (.al 25 [(I 0), (.string ⟨⟨[]⟩⟩), (I 0), (I 0), Z]), oS 2 (.al 28 [(I 0), (I 0)])]
@[go_sem] def c12r1 : List GOp := [mT S0, oT (.call 15 [T0, (.f 22)]), oT (.v (.ext T0 0)), oT (.v (.ext T1 1)), oN (.st 5 S1 T1), oN (.st 2 S2 T0)]
def c12s2 : SCode := (.seq (.ops c12r1) .ret)
@[go_sem] theorem c12s2eq : U c12s2 (.seq (.ops c12r1) .ret) := fun _ _ _ _ _ => rfl
def c12 : Gx.Fn := ⟨8, c12k, (.seq (.ops c12r0) c12s2), [(.cell S1 (some 5)), (.cell S2 (some 2))]⟩
theorem c12ok : stripFn Tryz.prog c12k Tryz.f12 = some c12 := by kernel_rfl

/- parser.Size -/
@[go_sem] def c14k : List Nat := [0, 1, 2, 3, 5, 7, 8, 9, 10]
@[go_sem] def c14r0 : List GOp := [oS 1 (.bx 25 S0), mS 2 (C 0)]
@[go_sem] def c14r1 : List GOp := [mS 3 (C 1)]
@[go_sem] def c14r2 : List GOp := [fT 4 S1, oS 5 (.ld none T0), oS 6 (.v (.len S5)), mS 7 (C 0)]
@[go_sem] def c14r3 : List GOp := [oS 8 (.v (.bin .lss S7 S6))]
@[go_sem] def c14r4 : List GOp := [oT (.v (.ix 5 S5 S7)), oT (.ld (some 5) T0), oS 4 (.al 25 [(I 0), (.string ⟨⟨[]⟩⟩), (I 0), (I 0), Z]), oN (.st 5 S4 T0)]
@[go_sem] def c14r5 : List GOp := [mT S3, oT (.ld (some 5) S4), oT (.call 14 [T0]), oT (.v (.bin .add T2 T0)), mS 3 T0]
def c14s6 : SCode := (.ops c14r5)
@[go_sem] theorem c14s6eq : U c14s6 (.ops c14r5) := fun _ _ _ _ _ => rfl
@[go_sem] def c14r7 : List GOp := [oT (.v (.bin .add S7 (C 1))), mS 7 T0]
def c14s8 : SCode := (.ops c14r7)
@[go_sem] theorem c14s8eq : U c14s8 (.ops c14r7) := fun _ _ _ _ _ => rfl
def c14s9 : SCode := (.seq (.block 1 (.seq (.ops c14r4) c14s6)) c14s8)
@[go_sem] theorem c14s9eq : U c14s9 (.seq (.block 1 (.seq (.ops c14r4) c14s6)) c14s8) := fun _ _ _ _ _ => rfl
def c14s10 : SCode := (.seq (.cond S8 .skip (.exit 0)) c14s9)
@[go_sem] theorem c14s10eq : U c14s10 (.seq (.cond S8 .skip (.exit 0)) c14s9) := fun _ _ _ _ _ => rfl
def c14s11 : SCode := (.seq (.ops c14r3) c14s10)
@[go_sem] theorem c14s11eq : U c14s11 (.seq (.ops c14r3) c14s10) := fun _ _ _ _ _ => rfl
def c14s12 : SCode := (.block 0 (.loop c14k c14s11))
@[go_sem] theorem c14s12eq : U c14s12 (.block 0 (.loop c14k c14s11)) := fun _ _ _ _ _ => rfl
@[go_sem] def c14r13 : List GOp := [mT S3, mS 2 T0]
def c14s14 : SCode := (.seq (.ops c14r13) .ret)
@[go_sem] theorem c14s14eq : U c14s14 (.seq (.ops c14r13) .ret) := fun _ _ _ _ _ => rfl
def c14s15 : SCode := (.seq (.seq (.ops c14r2) c14s12) c14s14)
@[go_sem] theorem c14s15eq : U c14s15 (.seq (.seq (.ops c14r2) c14s12) c14s14) := fun _ _ _ _ _ => rfl
def c14s16 : SCode := (.seq (.ops c14r1) c14s15)
@[go_sem] theorem c14s16eq : U c14s16 (.seq (.ops c14r1) c14s15) := fun _ _ _ _ _ => rfl
def c14 : Gx.Fn := ⟨19, c14k, (.seq (.ops c14r0) c14s16), [(.tmp S2)]⟩
theorem c14ok : stripFn Tryz.prog c14k Tryz.f14 = some c14 := by kernel_rfl

/- plexuslaw16.agree -/
@[go_sem] def c9k : List Nat := [0, 1, 2, 3, 4, 5, 6, 7, 8]
@[go_sem] def c9r0 : List GOp := [oS 4 (.bx 25 S0), oS 5 (.bx 28 S1), oS 6 (.bx 25 S2), oS 7 (.bx 28 S3), mS 8 (.c (.bool false))]
@[go_sem] def c9r1 : List GOp := [oT (.ld (some 2) S5), oT (.ld (some 2) S7), oT (.v (.steq false [(0, .i), (1, .i)] T1 T0)), mT T0, (.op (some (T0, (true, true))) .t (.ld (some 5) S4)), (.op (some (T1, (true, false))) .t (.ld (some 5) S6)), (.op (some (T2, (true, false))) .t (.call 19 [T1, T0])), oT (.v (.pick T3 T0 (.c (.bool false)))), mS 8 T0]
def c9 : Gx.Fn := ⟨17, c9k, (.seq (.ops c9r0) (.seq (.ops c9r1) .ret)), [(.tmp S8)]⟩
theorem c9ok : stripFn Tryz.prog c9k Tryz.f9 = some c9 := by kernel_rfl

/- plexusref16.Equal -/
@[go_sem] def c19k : List Nat := [0, 1, 2, 3, 4, 5, 40, 45, 59]
@[go_sem] def c19r0 : List GOp := [oS 2 (.bx 25 S0), oS 3 (.bx 25 S1), mS 4 (.c (.bool false))]
@[go_sem] def c19r1 : List GOp := [fT 0 S2, lT T0, fT 0 S3, lT T0, oT (.v (.bin .neq T2 T0)), mT T0, (.sel T0 false [(.op (.v (.fa 1 S2))), (.op (.ld none T0)), (.op (.v (.fa 1 S3))), (.op (.ld none T0)), (.op (.v (.bin .neq T2 T0)))] .t (.c (.bool true)) T0), mT T0, (.sel T0 false [(.op (.v (.fa 2 S2))), (.op (.ld none T0)), (.op (.v (.fa 2 S3))), (.op (.ld none T0)), (.op (.v (.bin .neq T2 T0)))] .t (.c (.bool true)) T0), mT T0, (.sel T0 false [(.op (.v (.fa 3 S2))), (.op (.ld none T0)), (.op (.v (.fa 3 S3))), (.op (.ld none T0)), (.op (.v (.bin .neq T2 T0)))] .t (.c (.bool true)) T0), mT T0, (.sel T0 false [(.op (.v (.fa 4 S2))), (.op (.ld none T0)), (.op (.v (.len T0))), (.op (.v (.fa 4 S3))), (.op (.ld none T0)), (.op (.v (.len T0))), (.op (.v (.bin .neq T3 T0)))] (.s 6) (.c (.bool true)) T0)]
@[go_sem] def c19r2 : List GOp := [mS 4 (.c (.bool false))]
def c19s3 : SCode := (.seq (.ops c19r2) .ret)
@[go_sem] theorem c19s3eq : U c19s3 (.seq (.ops c19r2) .ret) := fun _ _ _ _ _ => rfl
@[go_sem] def c19r4 : List GOp := [mS 5 (C 0)]
@[go_sem] def c19r5 : List GOp := [mT S5, fT 4 S2, lT T0, nT T0, oS 7 (.v (.bin .lss T3 T0))]
def c19s6 : SCode := (.cond S7 .skip (.exit 0))
@[go_sem] theorem c19s6eq : U c19s6 (.cond S7 .skip (.exit 0)) := fun _ _ _ _ _ => rfl
@[go_sem] def c19d7 : DT := (rf 4 S2 [10] (rl T0 [10] (rm S5 [10] (.rd none .t (.v (.ix 5 T1 T0)) [10] (.rd none .t (.ld (some 5) T0) [10] (rf 4 S3 [10] (rl T0 [10] (rm S5 [10] (.rd none .t (.v (.ix 5 T1 T0)) [10] (.rd none .t (.ld (some 5) T0) [10] (.ef 10 none .t (.call 19 [T5, T0]) (.rd none (.s 8) (.v (.un .not T0)) [] .done))))))))))))
@[go_sem] def c19r8 : List GOp := [mS 4 (.c (.bool false))]
def c19s9 : SCode := (.seq (.ops c19r8) .ret)
@[go_sem] theorem c19s9eq : U c19s9 (.seq (.ops c19r8) .ret) := fun _ _ _ _ _ => rfl
@[go_sem] def c19r10 : List GOp := [mT S5, oT (.v (.bin .add T0 (C 1))), mS 5 T0]
def c19s11 : SCode := (.ops c19r10)
@[go_sem] theorem c19s11eq : U c19s11 (.ops c19r10) := fun _ _ _ _ _ => rfl
def c19s12 : SCode := (.seq (.block 1 (.seq (.de c19d7) (.cond S8 c19s9 .skip))) c19s11)
@[go_sem] theorem c19s12eq : U c19s12 (.seq (.block 1 (.seq (.de c19d7) (.cond S8 c19s9 .skip))) c19s11) := fun _ _ _ _ _ => rfl
def c19s13 : SCode := (.seq (.seq (.ops c19r5) c19s6) c19s12)
@[go_sem] theorem c19s13eq : U c19s13 (.seq (.seq (.ops c19r5) c19s6) c19s12) := fun _ _ _ _ _ => rfl
def c19s14 : SCode := (.block 0 (.loop c19k c19s13))
@[go_sem] theorem c19s14eq : U c19s14 (.block 0 (.loop c19k c19s13)) := fun _ _ _ _ _ => rfl
@[go_sem] def c19r15 : List GOp := [mS 4 (.c (.bool true))]
def c19s16 : SCode := (.seq (.ops c19r15) .ret)
@[go_sem] theorem c19s16eq : U c19s16 (.seq (.ops c19r15) .ret) := fun _ _ _ _ _ => rfl
def c19s17 : SCode := (.seq (.seq (.ops c19r4) c19s14) c19s16)
@[go_sem] theorem c19s17eq : U c19s17 (.seq (.seq (.ops c19r4) c19s14) c19s16) := fun _ _ _ _ _ => rfl
def c19s18 : SCode := (.seq (.seq (.ops c19r1) (.cond S6 c19s3 .skip)) c19s17)
@[go_sem] theorem c19s18eq : U c19s18 (.seq (.seq (.ops c19r1) (.cond S6 c19s3 .skip)) c19s17) := fun _ _ _ _ _ => rfl
def c19 : Gx.Fn := ⟨60, c19k, (.seq (.ops c19r0) c19s18), [(.tmp S4)]⟩
theorem c19ok : stripFn Tryz.prog c19k Tryz.f19 = some c19 := by kernel_rfl

end Go.Proofs.YtbgjgaaobnbijaaGreatDoor
end
section
/- Generated: the stripped code of Go functions, each held against the loaded program. -/
namespace Go.Proofs.YtbgjgaaobnbijaaGreatDoor
open Gx Go

/- plexusref16.Expression -/
@[go_sem] def c8k : List Nat := [0, 2, 3]
@[go_sem] def c8r0 : List GOp := [oS 1 (.al 25 [(I 0), (.string ⟨⟨[]⟩⟩), (I 0), (I 0), Z]), oS 2 (.al 28 [(I 0), (I 0)])]
@[go_sem] def c8r1 : List GOp := [mT S0, oT (.call 18 [T0, (C 1)]), oT (.v (.ext T0 0)), oT (.v (.ext T1 1)), oN (.st 5 S1 T1), oN (.st 2 S2 T0)]
def c8 : Gx.Fn := ⟨8, c8k, (.seq (.ops c8r0) (.seq (.ops c8r1) .ret)), [(.cell S1 (some 5)), (.cell S2 (some 2))]⟩
theorem c8ok : stripFn Tryz.prog c8k Tryz.f8 = some c8 := by kernel_rfl

/- plexusref16.Lattice -/
@[go_sem] def c11k : List Nat := [0, 2, 3]
@[go_sem] def c11r0 : List GOp := [oS 1 (.al 25 [(I 0), (.string ⟨⟨[]⟩⟩), (I 0), (I 0), Z]), oS 2 (.al 28 [(I 0), (I 0)])]
@[go_sem] def c11r1 : List GOp := [mT S0, oT (.call 18 [T0, (C 2)]), oT (.v (.ext T0 0)), oT (.v (.ext T1 1)), oN (.st 5 S1 T1), oN (.st 2 S2 T0)]
def c11s2 : SCode := (.seq (.ops c11r1) .ret)
@[go_sem] theorem c11s2eq : U c11s2 (.seq (.ops c11r1) .ret) := fun _ _ _ _ _ => rfl
def c11 : Gx.Fn := ⟨8, c11k, (.seq (.ops c11r0) c11s2), [(.cell S1 (some 5)), (.cell S2 (some 2))]⟩
theorem c11ok : stripFn Tryz.prog c11k Tryz.f11 = some c11 := by kernel_rfl

/- plexusref16.Parse -/
@[go_sem] def c13k : List Nat := [0, 2, 3]
@[go_sem] def c13r0 : List GOp := [oS 1 (.al 25 [(I 0), (.string ⟨⟨[]⟩⟩), (I 0), (I 0), Z]), oS 2 (.al 28 [(I 0), (I 0)])]
@[go_sem] def c13r1 : List GOp := [mT S0, oT (.call 18 [T0, (C 0)]), oT (.v (.ext T0 0)), oT (.v (.ext T1 1)), oN (.st 5 S1 T1), oN (.st 2 S2 T0)]
def c13s2 : SCode := (.seq (.ops c13r1) .ret)
@[go_sem] theorem c13s2eq : U c13s2 (.seq (.ops c13r1) .ret) := fun _ _ _ _ _ => rfl
def c13 : Gx.Fn := ⟨8, c13k, (.seq (.ops c13r0) c13s2), [(.cell S1 (some 5)), (.cell S2 (some 2))]⟩
theorem c13ok : stripFn Tryz.prog c13k Tryz.f13 = some c13 := by kernel_rfl

/- plexusref16.parse -/
@[go_sem] def c18k : List Nat := [0, 1, 4, 5, 6, 7, 8, 9, 17, 24, 35, 43, 47, 61, 67]
@[go_sem] def c18r0 : List GOp := [oS 2 (.al 25 [(I 0), (.string ⟨⟨[]⟩⟩), (I 0), (I 0), Z]), oS 3 (.al 28 [(I 0), (I 0)])]
@[go_sem] def c18r1 : List GOp := [mT S0, oT (.call 33 [T0]), mT T0, oT (.v (.ext T0 0)), oT (.v (.ext T1 1)), oS 5 (.al 28 [(I 0), (I 0)]), mS 4 T1, oN (.st 2 S5 T0)]
@[go_sem] def c18r2 : List GOp := [fT 0 S5, lT T0, oS 8 (.v (.bin .neq T0 (C 0)))]
@[go_sem] def c18d3 : DT := (.rd none .t (.v (.bld [(I 0), (.string ⟨⟨[]⟩⟩), (I 0), (I 0), Z] [])) [2, 3] (.rd none .t (.ld (some 2) S5) [3] (.ef 2 none .no (.st 5 S2 T1) (.ef 3 none .no (.st 2 S3 T0) .done))))
def c18s4 : SCode := (.cond S8 (.seq (.de c18d3) .ret) .skip)
@[go_sem] theorem c18s4eq : U c18s4 (.cond S8 (.seq (.de c18d3) .ret) .skip) := fun _ _ _ _ _ => rfl
@[go_sem] def c18r5 : List GOp := [mT S4, oT (.v (.bld [Z, (I 0), (I 0), (.bool false), (I 0), (I 0)] [(0, (1, T0))])), oT (.bx 52 T0), mS 6 T0]
@[go_sem] def c18r6 : List GOp := [oT (.v (.bld [(I 0), (.string ⟨⟨[]⟩⟩), (I 0), (I 0), Z] [(0, (1, (C 1)))])), oS 7 (.al 25 [(I 0), (.string ⟨⟨[]⟩⟩), (I 0), (I 0), Z]), oN (.st 5 S7 T0)]
@[go_sem] def c18r7 : List GOp := [mS 9 S1]
@[go_sem] def c18r8 : List GOp := [oT (.v (.bin .eql S9 (C 1))), mS 11 T0]
@[go_sem] def c18r9 : List GOp := [mT S6, oT (.call 34 [T0]), oN (.st 5 S7 T0)]
@[go_sem] def c18r10 : List GOp := [oT (.v (.bin .eql S9 (C 2))), mS 12 T0]
@[go_sem] def c18r11 : List GOp := [mT S6, oT (.call 35 [T0]), oN (.st 5 S7 T0)]
@[go_sem] def c18r12 : List GOp := [mT S6, oT (.v (.nc T0)), fT 3 T0, lT T0, oT (.v (.un .not T0)), mT T0, (.op (some (T0, (true, true))) .t (.v (.mv S6))), (.op (some (T1, (true, false))) .t (.call 36 [T0])), (.op (some (T2, (true, false))) .t (.v (.fld1 0 T0))), (.op (some (T3, (true, false))) .t (.v (.bin .neq T0 (C 6)))), oS 10 (.v (.pick T4 T0 (.c (.bool false))))]
def c18s13 : SCode := (.cond S10 .skip (.exit 1))
@[go_sem] theorem c18s13eq : U c18s13 (.cond S10 .skip (.exit 1)) := fun _ _ _ _ _ => rfl
@[go_sem] def c18d14 : DT := (rf 4 S7 [5, 7] (rl T0 [5, 7] (rm S6 [3, 4, 5, 7] (.ef 3 none .t (.call 37 [T0]) (.ef 4 none .t (.bs 25 1 [(I 0), (.string ⟨⟨[]⟩⟩), (I 0), (I 0), Z] [(0, (5, T0))]) (.ef 5 none .t (.ap 23 23 T3 T0) (rf 4 S7 [7] (.ef 7 none .no (.st 1 T0 T1) .done))))))))
def c18s15 : SCode := (.seq (.seq (.ops c18r12) c18s13) (.block 2 (.de c18d14)))
@[go_sem] theorem c18s15eq : U c18s15 (.seq (.seq (.ops c18r12) c18s13) (.block 2 (.de c18d14))) := fun _ _ _ _ _ => rfl
def c18s16 : SCode := (.block 1 (.loop c18k c18s15))
@[go_sem] theorem c18s16eq : U c18s16 (.block 1 (.loop c18k c18s15)) := fun _ _ _ _ _ => rfl
def c18s17 : SCode := (.cond S12 (.ops c18r11) c18s16)
@[go_sem] theorem c18s17eq : U c18s17 (.cond S12 (.ops c18r11) c18s16) := fun _ _ _ _ _ => rfl
def c18s18 : SCode := (.seq (.ops c18r10) c18s17)
@[go_sem] theorem c18s18eq : U c18s18 (.seq (.ops c18r10) c18s17) := fun _ _ _ _ _ => rfl
def c18s19 : SCode := (.cond S11 (.ops c18r9) c18s18)
@[go_sem] theorem c18s19eq : U c18s19 (.cond S11 (.ops c18r9) c18s18) := fun _ _ _ _ _ => rfl
def c18s20 : SCode := (.block 0 (.seq (.ops c18r8) c18s19))
@[go_sem] theorem c18s20eq : U c18s20 (.block 0 (.seq (.ops c18r8) c18s19)) := fun _ _ _ _ _ => rfl
@[go_sem] def c18r21 : List GOp := [mT S6, oT (.v (.nc T0)), fT 3 T0, lT T0, oT (.v (.un .not T0)), mT T0, (.op (some (T0, (true, true))) .t (.v (.mv S6))), (.op (some (T1, (true, false))) .t (.call 36 [T0])), (.op (some (T2, (true, false))) .t (.v (.fld1 0 T0))), (.op (some (T3, (true, false))) .t (.v (.bin .neq T0 (C 6)))), oS 13 (.v (.pick T4 T0 (.c (.bool false))))]
@[go_sem] def c18r22 : List GOp := [mT S6, oT (.call 38 [T0, (C 2)])]
def c18s23 : SCode := (.cond S13 (.ops c18r22) .skip)
@[go_sem] theorem c18s23eq : U c18s23 (.cond S13 (.ops c18r22) .skip) := fun _ _ _ _ _ => rfl
@[go_sem] def c18r24 : List GOp := [mT S6, oT (.v (.nc T0)), fT 3 T0, oS 14 (.ld none T0)]
@[go_sem] def c18d25 : DT := (.rd none .t (.v (.bld [(I 0), (.string ⟨⟨[]⟩⟩), (I 0), (I 0), Z] [])) [5, 6] (rm S6 [6] (.rd none .t (.v (.nc T0)) [6] (rf 4 T0 [6] (.rd none .t (.ld (some 2) T0) [6] (.ef 5 none .no (.st 5 S2 T4) (.ef 6 none .no (.st 2 S3 T0) .done)))))))
def c18s26 : SCode := (.seq (.de c18d25) .ret)
@[go_sem] theorem c18s26eq : U c18s26 (.seq (.de c18d25) .ret) := fun _ _ _ _ _ => rfl
def c18s27 : SCode := (.cond S14 c18s26 .skip)
@[go_sem] theorem c18s27eq : U c18s27 (.cond S14 c18s26 .skip) := fun _ _ _ _ _ => rfl
@[go_sem] def c18r28 : List GOp := [oT (.ld (some 5) S7), oT (.v (.bld [(I 0), (I 0)] [])), oN (.st 5 S2 T1), oN (.st 2 S3 T0)]
def c18s29 : SCode := (.seq (.ops c18r28) .ret)
@[go_sem] theorem c18s29eq : U c18s29 (.seq (.ops c18r28) .ret) := fun _ _ _ _ _ => rfl
def c18s30 : SCode := (.seq (.seq (.ops c18r24) c18s27) c18s29)
theorem c18s30eq : U c18s30 (.seq (.seq (.ops c18r24) c18s27) c18s29) := fun _ _ _ _ _ => rfl
def c18s31 : SCode := (.seq (.seq (.ops c18r21) c18s23) c18s30)
theorem c18s31eq : U c18s31 (.seq (.seq (.ops c18r21) c18s23) c18s30) := fun _ _ _ _ _ => rfl
def c18s32 : SCode := (.seq (.seq (.ops c18r7) c18s20) c18s31)
theorem c18s32eq : U c18s32 (.seq (.seq (.ops c18r7) c18s20) c18s31) := fun _ _ _ _ _ => rfl
def c18s33 : SCode := (.seq (.ops c18r6) c18s32)
@[go_sem] theorem c18s33eq : U c18s33 (.seq (.ops c18r6) c18s32) := fun _ _ _ _ _ => rfl
def c18s34 : SCode := (.seq (.ops c18r5) c18s33)
@[go_sem] theorem c18s34eq : U c18s34 (.seq (.ops c18r5) c18s33) := fun _ _ _ _ _ => rfl
def c18s35 : SCode := (.seq (.seq (.ops c18r2) c18s4) c18s34)
@[go_sem] theorem c18s35eq : U c18s35 (.seq (.seq (.ops c18r2) c18s4) c18s34) := fun _ _ _ _ _ => rfl
def c18s36 : SCode := (.seq (.ops c18r1) c18s35)
@[go_sem] theorem c18s36eq : U c18s36 (.seq (.ops c18r1) c18s35) := fun _ _ _ _ _ => rfl
def c18 : Gx.Fn := ⟨75, c18k, (.seq (.ops c18r0) c18s36), [(.cell S2 (some 5)), (.cell S3 (some 2))]⟩
theorem c18ok : stripFn Tryz.prog c18k Tryz.f18 = some c18 := by kernel_rfl

/- (*plexusref16.P).expression -/
@[go_sem] def c34k : List Nat := [0, 2, 3, 4, 5, 6, 9, 21]
@[go_sem] def c34r0 : List GOp := [oS 1 (.al 25 [(I 0), (.string ⟨⟨[]⟩⟩), (I 0), (I 0), Z])]
@[go_sem] def c34r1 : List GOp := [mT S0, oT (.call 53 [T0, (.c (.string ⟨⟨[105, 102]⟩⟩))]), oS 6 (.v (.un .not T0))]
@[go_sem] def c34r2 : List GOp := [mT S0, oT (.call 54 [T0, (C 0)]), oN (.st 5 S1 T0)]
def c34s3 : SCode := (.seq (.ops c34r2) .ret)
@[go_sem] theorem c34s3eq : U c34s3 (.seq (.ops c34r2) .ret) := fun _ _ _ _ _ => rfl
@[go_sem] def c34r4 : List GOp := [mT S0, oT (.call 36 [T0]), oT (.v (.fld1 3 T0)), oT (.v (.bld [(I 0), (.string ⟨⟨[]⟩⟩), (I 0), (I 0), Z] [(0, (1, (C 30))), (3, (1, T0))])), oS 2 (.al 25 [(I 0), (.string ⟨⟨[]⟩⟩), (I 0), (I 0), Z]), oN (.st 5 S2 T0)]
@[go_sem] def c34r5 : List GOp := [mT S0, oT (.call 55 [T0])]
@[go_sem] def c34r6 : List GOp := [mT S0, oT (.v (.nc T0)), fT 3 T0, oS 7 (.ld none T0)]
@[go_sem] def c34r7 : List GOp := [oT (.ld (some 5) S2), oN (.st 5 S1 T0)]
def c34s8 : SCode := (.seq (.ops c34r7) .ret)
@[go_sem] theorem c34s8eq : U c34s8 (.seq (.ops c34r7) .ret) := fun _ _ _ _ _ => rfl
@[go_sem] def c34r9 : List GOp := [mT S0, oT (.v (.nc T0)), fT 1 T0, lT T0, oT (.v (.bin .add T0 (C 1))), oT (.v (.nc T4)), fT 1 T0, oN (.st 1 T0 T2)]
@[go_sem] def c34r10 : List GOp := [mT S0, oT (.call 34 [T0]), oS 3 (.al 25 [(I 0), (.string ⟨⟨[]⟩⟩), (I 0), (I 0), Z]), oN (.st 5 S3 T0)]
@[go_sem] def c34r11 : List GOp := [mT S0, oT (.call 56 [T0, (.c (.string ⟨⟨[116, 104, 101, 110]⟩⟩))])]
@[go_sem] def c34r12 : List GOp := [mT S0, oT (.call 34 [T0]), oS 4 (.al 25 [(I 0), (.string ⟨⟨[]⟩⟩), (I 0), (I 0), Z]), oN (.st 5 S4 T0)]
@[go_sem] def c34r13 : List GOp := [mT S0, oT (.call 56 [T0, (.c (.string ⟨⟨[101, 108, 115, 101]⟩⟩))])]
@[go_sem] def c34r14 : List GOp := [mT S0, oT (.call 34 [T0]), oS 5 (.al 25 [(I 0), (.string ⟨⟨[]⟩⟩), (I 0), (I 0), Z]), oN (.st 5 S5 T0)]
@[go_sem] def c34r15 : List GOp := [oT (.ld (some 5) S3), oT (.ld (some 5) S4), oT (.ld (some 5) S5), oT (.bs 25 3 [(I 0), (.string ⟨⟨[]⟩⟩), (I 0), (I 0), Z, (I 0), (.string ⟨⟨[]⟩⟩), (I 0), (I 0), Z, (I 0), (.string ⟨⟨[]⟩⟩), (I 0), (I 0), Z] [(0, (5, T2)), (5, (5, T1)), (10, (5, T0))]), fT 4 S2, oN (.st 1 T0 T1)]
@[go_sem] def c34r16 : List GOp := [mT S0, oT (.v (.nc T0)), fT 2 T0, lT T0, oT (.v (.bin .sub T0 (C 1))), oT (.v (.nc T4)), fT 2 T0, oN (.st 1 T0 T2)]
@[go_sem] def c34r17 : List GOp := [oT (.ld (some 5) S2), oN (.st 5 S1 T0)]
def c34s18 : SCode := (.seq (.ops c34r17) .ret)
@[go_sem] theorem c34s18eq : U c34s18 (.seq (.ops c34r17) .ret) := fun _ _ _ _ _ => rfl
def c34s19 : SCode := (.seq (.ops c34r16) c34s18)
@[go_sem] theorem c34s19eq : U c34s19 (.seq (.ops c34r16) c34s18) := fun _ _ _ _ _ => rfl
def c34s20 : SCode := (.seq (.ops c34r15) c34s19)
@[go_sem] theorem c34s20eq : U c34s20 (.seq (.ops c34r15) c34s19) := fun _ _ _ _ _ => rfl
def c34s21 : SCode := (.seq (.ops c34r14) c34s20)
@[go_sem] theorem c34s21eq : U c34s21 (.seq (.ops c34r14) c34s20) := fun _ _ _ _ _ => rfl
def c34s22 : SCode := (.seq (.ops c34r13) c34s21)
@[go_sem] theorem c34s22eq : U c34s22 (.seq (.ops c34r13) c34s21) := fun _ _ _ _ _ => rfl
def c34s23 : SCode := (.seq (.ops c34r12) c34s22)
@[go_sem] theorem c34s23eq : U c34s23 (.seq (.ops c34r12) c34s22) := fun _ _ _ _ _ => rfl
def c34s24 : SCode := (.seq (.ops c34r11) c34s23)
@[go_sem] theorem c34s24eq : U c34s24 (.seq (.ops c34r11) c34s23) := fun _ _ _ _ _ => rfl
def c34s25 : SCode := (.seq (.ops c34r10) c34s24)
@[go_sem] theorem c34s25eq : U c34s25 (.seq (.ops c34r10) c34s24) := fun _ _ _ _ _ => rfl
def c34s26 : SCode := (.seq (.ops c34r9) c34s25)
@[go_sem] theorem c34s26eq : U c34s26 (.seq (.ops c34r9) c34s25) := fun _ _ _ _ _ => rfl
def c34s27 : SCode := (.seq (.seq (.ops c34r6) (.cond S7 c34s8 .skip)) c34s26)
@[go_sem] theorem c34s27eq : U c34s27 (.seq (.seq (.ops c34r6) (.cond S7 c34s8 .skip)) c34s26) := fun _ _ _ _ _ => rfl
def c34s28 : SCode := (.seq (.ops c34r5) c34s27)
@[go_sem] theorem c34s28eq : U c34s28 (.seq (.ops c34r5) c34s27) := fun _ _ _ _ _ => rfl
def c34s29 : SCode := (.seq (.ops c34r4) c34s28)
@[go_sem] theorem c34s29eq : U c34s29 (.seq (.ops c34r4) c34s28) := fun _ _ _ _ _ => rfl
def c34s30 : SCode := (.seq (.seq (.ops c34r1) (.cond S6 c34s3 .skip)) c34s29)
@[go_sem] theorem c34s30eq : U c34s30 (.seq (.seq (.ops c34r1) (.cond S6 c34s3 .skip)) c34s29) := fun _ _ _ _ _ => rfl
def c34 : Gx.Fn := ⟨53, c34k, (.seq (.ops c34r0) c34s30), [(.cell S1 (some 5))]⟩
theorem c34ok : stripFn Tryz.prog c34k Tryz.f34 = some c34 := by kernel_rfl

/- (*plexusref16.P).lattice -/
@[go_sem] def c35k : List Nat := [0, 2, 3, 4, 5, 6, 7, 8, 9, 10, 11, 19, 27, 38, 49, 63, 77, 84, 107, 137, 171, 205, 222, 238, 245, 260]
@[go_sem] def c35r0 : List GOp := [oS 1 (.al 25 [(I 0), (.string ⟨⟨[]⟩⟩), (I 0), (I 0), Z])]
@[go_sem] def c35r1 : List GOp := [mT S0, oT (.call 36 [T0]), oS 2 (.al 41 [(I 0), (.string ⟨⟨[]⟩⟩), (I 0), (I 0)]), oN (.st 4 S2 T0)]
@[go_sem] def c35r2 : List GOp := [fT 3 S2, lT T0, oT (.v (.bld [(I 0), (.string ⟨⟨[]⟩⟩), (I 0), (I 0), Z] [(3, (1, T0))])), oS 3 (.al 25 [(I 0), (.string ⟨⟨[]⟩⟩), (I 0), (I 0), Z]), oN (.st 5 S3 T0)]
@[go_sem] def c35r3 : List GOp := [fT 0 S2, lT T0, oS 11 (.v (.bin .eql T0 (C 1)))]
@[go_sem] def c35r4 : List GOp := [fT 0 S3, oN (.st 1 T0 (C 21))]
@[go_sem] def c35r5 : List GOp := [mT S0, oT (.call 57 [T0, (C 1)]), fT 1 S3, oN (.st 1 T0 T1)]
@[go_sem] def c35r6 : List GOp := [oT (.ld (some 5) S3), oN (.st 5 S1 T0)]
def c35s7 : SCode := (.seq (.ops c35r6) .ret)
@[go_sem] theorem c35s7eq : U c35s7 (.seq (.ops c35r6) .ret) := fun _ _ _ _ _ => rfl
def c35s8 : SCode := (.seq (.ops c35r5) c35s7)
@[go_sem] theorem c35s8eq : U c35s8 (.seq (.ops c35r5) c35s7) := fun _ _ _ _ _ => rfl
def c35s9 : SCode := (.seq (.ops c35r4) c35s8)
@[go_sem] theorem c35s9eq : U c35s9 (.seq (.ops c35r4) c35s8) := fun _ _ _ _ _ => rfl
@[go_sem] def c35r10 : List GOp := [mT S0, oT (.call 53 [T0, (.c (.string ⟨⟨[102, 108, 97, 103]⟩⟩))]), mS 12 T0]
@[go_sem] def c35r11 : List GOp := [fT 0 S3, oN (.st 1 T0 (C 10))]
@[go_sem] def c35r12 : List GOp := [mT S0, oT (.v (.nc T0)), fT 1 T0, lT T0, oT (.v (.bin .add T0 (C 1))), oT (.v (.nc T4)), fT 1 T0, oN (.st 1 T0 T2)]
def c35s13 : SCode := (.ops c35r12)
@[go_sem] theorem c35s13eq : U c35s13 (.ops c35r12) := fun _ _ _ _ _ => rfl
def c35s14 : SCode := (.seq (.ops c35r11) c35s13)
@[go_sem] theorem c35s14eq : U c35s14 (.seq (.ops c35r11) c35s13) := fun _ _ _ _ _ => rfl
@[go_sem] def c35r15 : List GOp := [mT S0, oT (.call 53 [T0, (.c (.string ⟨⟨[114, 101, 103, 105, 115, 116, 101, 114]⟩⟩))]), mS 13 T0]
@[go_sem] def c35r16 : List GOp := [fT 0 S3, oN (.st 1 T0 (C 18))]
@[go_sem] def c35r17 : List GOp := [mT S0, oT (.v (.nc T0)), fT 1 T0, lT T0, oT (.v (.bin .add T0 (C 1))), oT (.v (.nc T4)), fT 1 T0, oN (.st 1 T0 T2)]
def c35s18 : SCode := (.ops c35r17)
@[go_sem] theorem c35s18eq : U c35s18 (.ops c35r17) := fun _ _ _ _ _ => rfl
def c35s19 : SCode := (.seq (.ops c35r16) c35s18)
@[go_sem] theorem c35s19eq : U c35s19 (.seq (.ops c35r16) c35s18) := fun _ _ _ _ _ => rfl
@[go_sem] def c35r20 : List GOp := [mT S0, oT (.call 53 [T0, (.c (.string ⟨⟨[115, 101, 116]⟩⟩))]), mS 14 T0]
@[go_sem] def c35r21 : List GOp := [fT 0 S3, oN (.st 1 T0 (C 13))]
@[go_sem] def c35r22 : List GOp := [mT S0, oT (.v (.nc T0)), fT 1 T0, lT T0, oT (.v (.bin .add T0 (C 1))), oT (.v (.nc T4)), fT 1 T0, oN (.st 1 T0 T2)]
@[go_sem] def c35r23 : List GOp := [mT S0, oT (.call 58 [T0]), fT 4 S3, oN (.st 1 T0 T1)]
def c35s24 : SCode := (.ops c35r23)
@[go_sem] theorem c35s24eq : U c35s24 (.ops c35r23) := fun _ _ _ _ _ => rfl
def c35s25 : SCode := (.seq (.ops c35r22) c35s24)
@[go_sem] theorem c35s25eq : U c35s25 (.seq (.ops c35r22) c35s24) := fun _ _ _ _ _ => rfl
def c35s26 : SCode := (.seq (.ops c35r21) c35s25)
@[go_sem] theorem c35s26eq : U c35s26 (.seq (.ops c35r21) c35s25) := fun _ _ _ _ _ => rfl
@[go_sem] def c35r27 : List GOp := [mT S0, oT (.call 53 [T0, (.c (.string ⟨⟨[102, 108, 97, 116]⟩⟩))]), mS 15 T0]
@[go_sem] def c35r28 : List GOp := [fT 0 S3, oN (.st 1 T0 (C 17))]
@[go_sem] def c35r29 : List GOp := [mT S0, oT (.v (.nc T0)), fT 1 T0, lT T0, oT (.v (.bin .add T0 (C 1))), oT (.v (.nc T4)), fT 1 T0, oN (.st 1 T0 T2)]
@[go_sem] def c35r30 : List GOp := [mT S0, oT (.call 58 [T0]), fT 4 S3, oN (.st 1 T0 T1)]
def c35s31 : SCode := (.ops c35r30)
@[go_sem] theorem c35s31eq : U c35s31 (.ops c35r30) := fun _ _ _ _ _ => rfl
def c35s32 : SCode := (.seq (.ops c35r29) c35s31)
@[go_sem] theorem c35s32eq : U c35s32 (.seq (.ops c35r29) c35s31) := fun _ _ _ _ _ => rfl
def c35s33 : SCode := (.seq (.ops c35r28) c35s32)
@[go_sem] theorem c35s33eq : U c35s33 (.seq (.ops c35r28) c35s32) := fun _ _ _ _ _ => rfl
@[go_sem] def c35r34 : List GOp := [mT S0, oT (.call 53 [T0, (.c (.string ⟨⟨[109, 97, 120]⟩⟩))]), mS 16 T0]
@[go_sem] def c35r35 : List GOp := [mT S0, oT (.call 53 [T0, (.c (.string ⟨⟨[109, 105, 110]⟩⟩))]), mS 16 T0]
def c35s36 : SCode := (.cond S16 .skip (.ops c35r35))
@[go_sem] theorem c35s36eq : U c35s36 (.cond S16 .skip (.ops c35r35)) := fun _ _ _ _ _ => rfl
@[go_sem] def c35r37 : List GOp := [fT 0 S3, oN (.st 1 T0 (C 12))]
@[go_sem] def c35r38 : List GOp := [mT S0, oS 17 (.call 53 [T0, (.c (.string ⟨⟨[109, 97, 120]⟩⟩))])]
@[go_sem] def c35r39 : List GOp := [fT 0 S3, oN (.st 1 T0 (C 11))]
def c35s40 : SCode := (.cond S17 (.ops c35r39) .skip)
@[go_sem] theorem c35s40eq : U c35s40 (.cond S17 (.ops c35r39) .skip) := fun _ _ _ _ _ => rfl
@[go_sem] def c35r41 : List GOp := [mT S0, oT (.v (.nc T0)), fT 1 T0, lT T0, oT (.v (.bin .add T0 (C 1))), oT (.v (.nc T4)), fT 1 T0, oN (.st 1 T0 T2)]
@[go_sem] def c35r42 : List GOp := [mT S0, oT (.call 56 [T0, (.c (.string ⟨⟨[40]⟩⟩))])]
@[go_sem] def c35r43 : List GOp := [mT S0, oT (.call 59 [T0]), oS 4 (.al 25 [(I 0), (.string ⟨⟨[]⟩⟩), (I 0), (I 0), Z]), oN (.st 5 S4 T0)]
@[go_sem] def c35r44 : List GOp := [mT S0, oT (.call 56 [T0, (.c (.string ⟨⟨[44]⟩⟩))])]
@[go_sem] def c35r45 : List GOp := [mT S0, oT (.call 59 [T0]), oS 5 (.al 25 [(I 0), (.string ⟨⟨[]⟩⟩), (I 0), (I 0), Z]), oN (.st 5 S5 T0)]
@[go_sem] def c35r46 : List GOp := [mT S0, oT (.call 56 [T0, (.c (.string ⟨⟨[41]⟩⟩))])]
@[go_sem] def c35r47 : List GOp := [oT (.ld (some 5) S4), oT (.ld (some 5) S5), oT (.bs 25 2 [(I 0), (.string ⟨⟨[]⟩⟩), (I 0), (I 0), Z, (I 0), (.string ⟨⟨[]⟩⟩), (I 0), (I 0), Z] [(0, (5, T1)), (5, (5, T0))]), fT 4 S3, oN (.st 1 T0 T1)]
def c35s48 : SCode := (.ops c35r47)
@[go_sem] theorem c35s48eq : U c35s48 (.ops c35r47) := fun _ _ _ _ _ => rfl
def c35s49 : SCode := (.seq (.ops c35r46) c35s48)
@[go_sem] theorem c35s49eq : U c35s49 (.seq (.ops c35r46) c35s48) := fun _ _ _ _ _ => rfl
def c35s50 : SCode := (.seq (.ops c35r45) c35s49)
@[go_sem] theorem c35s50eq : U c35s50 (.seq (.ops c35r45) c35s49) := fun _ _ _ _ _ => rfl
def c35s51 : SCode := (.seq (.ops c35r44) c35s50)
@[go_sem] theorem c35s51eq : U c35s51 (.seq (.ops c35r44) c35s50) := fun _ _ _ _ _ => rfl
def c35s52 : SCode := (.seq (.ops c35r43) c35s51)
@[go_sem] theorem c35s52eq : U c35s52 (.seq (.ops c35r43) c35s51) := fun _ _ _ _ _ => rfl
def c35s53 : SCode := (.seq (.ops c35r42) c35s52)
@[go_sem] theorem c35s53eq : U c35s53 (.seq (.ops c35r42) c35s52) := fun _ _ _ _ _ => rfl
def c35s54 : SCode := (.seq (.ops c35r41) c35s53)
@[go_sem] theorem c35s54eq : U c35s54 (.seq (.ops c35r41) c35s53) := fun _ _ _ _ _ => rfl
def c35s55 : SCode := (.seq (.seq (.ops c35r38) c35s40) c35s54)
@[go_sem] theorem c35s55eq : U c35s55 (.seq (.seq (.ops c35r38) c35s40) c35s54) := fun _ _ _ _ _ => rfl
def c35s56 : SCode := (.seq (.ops c35r37) c35s55)
@[go_sem] theorem c35s56eq : U c35s56 (.seq (.ops c35r37) c35s55) := fun _ _ _ _ _ => rfl
@[go_sem] def c35r57 : List GOp := [mT S0, oT (.call 53 [T0, (.c (.string ⟨⟨[109, 97, 112]⟩⟩))]), mS 18 T0]
@[go_sem] def c35r58 : List GOp := [fT 0 S3, oN (.st 1 T0 (C 14))]
@[go_sem] def c35r59 : List GOp := [mT S0, oT (.call 55 [T0])]
@[go_sem] def c35r60 : List GOp := [mT S0, oT (.v (.nc T0)), fT 1 T0, lT T0, oT (.v (.bin .add T0 (C 1))), oT (.v (.nc T4)), fT 1 T0, oN (.st 1 T0 T2)]
@[go_sem] def c35r61 : List GOp := [mT S0, oT (.call 58 [T0]), fT 4 S3, oN (.st 1 T0 T1)]
@[go_sem] def c35d62 : DT := (rf 4 S3 [5, 7] (rl T0 [5, 7] (rm S0 [3, 4, 5, 7] (.ef 3 none .t (.call 35 [T0]) (.ef 4 none .t (.bs 25 1 [(I 0), (.string ⟨⟨[]⟩⟩), (I 0), (I 0), Z] [(0, (5, T0))]) (.ef 5 none .t (.ap 23 23 T3 T0) (rf 4 S3 [7] (.ef 7 none .no (.st 1 T0 T1) .done))))))))
@[go_sem] def c35r63 : List GOp := [mT S0, oT (.v (.nc T0)), fT 2 T0, lT T0, oT (.v (.bin .sub T0 (C 1))), oT (.v (.nc T4)), fT 2 T0, oN (.st 1 T0 T2)]
def c35s64 : SCode := (.ops c35r63)
@[go_sem] theorem c35s64eq : U c35s64 (.ops c35r63) := fun _ _ _ _ _ => rfl
def c35s65 : SCode := (.seq (.de c35d62) c35s64)
@[go_sem] theorem c35s65eq : U c35s65 (.seq (.de c35d62) c35s64) := fun _ _ _ _ _ => rfl
def c35s66 : SCode := (.seq (.ops c35r61) c35s65)
@[go_sem] theorem c35s66eq : U c35s66 (.seq (.ops c35r61) c35s65) := fun _ _ _ _ _ => rfl
def c35s67 : SCode := (.seq (.ops c35r60) c35s66)
@[go_sem] theorem c35s67eq : U c35s67 (.seq (.ops c35r60) c35s66) := fun _ _ _ _ _ => rfl
def c35s68 : SCode := (.seq (.ops c35r59) c35s67)
@[go_sem] theorem c35s68eq : U c35s68 (.seq (.ops c35r59) c35s67) := fun _ _ _ _ _ => rfl
def c35s69 : SCode := (.seq (.ops c35r58) c35s68)
@[go_sem] theorem c35s69eq : U c35s69 (.seq (.ops c35r58) c35s68) := fun _ _ _ _ _ => rfl
@[go_sem] def c35r70 : List GOp := [mT S0, oT (.call 53 [T0, (.c (.string ⟨⟨[108, 101, 120]⟩⟩))]), mS 19 T0]
@[go_sem] def c35r71 : List GOp := [fT 0 S3, oN (.st 1 T0 (C 16))]
@[go_sem] def c35r72 : List GOp := [mT S0, oT (.call 55 [T0])]
@[go_sem] def c35r73 : List GOp := [mT S0, oT (.v (.nc T0)), fT 1 T0, lT T0, oT (.v (.bin .add T0 (C 1))), oT (.v (.nc T4)), fT 1 T0, oN (.st 1 T0 T2)]
@[go_sem] def c35r74 : List GOp := [mT S0, oT (.call 56 [T0, (.c (.string ⟨⟨[40]⟩⟩))])]
@[go_sem] def c35r75 : List GOp := [mT S0, oT (.call 35 [T0]), oS 6 (.al 25 [(I 0), (.string ⟨⟨[]⟩⟩), (I 0), (I 0), Z]), oN (.st 5 S6 T0)]
@[go_sem] def c35r76 : List GOp := [mT S0, oT (.call 56 [T0, (.c (.string ⟨⟨[44]⟩⟩))])]
@[go_sem] def c35r77 : List GOp := [mT S0, oT (.call 35 [T0]), oS 7 (.al 25 [(I 0), (.string ⟨⟨[]⟩⟩), (I 0), (I 0), Z]), oN (.st 5 S7 T0)]
@[go_sem] def c35r78 : List GOp := [mT S0, oT (.call 56 [T0, (.c (.string ⟨⟨[41]⟩⟩))])]
@[go_sem] def c35r79 : List GOp := [oT (.ld (some 5) S6), oT (.ld (some 5) S7), oT (.bs 25 2 [(I 0), (.string ⟨⟨[]⟩⟩), (I 0), (I 0), Z, (I 0), (.string ⟨⟨[]⟩⟩), (I 0), (I 0), Z] [(0, (5, T1)), (5, (5, T0))]), fT 4 S3, oN (.st 1 T0 T1)]
@[go_sem] def c35r80 : List GOp := [mT S0, oT (.v (.nc T0)), fT 2 T0, lT T0, oT (.v (.bin .sub T0 (C 1))), oT (.v (.nc T4)), fT 2 T0, oN (.st 1 T0 T2)]
def c35s81 : SCode := (.ops c35r80)
@[go_sem] theorem c35s81eq : U c35s81 (.ops c35r80) := fun _ _ _ _ _ => rfl
def c35s82 : SCode := (.seq (.ops c35r79) c35s81)
@[go_sem] theorem c35s82eq : U c35s82 (.seq (.ops c35r79) c35s81) := fun _ _ _ _ _ => rfl
def c35s83 : SCode := (.seq (.ops c35r78) c35s82)
@[go_sem] theorem c35s83eq : U c35s83 (.seq (.ops c35r78) c35s82) := fun _ _ _ _ _ => rfl
def c35s84 : SCode := (.seq (.ops c35r77) c35s83)
@[go_sem] theorem c35s84eq : U c35s84 (.seq (.ops c35r77) c35s83) := fun _ _ _ _ _ => rfl
def c35s85 : SCode := (.seq (.ops c35r76) c35s84)
@[go_sem] theorem c35s85eq : U c35s85 (.seq (.ops c35r76) c35s84) := fun _ _ _ _ _ => rfl
def c35s86 : SCode := (.seq (.ops c35r75) c35s85)
@[go_sem] theorem c35s86eq : U c35s86 (.seq (.ops c35r75) c35s85) := fun _ _ _ _ _ => rfl
def c35s87 : SCode := (.seq (.ops c35r74) c35s86)
@[go_sem] theorem c35s87eq : U c35s87 (.seq (.ops c35r74) c35s86) := fun _ _ _ _ _ => rfl
def c35s88 : SCode := (.seq (.ops c35r73) c35s87)
@[go_sem] theorem c35s88eq : U c35s88 (.seq (.ops c35r73) c35s87) := fun _ _ _ _ _ => rfl
def c35s89 : SCode := (.seq (.ops c35r72) c35s88)
@[go_sem] theorem c35s89eq : U c35s89 (.seq (.ops c35r72) c35s88) := fun _ _ _ _ _ => rfl
def c35s90 : SCode := (.seq (.ops c35r71) c35s89)
@[go_sem] theorem c35s90eq : U c35s90 (.seq (.ops c35r71) c35s89) := fun _ _ _ _ _ => rfl
@[go_sem] def c35r91 : List GOp := [mT S0, oT (.call 53 [T0, (.c (.string ⟨⟨[123]⟩⟩))]), mS 20 T0]
@[go_sem] def c35r92 : List GOp := [fT 0 S3, oN (.st 1 T0 (C 15))]
@[go_sem] def c35r93 : List GOp := [mT S0, oT (.call 55 [T0])]
@[go_sem] def c35r94 : List GOp := [mT S0, oT (.v (.nc T0)), fT 1 T0, lT T0, oT (.v (.bin .add T0 (C 1))), oT (.v (.nc T4)), fT 1 T0, oN (.st 1 T0 T2)]
@[go_sem] def c35r95 : List GOp := [mT S0, oT (.call 36 [T0]), oT (.v (.fld1 3 T0)), oT (.v (.bld [(I 0), (.string ⟨⟨[]⟩⟩), (I 0), (I 0), Z] [(0, (1, (C 22))), (3, (1, T0))])), oS 8 (.al 25 [(I 0), (.string ⟨⟨[]⟩⟩), (I 0), (I 0), Z]), oN (.st 5 S8 T0)]
@[go_sem] def c35r96 : List GOp := [mT S0, oT (.call 57 [T0, (C 1)]), fT 1 S8, oN (.st 1 T0 T1)]
@[go_sem] def c35r97 : List GOp := [mT S0, oT (.call 56 [T0, (.c (.string ⟨⟨[58]⟩⟩))])]
@[go_sem] def c35r98 : List GOp := [mT S0, oT (.call 35 [T0]), oT (.bs 25 1 [(I 0), (.string ⟨⟨[]⟩⟩), (I 0), (I 0), Z] [(0, (5, T0))]), fT 4 S8, oN (.st 1 T0 T1)]
@[go_sem] def c35r99 : List GOp := [fT 4 S3, lT T0, oT (.ld (some 5) S8), oT (.bs 25 1 [(I 0), (.string ⟨⟨[]⟩⟩), (I 0), (I 0), Z] [(0, (5, T0))]), oT (.ap 23 23 T2 T0), fT 4 S3, oN (.st 1 T0 T1)]
@[go_sem] def c35r100 : List GOp := [mT S0, oT (.call 53 [T0, (.c (.string ⟨⟨[44]⟩⟩))]), oS 21 (.v (.un .not T0))]
def c35s101 : SCode := (.cond S21 (.exit 1) .skip)
@[go_sem] theorem c35s101eq : U c35s101 (.cond S21 (.exit 1) .skip) := fun _ _ _ _ _ => rfl
@[go_sem] def c35r102 : List GOp := [mT S0, oT (.v (.nc T0)), fT 1 T0, lT T0, oT (.v (.bin .add T0 (C 1))), oT (.v (.nc T4)), fT 1 T0, oN (.st 1 T0 T2)]
def c35s103 : SCode := (.ops c35r102)
@[go_sem] theorem c35s103eq : U c35s103 (.ops c35r102) := fun _ _ _ _ _ => rfl
def c35s104 : SCode := (.seq (.seq (.ops c35r100) c35s101) c35s103)
@[go_sem] theorem c35s104eq : U c35s104 (.seq (.seq (.ops c35r100) c35s101) c35s103) := fun _ _ _ _ _ => rfl
def c35s105 : SCode := (.seq (.ops c35r99) c35s104)
@[go_sem] theorem c35s105eq : U c35s105 (.seq (.ops c35r99) c35s104) := fun _ _ _ _ _ => rfl
def c35s106 : SCode := (.seq (.ops c35r98) c35s105)
@[go_sem] theorem c35s106eq : U c35s106 (.seq (.ops c35r98) c35s105) := fun _ _ _ _ _ => rfl
def c35s107 : SCode := (.seq (.ops c35r97) c35s106)
@[go_sem] theorem c35s107eq : U c35s107 (.seq (.ops c35r97) c35s106) := fun _ _ _ _ _ => rfl
def c35s108 : SCode := (.seq (.ops c35r96) c35s107)
@[go_sem] theorem c35s108eq : U c35s108 (.seq (.ops c35r96) c35s107) := fun _ _ _ _ _ => rfl
def c35s109 : SCode := (.block 2 (.seq (.ops c35r95) c35s108))
@[go_sem] theorem c35s109eq : U c35s109 (.block 2 (.seq (.ops c35r95) c35s108)) := fun _ _ _ _ _ => rfl
@[go_sem] def c35r110 : List GOp := [mT S0, oT (.call 56 [T0, (.c (.string ⟨⟨[125]⟩⟩))])]
@[go_sem] def c35r111 : List GOp := [mT S0, oT (.v (.nc T0)), fT 2 T0, lT T0, oT (.v (.bin .sub T0 (C 1))), oT (.v (.nc T4)), fT 2 T0, oN (.st 1 T0 T2)]
def c35s112 : SCode := (.ops c35r111)
@[go_sem] theorem c35s112eq : U c35s112 (.ops c35r111) := fun _ _ _ _ _ => rfl
def c35s113 : SCode := (.seq (.ops c35r110) c35s112)
@[go_sem] theorem c35s113eq : U c35s113 (.seq (.ops c35r110) c35s112) := fun _ _ _ _ _ => rfl
def c35s114 : SCode := (.seq (.block 1 (.loop c35k c35s109)) c35s113)
@[go_sem] theorem c35s114eq : U c35s114 (.seq (.block 1 (.loop c35k c35s109)) c35s113) := fun _ _ _ _ _ => rfl
def c35s115 : SCode := (.seq (.ops c35r94) c35s114)
@[go_sem] theorem c35s115eq : U c35s115 (.seq (.ops c35r94) c35s114) := fun _ _ _ _ _ => rfl
def c35s116 : SCode := (.seq (.ops c35r93) c35s115)
@[go_sem] theorem c35s116eq : U c35s116 (.seq (.ops c35r93) c35s115) := fun _ _ _ _ _ => rfl
def c35s117 : SCode := (.seq (.ops c35r92) c35s116)
@[go_sem] theorem c35s117eq : U c35s117 (.seq (.ops c35r92) c35s116) := fun _ _ _ _ _ => rfl
@[go_sem] def c35r118 : List GOp := [mT S0, oT (.call 53 [T0, (.c (.string ⟨⟨[99, 108, 111, 115, 101, 100]⟩⟩))]), mS 22 T0]
@[go_sem] def c35r119 : List GOp := [fT 0 S3, oN (.st 1 T0 (C 19))]
@[go_sem] def c35r120 : List GOp := [mT S0, oT (.v (.nc T0)), fT 1 T0, lT T0, oT (.v (.bin .add T0 (C 1))), oT (.v (.nc T4)), fT 1 T0, oN (.st 1 T0 T2)]
@[go_sem] def c35r121 : List GOp := [mT S0, oT (.call 56 [T0, (.c (.string ⟨⟨[40]⟩⟩))])]
@[go_sem] def c35r122 : List GOp := [mT S0, oT (.call 36 [T0]), oT (.v (.fld1 0 T0)), oS 23 (.v (.bin .eql T0 (C 4)))]
@[go_sem] def c35r123 : List GOp := [mT S0, fT 4 S3, lT T0, oT (.call 60 [T2, T0]), fT 4 S3, oN (.st 1 T0 T1)]
def c35s124 : SCode := (.cond S23 (.ops c35r123) .skip)
@[go_sem] theorem c35s124eq : U c35s124 (.cond S23 (.ops c35r123) .skip) := fun _ _ _ _ _ => rfl
@[go_sem] def c35r125 : List GOp := [mT S0, oS 24 (.call 53 [T0, (.c (.string ⟨⟨[59]⟩⟩))])]
def c35s126 : SCode := (.cond S24 .skip (.exit 3))
@[go_sem] theorem c35s126eq : U c35s126 (.cond S24 .skip (.exit 3)) := fun _ _ _ _ _ => rfl
@[go_sem] def c35r127 : List GOp := [mT S0, oT (.v (.nc T0)), fT 1 T0, lT T0, oT (.v (.bin .add T0 (C 1))), oT (.v (.nc T4)), fT 1 T0, oN (.st 1 T0 T2)]
@[go_sem] def c35r128 : List GOp := [mT S0, oT (.call 36 [T0]), oT (.v (.fld1 3 T0)), oT (.v (.bld [(I 0), (.string ⟨⟨[]⟩⟩), (I 0), (I 0), Z] [(0, (1, (C 20))), (3, (1, T0))])), oS 9 (.al 25 [(I 0), (.string ⟨⟨[]⟩⟩), (I 0), (I 0), Z]), oN (.st 5 S9 T0)]
@[go_sem] def c35r129 : List GOp := [mT S0, oT (.call 36 [T0]), oT (.v (.fld1 0 T0)), oS 25 (.v (.bin .eql T0 (C 4)))]
@[go_sem] def c35r130 : List GOp := [mT S0, fT 4 S9, lT T0, oT (.call 60 [T2, T0]), fT 4 S9, oN (.st 1 T0 T1)]
def c35s131 : SCode := (.cond S25 (.ops c35r130) .skip)
@[go_sem] theorem c35s131eq : U c35s131 (.cond S25 (.ops c35r130) .skip) := fun _ _ _ _ _ => rfl
@[go_sem] def c35r132 : List GOp := [mT S0, oT (.call 56 [T0, (.c (.string ⟨⟨[61, 62]⟩⟩))])]
@[go_sem] def c35r133 : List GOp := [mT S0, oT (.call 36 [T0]), oT (.v (.fld1 3 T0)), oT (.v (.bld [(I 0), (.string ⟨⟨[]⟩⟩), (I 0), (I 0), Z] [(0, (1, (C 47))), (3, (1, T0))])), oS 10 (.al 25 [(I 0), (.string ⟨⟨[]⟩⟩), (I 0), (I 0), Z]), oN (.st 5 S10 T0)]
@[go_sem] def c35r134 : List GOp := [mT S0, oT (.call 57 [T0, (C 4)]), fT 1 S10, oN (.st 1 T0 T1)]
@[go_sem] def c35r135 : List GOp := [fT 4 S9, lT T0, oT (.ld (some 5) S10), oT (.bs 25 1 [(I 0), (.string ⟨⟨[]⟩⟩), (I 0), (I 0), Z] [(0, (5, T0))]), oT (.ap 23 23 T2 T0), fT 4 S9, oN (.st 1 T0 T1)]
@[go_sem] def c35r136 : List GOp := [fT 4 S3, lT T0, oT (.ld (some 5) S9), oT (.bs 25 1 [(I 0), (.string ⟨⟨[]⟩⟩), (I 0), (I 0), Z] [(0, (5, T0))]), oT (.ap 23 23 T2 T0), fT 4 S3, oN (.st 1 T0 T1)]
def c35s137 : SCode := (.ops c35r136)
@[go_sem] theorem c35s137eq : U c35s137 (.ops c35r136) := fun _ _ _ _ _ => rfl
def c35s138 : SCode := (.seq (.ops c35r135) c35s137)
@[go_sem] theorem c35s138eq : U c35s138 (.seq (.ops c35r135) c35s137) := fun _ _ _ _ _ => rfl
def c35s139 : SCode := (.seq (.ops c35r134) c35s138)
@[go_sem] theorem c35s139eq : U c35s139 (.seq (.ops c35r134) c35s138) := fun _ _ _ _ _ => rfl
def c35s140 : SCode := (.seq (.ops c35r133) c35s139)
@[go_sem] theorem c35s140eq : U c35s140 (.seq (.ops c35r133) c35s139) := fun _ _ _ _ _ => rfl
def c35s141 : SCode := (.seq (.ops c35r132) c35s140)
theorem c35s141eq : U c35s141 (.seq (.ops c35r132) c35s140) := fun _ _ _ _ _ => rfl
def c35s142 : SCode := (.seq (.seq (.ops c35r129) c35s131) c35s141)
@[go_sem] theorem c35s142eq : U c35s142 (.seq (.seq (.ops c35r129) c35s131) c35s141) := fun _ _ _ _ _ => rfl
def c35s143 : SCode := (.seq (.ops c35r128) c35s142)
@[go_sem] theorem c35s143eq : U c35s143 (.seq (.ops c35r128) c35s142) := fun _ _ _ _ _ => rfl
def c35s144 : SCode := (.block 4 (.seq (.ops c35r127) c35s143))
@[go_sem] theorem c35s144eq : U c35s144 (.block 4 (.seq (.ops c35r127) c35s143)) := fun _ _ _ _ _ => rfl
def c35s145 : SCode := (.seq (.seq (.ops c35r125) c35s126) c35s144)
@[go_sem] theorem c35s145eq : U c35s145 (.seq (.seq (.ops c35r125) c35s126) c35s144) := fun _ _ _ _ _ => rfl
@[go_sem] def c35r146 : List GOp := [mT S0, oT (.call 56 [T0, (.c (.string ⟨⟨[41]⟩⟩))])]
def c35s147 : SCode := (.ops c35r146)
@[go_sem] theorem c35s147eq : U c35s147 (.ops c35r146) := fun _ _ _ _ _ => rfl
def c35s148 : SCode := (.seq (.block 3 (.loop c35k c35s145)) c35s147)
theorem c35s148eq : U c35s148 (.seq (.block 3 (.loop c35k c35s145)) c35s147) := fun _ _ _ _ _ => rfl
def c35s149 : SCode := (.seq (.seq (.ops c35r122) c35s124) c35s148)
@[go_sem] theorem c35s149eq : U c35s149 (.seq (.seq (.ops c35r122) c35s124) c35s148) := fun _ _ _ _ _ => rfl
def c35s150 : SCode := (.seq (.ops c35r121) c35s149)
@[go_sem] theorem c35s150eq : U c35s150 (.seq (.ops c35r121) c35s149) := fun _ _ _ _ _ => rfl
def c35s151 : SCode := (.seq (.ops c35r120) c35s150)
@[go_sem] theorem c35s151eq : U c35s151 (.seq (.ops c35r120) c35s150) := fun _ _ _ _ _ => rfl
def c35s152 : SCode := (.seq (.ops c35r119) c35s151)
@[go_sem] theorem c35s152eq : U c35s152 (.seq (.ops c35r119) c35s151) := fun _ _ _ _ _ => rfl
@[go_sem] def c35r153 : List GOp := [mT S0, oT (.call 38 [T0, (C 2)])]
def c35s154 : SCode := (.cond S22 c35s152 (.ops c35r153))
@[go_sem] theorem c35s154eq : U c35s154 (.cond S22 c35s152 (.ops c35r153)) := fun _ _ _ _ _ => rfl
def c35s155 : SCode := (.seq (.ops c35r118) c35s154)
@[go_sem] theorem c35s155eq : U c35s155 (.seq (.ops c35r118) c35s154) := fun _ _ _ _ _ => rfl
def c35s156 : SCode := (.cond S20 c35s117 c35s155)
@[go_sem] theorem c35s156eq : U c35s156 (.cond S20 c35s117 c35s155) := fun _ _ _ _ _ => rfl
def c35s157 : SCode := (.seq (.ops c35r91) c35s156)
@[go_sem] theorem c35s157eq : U c35s157 (.seq (.ops c35r91) c35s156) := fun _ _ _ _ _ => rfl
def c35s158 : SCode := (.cond S19 c35s90 c35s157)
@[go_sem] theorem c35s158eq : U c35s158 (.cond S19 c35s90 c35s157) := fun _ _ _ _ _ => rfl
def c35s159 : SCode := (.seq (.ops c35r70) c35s158)
@[go_sem] theorem c35s159eq : U c35s159 (.seq (.ops c35r70) c35s158) := fun _ _ _ _ _ => rfl
def c35s160 : SCode := (.cond S18 c35s69 c35s159)
@[go_sem] theorem c35s160eq : U c35s160 (.cond S18 c35s69 c35s159) := fun _ _ _ _ _ => rfl
def c35s161 : SCode := (.seq (.ops c35r57) c35s160)
@[go_sem] theorem c35s161eq : U c35s161 (.seq (.ops c35r57) c35s160) := fun _ _ _ _ _ => rfl
def c35s162 : SCode := (.cond S16 c35s56 c35s161)
@[go_sem] theorem c35s162eq : U c35s162 (.cond S16 c35s56 c35s161) := fun _ _ _ _ _ => rfl
def c35s163 : SCode := (.seq (.seq (.ops c35r34) c35s36) c35s162)
@[go_sem] theorem c35s163eq : U c35s163 (.seq (.seq (.ops c35r34) c35s36) c35s162) := fun _ _ _ _ _ => rfl
def c35s164 : SCode := (.cond S15 c35s33 c35s163)
@[go_sem] theorem c35s164eq : U c35s164 (.cond S15 c35s33 c35s163) := fun _ _ _ _ _ => rfl
def c35s165 : SCode := (.seq (.ops c35r27) c35s164)
@[go_sem] theorem c35s165eq : U c35s165 (.seq (.ops c35r27) c35s164) := fun _ _ _ _ _ => rfl
def c35s166 : SCode := (.cond S14 c35s26 c35s165)
@[go_sem] theorem c35s166eq : U c35s166 (.cond S14 c35s26 c35s165) := fun _ _ _ _ _ => rfl
def c35s167 : SCode := (.seq (.ops c35r20) c35s166)
@[go_sem] theorem c35s167eq : U c35s167 (.seq (.ops c35r20) c35s166) := fun _ _ _ _ _ => rfl
def c35s168 : SCode := (.cond S13 c35s19 c35s167)
@[go_sem] theorem c35s168eq : U c35s168 (.cond S13 c35s19 c35s167) := fun _ _ _ _ _ => rfl
def c35s169 : SCode := (.seq (.ops c35r15) c35s168)
@[go_sem] theorem c35s169eq : U c35s169 (.seq (.ops c35r15) c35s168) := fun _ _ _ _ _ => rfl
def c35s170 : SCode := (.cond S12 c35s14 c35s169)
@[go_sem] theorem c35s170eq : U c35s170 (.cond S12 c35s14 c35s169) := fun _ _ _ _ _ => rfl
@[go_sem] def c35r171 : List GOp := [oT (.ld (some 5) S3), oN (.st 5 S1 T0)]
def c35s172 : SCode := (.seq (.ops c35r171) .ret)
@[go_sem] theorem c35s172eq : U c35s172 (.seq (.ops c35r171) .ret) := fun _ _ _ _ _ => rfl
def c35s173 : SCode := (.seq (.block 0 (.seq (.ops c35r10) c35s170)) c35s172)
@[go_sem] theorem c35s173eq : U c35s173 (.seq (.block 0 (.seq (.ops c35r10) c35s170)) c35s172) := fun _ _ _ _ _ => rfl
def c35s174 : SCode := (.seq (.seq (.ops c35r3) (.cond S11 c35s9 .skip)) c35s173)
@[go_sem] theorem c35s174eq : U c35s174 (.seq (.seq (.ops c35r3) (.cond S11 c35s9 .skip)) c35s173) := fun _ _ _ _ _ => rfl
def c35s175 : SCode := (.seq (.ops c35r2) c35s174)
@[go_sem] theorem c35s175eq : U c35s175 (.seq (.ops c35r2) c35s174) := fun _ _ _ _ _ => rfl
def c35s176 : SCode := (.seq (.ops c35r1) c35s175)
@[go_sem] theorem c35s176eq : U c35s176 (.seq (.ops c35r1) c35s175) := fun _ _ _ _ _ => rfl
def c35 : Gx.Fn := ⟨290, c35k, (.seq (.ops c35r0) c35s176), [(.cell S1 (some 5))]⟩
theorem c35ok : stripFn Tryz.prog c35k Tryz.f35 = some c35 := by kernel_rfl

/- (*plexusref16.P).token -/
@[go_sem] def c36k : List Nat := [0, 2]
@[go_sem] def c36r0 : List GOp := [oS 1 (.al 41 [(I 0), (.string ⟨⟨[]⟩⟩), (I 0), (I 0)])]
@[go_sem] def c36d1 : DT := (rm S0 [10] (.rd none .t (.v (.nc T0)) [10] (rf 0 T0 [10] (rl T0 [10] (rm S0 [10] (.rd none .t (.v (.nc T0)) [10] (rf 1 T0 [10] (rl T0 [10] (.rd none .t (.v (.ix 4 T4 T0)) [10] (.rd none .t (.ld (some 4) T0) [10] (.ef 10 none .no (.st 4 S1 T0) .done)))))))))))
def c36 : Gx.Fn := ⟨13, c36k, (.seq (.ops c36r0) (.seq (.de c36d1) .ret)), [(.cell S1 (some 4))]⟩
theorem c36ok : stripFn Tryz.prog c36k Tryz.f36 = some c36 := by kernel_rfl

/- (*plexusref16.P).declaration -/
@[go_sem] def c37k : List Nat := [0, 2, 3, 4, 5, 6, 16, 19, 48, 54, 70, 91, 118]
@[go_sem] def c37r0 : List GOp := [oS 1 (.al 25 [(I 0), (.string ⟨⟨[]⟩⟩), (I 0), (I 0), Z])]
@[go_sem] def c37r1 : List GOp := [mT S0, oT (.call 36 [T0]), oT (.v (.fld1 3 T0)), oT (.v (.bld [(I 0), (.string ⟨⟨[]⟩⟩), (I 0), (I 0), Z] [(3, (1, T0))])), oS 2 (.al 25 [(I 0), (.string ⟨⟨[]⟩⟩), (I 0), (I 0), Z]), oN (.st 5 S2 T0)]
@[go_sem] def c37r2 : List GOp := [mT S0, oT (.call 53 [T0, (.c (.string ⟨⟨[108, 97, 116, 116, 105, 99, 101]⟩⟩))]), mT T0, (.op (some (T0, (false, true))) .t (.v (.mv S0))), (.op (some (T1, (false, false))) .t (.call 53 [T0, (.c (.string ⟨⟨[111, 98, 106, 101, 99, 116]⟩⟩))])), oS 6 (.v (.pick T2 (.c (.bool true)) T0))]
@[go_sem] def c37r3 : List GOp := [fT 0 S2, oN (.st 1 T0 (C 3))]
@[go_sem] def c37r4 : List GOp := [mS 3 (.c (.string ⟨⟨[58]⟩⟩))]
@[go_sem] def c37r5 : List GOp := [mT S0, oS 7 (.call 53 [T0, (.c (.string ⟨⟨[108, 97, 116, 116, 105, 99, 101]⟩⟩))])]
@[go_sem] def c37r6 : List GOp := [fT 0 S2, oN (.st 1 T0 (C 2))]
@[go_sem] def c37r7 : List GOp := [mS 3 (.c (.string ⟨⟨[61]⟩⟩))]
def c37s8 : SCode := (.ops c37r7)
@[go_sem] theorem c37s8eq : U c37s8 (.ops c37r7) := fun _ _ _ _ _ => rfl
def c37s9 : SCode := (.seq (.ops c37r6) c37s8)
@[go_sem] theorem c37s9eq : U c37s9 (.seq (.ops c37r6) c37s8) := fun _ _ _ _ _ => rfl
@[go_sem] def c37r10 : List GOp := [mT S0, oT (.v (.nc T0)), fT 1 T0, lT T0, oT (.v (.bin .add T0 (C 1))), oT (.v (.nc T4)), fT 1 T0, oN (.st 1 T0 T2)]
@[go_sem] def c37r11 : List GOp := [mT S0, oT (.call 57 [T0, (C 1)]), fT 1 S2, oN (.st 1 T0 T1)]
@[go_sem] def c37r12 : List GOp := [mT S0, mT S3, oT (.call 56 [T1, T0])]
@[go_sem] def c37r13 : List GOp := [mT S0, oT (.call 35 [T0]), oT (.bs 25 1 [(I 0), (.string ⟨⟨[]⟩⟩), (I 0), (I 0), Z] [(0, (5, T0))]), fT 4 S2, oN (.st 1 T0 T1)]
@[go_sem] def c37r14 : List GOp := [mT S0, oT (.call 56 [T0, (.c (.string ⟨⟨[59]⟩⟩))])]
@[go_sem] def c37r15 : List GOp := [oT (.ld (some 5) S2), oN (.st 5 S1 T0)]
def c37s16 : SCode := (.seq (.ops c37r15) .ret)
@[go_sem] theorem c37s16eq : U c37s16 (.seq (.ops c37r15) .ret) := fun _ _ _ _ _ => rfl
def c37s17 : SCode := (.seq (.ops c37r14) c37s16)
@[go_sem] theorem c37s17eq : U c37s17 (.seq (.ops c37r14) c37s16) := fun _ _ _ _ _ => rfl
def c37s18 : SCode := (.seq (.ops c37r13) c37s17)
@[go_sem] theorem c37s18eq : U c37s18 (.seq (.ops c37r13) c37s17) := fun _ _ _ _ _ => rfl
def c37s19 : SCode := (.seq (.ops c37r12) c37s18)
@[go_sem] theorem c37s19eq : U c37s19 (.seq (.ops c37r12) c37s18) := fun _ _ _ _ _ => rfl
def c37s20 : SCode := (.seq (.ops c37r11) c37s19)
@[go_sem] theorem c37s20eq : U c37s20 (.seq (.ops c37r11) c37s19) := fun _ _ _ _ _ => rfl
def c37s21 : SCode := (.seq (.ops c37r10) c37s20)
@[go_sem] theorem c37s21eq : U c37s21 (.seq (.ops c37r10) c37s20) := fun _ _ _ _ _ => rfl
def c37s22 : SCode := (.seq (.seq (.ops c37r5) (.cond S7 c37s9 .skip)) c37s21)
@[go_sem] theorem c37s22eq : U c37s22 (.seq (.seq (.ops c37r5) (.cond S7 c37s9 .skip)) c37s21) := fun _ _ _ _ _ => rfl
def c37s23 : SCode := (.seq (.ops c37r4) c37s22)
@[go_sem] theorem c37s23eq : U c37s23 (.seq (.ops c37r4) c37s22) := fun _ _ _ _ _ => rfl
def c37s24 : SCode := (.seq (.ops c37r3) c37s23)
@[go_sem] theorem c37s24eq : U c37s24 (.seq (.ops c37r3) c37s23) := fun _ _ _ _ _ => rfl
@[go_sem] def c37r25 : List GOp := [mT S0, oT (.call 53 [T0, (.c (.string ⟨⟨[117, 112, 100, 97, 116, 101]⟩⟩))]), oT (.v (.un .not T0)), mT T0, (.op (some (T0, (true, true))) .t (.v (.mv S0))), (.op (some (T1, (true, false))) .t (.call 53 [T0, (.c (.string ⟨⟨[113, 117, 101, 114, 121]⟩⟩))])), (.op (some (T2, (true, false))) .t (.v (.un .not T0))), oS 8 (.v (.pick T3 T0 (.c (.bool false))))]
@[go_sem] def c37r26 : List GOp := [mT S0, oT (.call 38 [T0, (C 2)])]
@[go_sem] def c37r27 : List GOp := [oT (.ld (some 5) S2), oN (.st 5 S1 T0)]
def c37s28 : SCode := (.seq (.ops c37r27) .ret)
@[go_sem] theorem c37s28eq : U c37s28 (.seq (.ops c37r27) .ret) := fun _ _ _ _ _ => rfl
def c37s29 : SCode := (.seq (.ops c37r26) c37s28)
@[go_sem] theorem c37s29eq : U c37s29 (.seq (.ops c37r26) c37s28) := fun _ _ _ _ _ => rfl
@[go_sem] def c37r30 : List GOp := [fT 0 S2, oN (.st 1 T0 (C 4))]
@[go_sem] def c37r31 : List GOp := [mT S0, oS 9 (.call 53 [T0, (.c (.string ⟨⟨[113, 117, 101, 114, 121]⟩⟩))])]
@[go_sem] def c37r32 : List GOp := [fT 0 S2, oN (.st 1 T0 (C 5))]
def c37s33 : SCode := (.cond S9 (.ops c37r32) .skip)
@[go_sem] theorem c37s33eq : U c37s33 (.cond S9 (.ops c37r32) .skip) := fun _ _ _ _ _ => rfl
@[go_sem] def c37r34 : List GOp := [mT S0, oT (.v (.nc T0)), fT 1 T0, lT T0, oT (.v (.bin .add T0 (C 1))), oT (.v (.nc T4)), fT 1 T0, oN (.st 1 T0 T2)]
@[go_sem] def c37r35 : List GOp := [mT S0, oT (.call 57 [T0, (C 1)]), fT 1 S2, oN (.st 1 T0 T1)]
@[go_sem] def c37r36 : List GOp := [mT S0, oT (.call 56 [T0, (.c (.string ⟨⟨[40]⟩⟩))])]
@[go_sem] def c37r37 : List GOp := [mT S0, oT (.call 53 [T0, (.c (.string ⟨⟨[41]⟩⟩))]), oS 10 (.v (.un .not T0))]
@[go_sem] def c37r38 : List GOp := [mT S0, oT (.call 36 [T0]), oT (.v (.fld1 3 T0)), oT (.v (.bld [(I 0), (.string ⟨⟨[]⟩⟩), (I 0), (I 0), Z] [(0, (1, (C 6))), (3, (1, T0))])), oS 4 (.al 25 [(I 0), (.string ⟨⟨[]⟩⟩), (I 0), (I 0), Z]), oN (.st 5 S4 T0)]
@[go_sem] def c37r39 : List GOp := [mT S0, oT (.call 57 [T0, (C 1)]), fT 1 S4, oN (.st 1 T0 T1)]
@[go_sem] def c37r40 : List GOp := [mT S0, oT (.call 56 [T0, (.c (.string ⟨⟨[58]⟩⟩))])]
@[go_sem] def c37r41 : List GOp := [mT S0, oT (.call 61 [T0]), fT 2 S4, oN (.st 1 T0 T1)]
@[go_sem] def c37r42 : List GOp := [fT 4 S2, lT T0, oT (.ld (some 5) S4), oT (.bs 25 1 [(I 0), (.string ⟨⟨[]⟩⟩), (I 0), (I 0), Z] [(0, (5, T0))]), oT (.ap 23 23 T2 T0), fT 4 S2, oN (.st 1 T0 T1)]
@[go_sem] def c37r43 : List GOp := [mT S0, oT (.call 53 [T0, (.c (.string ⟨⟨[44]⟩⟩))]), oS 11 (.v (.un .not T0))]
def c37s44 : SCode := (.cond S11 (.exit 0) .skip)
@[go_sem] theorem c37s44eq : U c37s44 (.cond S11 (.exit 0) .skip) := fun _ _ _ _ _ => rfl
@[go_sem] def c37r45 : List GOp := [mT S0, oT (.v (.nc T0)), fT 1 T0, lT T0, oT (.v (.bin .add T0 (C 1))), oT (.v (.nc T4)), fT 1 T0, oN (.st 1 T0 T2)]
def c37s46 : SCode := (.ops c37r45)
@[go_sem] theorem c37s46eq : U c37s46 (.ops c37r45) := fun _ _ _ _ _ => rfl
def c37s47 : SCode := (.seq (.seq (.ops c37r43) c37s44) c37s46)
@[go_sem] theorem c37s47eq : U c37s47 (.seq (.seq (.ops c37r43) c37s44) c37s46) := fun _ _ _ _ _ => rfl
def c37s48 : SCode := (.seq (.ops c37r42) c37s47)
@[go_sem] theorem c37s48eq : U c37s48 (.seq (.ops c37r42) c37s47) := fun _ _ _ _ _ => rfl
def c37s49 : SCode := (.seq (.ops c37r41) c37s48)
@[go_sem] theorem c37s49eq : U c37s49 (.seq (.ops c37r41) c37s48) := fun _ _ _ _ _ => rfl
def c37s50 : SCode := (.seq (.ops c37r40) c37s49)
@[go_sem] theorem c37s50eq : U c37s50 (.seq (.ops c37r40) c37s49) := fun _ _ _ _ _ => rfl
def c37s51 : SCode := (.seq (.ops c37r39) c37s50)
@[go_sem] theorem c37s51eq : U c37s51 (.seq (.ops c37r39) c37s50) := fun _ _ _ _ _ => rfl
def c37s52 : SCode := (.block 1 (.seq (.ops c37r38) c37s51))
@[go_sem] theorem c37s52eq : U c37s52 (.block 1 (.seq (.ops c37r38) c37s51)) := fun _ _ _ _ _ => rfl
def c37s53 : SCode := (.block 0 (.loop c37k c37s52))
@[go_sem] theorem c37s53eq : U c37s53 (.block 0 (.loop c37k c37s52)) := fun _ _ _ _ _ => rfl
def c37s54 : SCode := (.cond S10 c37s53 .skip)
@[go_sem] theorem c37s54eq : U c37s54 (.cond S10 c37s53 .skip) := fun _ _ _ _ _ => rfl
@[go_sem] def c37r55 : List GOp := [mT S0, oT (.call 56 [T0, (.c (.string ⟨⟨[41]⟩⟩))])]
@[go_sem] def c37r56 : List GOp := [mT S0, oT (.call 56 [T0, (.c (.string ⟨⟨[111, 110]⟩⟩))])]
@[go_sem] def c37r57 : List GOp := [mT S0, oT (.call 36 [T0]), oT (.v (.fld1 3 T0)), oT (.v (.bld [(I 0), (.string ⟨⟨[]⟩⟩), (I 0), (I 0), Z] [(0, (1, (C 48))), (3, (1, T0))])), oS 5 (.al 25 [(I 0), (.string ⟨⟨[]⟩⟩), (I 0), (I 0), Z]), oN (.st 5 S5 T0)]
@[go_sem] def c37r58 : List GOp := [mT S0, oT (.call 57 [T0, (C 1)]), fT 1 S5, oN (.st 1 T0 T1)]
@[go_sem] def c37r59 : List GOp := [fT 4 S2, lT T0, oT (.ld (some 5) S5), oT (.bs 25 1 [(I 0), (.string ⟨⟨[]⟩⟩), (I 0), (I 0), Z] [(0, (5, T0))]), oT (.ap 23 23 T2 T0), fT 4 S2, oN (.st 1 T0 T1)]
@[go_sem] def c37r60 : List GOp := [fT 0 S2, lT T0, oS 12 (.v (.bin .eql T0 (C 5)))]
@[go_sem] def c37r61 : List GOp := [mT S0, oT (.call 56 [T0, (.c (.string ⟨⟨[58]⟩⟩))])]
@[go_sem] def c37r62 : List GOp := [mT S0, oT (.call 61 [T0]), fT 2 S2, oN (.st 1 T0 T1)]
def c37s63 : SCode := (.ops c37r62)
@[go_sem] theorem c37s63eq : U c37s63 (.ops c37r62) := fun _ _ _ _ _ => rfl
def c37s64 : SCode := (.seq (.ops c37r61) c37s63)
@[go_sem] theorem c37s64eq : U c37s64 (.seq (.ops c37r61) c37s63) := fun _ _ _ _ _ => rfl
def c37s65 : SCode := (.cond S12 c37s64 .skip)
@[go_sem] theorem c37s65eq : U c37s65 (.cond S12 c37s64 .skip) := fun _ _ _ _ _ => rfl
@[go_sem] def c37r66 : List GOp := [mT S0, oT (.call 56 [T0, (.c (.string ⟨⟨[61]⟩⟩))])]
@[go_sem] def c37d67 : DT := (rf 4 S2 [5, 7] (rl T0 [5, 7] (rm S0 [3, 4, 5, 7] (.ef 3 none .t (.call 34 [T0]) (.ef 4 none .t (.bs 25 1 [(I 0), (.string ⟨⟨[]⟩⟩), (I 0), (I 0), Z] [(0, (5, T0))]) (.ef 5 none .t (.ap 23 23 T3 T0) (rf 4 S2 [7] (.ef 7 none .no (.st 1 T0 T1) .done))))))))
@[go_sem] def c37r68 : List GOp := [mT S0, oT (.call 56 [T0, (.c (.string ⟨⟨[59]⟩⟩))])]
@[go_sem] def c37r69 : List GOp := [oT (.ld (some 5) S2), oN (.st 5 S1 T0)]
def c37s70 : SCode := (.seq (.ops c37r69) .ret)
@[go_sem] theorem c37s70eq : U c37s70 (.seq (.ops c37r69) .ret) := fun _ _ _ _ _ => rfl
def c37s71 : SCode := (.seq (.ops c37r68) c37s70)
@[go_sem] theorem c37s71eq : U c37s71 (.seq (.ops c37r68) c37s70) := fun _ _ _ _ _ => rfl
def c37s72 : SCode := (.seq (.de c37d67) c37s71)
@[go_sem] theorem c37s72eq : U c37s72 (.seq (.de c37d67) c37s71) := fun _ _ _ _ _ => rfl
def c37s73 : SCode := (.seq (.ops c37r66) c37s72)
theorem c37s73eq : U c37s73 (.seq (.ops c37r66) c37s72) := fun _ _ _ _ _ => rfl
def c37s74 : SCode := (.seq (.seq (.ops c37r60) c37s65) c37s73)
@[go_sem] theorem c37s74eq : U c37s74 (.seq (.seq (.ops c37r60) c37s65) c37s73) := fun _ _ _ _ _ => rfl
def c37s75 : SCode := (.seq (.ops c37r59) c37s74)
@[go_sem] theorem c37s75eq : U c37s75 (.seq (.ops c37r59) c37s74) := fun _ _ _ _ _ => rfl
def c37s76 : SCode := (.seq (.ops c37r58) c37s75)
@[go_sem] theorem c37s76eq : U c37s76 (.seq (.ops c37r58) c37s75) := fun _ _ _ _ _ => rfl
def c37s77 : SCode := (.seq (.ops c37r57) c37s76)
@[go_sem] theorem c37s77eq : U c37s77 (.seq (.ops c37r57) c37s76) := fun _ _ _ _ _ => rfl
def c37s78 : SCode := (.seq (.ops c37r56) c37s77)
@[go_sem] theorem c37s78eq : U c37s78 (.seq (.ops c37r56) c37s77) := fun _ _ _ _ _ => rfl
def c37s79 : SCode := (.seq (.ops c37r55) c37s78)
theorem c37s79eq : U c37s79 (.seq (.ops c37r55) c37s78) := fun _ _ _ _ _ => rfl
def c37s80 : SCode := (.seq (.seq (.ops c37r37) c37s54) c37s79)
@[go_sem] theorem c37s80eq : U c37s80 (.seq (.seq (.ops c37r37) c37s54) c37s79) := fun _ _ _ _ _ => rfl
def c37s81 : SCode := (.seq (.ops c37r36) c37s80)
@[go_sem] theorem c37s81eq : U c37s81 (.seq (.ops c37r36) c37s80) := fun _ _ _ _ _ => rfl
def c37s82 : SCode := (.seq (.ops c37r35) c37s81)
@[go_sem] theorem c37s82eq : U c37s82 (.seq (.ops c37r35) c37s81) := fun _ _ _ _ _ => rfl
def c37s83 : SCode := (.seq (.ops c37r34) c37s82)
theorem c37s83eq : U c37s83 (.seq (.ops c37r34) c37s82) := fun _ _ _ _ _ => rfl
def c37s84 : SCode := (.seq (.seq (.ops c37r31) c37s33) c37s83)
@[go_sem] theorem c37s84eq : U c37s84 (.seq (.seq (.ops c37r31) c37s33) c37s83) := fun _ _ _ _ _ => rfl
def c37s85 : SCode := (.seq (.ops c37r30) c37s84)
@[go_sem] theorem c37s85eq : U c37s85 (.seq (.ops c37r30) c37s84) := fun _ _ _ _ _ => rfl
def c37s86 : SCode := (.seq (.seq (.ops c37r25) (.cond S8 c37s29 .skip)) c37s85)
@[go_sem] theorem c37s86eq : U c37s86 (.seq (.seq (.ops c37r25) (.cond S8 c37s29 .skip)) c37s85) := fun _ _ _ _ _ => rfl
def c37s87 : SCode := (.seq (.seq (.ops c37r2) (.cond S6 c37s24 .skip)) c37s86)
@[go_sem] theorem c37s87eq : U c37s87 (.seq (.seq (.ops c37r2) (.cond S6 c37s24 .skip)) c37s86) := fun _ _ _ _ _ => rfl
def c37s88 : SCode := (.seq (.ops c37r1) c37s87)
@[go_sem] theorem c37s88eq : U c37s88 (.seq (.ops c37r1) c37s87) := fun _ _ _ _ _ => rfl
def c37 : Gx.Fn := ⟨136, c37k, (.seq (.ops c37r0) c37s88), [(.cell S1 (some 5))]⟩
theorem c37ok : stripFn Tryz.prog c37k Tryz.f37 = some c37 := by kernel_rfl

/- (*plexusref16.P).fail -/
@[go_sem] def c38k : List Nat := [0, 1, 8]
@[go_sem] def c38r0 : List GOp := [mT S0, oT (.v (.nc T0)), fT 3 T0, lT T0, oS 2 (.v (.un .not T0))]
@[go_sem] def c38r1 : List GOp := [mT S0, oT (.v (.nc T0)), fT 3 T0, oN (.st 1 T0 (.c (.bool true)))]
@[go_sem] def c38r2 : List GOp := [mT S0, mT S1, mT S0, oT (.call 36 [T0]), oT (.v (.fld1 3 T0)), oT (.v (.bld [(I 0), (I 0)] [(0, (1, T3)), (1, (1, T0))])), oT (.v (.nc T5)), fT 4 T0, oN (.st 2 T0 T2)]
def c38s3 : SCode := (.ops c38r2)
@[go_sem] theorem c38s3eq : U c38s3 (.ops c38r2) := fun _ _ _ _ _ => rfl
def c38s4 : SCode := (.seq (.ops c38r1) c38s3)
@[go_sem] theorem c38s4eq : U c38s4 (.seq (.ops c38r1) c38s3) := fun _ _ _ _ _ => rfl
def c38 : Gx.Fn := ⟨20, c38k, (.seq (.ops c38r0) (.cond S2 c38s4 .skip)), []⟩
theorem c38ok : stripFn Tryz.prog c38k Tryz.f38 = some c38 := by kernel_rfl

/- (*plexusref16.P).is -/
@[go_sem] def c53k : List Nat := [0, 1, 4, 5]
@[go_sem] def c53r0 : List GOp := [mS 2 (.c (.bool false))]
@[go_sem] def c53r1 : List GOp := [mT S0, oT (.call 36 [T0]), oS 3 (.al 41 [(I 0), (.string ⟨⟨[]⟩⟩), (I 0), (I 0)]), oN (.st 4 S3 T0)]
@[go_sem] def c53r2 : List GOp := [mT S0, oT (.v (.nc T0)), fT 3 T0, lT T0, oT (.v (.un .not T0)), mT T0, (.sel T0 true [(.op (.v (.fa 0 S3))), (.op (.ld none T0)), (.op (.v (.bin .eql T0 (C 2)))), (.op (.v (.mv T0))), (.nst T0 false [(.op (.v (.fa 0 S3))), (.op (.ld none T0)), (.op (.v (.bin .eql T0 (C 5))))] (.c (.bool true)) T0)] .t T0 (.c (.bool false))), mT T0, (.sel T0 true [(.op (.v (.fa 1 S3))), (.op (.ld none T0)), (.op (.v (.mv S1))), (.op (.v (.bin .eql T1 T0)))] .t T0 (.c (.bool false))), mS 2 T0]
def c53s3 : SCode := (.seq (.ops c53r2) .ret)
@[go_sem] theorem c53s3eq : U c53s3 (.seq (.ops c53r2) .ret) := fun _ _ _ _ _ => rfl
def c53s4 : SCode := (.seq (.ops c53r1) c53s3)
@[go_sem] theorem c53s4eq : U c53s4 (.seq (.ops c53r1) c53s3) := fun _ _ _ _ _ => rfl
def c53 : Gx.Fn := ⟨29, c53k, (.seq (.ops c53r0) c53s4), [(.tmp S2)]⟩
theorem c53ok : stripFn Tryz.prog c53k Tryz.f53 = some c53 := by kernel_rfl

/- (*plexusref16.P).binary -/
@[go_sem] def c54k : List Nat := [0, 1, 4, 5, 6, 7, 8, 10, 18, 28, 57, 80]
@[go_sem] def c54r0 : List GOp := [oS 2 (.al 25 [(I 0), (.string ⟨⟨[]⟩⟩), (I 0), (I 0), Z])]
@[go_sem] def c54r1 : List GOp := [mT S1, oS 7 (.v (.bin .gtr T0 (C 4)))]
@[go_sem] def c54r2 : List GOp := [mT S0, oT (.call 70 [T0]), oN (.st 5 S2 T0)]
def c54s3 : SCode := (.seq (.ops c54r2) .ret)
@[go_sem] theorem c54s3eq : U c54s3 (.seq (.ops c54r2) .ret) := fun _ _ _ _ _ => rfl
@[go_sem] def c54r4 : List GOp := [mT S1, oT (.v (.bin .eql T0 (C 2))), mT T0, (.op (some (T0, (true, true))) .t (.v (.mv S0))), (.op (some (T1, (true, false))) .t (.call 53 [T0, (.c (.string ⟨⟨[110, 111, 116]⟩⟩))])), oS 8 (.v (.pick T2 T0 (.c (.bool false))))]
@[go_sem] def c54r5 : List GOp := [mT S0, oT (.call 36 [T0]), oT (.v (.fld1 3 T0)), oT (.v (.bld [(I 0), (.string ⟨⟨[]⟩⟩), (I 0), (I 0), Z] [(0, (1, (C 33))), (3, (1, T0))])), oS 3 (.al 25 [(I 0), (.string ⟨⟨[]⟩⟩), (I 0), (I 0), Z]), oN (.st 5 S3 T0)]
@[go_sem] def c54r6 : List GOp := [mT S0, oT (.call 55 [T0])]
@[go_sem] def c54r7 : List GOp := [mT S0, oT (.v (.nc T0)), fT 3 T0, oS 9 (.ld none T0)]
@[go_sem] def c54r8 : List GOp := [oT (.ld (some 5) S3), oN (.st 5 S2 T0)]
def c54s9 : SCode := (.seq (.ops c54r8) .ret)
@[go_sem] theorem c54s9eq : U c54s9 (.seq (.ops c54r8) .ret) := fun _ _ _ _ _ => rfl
@[go_sem] def c54r10 : List GOp := [mT S0, oT (.v (.nc T0)), fT 1 T0, lT T0, oT (.v (.bin .add T0 (C 1))), oT (.v (.nc T4)), fT 1 T0, oN (.st 1 T0 T2)]
@[go_sem] def c54r11 : List GOp := [mT S0, oT (.call 54 [T0, (C 2)]), oT (.bs 25 1 [(I 0), (.string ⟨⟨[]⟩⟩), (I 0), (I 0), Z] [(0, (5, T0))]), fT 4 S3, oN (.st 1 T0 T1)]
@[go_sem] def c54r12 : List GOp := [mT S0, oT (.v (.nc T0)), fT 2 T0, lT T0, oT (.v (.bin .sub T0 (C 1))), oT (.v (.nc T4)), fT 2 T0, oN (.st 1 T0 T2)]
@[go_sem] def c54r13 : List GOp := [oT (.ld (some 5) S3), oN (.st 5 S2 T0)]
def c54s14 : SCode := (.seq (.ops c54r13) .ret)
@[go_sem] theorem c54s14eq : U c54s14 (.seq (.ops c54r13) .ret) := fun _ _ _ _ _ => rfl
def c54s15 : SCode := (.seq (.ops c54r12) c54s14)
@[go_sem] theorem c54s15eq : U c54s15 (.seq (.ops c54r12) c54s14) := fun _ _ _ _ _ => rfl
def c54s16 : SCode := (.seq (.ops c54r11) c54s15)
@[go_sem] theorem c54s16eq : U c54s16 (.seq (.ops c54r11) c54s15) := fun _ _ _ _ _ => rfl
def c54s17 : SCode := (.seq (.ops c54r10) c54s16)
@[go_sem] theorem c54s17eq : U c54s17 (.seq (.ops c54r10) c54s16) := fun _ _ _ _ _ => rfl
def c54s18 : SCode := (.seq (.seq (.ops c54r7) (.cond S9 c54s9 .skip)) c54s17)
@[go_sem] theorem c54s18eq : U c54s18 (.seq (.seq (.ops c54r7) (.cond S9 c54s9 .skip)) c54s17) := fun _ _ _ _ _ => rfl
def c54s19 : SCode := (.seq (.ops c54r6) c54s18)
@[go_sem] theorem c54s19eq : U c54s19 (.seq (.ops c54r6) c54s18) := fun _ _ _ _ _ => rfl
def c54s20 : SCode := (.seq (.ops c54r5) c54s19)
@[go_sem] theorem c54s20eq : U c54s20 (.seq (.ops c54r5) c54s19) := fun _ _ _ _ _ => rfl
@[go_sem] def c54r21 : List GOp := [mT S0, mT S1, oT (.v (.bin .add T0 (C 1))), oT (.call 54 [T2, T0]), oS 4 (.al 25 [(I 0), (.string ⟨⟨[]⟩⟩), (I 0), (I 0), Z]), oN (.st 5 S4 T0)]
@[go_sem] def c54r22 : List GOp := [mT S0, mT S1, oT (.call 71 [T1, T0]), mS 5 T0]
@[go_sem] def c54r23 : List GOp := [mT S5, oS 10 (.v (.bin .eql T0 (C 0)))]
@[go_sem] def c54r24 : List GOp := [oT (.ld (some 5) S4), oN (.st 5 S2 T0)]
def c54s25 : SCode := (.seq (.ops c54r24) .ret)
@[go_sem] theorem c54s25eq : U c54s25 (.seq (.ops c54r24) .ret) := fun _ _ _ _ _ => rfl
def c54s26 : SCode := (.cond S10 c54s25 .skip)
@[go_sem] theorem c54s26eq : U c54s26 (.cond S10 c54s25 .skip) := fun _ _ _ _ _ => rfl
@[go_sem] def c54r27 : List GOp := [mT S5, mT S0, oT (.call 36 [T0]), oT (.v (.fld1 3 T0)), oT (.v (.bld [(I 0), (.string ⟨⟨[]⟩⟩), (I 0), (I 0), Z] [(0, (1, T3)), (3, (1, T0))])), oS 6 (.al 25 [(I 0), (.string ⟨⟨[]⟩⟩), (I 0), (I 0), Z]), oN (.st 5 S6 T0)]
@[go_sem] def c54r28 : List GOp := [mT S0, oT (.v (.nc T0)), fT 1 T0, lT T0, oT (.v (.bin .add T0 (C 1))), oT (.v (.nc T4)), fT 1 T0, oN (.st 1 T0 T2)]
@[go_sem] def c54d29 : DT := (.rd none .t (.ld (some 5) S4) [5, 7] (rm S0 [4, 5, 7] (rm S1 [4, 5, 7] (.rd none .t (.v (.bin .add T0 (C 1))) [4, 5, 7] (.ef 4 none .t (.call 54 [T2, T0]) (.ef 5 none .t (.bs 25 2 [(I 0), (.string ⟨⟨[]⟩⟩), (I 0), (I 0), Z, (I 0), (.string ⟨⟨[]⟩⟩), (I 0), (I 0), Z] [(0, (5, T4)), (5, (5, T0))]) (rf 4 S6 [7] (.ef 7 none .no (.st 1 T0 T1) .done))))))))
@[go_sem] def c54r30 : List GOp := [oT (.ld (some 5) S6), oN (.st 5 S4 T0)]
@[go_sem] def c54r31 : List GOp := [mT S1, oS 11 (.v (.bin .eql T0 (C 2)))]
@[go_sem] def c54r32 : List GOp := [oT (.ld (some 5) S4), oN (.st 5 S2 T0)]
def c54s33 : SCode := (.seq (.ops c54r32) .ret)
@[go_sem] theorem c54s33eq : U c54s33 (.seq (.ops c54r32) .ret) := fun _ _ _ _ _ => rfl
def c54s34 : SCode := (.cond S11 c54s33 .skip)
@[go_sem] theorem c54s34eq : U c54s34 (.cond S11 c54s33 .skip) := fun _ _ _ _ _ => rfl
def c54s35 : SCode := (.seq (.ops c54r31) c54s34)
@[go_sem] theorem c54s35eq : U c54s35 (.seq (.ops c54r31) c54s34) := fun _ _ _ _ _ => rfl
def c54s36 : SCode := (.seq (.ops c54r30) c54s35)
@[go_sem] theorem c54s36eq : U c54s36 (.seq (.ops c54r30) c54s35) := fun _ _ _ _ _ => rfl
def c54s37 : SCode := (.seq (.de c54d29) c54s36)
@[go_sem] theorem c54s37eq : U c54s37 (.seq (.de c54d29) c54s36) := fun _ _ _ _ _ => rfl
def c54s38 : SCode := (.seq (.ops c54r28) c54s37)
@[go_sem] theorem c54s38eq : U c54s38 (.seq (.ops c54r28) c54s37) := fun _ _ _ _ _ => rfl
def c54s39 : SCode := (.seq (.ops c54r27) c54s38)
@[go_sem] theorem c54s39eq : U c54s39 (.seq (.ops c54r27) c54s38) := fun _ _ _ _ _ => rfl
def c54s40 : SCode := (.seq (.seq (.ops c54r23) c54s26) c54s39)
@[go_sem] theorem c54s40eq : U c54s40 (.seq (.seq (.ops c54r23) c54s26) c54s39) := fun _ _ _ _ _ => rfl
def c54s41 : SCode := (.block 1 (.seq (.ops c54r22) c54s40))
@[go_sem] theorem c54s41eq : U c54s41 (.block 1 (.seq (.ops c54r22) c54s40)) := fun _ _ _ _ _ => rfl
def c54s42 : SCode := (.block 0 (.loop c54k c54s41))
@[go_sem] theorem c54s42eq : U c54s42 (.block 0 (.loop c54k c54s41)) := fun _ _ _ _ _ => rfl
def c54s43 : SCode := (.seq (.ops c54r21) c54s42)
@[go_sem] theorem c54s43eq : U c54s43 (.seq (.ops c54r21) c54s42) := fun _ _ _ _ _ => rfl
def c54s44 : SCode := (.seq (.seq (.ops c54r4) (.cond S8 c54s20 .skip)) c54s43)
@[go_sem] theorem c54s44eq : U c54s44 (.seq (.seq (.ops c54r4) (.cond S8 c54s20 .skip)) c54s43) := fun _ _ _ _ _ => rfl
def c54s45 : SCode := (.seq (.seq (.ops c54r1) (.cond S7 c54s3 .skip)) c54s44)
@[go_sem] theorem c54s45eq : U c54s45 (.seq (.seq (.ops c54r1) (.cond S7 c54s3 .skip)) c54s44) := fun _ _ _ _ _ => rfl
def c54 : Gx.Fn := ⟨82, c54k, (.seq (.ops c54r0) c54s45), [(.cell S2 (some 5))]⟩
theorem c54ok : stripFn Tryz.prog c54k Tryz.f54 = some c54 := by kernel_rfl

/- (*plexusref16.P).enter -/
@[go_sem] def c55k : List Nat := [0, 6]
@[go_sem] def c55r0 : List GOp := [mT S0, oT (.v (.nc T0)), fT 2 T0, lT T0, oS 1 (.v (.bin .geq T0 (C 64)))]
@[go_sem] def c55r1 : List GOp := [mT S0, oT (.call 38 [T0, (C 6)])]
def c55s2 : SCode := (.cond S1 (.ops c55r1) .skip)
@[go_sem] theorem c55s2eq : U c55s2 (.cond S1 (.ops c55r1) .skip) := fun _ _ _ _ _ => rfl
@[go_sem] def c55r3 : List GOp := [mT S0, oT (.v (.nc T0)), fT 2 T0, lT T0, oT (.v (.bin .add T0 (C 1))), oT (.v (.nc T4)), fT 2 T0, oN (.st 1 T0 T2)]
def c55s4 : SCode := (.ops c55r3)
@[go_sem] theorem c55s4eq : U c55s4 (.ops c55r3) := fun _ _ _ _ _ => rfl
def c55 : Gx.Fn := ⟨16, c55k, (.seq (.seq (.ops c55r0) c55s2) c55s4), []⟩
theorem c55ok : stripFn Tryz.prog c55k Tryz.f55 = some c55 := by kernel_rfl

/- (*plexusref16.P).take -/
@[go_sem] def c56k : List Nat := [0, 1, 6]
@[go_sem] def c56r0 : List GOp := [mT S0, mT S1, oS 2 (.call 53 [T1, T0])]
@[go_sem] def c56r1 : List GOp := [mT S0, oT (.v (.nc T0)), fT 1 T0, lT T0, oT (.v (.bin .add T0 (C 1))), oT (.v (.nc T4)), fT 1 T0, oN (.st 1 T0 T2)]
def c56s2 : SCode := (.seq (.ops c56r1) .ret)
@[go_sem] theorem c56s2eq : U c56s2 (.seq (.ops c56r1) .ret) := fun _ _ _ _ _ => rfl
@[go_sem] def c56r3 : List GOp := [mT S0, oT (.call 38 [T0, (C 2)])]
def c56s4 : SCode := (.ops c56r3)
@[go_sem] theorem c56s4eq : U c56s4 (.ops c56r3) := fun _ _ _ _ _ => rfl
def c56 : Gx.Fn := ⟨16, c56k, (.seq (.seq (.ops c56r0) (.cond S2 c56s2 .skip)) c56s4), []⟩
theorem c56ok : stripFn Tryz.prog c56k Tryz.f56 = some c56 := by kernel_rfl

/- (*plexusref16.P).text -/
@[go_sem] def c57k : List Nat := [0, 1, 4, 5, 17]
@[go_sem] def c57r0 : List GOp := [mS 2 (.c (.string ⟨⟨[]⟩⟩))]
@[go_sem] def c57r1 : List GOp := [mT S0, oT (.call 36 [T0]), oS 3 (.al 41 [(I 0), (.string ⟨⟨[]⟩⟩), (I 0), (I 0)]), oN (.st 4 S3 T0)]
@[go_sem] def c57r2 : List GOp := [mT S0, oT (.v (.nc T0)), fT 3 T0, lT T0, mT T0, (.sel T0 false [(.op (.v (.fa 0 S3))), (.op (.ld none T0)), (.op (.v (.mv S1))), (.op (.v (.bin .neq T1 T0)))] (.s 4) (.c (.bool true)) T0)]
@[go_sem] def c57r3 : List GOp := [mT S0, oT (.call 38 [T0, (C 2)])]
@[go_sem] def c57r4 : List GOp := [mS 2 (.c (.string ⟨⟨[]⟩⟩))]
def c57s5 : SCode := (.seq (.ops c57r4) .ret)
@[go_sem] theorem c57s5eq : U c57s5 (.seq (.ops c57r4) .ret) := fun _ _ _ _ _ => rfl
def c57s6 : SCode := (.seq (.ops c57r3) c57s5)
@[go_sem] theorem c57s6eq : U c57s6 (.seq (.ops c57r3) c57s5) := fun _ _ _ _ _ => rfl
@[go_sem] def c57r7 : List GOp := [mT S0, oT (.v (.nc T0)), fT 1 T0, lT T0, oT (.v (.bin .add T0 (C 1))), oT (.v (.nc T4)), fT 1 T0, oN (.st 1 T0 T2)]
@[go_sem] def c57r8 : List GOp := [fT 1 S3, lT T0, mS 2 T0]
def c57s9 : SCode := (.seq (.ops c57r8) .ret)
@[go_sem] theorem c57s9eq : U c57s9 (.seq (.ops c57r8) .ret) := fun _ _ _ _ _ => rfl
def c57s10 : SCode := (.seq (.ops c57r7) c57s9)
@[go_sem] theorem c57s10eq : U c57s10 (.seq (.ops c57r7) c57s9) := fun _ _ _ _ _ => rfl
def c57s11 : SCode := (.seq (.seq (.ops c57r2) (.cond S4 c57s6 .skip)) c57s10)
@[go_sem] theorem c57s11eq : U c57s11 (.seq (.seq (.ops c57r2) (.cond S4 c57s6 .skip)) c57s10) := fun _ _ _ _ _ => rfl
def c57s12 : SCode := (.seq (.ops c57r1) c57s11)
@[go_sem] theorem c57s12eq : U c57s12 (.seq (.ops c57r1) c57s11) := fun _ _ _ _ _ => rfl
def c57 : Gx.Fn := ⟨29, c57k, (.seq (.ops c57r0) c57s12), [(.tmp S2)]⟩
theorem c57ok : stripFn Tryz.prog c57k Tryz.f57 = some c57 := by kernel_rfl

/- (*plexusref16.P).allowed -/
@[go_sem] def c58k : List Nat := [0, 2, 3, 6]
@[go_sem] def c58r0 : List GOp := [mS 1 (.c Z)]
@[go_sem] def c58r1 : List GOp := [oT (.bs 25 0 [] []), mS 2 T0]
@[go_sem] def c58r2 : List GOp := [mT S0, oS 3 (.call 53 [T0, (.c (.string ⟨⟨[40]⟩⟩))])]
@[go_sem] def c58r3 : List GOp := [mT S0, oT (.v (.nc T0)), fT 1 T0, lT T0, oT (.v (.bin .add T0 (C 1))), oT (.v (.nc T4)), fT 1 T0, oN (.st 1 T0 T2)]
@[go_sem] def c58r4 : List GOp := [mT S0, mT S2, oT (.call 60 [T1, T0]), mS 2 T0]
@[go_sem] def c58r5 : List GOp := [mT S0, oT (.call 56 [T0, (.c (.string ⟨⟨[41]⟩⟩))])]
def c58s6 : SCode := (.ops c58r5)
@[go_sem] theorem c58s6eq : U c58s6 (.ops c58r5) := fun _ _ _ _ _ => rfl
def c58s7 : SCode := (.seq (.ops c58r4) c58s6)
@[go_sem] theorem c58s7eq : U c58s7 (.seq (.ops c58r4) c58s6) := fun _ _ _ _ _ => rfl
def c58s8 : SCode := (.seq (.ops c58r3) c58s7)
@[go_sem] theorem c58s8eq : U c58s8 (.seq (.ops c58r3) c58s7) := fun _ _ _ _ _ => rfl
@[go_sem] def c58r9 : List GOp := [mT S2, mS 1 T0]
def c58s10 : SCode := (.seq (.ops c58r9) .ret)
@[go_sem] theorem c58s10eq : U c58s10 (.seq (.ops c58r9) .ret) := fun _ _ _ _ _ => rfl
def c58s11 : SCode := (.seq (.seq (.ops c58r2) (.cond S3 c58s8 .skip)) c58s10)
@[go_sem] theorem c58s11eq : U c58s11 (.seq (.seq (.ops c58r2) (.cond S3 c58s8 .skip)) c58s10) := fun _ _ _ _ _ => rfl
def c58s12 : SCode := (.seq (.ops c58r1) c58s11)
@[go_sem] theorem c58s12eq : U c58s12 (.seq (.ops c58r1) c58s11) := fun _ _ _ _ _ => rfl
def c58 : Gx.Fn := ⟨20, c58k, (.seq (.ops c58r0) c58s12), [(.tmp S1)]⟩
theorem c58ok : stripFn Tryz.prog c58k Tryz.f58 = some c58 := by kernel_rfl

/- (*plexusref16.P).integer -/
@[go_sem] def c59k : List Nat := [0, 2, 3, 4, 5, 11]
@[go_sem] def c59r0 : List GOp := [oS 1 (.al 25 [(I 0), (.string ⟨⟨[]⟩⟩), (I 0), (I 0), Z])]
@[go_sem] def c59r1 : List GOp := [mT S0, oT (.call 36 [T0]), oT (.v (.fld1 3 T0)), oT (.v (.bld [(I 0), (.string ⟨⟨[]⟩⟩), (I 0), (I 0), Z] [(0, (1, (C 44))), (3, (1, T0))])), oS 2 (.al 25 [(I 0), (.string ⟨⟨[]⟩⟩), (I 0), (I 0), Z]), oN (.st 5 S2 T0)]
@[go_sem] def c59r2 : List GOp := [mS 3 (C 1)]
@[go_sem] def c59r3 : List GOp := [mT S0, oS 5 (.call 53 [T0, (.c (.string ⟨⟨[45]⟩⟩))])]
@[go_sem] def c59r4 : List GOp := [mT S0, oT (.v (.nc T0)), fT 1 T0, lT T0, oT (.v (.bin .add T0 (C 1))), oT (.v (.nc T4)), fT 1 T0, oN (.st 1 T0 T2)]
@[go_sem] def c59r5 : List GOp := [mS 3 (C (-1))]
def c59s6 : SCode := (.ops c59r5)
@[go_sem] theorem c59s6eq : U c59s6 (.ops c59r5) := fun _ _ _ _ _ => rfl
def c59s7 : SCode := (.seq (.ops c59r4) c59s6)
@[go_sem] theorem c59s7eq : U c59s7 (.seq (.ops c59r4) c59s6) := fun _ _ _ _ _ => rfl
@[go_sem] def c59r8 : List GOp := [mT S0, oT (.call 36 [T0]), oS 4 (.al 41 [(I 0), (.string ⟨⟨[]⟩⟩), (I 0), (I 0)]), oN (.st 4 S4 T0)]
@[go_sem] def c59r9 : List GOp := [mT S0, oT (.call 57 [T0, (C 3)])]
@[go_sem] def c59r10 : List GOp := [mT S3, fT 2 S4, lT T0, oT (.v (.bin .mul T2 T0)), fT 2 S2, oN (.st 1 T0 T1)]
@[go_sem] def c59r11 : List GOp := [oT (.ld (some 5) S2), oN (.st 5 S1 T0)]
def c59s12 : SCode := (.seq (.ops c59r11) .ret)
@[go_sem] theorem c59s12eq : U c59s12 (.seq (.ops c59r11) .ret) := fun _ _ _ _ _ => rfl
def c59s13 : SCode := (.seq (.ops c59r10) c59s12)
@[go_sem] theorem c59s13eq : U c59s13 (.seq (.ops c59r10) c59s12) := fun _ _ _ _ _ => rfl
def c59s14 : SCode := (.seq (.ops c59r9) c59s13)
@[go_sem] theorem c59s14eq : U c59s14 (.seq (.ops c59r9) c59s13) := fun _ _ _ _ _ => rfl
def c59s15 : SCode := (.seq (.ops c59r8) c59s14)
@[go_sem] theorem c59s15eq : U c59s15 (.seq (.ops c59r8) c59s14) := fun _ _ _ _ _ => rfl
def c59s16 : SCode := (.seq (.seq (.ops c59r3) (.cond S5 c59s7 .skip)) c59s15)
@[go_sem] theorem c59s16eq : U c59s16 (.seq (.seq (.ops c59r3) (.cond S5 c59s7 .skip)) c59s15) := fun _ _ _ _ _ => rfl
def c59s17 : SCode := (.seq (.ops c59r2) c59s16)
@[go_sem] theorem c59s17eq : U c59s17 (.seq (.ops c59r2) c59s16) := fun _ _ _ _ _ => rfl
def c59s18 : SCode := (.seq (.ops c59r1) c59s17)
@[go_sem] theorem c59s18eq : U c59s18 (.seq (.ops c59r1) c59s17) := fun _ _ _ _ _ => rfl
def c59 : Gx.Fn := ⟨29, c59k, (.seq (.ops c59r0) c59s18), [(.cell S1 (some 5))]⟩
theorem c59ok : stripFn Tryz.prog c59k Tryz.f59 = some c59 := by kernel_rfl

/- (*plexusref16.P).quotes -/
@[go_sem] def c60k : List Nat := [0, 1, 4, 5, 19]
@[go_sem] def c60r0 : List GOp := [mS 2 (.c Z)]
@[go_sem] def c60r1 : List GOp := [mT S0, oT (.call 36 [T0]), oT (.v (.fld1 3 T0)), oT (.v (.bld [(I 0), (.string ⟨⟨[]⟩⟩), (I 0), (I 0), Z] [(0, (1, (C 47))), (3, (1, T0))])), oS 3 (.al 25 [(I 0), (.string ⟨⟨[]⟩⟩), (I 0), (I 0), Z]), oN (.st 5 S3 T0)]
@[go_sem] def c60r2 : List GOp := [mT S0, oT (.call 57 [T0, (C 4)]), fT 1 S3, oN (.st 1 T0 T1)]
@[go_sem] def c60r3 : List GOp := [mT S1, oT (.ld (some 5) S3), oT (.bs 25 1 [(I 0), (.string ⟨⟨[]⟩⟩), (I 0), (I 0), Z] [(0, (5, T0))]), oT (.ap 23 23 T2 T0), mS 1 T0]
@[go_sem] def c60r4 : List GOp := [mT S0, oT (.call 53 [T0, (.c (.string ⟨⟨[44]⟩⟩))]), oS 4 (.v (.un .not T0))]
@[go_sem] def c60r5 : List GOp := [mT S1, mS 2 T0]
def c60s6 : SCode := (.seq (.ops c60r5) .ret)
@[go_sem] theorem c60s6eq : U c60s6 (.seq (.ops c60r5) .ret) := fun _ _ _ _ _ => rfl
@[go_sem] def c60r7 : List GOp := [mT S0, oT (.v (.nc T0)), fT 1 T0, lT T0, oT (.v (.bin .add T0 (C 1))), oT (.v (.nc T4)), fT 1 T0, oN (.st 1 T0 T2)]
def c60s8 : SCode := (.ops c60r7)
@[go_sem] theorem c60s8eq : U c60s8 (.ops c60r7) := fun _ _ _ _ _ => rfl
def c60s9 : SCode := (.seq (.seq (.ops c60r4) (.cond S4 c60s6 .skip)) c60s8)
@[go_sem] theorem c60s9eq : U c60s9 (.seq (.seq (.ops c60r4) (.cond S4 c60s6 .skip)) c60s8) := fun _ _ _ _ _ => rfl
def c60s10 : SCode := (.seq (.ops c60r3) c60s9)
@[go_sem] theorem c60s10eq : U c60s10 (.seq (.ops c60r3) c60s9) := fun _ _ _ _ _ => rfl
def c60s11 : SCode := (.seq (.ops c60r2) c60s10)
@[go_sem] theorem c60s11eq : U c60s11 (.seq (.ops c60r2) c60s10) := fun _ _ _ _ _ => rfl
def c60s12 : SCode := (.block 1 (.seq (.ops c60r1) c60s11))
@[go_sem] theorem c60s12eq : U c60s12 (.block 1 (.seq (.ops c60r1) c60s11)) := fun _ _ _ _ _ => rfl
def c60s13 : SCode := (.block 0 (.loop c60k c60s12))
@[go_sem] theorem c60s13eq : U c60s13 (.block 0 (.loop c60k c60s12)) := fun _ _ _ _ _ => rfl
def c60 : Gx.Fn := ⟨28, c60k, (.seq (.ops c60r0) c60s13), [(.tmp S2)]⟩
theorem c60ok : stripFn Tryz.prog c60k Tryz.f60 = some c60 := by kernel_rfl

/- (*plexusref16.P).sort -/
@[go_sem] def c61k : List Nat := [0, 2, 3, 4, 9, 17]
@[go_sem] def c61r0 : List GOp := [mS 1 (C 0)]
@[go_sem] def c61r1 : List GOp := [oT (.bs 9 4 [(.string ⟨⟨[]⟩⟩), (.string ⟨⟨[]⟩⟩), (.string ⟨⟨[]⟩⟩), (.string ⟨⟨[]⟩⟩)] [(0, (1, (.c (.string ⟨⟨[105, 110, 116]⟩⟩)))), (1, (1, (.c (.string ⟨⟨[98, 111, 111, 108]⟩⟩)))), (2, (1, (.c (.string ⟨⟨[110, 97, 109, 101]⟩⟩)))), (3, (1, (.c (.string ⟨⟨[110, 97, 109, 101, 115]⟩⟩))))]), mS 2 T0]
@[go_sem] def c61r2 : List GOp := [mS 3 (C 0)]
@[go_sem] def c61r3 : List GOp := [mT S3, mT S2, nT T0, oS 4 (.v (.bin .lss T2 T0))]
def c61s4 : SCode := (.cond S4 .skip (.exit 0))
@[go_sem] theorem c61s4eq : U c61s4 (.cond S4 .skip (.exit 0)) := fun _ _ _ _ _ => rfl
@[go_sem] def c61r5 : List GOp := [mT S0, mT S2, mT S3, oT (.v (.ix 1 T1 T0)), lT T0, oS 5 (.call 53 [T4, T0])]
@[go_sem] def c61r6 : List GOp := [mT S0, oT (.v (.nc T0)), fT 1 T0, lT T0, oT (.v (.bin .add T0 (C 1))), oT (.v (.nc T4)), fT 1 T0, oN (.st 1 T0 T2)]
@[go_sem] def c61r7 : List GOp := [mT S3, oT (.v (.bin .add T0 (C 1))), mS 1 T0]
def c61s8 : SCode := (.seq (.ops c61r7) .ret)
@[go_sem] theorem c61s8eq : U c61s8 (.seq (.ops c61r7) .ret) := fun _ _ _ _ _ => rfl
def c61s9 : SCode := (.seq (.ops c61r6) c61s8)
@[go_sem] theorem c61s9eq : U c61s9 (.seq (.ops c61r6) c61s8) := fun _ _ _ _ _ => rfl
@[go_sem] def c61r10 : List GOp := [mT S3, oT (.v (.bin .add T0 (C 1))), mS 3 T0]
def c61s11 : SCode := (.ops c61r10)
@[go_sem] theorem c61s11eq : U c61s11 (.ops c61r10) := fun _ _ _ _ _ => rfl
def c61s12 : SCode := (.seq (.block 1 (.seq (.ops c61r5) (.cond S5 c61s9 .skip))) c61s11)
@[go_sem] theorem c61s12eq : U c61s12 (.seq (.block 1 (.seq (.ops c61r5) (.cond S5 c61s9 .skip))) c61s11) := fun _ _ _ _ _ => rfl
def c61s13 : SCode := (.seq (.seq (.ops c61r3) c61s4) c61s12)
@[go_sem] theorem c61s13eq : U c61s13 (.seq (.seq (.ops c61r3) c61s4) c61s12) := fun _ _ _ _ _ => rfl
def c61s14 : SCode := (.block 0 (.loop c61k c61s13))
@[go_sem] theorem c61s14eq : U c61s14 (.block 0 (.loop c61k c61s13)) := fun _ _ _ _ _ => rfl
@[go_sem] def c61r15 : List GOp := [mT S0, oT (.call 38 [T0, (C 2)])]
@[go_sem] def c61r16 : List GOp := [mS 1 (C 0)]
def c61s17 : SCode := (.seq (.ops c61r16) .ret)
@[go_sem] theorem c61s17eq : U c61s17 (.seq (.ops c61r16) .ret) := fun _ _ _ _ _ => rfl
def c61s18 : SCode := (.seq (.ops c61r15) c61s17)
@[go_sem] theorem c61s18eq : U c61s18 (.seq (.ops c61r15) c61s17) := fun _ _ _ _ _ => rfl
def c61s19 : SCode := (.seq (.seq (.ops c61r2) c61s14) c61s18)
@[go_sem] theorem c61s19eq : U c61s19 (.seq (.seq (.ops c61r2) c61s14) c61s18) := fun _ _ _ _ _ => rfl
def c61s20 : SCode := (.seq (.ops c61r1) c61s19)
@[go_sem] theorem c61s20eq : U c61s20 (.seq (.ops c61r1) c61s19) := fun _ _ _ _ _ => rfl
def c61 : Gx.Fn := ⟨29, c61k, (.seq (.ops c61r0) c61s20), [(.tmp S1)]⟩
theorem c61ok : stripFn Tryz.prog c61k Tryz.f61 = some c61 := by kernel_rfl

/- (*plexusref16.P).postfix -/
@[go_sem] def c70k : List Nat := [0, 2, 3, 4, 12, 28, 34]
@[go_sem] def c70r0 : List GOp := [oS 1 (.al 25 [(I 0), (.string ⟨⟨[]⟩⟩), (I 0), (I 0), Z])]
@[go_sem] def c70r1 : List GOp := [mT S0, oT (.call 91 [T0]), oS 2 (.al 25 [(I 0), (.string ⟨⟨[]⟩⟩), (I 0), (I 0), Z]), oN (.st 5 S2 T0)]
@[go_sem] def c70r2 : List GOp := [mT S0, oT (.call 36 [T0]), oT (.v (.fld1 3 T0)), oT (.v (.bld [(I 0), (.string ⟨⟨[]⟩⟩), (I 0), (I 0), Z] [(3, (1, T0))])), oS 3 (.al 25 [(I 0), (.string ⟨⟨[]⟩⟩), (I 0), (I 0), Z]), oN (.st 5 S3 T0)]
@[go_sem] def c70r3 : List GOp := [mT S0, oS 4 (.call 53 [T0, (.c (.string ⟨⟨[46]⟩⟩))])]
@[go_sem] def c70r4 : List GOp := [mT S0, oT (.v (.nc T0)), fT 1 T0, lT T0, oT (.v (.bin .add T0 (C 1))), oT (.v (.nc T4)), fT 1 T0, oN (.st 1 T0 T2)]
@[go_sem] def c70r5 : List GOp := [fT 0 S3, oN (.st 1 T0 (C 42))]
@[go_sem] def c70r6 : List GOp := [mT S0, oT (.call 57 [T0, (C 1)]), fT 1 S3, oN (.st 1 T0 T1)]
@[go_sem] def c70r7 : List GOp := [oT (.ld (some 5) S2), oT (.bs 25 1 [(I 0), (.string ⟨⟨[]⟩⟩), (I 0), (I 0), Z] [(0, (5, T0))]), fT 4 S3, oN (.st 1 T0 T1)]
def c70s8 : SCode := (.ops c70r7)
@[go_sem] theorem c70s8eq : U c70s8 (.ops c70r7) := fun _ _ _ _ _ => rfl
def c70s9 : SCode := (.seq (.ops c70r6) c70s8)
@[go_sem] theorem c70s9eq : U c70s9 (.seq (.ops c70r6) c70s8) := fun _ _ _ _ _ => rfl
def c70s10 : SCode := (.seq (.ops c70r5) c70s9)
@[go_sem] theorem c70s10eq : U c70s10 (.seq (.ops c70r5) c70s9) := fun _ _ _ _ _ => rfl
def c70s11 : SCode := (.seq (.ops c70r4) c70s10)
@[go_sem] theorem c70s11eq : U c70s11 (.seq (.ops c70r4) c70s10) := fun _ _ _ _ _ => rfl
@[go_sem] def c70r12 : List GOp := [mT S0, oS 5 (.call 53 [T0, (.c (.string ⟨⟨[91]⟩⟩))])]
@[go_sem] def c70r13 : List GOp := [mT S0, oT (.call 55 [T0])]
@[go_sem] def c70r14 : List GOp := [mT S0, oT (.v (.nc T0)), fT 3 T0, oS 6 (.ld none T0)]
@[go_sem] def c70r15 : List GOp := [oT (.ld (some 5) S2), oN (.st 5 S1 T0)]
def c70s16 : SCode := (.seq (.ops c70r15) .ret)
@[go_sem] theorem c70s16eq : U c70s16 (.seq (.ops c70r15) .ret) := fun _ _ _ _ _ => rfl
@[go_sem] def c70r17 : List GOp := [mT S0, oT (.v (.nc T0)), fT 1 T0, lT T0, oT (.v (.bin .add T0 (C 1))), oT (.v (.nc T4)), fT 1 T0, oN (.st 1 T0 T2)]
@[go_sem] def c70r18 : List GOp := [fT 0 S3, oN (.st 1 T0 (C 43))]
@[go_sem] def c70d19 : DT := (.rd none .t (.ld (some 5) S2) [3, 5] (rm S0 [2, 3, 5] (.ef 2 none .t (.call 34 [T0]) (.ef 3 none .t (.bs 25 2 [(I 0), (.string ⟨⟨[]⟩⟩), (I 0), (I 0), Z, (I 0), (.string ⟨⟨[]⟩⟩), (I 0), (I 0), Z] [(0, (5, T2)), (5, (5, T0))]) (rf 4 S3 [5] (.ef 5 none .no (.st 1 T0 T1) .done))))))
@[go_sem] def c70r20 : List GOp := [mT S0, oT (.call 56 [T0, (.c (.string ⟨⟨[93]⟩⟩))])]
@[go_sem] def c70r21 : List GOp := [mT S0, oT (.v (.nc T0)), fT 2 T0, lT T0, oT (.v (.bin .sub T0 (C 1))), oT (.v (.nc T4)), fT 2 T0, oN (.st 1 T0 T2)]
def c70s22 : SCode := (.ops c70r21)
@[go_sem] theorem c70s22eq : U c70s22 (.ops c70r21) := fun _ _ _ _ _ => rfl
def c70s23 : SCode := (.seq (.ops c70r20) c70s22)
@[go_sem] theorem c70s23eq : U c70s23 (.seq (.ops c70r20) c70s22) := fun _ _ _ _ _ => rfl
def c70s24 : SCode := (.seq (.de c70d19) c70s23)
@[go_sem] theorem c70s24eq : U c70s24 (.seq (.de c70d19) c70s23) := fun _ _ _ _ _ => rfl
def c70s25 : SCode := (.seq (.ops c70r18) c70s24)
@[go_sem] theorem c70s25eq : U c70s25 (.seq (.ops c70r18) c70s24) := fun _ _ _ _ _ => rfl
def c70s26 : SCode := (.seq (.ops c70r17) c70s25)
@[go_sem] theorem c70s26eq : U c70s26 (.seq (.ops c70r17) c70s25) := fun _ _ _ _ _ => rfl
def c70s27 : SCode := (.seq (.seq (.ops c70r14) (.cond S6 c70s16 .skip)) c70s26)
@[go_sem] theorem c70s27eq : U c70s27 (.seq (.seq (.ops c70r14) (.cond S6 c70s16 .skip)) c70s26) := fun _ _ _ _ _ => rfl
def c70s28 : SCode := (.seq (.ops c70r13) c70s27)
@[go_sem] theorem c70s28eq : U c70s28 (.seq (.ops c70r13) c70s27) := fun _ _ _ _ _ => rfl
@[go_sem] def c70r29 : List GOp := [oT (.ld (some 5) S2), oN (.st 5 S1 T0)]
def c70s30 : SCode := (.seq (.ops c70r29) .ret)
@[go_sem] theorem c70s30eq : U c70s30 (.seq (.ops c70r29) .ret) := fun _ _ _ _ _ => rfl
def c70s31 : SCode := (.cond S5 c70s28 c70s30)
@[go_sem] theorem c70s31eq : U c70s31 (.cond S5 c70s28 c70s30) := fun _ _ _ _ _ => rfl
def c70s32 : SCode := (.seq (.ops c70r12) c70s31)
@[go_sem] theorem c70s32eq : U c70s32 (.seq (.ops c70r12) c70s31) := fun _ _ _ _ _ => rfl
def c70s33 : SCode := (.cond S4 c70s11 c70s32)
@[go_sem] theorem c70s33eq : U c70s33 (.cond S4 c70s11 c70s32) := fun _ _ _ _ _ => rfl
@[go_sem] def c70r34 : List GOp := [oT (.ld (some 5) S3), oN (.st 5 S2 T0)]
def c70s35 : SCode := (.ops c70r34)
@[go_sem] theorem c70s35eq : U c70s35 (.ops c70r34) := fun _ _ _ _ _ => rfl
def c70s36 : SCode := (.seq (.seq (.ops c70r3) c70s33) c70s35)
@[go_sem] theorem c70s36eq : U c70s36 (.seq (.seq (.ops c70r3) c70s33) c70s35) := fun _ _ _ _ _ => rfl
def c70s37 : SCode := (.block 1 (.seq (.ops c70r2) c70s36))
@[go_sem] theorem c70s37eq : U c70s37 (.block 1 (.seq (.ops c70r2) c70s36)) := fun _ _ _ _ _ => rfl
def c70s38 : SCode := (.block 0 (.loop c70k c70s37))
@[go_sem] theorem c70s38eq : U c70s38 (.block 0 (.loop c70k c70s37)) := fun _ _ _ _ _ => rfl
def c70s39 : SCode := (.seq (.ops c70r1) c70s38)
@[go_sem] theorem c70s39eq : U c70s39 (.seq (.ops c70r1) c70s38) := fun _ _ _ _ _ => rfl
def c70 : Gx.Fn := ⟨60, c70k, (.seq (.ops c70r0) c70s39), [(.cell S1 (some 5))]⟩
theorem c70ok : stripFn Tryz.prog c70k Tryz.f70 = some c70 := by kernel_rfl

/- (*plexusref16.P).operator -/
@[go_sem] def c71k : List Nat := [0, 1, 4, 5, 12, 19, 26, 33, 40, 47, 54, 61, 68]
@[go_sem] def c71r0 : List GOp := [mS 2 (C 0)]
@[go_sem] def c71r1 : List GOp := [mT S1, oT (.v (.bin .eql T0 (C 0))), mT T0, (.op (some (T0, (true, true))) .t (.v (.mv S0))), (.op (some (T1, (true, false))) .t (.call 53 [T0, (.c (.string ⟨⟨[111, 114]⟩⟩))])), oT (.v (.pick T2 T0 (.c (.bool false)))), mS 3 T0]
@[go_sem] def c71r2 : List GOp := [mS 2 (C 31)]
def c71s3 : SCode := (.seq (.ops c71r2) .ret)
@[go_sem] theorem c71s3eq : U c71s3 (.seq (.ops c71r2) .ret) := fun _ _ _ _ _ => rfl
@[go_sem] def c71r4 : List GOp := [mT S1, oT (.v (.bin .eql T0 (C 1))), mT T0, (.op (some (T0, (true, true))) .t (.v (.mv S0))), (.op (some (T1, (true, false))) .t (.call 53 [T0, (.c (.string ⟨⟨[97, 110, 100]⟩⟩))])), oT (.v (.pick T2 T0 (.c (.bool false)))), mS 4 T0]
@[go_sem] def c71r5 : List GOp := [mS 2 (C 32)]
def c71s6 : SCode := (.seq (.ops c71r5) .ret)
@[go_sem] theorem c71s6eq : U c71s6 (.seq (.ops c71r5) .ret) := fun _ _ _ _ _ => rfl
@[go_sem] def c71r7 : List GOp := [mT S1, oT (.v (.bin .eql T0 (C 2))), mT T0, (.op (some (T0, (true, true))) .t (.v (.mv S0))), (.op (some (T1, (true, false))) .t (.call 53 [T0, (.c (.string ⟨⟨[60, 61]⟩⟩))])), oT (.v (.pick T2 T0 (.c (.bool false)))), mS 5 T0]
@[go_sem] def c71r8 : List GOp := [mS 2 (C 34)]
def c71s9 : SCode := (.seq (.ops c71r8) .ret)
@[go_sem] theorem c71s9eq : U c71s9 (.seq (.ops c71r8) .ret) := fun _ _ _ _ _ => rfl
@[go_sem] def c71r10 : List GOp := [mT S1, oT (.v (.bin .eql T0 (C 2))), mT T0, (.op (some (T0, (true, true))) .t (.v (.mv S0))), (.op (some (T1, (true, false))) .t (.call 53 [T0, (.c (.string ⟨⟨[60]⟩⟩))])), oT (.v (.pick T2 T0 (.c (.bool false)))), mS 6 T0]
@[go_sem] def c71r11 : List GOp := [mS 2 (C 35)]
def c71s12 : SCode := (.seq (.ops c71r11) .ret)
@[go_sem] theorem c71s12eq : U c71s12 (.seq (.ops c71r11) .ret) := fun _ _ _ _ _ => rfl
@[go_sem] def c71r13 : List GOp := [mT S1, oT (.v (.bin .eql T0 (C 2))), mT T0, (.op (some (T0, (true, true))) .t (.v (.mv S0))), (.op (some (T1, (true, false))) .t (.call 53 [T0, (.c (.string ⟨⟨[61, 61]⟩⟩))])), oT (.v (.pick T2 T0 (.c (.bool false)))), mS 7 T0]
@[go_sem] def c71r14 : List GOp := [mS 2 (C 36)]
def c71s15 : SCode := (.seq (.ops c71r14) .ret)
@[go_sem] theorem c71s15eq : U c71s15 (.seq (.ops c71r14) .ret) := fun _ _ _ _ _ => rfl
@[go_sem] def c71r16 : List GOp := [mT S1, oT (.v (.bin .eql T0 (C 2))), mT T0, (.op (some (T0, (true, true))) .t (.v (.mv S0))), (.op (some (T1, (true, false))) .t (.call 53 [T0, (.c (.string ⟨⟨[105, 110]⟩⟩))])), oT (.v (.pick T2 T0 (.c (.bool false)))), mS 8 T0]
@[go_sem] def c71r17 : List GOp := [mS 2 (C 37)]
def c71s18 : SCode := (.seq (.ops c71r17) .ret)
@[go_sem] theorem c71s18eq : U c71s18 (.seq (.ops c71r17) .ret) := fun _ _ _ _ _ => rfl
@[go_sem] def c71r19 : List GOp := [mT S1, oT (.v (.bin .eql T0 (C 2))), mT T0, (.op (some (T0, (true, true))) .t (.v (.mv S0))), (.op (some (T1, (true, false))) .t (.call 53 [T0, (.c (.string ⟨⟨[108, 101, 113]⟩⟩))])), oT (.v (.pick T2 T0 (.c (.bool false)))), mS 9 T0]
@[go_sem] def c71r20 : List GOp := [mS 2 (C 38)]
def c71s21 : SCode := (.seq (.ops c71r20) .ret)
@[go_sem] theorem c71s21eq : U c71s21 (.seq (.ops c71r20) .ret) := fun _ _ _ _ _ => rfl
@[go_sem] def c71r22 : List GOp := [mT S1, oT (.v (.bin .eql T0 (C 3))), mT T0, (.op (some (T0, (true, true))) .t (.v (.mv S0))), (.op (some (T1, (true, false))) .t (.call 53 [T0, (.c (.string ⟨⟨[106, 111, 105, 110]⟩⟩))])), oT (.v (.pick T2 T0 (.c (.bool false)))), mS 10 T0]
@[go_sem] def c71r23 : List GOp := [mS 2 (C 39)]
def c71s24 : SCode := (.seq (.ops c71r23) .ret)
@[go_sem] theorem c71s24eq : U c71s24 (.seq (.ops c71r23) .ret) := fun _ _ _ _ _ => rfl
@[go_sem] def c71r25 : List GOp := [mT S1, oT (.v (.bin .eql T0 (C 4))), mT T0, (.op (some (T0, (true, true))) .t (.v (.mv S0))), (.op (some (T1, (true, false))) .t (.call 53 [T0, (.c (.string ⟨⟨[43]⟩⟩))])), oT (.v (.pick T2 T0 (.c (.bool false)))), mS 11 T0]
@[go_sem] def c71r26 : List GOp := [mS 2 (C 40)]
def c71s27 : SCode := (.seq (.ops c71r26) .ret)
@[go_sem] theorem c71s27eq : U c71s27 (.seq (.ops c71r26) .ret) := fun _ _ _ _ _ => rfl
@[go_sem] def c71r28 : List GOp := [mT S1, oT (.v (.bin .eql T0 (C 4))), mT T0, (.op (some (T0, (true, true))) .t (.v (.mv S0))), (.op (some (T1, (true, false))) .t (.call 53 [T0, (.c (.string ⟨⟨[45]⟩⟩))])), oT (.v (.pick T2 T0 (.c (.bool false)))), mS 12 T0]
@[go_sem] def c71r29 : List GOp := [mS 2 (C 41)]
def c71s30 : SCode := (.seq (.ops c71r29) .ret)
@[go_sem] theorem c71s30eq : U c71s30 (.seq (.ops c71r29) .ret) := fun _ _ _ _ _ => rfl
def c71s31 : SCode := (.cond S12 c71s30 .skip)
@[go_sem] theorem c71s31eq : U c71s31 (.cond S12 c71s30 .skip) := fun _ _ _ _ _ => rfl
def c71s32 : SCode := (.seq (.ops c71r28) c71s31)
@[go_sem] theorem c71s32eq : U c71s32 (.seq (.ops c71r28) c71s31) := fun _ _ _ _ _ => rfl
def c71s33 : SCode := (.cond S11 c71s27 c71s32)
@[go_sem] theorem c71s33eq : U c71s33 (.cond S11 c71s27 c71s32) := fun _ _ _ _ _ => rfl
def c71s34 : SCode := (.seq (.ops c71r25) c71s33)
@[go_sem] theorem c71s34eq : U c71s34 (.seq (.ops c71r25) c71s33) := fun _ _ _ _ _ => rfl
def c71s35 : SCode := (.cond S10 c71s24 c71s34)
@[go_sem] theorem c71s35eq : U c71s35 (.cond S10 c71s24 c71s34) := fun _ _ _ _ _ => rfl
def c71s36 : SCode := (.seq (.ops c71r22) c71s35)
@[go_sem] theorem c71s36eq : U c71s36 (.seq (.ops c71r22) c71s35) := fun _ _ _ _ _ => rfl
def c71s37 : SCode := (.cond S9 c71s21 c71s36)
@[go_sem] theorem c71s37eq : U c71s37 (.cond S9 c71s21 c71s36) := fun _ _ _ _ _ => rfl
def c71s38 : SCode := (.seq (.ops c71r19) c71s37)
@[go_sem] theorem c71s38eq : U c71s38 (.seq (.ops c71r19) c71s37) := fun _ _ _ _ _ => rfl
def c71s39 : SCode := (.cond S8 c71s18 c71s38)
@[go_sem] theorem c71s39eq : U c71s39 (.cond S8 c71s18 c71s38) := fun _ _ _ _ _ => rfl
def c71s40 : SCode := (.seq (.ops c71r16) c71s39)
@[go_sem] theorem c71s40eq : U c71s40 (.seq (.ops c71r16) c71s39) := fun _ _ _ _ _ => rfl
def c71s41 : SCode := (.cond S7 c71s15 c71s40)
@[go_sem] theorem c71s41eq : U c71s41 (.cond S7 c71s15 c71s40) := fun _ _ _ _ _ => rfl
def c71s42 : SCode := (.seq (.ops c71r13) c71s41)
@[go_sem] theorem c71s42eq : U c71s42 (.seq (.ops c71r13) c71s41) := fun _ _ _ _ _ => rfl
def c71s43 : SCode := (.cond S6 c71s12 c71s42)
@[go_sem] theorem c71s43eq : U c71s43 (.cond S6 c71s12 c71s42) := fun _ _ _ _ _ => rfl
def c71s44 : SCode := (.seq (.ops c71r10) c71s43)
@[go_sem] theorem c71s44eq : U c71s44 (.seq (.ops c71r10) c71s43) := fun _ _ _ _ _ => rfl
def c71s45 : SCode := (.seq (.ops c71r7) (.cond S5 c71s9 c71s44))
@[go_sem] theorem c71s45eq : U c71s45 (.seq (.ops c71r7) (.cond S5 c71s9 c71s44)) := fun _ _ _ _ _ => rfl
def c71s46 : SCode := (.seq (.ops c71r4) (.cond S4 c71s6 c71s45))
@[go_sem] theorem c71s46eq : U c71s46 (.seq (.ops c71r4) (.cond S4 c71s6 c71s45)) := fun _ _ _ _ _ => rfl
@[go_sem] def c71r47 : List GOp := [mS 2 (C 0)]
def c71s48 : SCode := (.seq (.ops c71r47) .ret)
@[go_sem] theorem c71s48eq : U c71s48 (.seq (.ops c71r47) .ret) := fun _ _ _ _ _ => rfl
def c71s49 : SCode := (.seq (.block 0 (.seq (.ops c71r1) (.cond S3 c71s3 c71s46))) c71s48)
@[go_sem] theorem c71s49eq : U c71s49 (.seq (.block 0 (.seq (.ops c71r1) (.cond S3 c71s3 c71s46))) c71s48) := fun _ _ _ _ _ => rfl
def c71 : Gx.Fn := ⟨75, c71k, (.seq (.ops c71r0) c71s49), [(.tmp S2)]⟩
theorem c71ok : stripFn Tryz.prog c71k Tryz.f71 = some c71 := by kernel_rfl

/- (*plexusref16.P).primary -/
@[go_sem] def c91k : List Nat := [0, 2, 3, 4, 12, 20, 28, 36, 47, 58, 69, 80, 88, 108, 124, 133, 144, 155]
@[go_sem] def c91r0 : List GOp := [oS 1 (.al 25 [(I 0), (.string ⟨⟨[]⟩⟩), (I 0), (I 0), Z])]
@[go_sem] def c91r1 : List GOp := [mT S0, oT (.call 36 [T0]), oS 2 (.al 41 [(I 0), (.string ⟨⟨[]⟩⟩), (I 0), (I 0)]), oN (.st 4 S2 T0)]
@[go_sem] def c91r2 : List GOp := [fT 3 S2, lT T0, oT (.v (.bld [(I 0), (.string ⟨⟨[]⟩⟩), (I 0), (I 0), Z] [(3, (1, T0))])), oS 3 (.al 25 [(I 0), (.string ⟨⟨[]⟩⟩), (I 0), (I 0), Z]), oN (.st 5 S3 T0)]
@[go_sem] def c91r3 : List GOp := [mT S0, oT (.call 53 [T0, (.c (.string ⟨⟨[45]⟩⟩))]), mS 4 T0]
@[go_sem] def c91r4 : List GOp := [fT 0 S2, lT T0, oT (.v (.bin .eql T0 (C 3))), mS 4 T0]
def c91s5 : SCode := (.cond S4 .skip (.ops c91r4))
@[go_sem] theorem c91s5eq : U c91s5 (.cond S4 .skip (.ops c91r4)) := fun _ _ _ _ _ => rfl
@[go_sem] def c91r6 : List GOp := [mT S0, oT (.call 59 [T0]), oN (.st 5 S1 T0)]
def c91s7 : SCode := (.seq (.ops c91r6) .ret)
@[go_sem] theorem c91s7eq : U c91s7 (.seq (.ops c91r6) .ret) := fun _ _ _ _ _ => rfl
@[go_sem] def c91r8 : List GOp := [fT 0 S2, lT T0, oT (.v (.bin .eql T0 (C 4))), mS 5 T0]
@[go_sem] def c91r9 : List GOp := [fT 0 S3, oN (.st 1 T0 (C 47))]
@[go_sem] def c91r10 : List GOp := [mT S0, oT (.call 57 [T0, (C 4)]), fT 1 S3, oN (.st 1 T0 T1)]
def c91s11 : SCode := (.ops c91r10)
@[go_sem] theorem c91s11eq : U c91s11 (.ops c91r10) := fun _ _ _ _ _ => rfl
def c91s12 : SCode := (.seq (.ops c91r9) c91s11)
@[go_sem] theorem c91s12eq : U c91s12 (.seq (.ops c91r9) c91s11) := fun _ _ _ _ _ => rfl
@[go_sem] def c91r13 : List GOp := [fT 0 S2, lT T0, oT (.v (.bin .eql T0 (C 1))), mS 6 T0]
@[go_sem] def c91r14 : List GOp := [fT 0 S3, oN (.st 1 T0 (C 48))]
@[go_sem] def c91r15 : List GOp := [mT S0, oT (.call 57 [T0, (C 1)]), fT 1 S3, oN (.st 1 T0 T1)]
def c91s16 : SCode := (.ops c91r15)
@[go_sem] theorem c91s16eq : U c91s16 (.ops c91r15) := fun _ _ _ _ _ => rfl
def c91s17 : SCode := (.seq (.ops c91r14) c91s16)
@[go_sem] theorem c91s17eq : U c91s17 (.seq (.ops c91r14) c91s16) := fun _ _ _ _ _ => rfl
@[go_sem] def c91r18 : List GOp := [mT S0, oT (.call 53 [T0, (.c (.string ⟨⟨[116, 114, 117, 101]⟩⟩))]), mS 7 T0]
@[go_sem] def c91r19 : List GOp := [fT 0 S3, oN (.st 1 T0 (C 45))]
@[go_sem] def c91r20 : List GOp := [mT S0, oT (.v (.nc T0)), fT 1 T0, lT T0, oT (.v (.bin .add T0 (C 1))), oT (.v (.nc T4)), fT 1 T0, oN (.st 1 T0 T2)]
def c91s21 : SCode := (.ops c91r20)
@[go_sem] theorem c91s21eq : U c91s21 (.ops c91r20) := fun _ _ _ _ _ => rfl
def c91s22 : SCode := (.seq (.ops c91r19) c91s21)
@[go_sem] theorem c91s22eq : U c91s22 (.seq (.ops c91r19) c91s21) := fun _ _ _ _ _ => rfl
@[go_sem] def c91r23 : List GOp := [mT S0, oT (.call 53 [T0, (.c (.string ⟨⟨[102, 97, 108, 115, 101]⟩⟩))]), mS 8 T0]
@[go_sem] def c91r24 : List GOp := [fT 0 S3, oN (.st 1 T0 (C 46))]
@[go_sem] def c91r25 : List GOp := [mT S0, oT (.v (.nc T0)), fT 1 T0, lT T0, oT (.v (.bin .add T0 (C 1))), oT (.v (.nc T4)), fT 1 T0, oN (.st 1 T0 T2)]
def c91s26 : SCode := (.ops c91r25)
@[go_sem] theorem c91s26eq : U c91s26 (.ops c91r25) := fun _ _ _ _ _ => rfl
def c91s27 : SCode := (.seq (.ops c91r24) c91s26)
@[go_sem] theorem c91s27eq : U c91s27 (.seq (.ops c91r24) c91s26) := fun _ _ _ _ _ => rfl
@[go_sem] def c91r28 : List GOp := [mT S0, oT (.call 53 [T0, (.c (.string ⟨⟨[115]⟩⟩))]), mS 9 T0]
@[go_sem] def c91r29 : List GOp := [fT 0 S3, oN (.st 1 T0 (C 49))]
@[go_sem] def c91r30 : List GOp := [mT S0, oT (.v (.nc T0)), fT 1 T0, lT T0, oT (.v (.bin .add T0 (C 1))), oT (.v (.nc T4)), fT 1 T0, oN (.st 1 T0 T2)]
def c91s31 : SCode := (.ops c91r30)
@[go_sem] theorem c91s31eq : U c91s31 (.ops c91r30) := fun _ _ _ _ _ => rfl
def c91s32 : SCode := (.seq (.ops c91r29) c91s31)
@[go_sem] theorem c91s32eq : U c91s32 (.seq (.ops c91r29) c91s31) := fun _ _ _ _ _ => rfl
@[go_sem] def c91r33 : List GOp := [mT S0, oT (.call 53 [T0, (.c (.string ⟨⟨[98, 111, 116, 116, 111, 109]⟩⟩))]), mS 10 T0]
@[go_sem] def c91r34 : List GOp := [fT 0 S3, oN (.st 1 T0 (C 50))]
@[go_sem] def c91r35 : List GOp := [mT S0, oT (.v (.nc T0)), fT 1 T0, lT T0, oT (.v (.bin .add T0 (C 1))), oT (.v (.nc T4)), fT 1 T0, oN (.st 1 T0 T2)]
def c91s36 : SCode := (.ops c91r35)
@[go_sem] theorem c91s36eq : U c91s36 (.ops c91r35) := fun _ _ _ _ _ => rfl
def c91s37 : SCode := (.seq (.ops c91r34) c91s36)
@[go_sem] theorem c91s37eq : U c91s37 (.seq (.ops c91r34) c91s36) := fun _ _ _ _ _ => rfl
@[go_sem] def c91r38 : List GOp := [mT S0, oT (.call 53 [T0, (.c (.string ⟨⟨[40]⟩⟩))]), mS 11 T0]
@[go_sem] def c91r39 : List GOp := [mT S0, oT (.call 55 [T0])]
@[go_sem] def c91r40 : List GOp := [mT S0, oT (.v (.nc T0)), fT 3 T0, oS 12 (.ld none T0)]
@[go_sem] def c91r41 : List GOp := [oT (.ld (some 5) S3), oN (.st 5 S1 T0)]
def c91s42 : SCode := (.seq (.ops c91r41) .ret)
@[go_sem] theorem c91s42eq : U c91s42 (.seq (.ops c91r41) .ret) := fun _ _ _ _ _ => rfl
def c91s43 : SCode := (.cond S12 c91s42 .skip)
@[go_sem] theorem c91s43eq : U c91s43 (.cond S12 c91s42 .skip) := fun _ _ _ _ _ => rfl
@[go_sem] def c91r44 : List GOp := [mT S0, oT (.v (.nc T0)), fT 1 T0, lT T0, oT (.v (.bin .add T0 (C 1))), oT (.v (.nc T4)), fT 1 T0, oN (.st 1 T0 T2)]
@[go_sem] def c91r45 : List GOp := [mT S0, oT (.call 34 [T0]), oN (.st 5 S3 T0)]
@[go_sem] def c91r46 : List GOp := [mT S0, oT (.call 56 [T0, (.c (.string ⟨⟨[41]⟩⟩))])]
@[go_sem] def c91r47 : List GOp := [mT S0, oT (.v (.nc T0)), fT 2 T0, lT T0, oT (.v (.bin .sub T0 (C 1))), oT (.v (.nc T4)), fT 2 T0, oN (.st 1 T0 T2)]
def c91s48 : SCode := (.ops c91r47)
@[go_sem] theorem c91s48eq : U c91s48 (.ops c91r47) := fun _ _ _ _ _ => rfl
def c91s49 : SCode := (.seq (.ops c91r46) c91s48)
@[go_sem] theorem c91s49eq : U c91s49 (.seq (.ops c91r46) c91s48) := fun _ _ _ _ _ => rfl
def c91s50 : SCode := (.seq (.ops c91r45) c91s49)
@[go_sem] theorem c91s50eq : U c91s50 (.seq (.ops c91r45) c91s49) := fun _ _ _ _ _ => rfl
def c91s51 : SCode := (.seq (.ops c91r44) c91s50)
@[go_sem] theorem c91s51eq : U c91s51 (.seq (.ops c91r44) c91s50) := fun _ _ _ _ _ => rfl
def c91s52 : SCode := (.seq (.seq (.ops c91r40) c91s43) c91s51)
@[go_sem] theorem c91s52eq : U c91s52 (.seq (.seq (.ops c91r40) c91s43) c91s51) := fun _ _ _ _ _ => rfl
def c91s53 : SCode := (.seq (.ops c91r39) c91s52)
@[go_sem] theorem c91s53eq : U c91s53 (.seq (.ops c91r39) c91s52) := fun _ _ _ _ _ => rfl
@[go_sem] def c91r54 : List GOp := [mT S0, oT (.call 101 [T0]), mS 13 T0]
@[go_sem] def c91r55 : List GOp := [fT 0 S3, oN (.st 1 T0 (C 51))]
@[go_sem] def c91r56 : List GOp := [fT 1 S2, lT T0, fT 1 S3, oN (.st 1 T0 T1)]
@[go_sem] def c91r57 : List GOp := [mT S0, oT (.v (.nc T0)), fT 1 T0, lT T0, oT (.v (.bin .add T0 (C 1))), oT (.v (.nc T4)), fT 1 T0, oN (.st 1 T0 T2)]
@[go_sem] def c91r58 : List GOp := [mT S0, oT (.call 53 [T0, (.c (.string ⟨⟨[40]⟩⟩))]), oS 14 (.v (.un .not T0))]
@[go_sem] def c91r59 : List GOp := [mT S0, oT (.call 38 [T0, (C 2)])]
@[go_sem] def c91r60 : List GOp := [oT (.ld (some 5) S3), oN (.st 5 S1 T0)]
def c91s61 : SCode := (.seq (.ops c91r60) .ret)
@[go_sem] theorem c91s61eq : U c91s61 (.seq (.ops c91r60) .ret) := fun _ _ _ _ _ => rfl
def c91s62 : SCode := (.seq (.ops c91r59) c91s61)
@[go_sem] theorem c91s62eq : U c91s62 (.seq (.ops c91r59) c91s61) := fun _ _ _ _ _ => rfl
def c91s63 : SCode := (.cond S14 c91s62 .skip)
@[go_sem] theorem c91s63eq : U c91s63 (.cond S14 c91s62 .skip) := fun _ _ _ _ _ => rfl
@[go_sem] def c91r64 : List GOp := [mT S0, oT (.call 55 [T0])]
@[go_sem] def c91r65 : List GOp := [mT S0, oT (.v (.nc T0)), fT 3 T0, oS 15 (.ld none T0)]
@[go_sem] def c91r66 : List GOp := [oT (.ld (some 5) S3), oN (.st 5 S1 T0)]
def c91s67 : SCode := (.seq (.ops c91r66) .ret)
@[go_sem] theorem c91s67eq : U c91s67 (.seq (.ops c91r66) .ret) := fun _ _ _ _ _ => rfl
def c91s68 : SCode := (.cond S15 c91s67 .skip)
@[go_sem] theorem c91s68eq : U c91s68 (.cond S15 c91s67 .skip) := fun _ _ _ _ _ => rfl
@[go_sem] def c91r69 : List GOp := [mT S0, oT (.v (.nc T0)), fT 1 T0, lT T0, oT (.v (.bin .add T0 (C 1))), oT (.v (.nc T4)), fT 1 T0, oN (.st 1 T0 T2)]
@[go_sem] def c91r70 : List GOp := [mT S0, oT (.call 53 [T0, (.c (.string ⟨⟨[41]⟩⟩))]), oS 16 (.v (.un .not T0))]
@[go_sem] def c91d71 : DT := (rf 4 S3 [7, 9] (rl T0 [7, 9] (rm S0 [5, 6, 7, 9] (rf 1 S2 [5, 6, 7, 9] (rl T0 [5, 6, 7, 9] (.ef 5 none .t (.call 102 [T2, T0]) (.ef 6 none .t (.bs 25 1 [(I 0), (.string ⟨⟨[]⟩⟩), (I 0), (I 0), Z] [(0, (5, T0))]) (.ef 7 none .t (.ap 23 23 T5 T0) (rf 4 S3 [9] (.ef 9 none .no (.st 1 T0 T1) .done))))))))))
@[go_sem] def c91r72 : List GOp := [mT S0, oS 17 (.call 53 [T0, (.c (.string ⟨⟨[44]⟩⟩))])]
def c91s73 : SCode := (.cond S17 .skip (.exit 1))
@[go_sem] theorem c91s73eq : U c91s73 (.cond S17 .skip (.exit 1)) := fun _ _ _ _ _ => rfl
@[go_sem] def c91r74 : List GOp := [mT S0, oT (.v (.nc T0)), fT 1 T0, lT T0, oT (.v (.bin .add T0 (C 1))), oT (.v (.nc T4)), fT 1 T0, oN (.st 1 T0 T2)]
@[go_sem] def c91d75 : DT := (rf 4 S3 [7, 9] (rl T0 [7, 9] (rm S0 [5, 6, 7, 9] (rf 1 S2 [5, 6, 7, 9] (rl T0 [5, 6, 7, 9] (.ef 5 none .t (.call 102 [T2, T0]) (.ef 6 none .t (.bs 25 1 [(I 0), (.string ⟨⟨[]⟩⟩), (I 0), (I 0), Z] [(0, (5, T0))]) (.ef 7 none .t (.ap 23 23 T5 T0) (rf 4 S3 [9] (.ef 9 none .no (.st 1 T0 T1) .done))))))))))
def c91s76 : SCode := (.de c91d75)
@[go_sem] theorem c91s76eq : U c91s76 (.de c91d75) := fun _ _ _ _ _ => rfl
def c91s77 : SCode := (.block 2 (.seq (.ops c91r74) c91s76))
@[go_sem] theorem c91s77eq : U c91s77 (.block 2 (.seq (.ops c91r74) c91s76)) := fun _ _ _ _ _ => rfl
def c91s78 : SCode := (.seq (.seq (.ops c91r72) c91s73) c91s77)
@[go_sem] theorem c91s78eq : U c91s78 (.seq (.seq (.ops c91r72) c91s73) c91s77) := fun _ _ _ _ _ => rfl
def c91s79 : SCode := (.block 1 (.loop c91k c91s78))
@[go_sem] theorem c91s79eq : U c91s79 (.block 1 (.loop c91k c91s78)) := fun _ _ _ _ _ => rfl
def c91s80 : SCode := (.seq (.de c91d71) c91s79)
@[go_sem] theorem c91s80eq : U c91s80 (.seq (.de c91d71) c91s79) := fun _ _ _ _ _ => rfl
def c91s81 : SCode := (.cond S16 c91s80 .skip)
@[go_sem] theorem c91s81eq : U c91s81 (.cond S16 c91s80 .skip) := fun _ _ _ _ _ => rfl
@[go_sem] def c91r82 : List GOp := [mT S0, oT (.call 56 [T0, (.c (.string ⟨⟨[41]⟩⟩))])]
@[go_sem] def c91r83 : List GOp := [mT S0, oT (.v (.nc T0)), fT 2 T0, lT T0, oT (.v (.bin .sub T0 (C 1))), oT (.v (.nc T4)), fT 2 T0, oN (.st 1 T0 T2)]
def c91s84 : SCode := (.ops c91r83)
@[go_sem] theorem c91s84eq : U c91s84 (.ops c91r83) := fun _ _ _ _ _ => rfl
def c91s85 : SCode := (.seq (.ops c91r82) c91s84)
@[go_sem] theorem c91s85eq : U c91s85 (.seq (.ops c91r82) c91s84) := fun _ _ _ _ _ => rfl
def c91s86 : SCode := (.seq (.seq (.ops c91r70) c91s81) c91s85)
@[go_sem] theorem c91s86eq : U c91s86 (.seq (.seq (.ops c91r70) c91s81) c91s85) := fun _ _ _ _ _ => rfl
def c91s87 : SCode := (.seq (.ops c91r69) c91s86)
@[go_sem] theorem c91s87eq : U c91s87 (.seq (.ops c91r69) c91s86) := fun _ _ _ _ _ => rfl
def c91s88 : SCode := (.seq (.seq (.ops c91r65) c91s68) c91s87)
@[go_sem] theorem c91s88eq : U c91s88 (.seq (.seq (.ops c91r65) c91s68) c91s87) := fun _ _ _ _ _ => rfl
def c91s89 : SCode := (.seq (.ops c91r64) c91s88)
@[go_sem] theorem c91s89eq : U c91s89 (.seq (.ops c91r64) c91s88) := fun _ _ _ _ _ => rfl
def c91s90 : SCode := (.seq (.seq (.ops c91r58) c91s63) c91s89)
@[go_sem] theorem c91s90eq : U c91s90 (.seq (.seq (.ops c91r58) c91s63) c91s89) := fun _ _ _ _ _ => rfl
def c91s91 : SCode := (.seq (.ops c91r57) c91s90)
@[go_sem] theorem c91s91eq : U c91s91 (.seq (.ops c91r57) c91s90) := fun _ _ _ _ _ => rfl
def c91s92 : SCode := (.seq (.ops c91r56) c91s91)
@[go_sem] theorem c91s92eq : U c91s92 (.seq (.ops c91r56) c91s91) := fun _ _ _ _ _ => rfl
def c91s93 : SCode := (.seq (.ops c91r55) c91s92)
@[go_sem] theorem c91s93eq : U c91s93 (.seq (.ops c91r55) c91s92) := fun _ _ _ _ _ => rfl
@[go_sem] def c91r94 : List GOp := [mT S0, oT (.call 38 [T0, (C 2)])]
def c91s95 : SCode := (.cond S13 c91s93 (.ops c91r94))
@[go_sem] theorem c91s95eq : U c91s95 (.cond S13 c91s93 (.ops c91r94)) := fun _ _ _ _ _ => rfl
def c91s96 : SCode := (.seq (.ops c91r54) c91s95)
@[go_sem] theorem c91s96eq : U c91s96 (.seq (.ops c91r54) c91s95) := fun _ _ _ _ _ => rfl
def c91s97 : SCode := (.cond S11 c91s53 c91s96)
@[go_sem] theorem c91s97eq : U c91s97 (.cond S11 c91s53 c91s96) := fun _ _ _ _ _ => rfl
def c91s98 : SCode := (.seq (.ops c91r38) c91s97)
@[go_sem] theorem c91s98eq : U c91s98 (.seq (.ops c91r38) c91s97) := fun _ _ _ _ _ => rfl
def c91s99 : SCode := (.cond S10 c91s37 c91s98)
@[go_sem] theorem c91s99eq : U c91s99 (.cond S10 c91s37 c91s98) := fun _ _ _ _ _ => rfl
def c91s100 : SCode := (.seq (.ops c91r33) c91s99)
@[go_sem] theorem c91s100eq : U c91s100 (.seq (.ops c91r33) c91s99) := fun _ _ _ _ _ => rfl
def c91s101 : SCode := (.cond S9 c91s32 c91s100)
@[go_sem] theorem c91s101eq : U c91s101 (.cond S9 c91s32 c91s100) := fun _ _ _ _ _ => rfl
def c91s102 : SCode := (.seq (.ops c91r28) c91s101)
@[go_sem] theorem c91s102eq : U c91s102 (.seq (.ops c91r28) c91s101) := fun _ _ _ _ _ => rfl
def c91s103 : SCode := (.cond S8 c91s27 c91s102)
@[go_sem] theorem c91s103eq : U c91s103 (.cond S8 c91s27 c91s102) := fun _ _ _ _ _ => rfl
def c91s104 : SCode := (.seq (.ops c91r23) c91s103)
@[go_sem] theorem c91s104eq : U c91s104 (.seq (.ops c91r23) c91s103) := fun _ _ _ _ _ => rfl
def c91s105 : SCode := (.cond S7 c91s22 c91s104)
@[go_sem] theorem c91s105eq : U c91s105 (.cond S7 c91s22 c91s104) := fun _ _ _ _ _ => rfl
def c91s106 : SCode := (.seq (.ops c91r18) c91s105)
@[go_sem] theorem c91s106eq : U c91s106 (.seq (.ops c91r18) c91s105) := fun _ _ _ _ _ => rfl
def c91s107 : SCode := (.cond S6 c91s17 c91s106)
@[go_sem] theorem c91s107eq : U c91s107 (.cond S6 c91s17 c91s106) := fun _ _ _ _ _ => rfl
def c91s108 : SCode := (.seq (.ops c91r13) c91s107)
@[go_sem] theorem c91s108eq : U c91s108 (.seq (.ops c91r13) c91s107) := fun _ _ _ _ _ => rfl
def c91s109 : SCode := (.cond S5 c91s12 c91s108)
@[go_sem] theorem c91s109eq : U c91s109 (.cond S5 c91s12 c91s108) := fun _ _ _ _ _ => rfl
def c91s110 : SCode := (.seq (.ops c91r8) c91s109)
@[go_sem] theorem c91s110eq : U c91s110 (.seq (.ops c91r8) c91s109) := fun _ _ _ _ _ => rfl
def c91s111 : SCode := (.cond S4 c91s7 c91s110)
@[go_sem] theorem c91s111eq : U c91s111 (.cond S4 c91s7 c91s110) := fun _ _ _ _ _ => rfl
@[go_sem] def c91r112 : List GOp := [oT (.ld (some 5) S3), oN (.st 5 S1 T0)]
def c91s113 : SCode := (.seq (.ops c91r112) .ret)
@[go_sem] theorem c91s113eq : U c91s113 (.seq (.ops c91r112) .ret) := fun _ _ _ _ _ => rfl
def c91s114 : SCode := (.seq (.block 0 (.seq (.seq (.ops c91r3) c91s5) c91s111)) c91s113)
@[go_sem] theorem c91s114eq : U c91s114 (.seq (.block 0 (.seq (.seq (.ops c91r3) c91s5) c91s111)) c91s113) := fun _ _ _ _ _ => rfl
def c91s115 : SCode := (.seq (.ops c91r2) c91s114)
@[go_sem] theorem c91s115eq : U c91s115 (.seq (.ops c91r2) c91s114) := fun _ _ _ _ _ => rfl
def c91s116 : SCode := (.seq (.ops c91r1) c91s115)
@[go_sem] theorem c91s116eq : U c91s116 (.seq (.ops c91r1) c91s115) := fun _ _ _ _ _ => rfl
def c91 : Gx.Fn := ⟨182, c91k, (.seq (.ops c91r0) c91s116), [(.cell S1 (some 5))]⟩
theorem c91ok : stripFn Tryz.prog c91k Tryz.f91 = some c91 := by kernel_rfl

/- (*plexusref16.P).function -/
@[go_sem] def c101k : List Nat := [0, 2, 3, 4, 9, 17]
@[go_sem] def c101r0 : List GOp := [mS 1 (.c (.bool false))]
@[go_sem] def c101r1 : List GOp := [oT (.call 110 []), mS 2 T0]
@[go_sem] def c101r2 : List GOp := [mS 3 (C 0)]
@[go_sem] def c101r3 : List GOp := [mT S3, mT S2, nT T0, oS 4 (.v (.bin .lss T2 T0))]
def c101s4 : SCode := (.cond S4 .skip (.exit 0))
@[go_sem] theorem c101s4eq : U c101s4 (.cond S4 .skip (.exit 0)) := fun _ _ _ _ _ => rfl
@[go_sem] def c101r5 : List GOp := [mT S0, mT S2, mT S3, oT (.v (.ix 1 T1 T0)), lT T0, oS 5 (.call 53 [T4, T0])]
@[go_sem] def c101r6 : List GOp := [mS 1 (.c (.bool true))]
def c101s7 : SCode := (.seq (.ops c101r6) .ret)
@[go_sem] theorem c101s7eq : U c101s7 (.seq (.ops c101r6) .ret) := fun _ _ _ _ _ => rfl
@[go_sem] def c101r8 : List GOp := [mT S3, oT (.v (.bin .add T0 (C 1))), mS 3 T0]
def c101s9 : SCode := (.ops c101r8)
@[go_sem] theorem c101s9eq : U c101s9 (.ops c101r8) := fun _ _ _ _ _ => rfl
def c101s10 : SCode := (.seq (.block 1 (.seq (.ops c101r5) (.cond S5 c101s7 .skip))) c101s9)
@[go_sem] theorem c101s10eq : U c101s10 (.seq (.block 1 (.seq (.ops c101r5) (.cond S5 c101s7 .skip))) c101s9) := fun _ _ _ _ _ => rfl
def c101s11 : SCode := (.seq (.seq (.ops c101r3) c101s4) c101s10)
@[go_sem] theorem c101s11eq : U c101s11 (.seq (.seq (.ops c101r3) c101s4) c101s10) := fun _ _ _ _ _ => rfl
def c101s12 : SCode := (.block 0 (.loop c101k c101s11))
@[go_sem] theorem c101s12eq : U c101s12 (.block 0 (.loop c101k c101s11)) := fun _ _ _ _ _ => rfl
@[go_sem] def c101r13 : List GOp := [mS 1 (.c (.bool false))]
def c101s14 : SCode := (.seq (.ops c101r13) .ret)
@[go_sem] theorem c101s14eq : U c101s14 (.seq (.ops c101r13) .ret) := fun _ _ _ _ _ => rfl
def c101s15 : SCode := (.seq (.seq (.ops c101r2) c101s12) c101s14)
@[go_sem] theorem c101s15eq : U c101s15 (.seq (.seq (.ops c101r2) c101s12) c101s14) := fun _ _ _ _ _ => rfl
def c101s16 : SCode := (.seq (.ops c101r1) c101s15)
@[go_sem] theorem c101s16eq : U c101s16 (.seq (.ops c101r1) c101s15) := fun _ _ _ _ _ => rfl
def c101 : Gx.Fn := ⟨18, c101k, (.seq (.ops c101r0) c101s16), [(.tmp S1)]⟩
theorem c101ok : stripFn Tryz.prog c101k Tryz.f101 = some c101 := by kernel_rfl

/- (*plexusref16.P).argument -/
@[go_sem] def c102k : List Nat := [0, 1, 4, 5, 6, 12, 26]
@[go_sem] def c102r0 : List GOp := [oS 2 (.al 25 [(I 0), (.string ⟨⟨[]⟩⟩), (I 0), (I 0), Z])]
@[go_sem] def c102r1 : List GOp := [mT S0, oT (.call 36 [T0]), oT (.v (.fld1 3 T0)), oT (.v (.bld [(I 0), (.string ⟨⟨[]⟩⟩), (I 0), (I 0), Z] [(0, (1, (C 52))), (3, (1, T0))])), oS 3 (.al 25 [(I 0), (.string ⟨⟨[]⟩⟩), (I 0), (I 0), Z]), oN (.st 5 S3 T0)]
@[go_sem] def c102r2 : List GOp := [mT S1, oS 5 (.v (.bin .eql T0 (.c (.string ⟨⟨[114, 101, 99]⟩⟩))))]
@[go_sem] def c102r3 : List GOp := [mT S0, oT (.call 57 [T0, (C 1)]), fT 1 S3, oN (.st 1 T0 T1)]
@[go_sem] def c102r4 : List GOp := [mT S0, oT (.call 56 [T0, (.c (.string ⟨⟨[58]⟩⟩))])]
@[go_sem] def c102r5 : List GOp := [mT S0, oT (.call 34 [T0]), oT (.bs 25 1 [(I 0), (.string ⟨⟨[]⟩⟩), (I 0), (I 0), Z] [(0, (5, T0))]), fT 4 S3, oN (.st 1 T0 T1)]
@[go_sem] def c102r6 : List GOp := [oT (.ld (some 5) S3), oN (.st 5 S2 T0)]
def c102s7 : SCode := (.seq (.ops c102r6) .ret)
@[go_sem] theorem c102s7eq : U c102s7 (.seq (.ops c102r6) .ret) := fun _ _ _ _ _ => rfl
def c102s8 : SCode := (.seq (.ops c102r5) c102s7)
@[go_sem] theorem c102s8eq : U c102s8 (.seq (.ops c102r5) c102s7) := fun _ _ _ _ _ => rfl
def c102s9 : SCode := (.seq (.ops c102r4) c102s8)
@[go_sem] theorem c102s9eq : U c102s9 (.seq (.ops c102r4) c102s8) := fun _ _ _ _ _ => rfl
def c102s10 : SCode := (.seq (.ops c102r3) c102s9)
@[go_sem] theorem c102s10eq : U c102s10 (.seq (.ops c102r3) c102s9) := fun _ _ _ _ _ => rfl
def c102s11 : SCode := (.cond S5 c102s10 .skip)
@[go_sem] theorem c102s11eq : U c102s11 (.cond S5 c102s10 .skip) := fun _ _ _ _ _ => rfl
@[go_sem] def c102r12 : List GOp := [mT S0, oT (.call 34 [T0]), oS 4 (.al 25 [(I 0), (.string ⟨⟨[]⟩⟩), (I 0), (I 0), Z]), oN (.st 5 S4 T0)]
@[go_sem] def c102r13 : List GOp := [mT S1, oS 6 (.v (.bin .neq T0 (.c (.string ⟨⟨[109, 97, 112]⟩⟩))))]
@[go_sem] def c102r14 : List GOp := [oT (.ld (some 5) S4), oN (.st 5 S2 T0)]
def c102s15 : SCode := (.seq (.ops c102r14) .ret)
@[go_sem] theorem c102s15eq : U c102s15 (.seq (.ops c102r14) .ret) := fun _ _ _ _ _ => rfl
def c102s16 : SCode := (.cond S6 c102s15 .skip)
@[go_sem] theorem c102s16eq : U c102s16 (.cond S6 c102s15 .skip) := fun _ _ _ _ _ => rfl
@[go_sem] def c102r17 : List GOp := [mT S0, oT (.call 56 [T0, (.c (.string ⟨⟨[58]⟩⟩))])]
@[go_sem] def c102d18 : DT := (.rd none .t (.ld (some 5) S4) [3, 5] (rm S0 [2, 3, 5] (.ef 2 none .t (.call 34 [T0]) (.ef 3 none .t (.bs 25 2 [(I 0), (.string ⟨⟨[]⟩⟩), (I 0), (I 0), Z, (I 0), (.string ⟨⟨[]⟩⟩), (I 0), (I 0), Z] [(0, (5, T2)), (5, (5, T0))]) (rf 4 S3 [5] (.ef 5 none .no (.st 1 T0 T1) .done))))))
@[go_sem] def c102r19 : List GOp := [oT (.ld (some 5) S3), oN (.st 5 S2 T0)]
def c102s20 : SCode := (.seq (.ops c102r19) .ret)
@[go_sem] theorem c102s20eq : U c102s20 (.seq (.ops c102r19) .ret) := fun _ _ _ _ _ => rfl
def c102s21 : SCode := (.seq (.de c102d18) c102s20)
@[go_sem] theorem c102s21eq : U c102s21 (.seq (.de c102d18) c102s20) := fun _ _ _ _ _ => rfl
def c102s22 : SCode := (.seq (.ops c102r17) c102s21)
@[go_sem] theorem c102s22eq : U c102s22 (.seq (.ops c102r17) c102s21) := fun _ _ _ _ _ => rfl
def c102s23 : SCode := (.seq (.seq (.ops c102r13) c102s16) c102s22)
@[go_sem] theorem c102s23eq : U c102s23 (.seq (.seq (.ops c102r13) c102s16) c102s22) := fun _ _ _ _ _ => rfl
def c102s24 : SCode := (.seq (.ops c102r12) c102s23)
@[go_sem] theorem c102s24eq : U c102s24 (.seq (.ops c102r12) c102s23) := fun _ _ _ _ _ => rfl
def c102s25 : SCode := (.seq (.seq (.ops c102r2) c102s11) c102s24)
@[go_sem] theorem c102s25eq : U c102s25 (.seq (.seq (.ops c102r2) c102s11) c102s24) := fun _ _ _ _ _ => rfl
def c102s26 : SCode := (.seq (.ops c102r1) c102s25)
@[go_sem] theorem c102s26eq : U c102s26 (.seq (.ops c102r1) c102s25) := fun _ _ _ _ _ => rfl
def c102 : Gx.Fn := ⟨36, c102k, (.seq (.ops c102r0) c102s26), [(.cell S2 (some 5))]⟩
theorem c102ok : stripFn Tryz.prog c102k Tryz.f102 = some c102 := by kernel_rfl

/- plexusref16.Functions -/
@[go_sem] def c110k : List Nat := [0]
@[go_sem] def c110r0 : List GOp := [mS 0 (.c Z)]
@[go_sem] def c110r1 : List GOp := [oT (.bs 9 17 [(.string ⟨⟨[]⟩⟩), (.string ⟨⟨[]⟩⟩), (.string ⟨⟨[]⟩⟩), (.string ⟨⟨[]⟩⟩), (.string ⟨⟨[]⟩⟩), (.string ⟨⟨[]⟩⟩), (.string ⟨⟨[]⟩⟩), (.string ⟨⟨[]⟩⟩), (.string ⟨⟨[]⟩⟩), (.string ⟨⟨[]⟩⟩), (.string ⟨⟨[]⟩⟩), (.string ⟨⟨[]⟩⟩), (.string ⟨⟨[]⟩⟩), (.string ⟨⟨[]⟩⟩), (.string ⟨⟨[]⟩⟩), (.string ⟨⟨[]⟩⟩), (.string ⟨⟨[]⟩⟩)] [(0, (1, (.c (.string ⟨⟨[102, 108, 97, 103]⟩⟩)))), (1, (1, (.c (.string ⟨⟨[110, 117, 109]⟩⟩)))), (2, (1, (.c (.string ⟨⟨[115, 101, 116]⟩⟩)))), (3, (1, (.c (.string ⟨⟨[109, 97, 112]⟩⟩)))), (4, (1, (.c (.string ⟨⟨[114, 101, 99]⟩⟩)))), (5, (1, (.c (.string ⟨⟨[112, 97, 105, 114]⟩⟩)))), (6, (1, (.c (.string ⟨⟨[111, 110, 101]⟩⟩)))), (7, (1, (.c (.string ⟨⟨[119, 114, 105, 116, 101]⟩⟩)))), (8, (1, (.c (.string ⟨⟨[115, 105, 122, 101]⟩⟩)))), (9, (1, (.c (.string ⟨⟨[115, 117, 109]⟩⟩)))), (10, (1, (.c (.string ⟨⟨[110, 117, 109, 98, 101, 114]⟩⟩)))), (11, (1, (.c (.string ⟨⟨[111, 110]⟩⟩)))), (12, (1, (.c (.string ⟨⟨[107, 101, 121, 115]⟩⟩)))), (13, (1, (.c (.string ⟨⟨[118, 97, 108, 117, 101, 115]⟩⟩)))), (14, (1, (.c (.string ⟨⟨[102, 105, 114, 115, 116]⟩⟩)))), (15, (1, (.c (.string ⟨⟨[115, 101, 99, 111, 110, 100]⟩⟩)))), (16, (1, (.c (.string ⟨⟨[99, 111, 110, 102, 108, 105, 99, 116]⟩⟩))))]), mS 0 T0]
def c110s2 : SCode := (.seq (.ops c110r1) .ret)
@[go_sem] theorem c110s2eq : U c110s2 (.seq (.ops c110r1) .ret) := fun _ _ _ _ _ => rfl
def c110 : Gx.Fn := ⟨2, c110k, (.seq (.ops c110r0) c110s2), [(.tmp S0)]⟩
theorem c110ok : stripFn Tryz.prog c110k Tryz.f110 = some c110 := by kernel_rfl

end Go.Proofs.YtbgjgaaobnbijaaGreatDoor
end
