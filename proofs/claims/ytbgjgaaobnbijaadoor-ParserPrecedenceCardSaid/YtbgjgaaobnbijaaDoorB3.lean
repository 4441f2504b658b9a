import Derived.Test.YtbgjgaaobnbijaaDoorProg
import Derived.Test.YtbgjgaaobnbijaaDoorB2
import Derived.Recover
section
/- Generated: the stripped code of Go functions, each held against the loaded program. -/
namespace Go.Proofs.YtbgjgaaobnbijaaDoor
open Gx Go

/- parser.Expression$1 -/
@[go_sem] def c25k : List Nat := [0, 2]
@[go_sem] def c25r0 : List GOp := [oS 1 (.al 24 [(I 0), (.string ⟨⟨[]⟩⟩), (I 0), (I 0), Z])]
@[go_sem] def c25r1 : List GOp := [mT S0, oT (.call 26 [T0]), oN (.st 5 S1 T0)]
def c25s2 : SCode := (.seq (.ops c25r1) .ret)
@[go_sem] theorem c25s2eq : U c25s2 (.seq (.ops c25r1) .ret) := fun _ _ _ _ _ => rfl
def c25 : Gx.Fn := ⟨5, c25k, (.seq (.ops c25r0) c25s2), [(.cell S1 (some 5))]⟩
theorem c25ok : stripFn Tryd.prog c25k Tryd.f25 = some c25 := by kernel_rfl

/- (*parser.parser).expression -/
@[go_sem] def c26k : List Nat := [0, 2, 3, 4, 5, 8]
@[go_sem] def c26r0 : List GOp := [oS 1 (.al 24 [(I 0), (.string ⟨⟨[]⟩⟩), (I 0), (I 0), Z])]
@[go_sem] def c26r1 : List GOp := [mT S0, oT (.call 35 [T0, (.c (.string ⟨⟨[105, 102]⟩⟩))]), oS 5 (.v (.un .not T0))]
@[go_sem] def c26r2 : List GOp := [mT S0, oT (.call 36 [T0]), oN (.st 5 S1 T0)]
def c26s3 : SCode := (.seq (.ops c26r2) .ret)
@[go_sem] theorem c26s3eq : U c26s3 (.seq (.ops c26r2) .ret) := fun _ _ _ _ _ => rfl
@[go_sem] def c26r4 : List GOp := [mT S0, oT (.call 37 [T0, (.c (.string ⟨⟨[105, 102]⟩⟩))]), oT (.v (.bld [(I 0), (.string ⟨⟨[]⟩⟩), (I 0), (I 0), Z] [(0, (1, (C 30))), (3, (1, T0))])), oS 2 (.al 24 [(I 0), (.string ⟨⟨[]⟩⟩), (I 0), (I 0), Z]), oN (.st 5 S2 T0)]
@[go_sem] def c26r5 : List GOp := [mT S0, oT (.call 26 [T0]), oS 3 (.al 24 [(I 0), (.string ⟨⟨[]⟩⟩), (I 0), (I 0), Z]), oN (.st 5 S3 T0)]
@[go_sem] def c26r6 : List GOp := [mT S0, oT (.call 38 [T0, (.c (.string ⟨⟨[116, 104, 101, 110]⟩⟩))])]
@[go_sem] def c26r7 : List GOp := [mT S0, oT (.call 26 [T0]), oS 4 (.al 24 [(I 0), (.string ⟨⟨[]⟩⟩), (I 0), (I 0), Z]), oN (.st 5 S4 T0)]
@[go_sem] def c26r8 : List GOp := [mT S0, oT (.call 38 [T0, (.c (.string ⟨⟨[101, 108, 115, 101]⟩⟩))])]
@[go_sem] def c26d9 : DT := (.rd none .t (.ld (some 5) S3) [4, 6] (.rd none .t (.ld (some 5) S4) [4, 6] (rm S0 [3, 4, 6] (.ef 3 none .t (.call 26 [T0]) (.ef 4 none .t (.bs 24 3 [(I 0), (.string ⟨⟨[]⟩⟩), (I 0), (I 0), Z, (I 0), (.string ⟨⟨[]⟩⟩), (I 0), (I 0), Z, (I 0), (.string ⟨⟨[]⟩⟩), (I 0), (I 0), Z] [(0, (5, T3)), (5, (5, T2)), (10, (5, T0))]) (rf 4 S2 [6] (.ef 6 none .no (.st 1 T0 T1) .done)))))))
@[go_sem] def c26r10 : List GOp := [mT S0, oT (.call 39 [T0])]
@[go_sem] def c26r11 : List GOp := [oT (.ld (some 5) S2), oN (.st 5 S1 T0)]
def c26s12 : SCode := (.seq (.ops c26r11) .ret)
@[go_sem] theorem c26s12eq : U c26s12 (.seq (.ops c26r11) .ret) := fun _ _ _ _ _ => rfl
def c26s13 : SCode := (.seq (.ops c26r10) c26s12)
@[go_sem] theorem c26s13eq : U c26s13 (.seq (.ops c26r10) c26s12) := fun _ _ _ _ _ => rfl
def c26s14 : SCode := (.seq (.de c26d9) c26s13)
@[go_sem] theorem c26s14eq : U c26s14 (.seq (.de c26d9) c26s13) := fun _ _ _ _ _ => rfl
def c26s15 : SCode := (.seq (.ops c26r8) c26s14)
@[go_sem] theorem c26s15eq : U c26s15 (.seq (.ops c26r8) c26s14) := fun _ _ _ _ _ => rfl
def c26s16 : SCode := (.seq (.ops c26r7) c26s15)
@[go_sem] theorem c26s16eq : U c26s16 (.seq (.ops c26r7) c26s15) := fun _ _ _ _ _ => rfl
def c26s17 : SCode := (.seq (.ops c26r6) c26s16)
@[go_sem] theorem c26s17eq : U c26s17 (.seq (.ops c26r6) c26s16) := fun _ _ _ _ _ => rfl
def c26s18 : SCode := (.seq (.ops c26r5) c26s17)
@[go_sem] theorem c26s18eq : U c26s18 (.seq (.ops c26r5) c26s17) := fun _ _ _ _ _ => rfl
def c26s19 : SCode := (.seq (.ops c26r4) c26s18)
@[go_sem] theorem c26s19eq : U c26s19 (.seq (.ops c26r4) c26s18) := fun _ _ _ _ _ => rfl
def c26s20 : SCode := (.seq (.seq (.ops c26r1) (.cond S5 c26s3 .skip)) c26s19)
@[go_sem] theorem c26s20eq : U c26s20 (.seq (.seq (.ops c26r1) (.cond S5 c26s3 .skip)) c26s19) := fun _ _ _ _ _ => rfl
def c26 : Gx.Fn := ⟨31, c26k, (.seq (.ops c26r0) c26s20), [(.cell S1 (some 5))]⟩
theorem c26ok : stripFn Tryd.prog c26k Tryd.f26 = some c26 := by kernel_rfl

/- parser.Parse$1 -/
@[go_sem] def c28k : List Nat := [0, 2, 3, 8]
@[go_sem] def c28r0 : List GOp := [oS 1 (.al 24 [(I 0), (.string ⟨⟨[]⟩⟩), (I 0), (I 0), Z])]
@[go_sem] def c28r1 : List GOp := [oT (.v (.bld [(I 0), (.string ⟨⟨[]⟩⟩), (I 0), (I 0), Z] [(0, (1, (C 1)))])), oS 2 (.al 24 [(I 0), (.string ⟨⟨[]⟩⟩), (I 0), (I 0), Z]), oN (.st 5 S2 T0)]
@[go_sem] def c28r2 : List GOp := [mT S0, oT (.call 29 [T0]), oT (.v (.fld1 0 T0)), oS 3 (.v (.bin .neq T0 (C 6)))]
def c28s3 : SCode := (.cond S3 .skip (.exit 0))
@[go_sem] theorem c28s3eq : U c28s3 (.cond S3 .skip (.exit 0)) := fun _ _ _ _ _ => rfl
@[go_sem] def c28d4 : DT := (rf 4 S2 [5, 7] (rl T0 [5, 7] (rm S0 [3, 4, 5, 7] (.ef 3 none .t (.call 30 [T0]) (.ef 4 none .t (.bs 24 1 [(I 0), (.string ⟨⟨[]⟩⟩), (I 0), (I 0), Z] [(0, (5, T0))]) (.ef 5 none .t (.ap 22 22 T3 T0) (rf 4 S2 [7] (.ef 7 none .no (.st 1 T0 T1) .done))))))))
def c28s5 : SCode := (.seq (.seq (.ops c28r2) c28s3) (.block 1 (.de c28d4)))
@[go_sem] theorem c28s5eq : U c28s5 (.seq (.seq (.ops c28r2) c28s3) (.block 1 (.de c28d4))) := fun _ _ _ _ _ => rfl
@[go_sem] def c28r6 : List GOp := [oT (.ld (some 5) S2), oN (.st 5 S1 T0)]
def c28s7 : SCode := (.seq (.ops c28r6) .ret)
@[go_sem] theorem c28s7eq : U c28s7 (.seq (.ops c28r6) .ret) := fun _ _ _ _ _ => rfl
def c28s8 : SCode := (.seq (.block 0 (.loop c28k c28s5)) c28s7)
@[go_sem] theorem c28s8eq : U c28s8 (.seq (.block 0 (.loop c28k c28s5)) c28s7) := fun _ _ _ _ _ => rfl
def c28s9 : SCode := (.seq (.ops c28r1) c28s8)
@[go_sem] theorem c28s9eq : U c28s9 (.seq (.ops c28r1) c28s8) := fun _ _ _ _ _ => rfl
def c28 : Gx.Fn := ⟨17, c28k, (.seq (.ops c28r0) c28s9), [(.cell S1 (some 5))]⟩
theorem c28ok : stripFn Tryd.prog c28k Tryd.f28 = some c28 := by kernel_rfl

/- (*parser.parser).look -/
@[go_sem] def c29k : List Nat := [0, 2]
@[go_sem] def c29r0 : List GOp := [oS 1 (.al 39 [(I 0), (.string ⟨⟨[]⟩⟩), (I 0), (I 0)])]
@[go_sem] def c29d1 : DT := (rm S0 [10] (.rd none .t (.v (.nc T0)) [10] (rf 0 T0 [10] (rl T0 [10] (rm S0 [10] (.rd none .t (.v (.nc T0)) [10] (rf 1 T0 [10] (rl T0 [10] (.rd none .t (.v (.ix 4 T4 T0)) [10] (.rd none .t (.ld (some 4) T0) [10] (.ef 10 none .no (.st 4 S1 T0) .done)))))))))))
def c29 : Gx.Fn := ⟨13, c29k, (.seq (.ops c29r0) (.seq (.de c29d1) .ret)), [(.cell S1 (some 4))]⟩
theorem c29ok : stripFn Tryd.prog c29k Tryd.f29 = some c29 := by kernel_rfl

/- (*parser.parser).declaration -/
@[go_sem] def c30k : List Nat := [0, 2, 3, 4, 11, 15, 19, 23, 32, 38, 59, 74, 82]
@[go_sem] def c30r0 : List GOp := [oS 1 (.al 24 [(I 0), (.string ⟨⟨[]⟩⟩), (I 0), (I 0), Z])]
@[go_sem] def c30r1 : List GOp := [mT S0, oT (.call 29 [T0]), oT (.v (.fld1 3 T0)), oT (.v (.bld [(I 0), (.string ⟨⟨[]⟩⟩), (I 0), (I 0), Z] [(3, (1, T0))])), oS 2 (.al 24 [(I 0), (.string ⟨⟨[]⟩⟩), (I 0), (I 0), Z]), oN (.st 5 S2 T0)]
@[go_sem] def c30r2 : List GOp := [mT S0, oT (.call 42 [T0, (.c (.string ⟨⟨[108, 97, 116, 116, 105, 99, 101]⟩⟩))]), mS 4 T0]
@[go_sem] def c30r3 : List GOp := [fT 0 S2, oN (.st 1 T0 (C 2))]
@[go_sem] def c30r4 : List GOp := [mT S0, oT (.call 42 [T0, (.c (.string ⟨⟨[111, 98, 106, 101, 99, 116]⟩⟩))]), mS 5 T0]
@[go_sem] def c30r5 : List GOp := [fT 0 S2, oN (.st 1 T0 (C 3))]
@[go_sem] def c30r6 : List GOp := [mT S0, oT (.call 42 [T0, (.c (.string ⟨⟨[117, 112, 100, 97, 116, 101]⟩⟩))]), mS 6 T0]
@[go_sem] def c30r7 : List GOp := [fT 0 S2, oN (.st 1 T0 (C 4))]
@[go_sem] def c30r8 : List GOp := [mT S0, oT (.call 42 [T0, (.c (.string ⟨⟨[113, 117, 101, 114, 121]⟩⟩))]), mS 7 T0]
@[go_sem] def c30r9 : List GOp := [fT 0 S2, oN (.st 1 T0 (C 5))]
@[go_sem] def c30r10 : List GOp := [mT S0, oT (.call 34 [T0, (C 2)])]
def c30s11 : SCode := (.cond S7 (.ops c30r9) (.ops c30r10))
@[go_sem] theorem c30s11eq : U c30s11 (.cond S7 (.ops c30r9) (.ops c30r10)) := fun _ _ _ _ _ => rfl
def c30s12 : SCode := (.seq (.ops c30r8) c30s11)
@[go_sem] theorem c30s12eq : U c30s12 (.seq (.ops c30r8) c30s11) := fun _ _ _ _ _ => rfl
def c30s13 : SCode := (.cond S6 (.ops c30r7) c30s12)
@[go_sem] theorem c30s13eq : U c30s13 (.cond S6 (.ops c30r7) c30s12) := fun _ _ _ _ _ => rfl
def c30s14 : SCode := (.seq (.ops c30r6) c30s13)
@[go_sem] theorem c30s14eq : U c30s14 (.seq (.ops c30r6) c30s13) := fun _ _ _ _ _ => rfl
def c30s15 : SCode := (.cond S5 (.ops c30r5) c30s14)
@[go_sem] theorem c30s15eq : U c30s15 (.cond S5 (.ops c30r5) c30s14) := fun _ _ _ _ _ => rfl
def c30s16 : SCode := (.seq (.ops c30r4) c30s15)
@[go_sem] theorem c30s16eq : U c30s16 (.seq (.ops c30r4) c30s15) := fun _ _ _ _ _ => rfl
def c30s17 : SCode := (.cond S4 (.ops c30r3) c30s16)
@[go_sem] theorem c30s17eq : U c30s17 (.cond S4 (.ops c30r3) c30s16) := fun _ _ _ _ _ => rfl
@[go_sem] def c30r18 : List GOp := [mT S0, oT (.call 43 [T0, (C 1)]), oT (.v (.fld1 1 T0)), fT 1 S2, oN (.st 1 T0 T1)]
@[go_sem] def c30r19 : List GOp := [fT 0 S2, oS 8 (.ld none T0)]
@[go_sem] def c30r20 : List GOp := [oT (.v (.bin .eql S8 (C 2))), mS 11 T0]
@[go_sem] def c30r21 : List GOp := [mT S0, oT (.call 38 [T0, (.c (.string ⟨⟨[61]⟩⟩))])]
@[go_sem] def c30r22 : List GOp := [mT S0, oT (.call 44 [T0]), oT (.bs 24 1 [(I 0), (.string ⟨⟨[]⟩⟩), (I 0), (I 0), Z] [(0, (5, T0))]), fT 4 S2, oN (.st 1 T0 T1)]
def c30s23 : SCode := (.ops c30r22)
@[go_sem] theorem c30s23eq : U c30s23 (.ops c30r22) := fun _ _ _ _ _ => rfl
def c30s24 : SCode := (.seq (.ops c30r21) c30s23)
@[go_sem] theorem c30s24eq : U c30s24 (.seq (.ops c30r21) c30s23) := fun _ _ _ _ _ => rfl
@[go_sem] def c30r25 : List GOp := [oT (.v (.bin .eql S8 (C 3))), mS 12 T0]
@[go_sem] def c30r26 : List GOp := [mT S0, oT (.call 38 [T0, (.c (.string ⟨⟨[58]⟩⟩))])]
@[go_sem] def c30r27 : List GOp := [mT S0, oT (.call 44 [T0]), oT (.bs 24 1 [(I 0), (.string ⟨⟨[]⟩⟩), (I 0), (I 0), Z] [(0, (5, T0))]), fT 4 S2, oN (.st 1 T0 T1)]
def c30s28 : SCode := (.ops c30r27)
@[go_sem] theorem c30s28eq : U c30s28 (.ops c30r27) := fun _ _ _ _ _ => rfl
def c30s29 : SCode := (.seq (.ops c30r26) c30s28)
@[go_sem] theorem c30s29eq : U c30s29 (.seq (.ops c30r26) c30s28) := fun _ _ _ _ _ => rfl
@[go_sem] def c30r30 : List GOp := [mT S0, oT (.call 38 [T0, (.c (.string ⟨⟨[40]⟩⟩))])]
@[go_sem] def c30r31 : List GOp := [mT S0, oT (.call 42 [T0, (.c (.string ⟨⟨[41]⟩⟩))]), oT (.v (.un .not T0)), mS 3 T0]
@[go_sem] def c30r32 : List GOp := [mS 9 S3]
def c30s33 : SCode := (.cond S9 .skip (.exit 2))
@[go_sem] theorem c30s33eq : U c30s33 (.cond S9 .skip (.exit 2)) := fun _ _ _ _ _ => rfl
@[go_sem] def c30d34 : DT := (rf 4 S2 [5, 7] (rl T0 [5, 7] (rm S0 [3, 4, 5, 7] (.ef 3 none .t (.call 46 [T0]) (.ef 4 none .t (.bs 24 1 [(I 0), (.string ⟨⟨[]⟩⟩), (I 0), (I 0), Z] [(0, (5, T0))]) (.ef 5 none .t (.ap 22 22 T3 T0) (rf 4 S2 [7] (.ef 7 none .no (.st 1 T0 T1) .done))))))))
@[go_sem] def c30r35 : List GOp := [mT S0, oT (.call 45 [T0]), mS 3 T0]
def c30s36 : SCode := (.ops c30r35)
@[go_sem] theorem c30s36eq : U c30s36 (.ops c30r35) := fun _ _ _ _ _ => rfl
def c30s37 : SCode := (.seq (.block 3 (.de c30d34)) c30s36)
@[go_sem] theorem c30s37eq : U c30s37 (.seq (.block 3 (.de c30d34)) c30s36) := fun _ _ _ _ _ => rfl
def c30s38 : SCode := (.seq (.seq (.ops c30r32) c30s33) c30s37)
@[go_sem] theorem c30s38eq : U c30s38 (.seq (.seq (.ops c30r32) c30s33) c30s37) := fun _ _ _ _ _ => rfl
def c30s39 : SCode := (.block 2 (.loop c30k c30s38))
@[go_sem] theorem c30s39eq : U c30s39 (.block 2 (.loop c30k c30s38)) := fun _ _ _ _ _ => rfl
@[go_sem] def c30r40 : List GOp := [mT S0, oT (.call 38 [T0, (.c (.string ⟨⟨[111, 110]⟩⟩))])]
@[go_sem] def c30d41 : DT := (rf 4 S2 [5, 7] (rl T0 [5, 7] (rm S0 [3, 4, 5, 7] (.ef 3 none .t (.call 47 [T0, (C 48)]) (.ef 4 none .t (.bs 24 1 [(I 0), (.string ⟨⟨[]⟩⟩), (I 0), (I 0), Z] [(0, (5, T0))]) (.ef 5 none .t (.ap 22 22 T3 T0) (rf 4 S2 [7] (.ef 7 none .no (.st 1 T0 T1) .done))))))))
@[go_sem] def c30r42 : List GOp := [fT 0 S2, lT T0, oS 10 (.v (.bin .eql T0 (C 5)))]
@[go_sem] def c30r43 : List GOp := [mT S0, oT (.call 38 [T0, (.c (.string ⟨⟨[58]⟩⟩))])]
@[go_sem] def c30r44 : List GOp := [mT S0, oT (.call 48 [T0]), fT 2 S2, oN (.st 1 T0 T1)]
def c30s45 : SCode := (.ops c30r44)
@[go_sem] theorem c30s45eq : U c30s45 (.ops c30r44) := fun _ _ _ _ _ => rfl
def c30s46 : SCode := (.seq (.ops c30r43) c30s45)
@[go_sem] theorem c30s46eq : U c30s46 (.seq (.ops c30r43) c30s45) := fun _ _ _ _ _ => rfl
def c30s47 : SCode := (.cond S10 c30s46 .skip)
@[go_sem] theorem c30s47eq : U c30s47 (.cond S10 c30s46 .skip) := fun _ _ _ _ _ => rfl
@[go_sem] def c30r48 : List GOp := [mT S0, oT (.call 38 [T0, (.c (.string ⟨⟨[61]⟩⟩))])]
@[go_sem] def c30d49 : DT := (rf 4 S2 [5, 7] (rl T0 [5, 7] (rm S0 [3, 4, 5, 7] (.ef 3 none .t (.call 26 [T0]) (.ef 4 none .t (.bs 24 1 [(I 0), (.string ⟨⟨[]⟩⟩), (I 0), (I 0), Z] [(0, (5, T0))]) (.ef 5 none .t (.ap 22 22 T3 T0) (rf 4 S2 [7] (.ef 7 none .no (.st 1 T0 T1) .done))))))))
def c30s50 : SCode := (.de c30d49)
@[go_sem] theorem c30s50eq : U c30s50 (.de c30d49) := fun _ _ _ _ _ => rfl
def c30s51 : SCode := (.seq (.ops c30r48) c30s50)
theorem c30s51eq : U c30s51 (.seq (.ops c30r48) c30s50) := fun _ _ _ _ _ => rfl
def c30s52 : SCode := (.seq (.seq (.ops c30r42) c30s47) c30s51)
@[go_sem] theorem c30s52eq : U c30s52 (.seq (.seq (.ops c30r42) c30s47) c30s51) := fun _ _ _ _ _ => rfl
def c30s53 : SCode := (.seq (.de c30d41) c30s52)
@[go_sem] theorem c30s53eq : U c30s53 (.seq (.de c30d41) c30s52) := fun _ _ _ _ _ => rfl
def c30s54 : SCode := (.seq (.ops c30r40) c30s53)
@[go_sem] theorem c30s54eq : U c30s54 (.seq (.ops c30r40) c30s53) := fun _ _ _ _ _ => rfl
def c30s55 : SCode := (.seq (.seq (.ops c30r31) c30s39) c30s54)
@[go_sem] theorem c30s55eq : U c30s55 (.seq (.seq (.ops c30r31) c30s39) c30s54) := fun _ _ _ _ _ => rfl
def c30s56 : SCode := (.seq (.ops c30r30) c30s55)
theorem c30s56eq : U c30s56 (.seq (.ops c30r30) c30s55) := fun _ _ _ _ _ => rfl
def c30s57 : SCode := (.cond S12 c30s29 c30s56)
@[go_sem] theorem c30s57eq : U c30s57 (.cond S12 c30s29 c30s56) := fun _ _ _ _ _ => rfl
def c30s58 : SCode := (.seq (.ops c30r25) c30s57)
@[go_sem] theorem c30s58eq : U c30s58 (.seq (.ops c30r25) c30s57) := fun _ _ _ _ _ => rfl
def c30s59 : SCode := (.cond S11 c30s24 c30s58)
@[go_sem] theorem c30s59eq : U c30s59 (.cond S11 c30s24 c30s58) := fun _ _ _ _ _ => rfl
def c30s60 : SCode := (.block 1 (.seq (.ops c30r20) c30s59))
@[go_sem] theorem c30s60eq : U c30s60 (.block 1 (.seq (.ops c30r20) c30s59)) := fun _ _ _ _ _ => rfl
@[go_sem] def c30r61 : List GOp := [mT S0, oT (.call 38 [T0, (.c (.string ⟨⟨[59]⟩⟩))])]
@[go_sem] def c30r62 : List GOp := [oT (.ld (some 5) S2), oN (.st 5 S1 T0)]
def c30s63 : SCode := (.seq (.ops c30r62) .ret)
@[go_sem] theorem c30s63eq : U c30s63 (.seq (.ops c30r62) .ret) := fun _ _ _ _ _ => rfl
def c30s64 : SCode := (.seq (.ops c30r61) c30s63)
@[go_sem] theorem c30s64eq : U c30s64 (.seq (.ops c30r61) c30s63) := fun _ _ _ _ _ => rfl
def c30s65 : SCode := (.seq (.seq (.ops c30r19) c30s60) c30s64)
@[go_sem] theorem c30s65eq : U c30s65 (.seq (.seq (.ops c30r19) c30s60) c30s64) := fun _ _ _ _ _ => rfl
def c30s66 : SCode := (.seq (.ops c30r18) c30s65)
@[go_sem] theorem c30s66eq : U c30s66 (.seq (.ops c30r18) c30s65) := fun _ _ _ _ _ => rfl
def c30s67 : SCode := (.seq (.block 0 (.seq (.ops c30r2) c30s17)) c30s66)
@[go_sem] theorem c30s67eq : U c30s67 (.seq (.block 0 (.seq (.ops c30r2) c30s17)) c30s66) := fun _ _ _ _ _ => rfl
def c30s68 : SCode := (.seq (.ops c30r1) c30s67)
@[go_sem] theorem c30s68eq : U c30s68 (.seq (.ops c30r1) c30s67) := fun _ _ _ _ _ => rfl
def c30 : Gx.Fn := ⟨93, c30k, (.seq (.ops c30r0) c30s68), [(.cell S1 (some 5))]⟩
theorem c30ok : stripFn Tryd.prog c30k Tryd.f30 = some c30 := by kernel_rfl

/- (*parser.parser).fail -/
@[go_sem] def c34k : List Nat := [0, 1]
@[go_sem] def c34r0 : List GOp := [mT S1, mT S0, oT (.call 29 [T0]), oT (.v (.fld1 3 T0)), oT (.v (.bld [(I 0), (I 0)] [(0, (1, T3)), (1, (1, T0))])), oT (.v (.mki 31 T0)), oN (.pnc T0)]
def c34 : Gx.Fn := ⟨10, c34k, (.ops c34r0), []⟩
theorem c34ok : stripFn Tryd.prog c34k Tryd.f34 = some c34 := by kernel_rfl

/- (*parser.parser).is -/
@[go_sem] def c35k : List Nat := [0, 1, 4, 5]
@[go_sem] def c35r0 : List GOp := [mS 2 (.c (.bool false))]
@[go_sem] def c35r1 : List GOp := [mT S0, oT (.call 29 [T0]), oS 3 (.al 39 [(I 0), (.string ⟨⟨[]⟩⟩), (I 0), (I 0)]), oN (.st 4 S3 T0)]
@[go_sem] def c35r2 : List GOp := [fT 0 S3, lT T0, oT (.v (.bin .eql T0 (C 2))), mT T0, (.sel T0 false [(.op (.v (.fa 0 S3))), (.op (.ld none T0)), (.op (.v (.bin .eql T0 (C 5))))] .t (.c (.bool true)) T0), mT T0, (.sel T0 true [(.op (.v (.fa 1 S3))), (.op (.ld none T0)), (.op (.v (.mv S1))), (.op (.v (.bin .eql T1 T0)))] .t T0 (.c (.bool false))), mS 2 T0]
def c35s3 : SCode := (.seq (.ops c35r2) .ret)
@[go_sem] theorem c35s3eq : U c35s3 (.seq (.ops c35r2) .ret) := fun _ _ _ _ _ => rfl
def c35s4 : SCode := (.seq (.ops c35r1) c35s3)
@[go_sem] theorem c35s4eq : U c35s4 (.seq (.ops c35r1) c35s3) := fun _ _ _ _ _ => rfl
def c35 : Gx.Fn := ⟨22, c35k, (.seq (.ops c35r0) c35s4), [(.tmp S2)]⟩
theorem c35ok : stripFn Tryd.prog c35k Tryd.f35 = some c35 := by kernel_rfl

/- (*parser.parser).or -/
@[go_sem] def c36k : List Nat := [0, 2]
@[go_sem] def c36r0 : List GOp := [oS 1 (.al 24 [(I 0), (.string ⟨⟨[]⟩⟩), (I 0), (I 0), Z])]
@[go_sem] def c36r1 : List GOp := [mT S0, mT S0, oT (.v (.mkf 57 [T0] [])), oT .mm, oN (.ins T0 (.c (.string ⟨⟨[111, 114]⟩⟩)) (C 31)), mT T0, oT (.call 56 [T4, T2, T0]), oN (.st 5 S1 T0)]
def c36s2 : SCode := (.seq (.ops c36r1) .ret)
@[go_sem] theorem c36s2eq : U c36s2 (.seq (.ops c36r1) .ret) := fun _ _ _ _ _ => rfl
def c36 : Gx.Fn := ⟨9, c36k, (.seq (.ops c36r0) c36s2), [(.cell S1 (some 5))]⟩
theorem c36ok : stripFn Tryd.prog c36k Tryd.f36 = some c36 := by kernel_rfl

/- (*parser.parser).enter -/
@[go_sem] def c37k : List Nat := [0, 1, 4, 5, 15]
@[go_sem] def c37r0 : List GOp := [mS 2 (C 0)]
@[go_sem] def c37r1 : List GOp := [mT S0, mT S1, oT (.call 35 [T1, T0]), mT T0, (.sel T0 true [(.op (.v (.mv S0))), (.op (.v (.nc T0))), (.op (.v (.fa 2 T0))), (.op (.ld none T0)), (.op (.v (.bin .eql T0 (C 64))))] (.s 4) T0 (.c (.bool false)))]
@[go_sem] def c37r2 : List GOp := [mT S0, oT (.call 34 [T0, (C 6)])]
def c37s3 : SCode := (.cond S4 (.ops c37r2) .skip)
@[go_sem] theorem c37s3eq : U c37s3 (.cond S4 (.ops c37r2) .skip) := fun _ _ _ _ _ => rfl
@[go_sem] def c37r4 : List GOp := [mT S0, mT S1, oT (.call 38 [T1, T0]), mS 3 T0]
@[go_sem] def c37r5 : List GOp := [mT S0, oT (.v (.nc T0)), fT 2 T0, lT T0, oT (.v (.bin .add T0 (C 1))), oT (.v (.nc T4)), fT 2 T0, oN (.st 1 T0 T2)]
@[go_sem] def c37r6 : List GOp := [mT S3, mS 2 T0]
def c37s7 : SCode := (.seq (.ops c37r6) .ret)
@[go_sem] theorem c37s7eq : U c37s7 (.seq (.ops c37r6) .ret) := fun _ _ _ _ _ => rfl
def c37s8 : SCode := (.seq (.ops c37r5) c37s7)
@[go_sem] theorem c37s8eq : U c37s8 (.seq (.ops c37r5) c37s7) := fun _ _ _ _ _ => rfl
def c37s9 : SCode := (.seq (.ops c37r4) c37s8)
@[go_sem] theorem c37s9eq : U c37s9 (.seq (.ops c37r4) c37s8) := fun _ _ _ _ _ => rfl
def c37s10 : SCode := (.seq (.seq (.ops c37r1) c37s3) c37s9)
@[go_sem] theorem c37s10eq : U c37s10 (.seq (.seq (.ops c37r1) c37s3) c37s9) := fun _ _ _ _ _ => rfl
def c37 : Gx.Fn := ⟨29, c37k, (.seq (.ops c37r0) c37s10), [(.tmp S2)]⟩
theorem c37ok : stripFn Tryd.prog c37k Tryd.f37 = some c37 := by kernel_rfl

/- (*parser.parser).expect -/
@[go_sem] def c38k : List Nat := [0, 1, 4, 5, 12]
@[go_sem] def c38r0 : List GOp := [mS 2 (C 0)]
@[go_sem] def c38r1 : List GOp := [mT S0, oT (.call 29 [T0]), oT (.v (.fld1 3 T0)), mS 3 T0]
@[go_sem] def c38r2 : List GOp := [mT S0, mT S1, oT (.call 42 [T1, T0]), oS 4 (.v (.un .not T0))]
@[go_sem] def c38r3 : List GOp := [mT S0, oT (.call 34 [T0, (C 2)])]
def c38s4 : SCode := (.cond S4 (.ops c38r3) .skip)
@[go_sem] theorem c38s4eq : U c38s4 (.cond S4 (.ops c38r3) .skip) := fun _ _ _ _ _ => rfl
@[go_sem] def c38r5 : List GOp := [mT S3, mS 2 T0]
def c38s6 : SCode := (.seq (.ops c38r5) .ret)
@[go_sem] theorem c38s6eq : U c38s6 (.seq (.ops c38r5) .ret) := fun _ _ _ _ _ => rfl
def c38s7 : SCode := (.seq (.seq (.ops c38r2) c38s4) c38s6)
@[go_sem] theorem c38s7eq : U c38s7 (.seq (.seq (.ops c38r2) c38s4) c38s6) := fun _ _ _ _ _ => rfl
def c38s8 : SCode := (.seq (.ops c38r1) c38s7)
@[go_sem] theorem c38s8eq : U c38s8 (.seq (.ops c38r1) c38s7) := fun _ _ _ _ _ => rfl
def c38 : Gx.Fn := ⟨16, c38k, (.seq (.ops c38r0) c38s8), [(.tmp S2)]⟩
theorem c38ok : stripFn Tryd.prog c38k Tryd.f38 = some c38 := by kernel_rfl

/- (*parser.parser).leave -/
@[go_sem] def c39k : List Nat := [0]
@[go_sem] def c39r0 : List GOp := [mT S0, oT (.v (.nc T0)), fT 2 T0, lT T0, oT (.v (.bin .sub T0 (C 1))), oT (.v (.nc T4)), fT 2 T0, oN (.st 1 T0 T2)]
def c39 : Gx.Fn := ⟨9, c39k, (.ops c39r0), []⟩
theorem c39ok : stripFn Tryd.prog c39k Tryd.f39 = some c39 := by kernel_rfl

/- (*parser.parser).accept -/
@[go_sem] def c42k : List Nat := [0, 1, 4, 8]
@[go_sem] def c42r0 : List GOp := [mS 2 (.c (.bool false))]
@[go_sem] def c42r1 : List GOp := [mT S0, mT S1, oT (.call 35 [T1, T0]), oS 3 (.v (.un .not T0))]
@[go_sem] def c42r2 : List GOp := [mS 2 (.c (.bool false))]
def c42s3 : SCode := (.seq (.ops c42r2) .ret)
@[go_sem] theorem c42s3eq : U c42s3 (.seq (.ops c42r2) .ret) := fun _ _ _ _ _ => rfl
@[go_sem] def c42r4 : List GOp := [mT S0, oT (.v (.nc T0)), fT 1 T0, lT T0, oT (.v (.bin .add T0 (C 1))), oT (.v (.nc T4)), fT 1 T0, oN (.st 1 T0 T2)]
@[go_sem] def c42r5 : List GOp := [mS 2 (.c (.bool true))]
def c42s6 : SCode := (.seq (.ops c42r5) .ret)
@[go_sem] theorem c42s6eq : U c42s6 (.seq (.ops c42r5) .ret) := fun _ _ _ _ _ => rfl
def c42s7 : SCode := (.seq (.ops c42r4) c42s6)
@[go_sem] theorem c42s7eq : U c42s7 (.seq (.ops c42r4) c42s6) := fun _ _ _ _ _ => rfl
def c42s8 : SCode := (.seq (.seq (.ops c42r1) (.cond S3 c42s3 .skip)) c42s7)
@[go_sem] theorem c42s8eq : U c42s8 (.seq (.seq (.ops c42r1) (.cond S3 c42s3 .skip)) c42s7) := fun _ _ _ _ _ => rfl
def c42 : Gx.Fn := ⟨16, c42k, (.seq (.ops c42r0) c42s8), [(.tmp S2)]⟩
theorem c42ok : stripFn Tryd.prog c42k Tryd.f42 = some c42 := by kernel_rfl

/- (*parser.parser).take -/
@[go_sem] def c43k : List Nat := [0, 1, 4, 5, 11]
@[go_sem] def c43r0 : List GOp := [oS 2 (.al 39 [(I 0), (.string ⟨⟨[]⟩⟩), (I 0), (I 0)])]
@[go_sem] def c43r1 : List GOp := [mT S0, oT (.call 29 [T0]), oS 3 (.al 39 [(I 0), (.string ⟨⟨[]⟩⟩), (I 0), (I 0)]), oN (.st 4 S3 T0)]
@[go_sem] def c43r2 : List GOp := [fT 0 S3, lT T0, mT S1, oS 4 (.v (.bin .neq T1 T0))]
@[go_sem] def c43r3 : List GOp := [mT S0, oT (.call 34 [T0, (C 2)])]
def c43s4 : SCode := (.cond S4 (.ops c43r3) .skip)
@[go_sem] theorem c43s4eq : U c43s4 (.cond S4 (.ops c43r3) .skip) := fun _ _ _ _ _ => rfl
@[go_sem] def c43r5 : List GOp := [mT S0, oT (.v (.nc T0)), fT 1 T0, lT T0, oT (.v (.bin .add T0 (C 1))), oT (.v (.nc T4)), fT 1 T0, oN (.st 1 T0 T2)]
@[go_sem] def c43r6 : List GOp := [oT (.ld (some 4) S3), oN (.st 4 S2 T0)]
def c43s7 : SCode := (.seq (.ops c43r6) .ret)
@[go_sem] theorem c43s7eq : U c43s7 (.seq (.ops c43r6) .ret) := fun _ _ _ _ _ => rfl
def c43s8 : SCode := (.seq (.ops c43r5) c43s7)
@[go_sem] theorem c43s8eq : U c43s8 (.seq (.ops c43r5) c43s7) := fun _ _ _ _ _ => rfl
def c43s9 : SCode := (.seq (.seq (.ops c43r2) c43s4) c43s8)
@[go_sem] theorem c43s9eq : U c43s9 (.seq (.seq (.ops c43r2) c43s4) c43s8) := fun _ _ _ _ _ => rfl
def c43s10 : SCode := (.seq (.ops c43r1) c43s9)
@[go_sem] theorem c43s10eq : U c43s10 (.seq (.ops c43r1) c43s9) := fun _ _ _ _ _ => rfl
def c43 : Gx.Fn := ⟨22, c43k, (.seq (.ops c43r0) c43s10), [(.cell S2 (some 4))]⟩
theorem c43ok : stripFn Tryd.prog c43k Tryd.f43 = some c43 := by kernel_rfl

/- (*parser.parser).lattice -/
@[go_sem] def c44k : List Nat := [0, 2, 3, 4, 5, 6, 14, 20, 24, 28, 35, 42, 60, 69, 78, 91, 97, 118]
@[go_sem] def c44r0 : List GOp := [oS 1 (.al 24 [(I 0), (.string ⟨⟨[]⟩⟩), (I 0), (I 0), Z])]
@[go_sem] def c44r1 : List GOp := [mT S0, oT (.call 29 [T0]), oS 2 (.al 39 [(I 0), (.string ⟨⟨[]⟩⟩), (I 0), (I 0)]), oN (.st 4 S2 T0)]
@[go_sem] def c44r2 : List GOp := [fT 3 S2, lT T0, oT (.v (.bld [(I 0), (.string ⟨⟨[]⟩⟩), (I 0), (I 0), Z] [(3, (1, T0))])), oS 3 (.al 24 [(I 0), (.string ⟨⟨[]⟩⟩), (I 0), (I 0), Z]), oN (.st 5 S3 T0)]
@[go_sem] def c44r3 : List GOp := [fT 0 S2, lT T0, oT (.v (.bin .eql T0 (C 1))), mS 6 T0]
@[go_sem] def c44r4 : List GOp := [mT S0, oT (.call 47 [T0, (C 21)]), oN (.st 5 S1 T0)]
def c44s5 : SCode := (.seq (.ops c44r4) .ret)
@[go_sem] theorem c44s5eq : U c44s5 (.seq (.ops c44r4) .ret) := fun _ _ _ _ _ => rfl
@[go_sem] def c44r6 : List GOp := [mT S0, oT (.call 42 [T0, (.c (.string ⟨⟨[102, 108, 97, 103]⟩⟩))]), mS 7 T0]
@[go_sem] def c44r7 : List GOp := [fT 0 S3, oN (.st 1 T0 (C 10))]
@[go_sem] def c44r8 : List GOp := [mT S0, oT (.call 42 [T0, (.c (.string ⟨⟨[114, 101, 103, 105, 115, 116, 101, 114]⟩⟩))]), mS 8 T0]
@[go_sem] def c44r9 : List GOp := [fT 0 S3, oN (.st 1 T0 (C 18))]
@[go_sem] def c44r10 : List GOp := [mT S0, oT (.call 42 [T0, (.c (.string ⟨⟨[115, 101, 116]⟩⟩))]), mS 9 T0]
@[go_sem] def c44r11 : List GOp := [mT S0, oT (.call 65 [T0]), fT 0 S3, oN (.st 1 T0 (C 13)), fT 4 S3, oN (.st 1 T0 T2)]
@[go_sem] def c44r12 : List GOp := [mT S0, oT (.call 42 [T0, (.c (.string ⟨⟨[102, 108, 97, 116]⟩⟩))]), mS 10 T0]
@[go_sem] def c44r13 : List GOp := [mT S0, oT (.call 65 [T0]), fT 0 S3, oN (.st 1 T0 (C 17)), fT 4 S3, oN (.st 1 T0 T2)]
@[go_sem] def c44r14 : List GOp := [mT S0, oT (.call 35 [T0, (.c (.string ⟨⟨[109, 97, 112]⟩⟩))]), mS 11 T0]
@[go_sem] def c44r15 : List GOp := [mT S0, oT (.call 37 [T0, (.c (.string ⟨⟨[109, 97, 112]⟩⟩))])]
@[go_sem] def c44r16 : List GOp := [mT S0, oT (.call 65 [T0]), fT 0 S3, oN (.st 1 T0 (C 14)), fT 4 S3, oN (.st 1 T0 T2)]
@[go_sem] def c44d17 : DT := (rf 4 S3 [5, 7] (rl T0 [5, 7] (rm S0 [3, 4, 5, 7] (.ef 3 none .t (.call 44 [T0]) (.ef 4 none .t (.bs 24 1 [(I 0), (.string ⟨⟨[]⟩⟩), (I 0), (I 0), Z] [(0, (5, T0))]) (.ef 5 none .t (.ap 22 22 T3 T0) (rf 4 S3 [7] (.ef 7 none .no (.st 1 T0 T1) .done))))))))
@[go_sem] def c44r18 : List GOp := [mT S0, oT (.call 39 [T0])]
def c44s19 : SCode := (.ops c44r18)
@[go_sem] theorem c44s19eq : U c44s19 (.ops c44r18) := fun _ _ _ _ _ => rfl
def c44s20 : SCode := (.seq (.de c44d17) c44s19)
@[go_sem] theorem c44s20eq : U c44s20 (.seq (.de c44d17) c44s19) := fun _ _ _ _ _ => rfl
def c44s21 : SCode := (.seq (.ops c44r16) c44s20)
@[go_sem] theorem c44s21eq : U c44s21 (.seq (.ops c44r16) c44s20) := fun _ _ _ _ _ => rfl
def c44s22 : SCode := (.seq (.ops c44r15) c44s21)
@[go_sem] theorem c44s22eq : U c44s22 (.seq (.ops c44r15) c44s21) := fun _ _ _ _ _ => rfl
@[go_sem] def c44r23 : List GOp := [mT S0, oT (.call 42 [T0, (.c (.string ⟨⟨[109, 97, 120]⟩⟩))]), mS 12 T0]
@[go_sem] def c44r24 : List GOp := [mT S0, mT S0, oT (.v (.mkf 67 [T0] [])), oT (.call 66 [T2, T0]), fT 0 S3, oN (.st 1 T0 (C 11)), fT 4 S3, oN (.st 1 T0 T2)]
@[go_sem] def c44r25 : List GOp := [mT S0, oT (.call 42 [T0, (.c (.string ⟨⟨[109, 105, 110]⟩⟩))]), mS 13 T0]
@[go_sem] def c44r26 : List GOp := [mT S0, mT S0, oT (.v (.mkf 67 [T0] [])), oT (.call 66 [T2, T0]), fT 0 S3, oN (.st 1 T0 (C 12)), fT 4 S3, oN (.st 1 T0 T2)]
@[go_sem] def c44r27 : List GOp := [mT S0, oT (.call 35 [T0, (.c (.string ⟨⟨[108, 101, 120]⟩⟩))]), mS 14 T0]
@[go_sem] def c44r28 : List GOp := [mT S0, oT (.call 37 [T0, (.c (.string ⟨⟨[108, 101, 120]⟩⟩))])]
@[go_sem] def c44r29 : List GOp := [mT S0, mT S0, oT (.v (.mkf 44 [T0] [])), oT (.call 66 [T2, T0]), fT 0 S3, oN (.st 1 T0 (C 16)), fT 4 S3, oN (.st 1 T0 T2)]
@[go_sem] def c44r30 : List GOp := [mT S0, oT (.call 39 [T0])]
def c44s31 : SCode := (.ops c44r30)
@[go_sem] theorem c44s31eq : U c44s31 (.ops c44r30) := fun _ _ _ _ _ => rfl
def c44s32 : SCode := (.seq (.ops c44r29) c44s31)
@[go_sem] theorem c44s32eq : U c44s32 (.seq (.ops c44r29) c44s31) := fun _ _ _ _ _ => rfl
def c44s33 : SCode := (.seq (.ops c44r28) c44s32)
@[go_sem] theorem c44s33eq : U c44s33 (.seq (.ops c44r28) c44s32) := fun _ _ _ _ _ => rfl
@[go_sem] def c44r34 : List GOp := [mT S0, oT (.call 35 [T0, (.c (.string ⟨⟨[123]⟩⟩))]), mS 15 T0]
@[go_sem] def c44r35 : List GOp := [mT S0, oT (.call 37 [T0, (.c (.string ⟨⟨[123]⟩⟩))])]
@[go_sem] def c44r36 : List GOp := [fT 0 S3, oN (.st 1 T0 (C 15))]
@[go_sem] def c44r37 : List GOp := [mS 4 (.c (.bool true))]
@[go_sem] def c44r38 : List GOp := [mS 16 S4]
def c44s39 : SCode := (.cond S16 .skip (.exit 1))
@[go_sem] theorem c44s39eq : U c44s39 (.cond S16 .skip (.exit 1)) := fun _ _ _ _ _ => rfl
@[go_sem] def c44r40 : List GOp := [mT S0, oT (.call 47 [T0, (C 22)]), oS 5 (.al 24 [(I 0), (.string ⟨⟨[]⟩⟩), (I 0), (I 0), Z]), oN (.st 5 S5 T0)]
@[go_sem] def c44r41 : List GOp := [mT S0, oT (.call 38 [T0, (.c (.string ⟨⟨[58]⟩⟩))])]
@[go_sem] def c44r42 : List GOp := [mT S0, oT (.call 44 [T0]), oT (.bs 24 1 [(I 0), (.string ⟨⟨[]⟩⟩), (I 0), (I 0), Z] [(0, (5, T0))]), fT 4 S5, oN (.st 1 T0 T1)]
@[go_sem] def c44r43 : List GOp := [fT 4 S3, lT T0, oT (.ld (some 5) S5), oT (.bs 24 1 [(I 0), (.string ⟨⟨[]⟩⟩), (I 0), (I 0), Z] [(0, (5, T0))]), oT (.ap 22 22 T2 T0), fT 4 S3, oN (.st 1 T0 T1)]
def c44s44 : SCode := (.ops c44r43)
@[go_sem] theorem c44s44eq : U c44s44 (.ops c44r43) := fun _ _ _ _ _ => rfl
def c44s45 : SCode := (.seq (.ops c44r42) c44s44)
@[go_sem] theorem c44s45eq : U c44s45 (.seq (.ops c44r42) c44s44) := fun _ _ _ _ _ => rfl
def c44s46 : SCode := (.seq (.ops c44r41) c44s45)
@[go_sem] theorem c44s46eq : U c44s46 (.seq (.ops c44r41) c44s45) := fun _ _ _ _ _ => rfl
@[go_sem] def c44r47 : List GOp := [mT S0, oT (.call 42 [T0, (.c (.string ⟨⟨[44]⟩⟩))]), mS 4 T0]
def c44s48 : SCode := (.ops c44r47)
@[go_sem] theorem c44s48eq : U c44s48 (.ops c44r47) := fun _ _ _ _ _ => rfl
def c44s49 : SCode := (.seq (.block 2 (.seq (.ops c44r40) c44s46)) c44s48)
@[go_sem] theorem c44s49eq : U c44s49 (.seq (.block 2 (.seq (.ops c44r40) c44s46)) c44s48) := fun _ _ _ _ _ => rfl
def c44s50 : SCode := (.seq (.seq (.ops c44r38) c44s39) c44s49)
@[go_sem] theorem c44s50eq : U c44s50 (.seq (.seq (.ops c44r38) c44s39) c44s49) := fun _ _ _ _ _ => rfl
def c44s51 : SCode := (.block 1 (.loop c44k c44s50))
@[go_sem] theorem c44s51eq : U c44s51 (.block 1 (.loop c44k c44s50)) := fun _ _ _ _ _ => rfl
@[go_sem] def c44r52 : List GOp := [mT S0, oT (.call 38 [T0, (.c (.string ⟨⟨[125]⟩⟩))])]
@[go_sem] def c44r53 : List GOp := [mT S0, oT (.call 39 [T0])]
def c44s54 : SCode := (.ops c44r53)
@[go_sem] theorem c44s54eq : U c44s54 (.ops c44r53) := fun _ _ _ _ _ => rfl
def c44s55 : SCode := (.seq (.ops c44r52) c44s54)
@[go_sem] theorem c44s55eq : U c44s55 (.seq (.ops c44r52) c44s54) := fun _ _ _ _ _ => rfl
def c44s56 : SCode := (.seq (.seq (.ops c44r37) c44s51) c44s55)
@[go_sem] theorem c44s56eq : U c44s56 (.seq (.seq (.ops c44r37) c44s51) c44s55) := fun _ _ _ _ _ => rfl
def c44s57 : SCode := (.seq (.ops c44r36) c44s56)
@[go_sem] theorem c44s57eq : U c44s57 (.seq (.ops c44r36) c44s56) := fun _ _ _ _ _ => rfl
def c44s58 : SCode := (.seq (.ops c44r35) c44s57)
@[go_sem] theorem c44s58eq : U c44s58 (.seq (.ops c44r35) c44s57) := fun _ _ _ _ _ => rfl
@[go_sem] def c44r59 : List GOp := [mT S0, oT (.call 42 [T0, (.c (.string ⟨⟨[99, 108, 111, 115, 101, 100]⟩⟩))]), mS 17 T0]
@[go_sem] def c44r60 : List GOp := [mT S0, oT (.call 68 [T0]), fT 0 S3, oN (.st 1 T0 (C 19)), fT 4 S3, oN (.st 1 T0 T2)]
@[go_sem] def c44r61 : List GOp := [mT S0, oT (.call 34 [T0, (C 2)])]
def c44s62 : SCode := (.cond S17 (.ops c44r60) (.ops c44r61))
@[go_sem] theorem c44s62eq : U c44s62 (.cond S17 (.ops c44r60) (.ops c44r61)) := fun _ _ _ _ _ => rfl
def c44s63 : SCode := (.seq (.ops c44r59) c44s62)
@[go_sem] theorem c44s63eq : U c44s63 (.seq (.ops c44r59) c44s62) := fun _ _ _ _ _ => rfl
def c44s64 : SCode := (.cond S15 c44s58 c44s63)
@[go_sem] theorem c44s64eq : U c44s64 (.cond S15 c44s58 c44s63) := fun _ _ _ _ _ => rfl
def c44s65 : SCode := (.seq (.ops c44r34) c44s64)
@[go_sem] theorem c44s65eq : U c44s65 (.seq (.ops c44r34) c44s64) := fun _ _ _ _ _ => rfl
def c44s66 : SCode := (.cond S14 c44s33 c44s65)
@[go_sem] theorem c44s66eq : U c44s66 (.cond S14 c44s33 c44s65) := fun _ _ _ _ _ => rfl
def c44s67 : SCode := (.seq (.ops c44r27) c44s66)
@[go_sem] theorem c44s67eq : U c44s67 (.seq (.ops c44r27) c44s66) := fun _ _ _ _ _ => rfl
def c44s68 : SCode := (.cond S13 (.ops c44r26) c44s67)
@[go_sem] theorem c44s68eq : U c44s68 (.cond S13 (.ops c44r26) c44s67) := fun _ _ _ _ _ => rfl
def c44s69 : SCode := (.seq (.ops c44r25) c44s68)
@[go_sem] theorem c44s69eq : U c44s69 (.seq (.ops c44r25) c44s68) := fun _ _ _ _ _ => rfl
def c44s70 : SCode := (.cond S12 (.ops c44r24) c44s69)
@[go_sem] theorem c44s70eq : U c44s70 (.cond S12 (.ops c44r24) c44s69) := fun _ _ _ _ _ => rfl
def c44s71 : SCode := (.seq (.ops c44r23) c44s70)
@[go_sem] theorem c44s71eq : U c44s71 (.seq (.ops c44r23) c44s70) := fun _ _ _ _ _ => rfl
def c44s72 : SCode := (.cond S11 c44s22 c44s71)
@[go_sem] theorem c44s72eq : U c44s72 (.cond S11 c44s22 c44s71) := fun _ _ _ _ _ => rfl
def c44s73 : SCode := (.seq (.ops c44r14) c44s72)
@[go_sem] theorem c44s73eq : U c44s73 (.seq (.ops c44r14) c44s72) := fun _ _ _ _ _ => rfl
def c44s74 : SCode := (.cond S10 (.ops c44r13) c44s73)
@[go_sem] theorem c44s74eq : U c44s74 (.cond S10 (.ops c44r13) c44s73) := fun _ _ _ _ _ => rfl
def c44s75 : SCode := (.seq (.ops c44r12) c44s74)
@[go_sem] theorem c44s75eq : U c44s75 (.seq (.ops c44r12) c44s74) := fun _ _ _ _ _ => rfl
def c44s76 : SCode := (.cond S9 (.ops c44r11) c44s75)
@[go_sem] theorem c44s76eq : U c44s76 (.cond S9 (.ops c44r11) c44s75) := fun _ _ _ _ _ => rfl
def c44s77 : SCode := (.seq (.ops c44r10) c44s76)
@[go_sem] theorem c44s77eq : U c44s77 (.seq (.ops c44r10) c44s76) := fun _ _ _ _ _ => rfl
def c44s78 : SCode := (.cond S8 (.ops c44r9) c44s77)
@[go_sem] theorem c44s78eq : U c44s78 (.cond S8 (.ops c44r9) c44s77) := fun _ _ _ _ _ => rfl
def c44s79 : SCode := (.seq (.ops c44r8) c44s78)
@[go_sem] theorem c44s79eq : U c44s79 (.seq (.ops c44r8) c44s78) := fun _ _ _ _ _ => rfl
def c44s80 : SCode := (.cond S7 (.ops c44r7) c44s79)
@[go_sem] theorem c44s80eq : U c44s80 (.cond S7 (.ops c44r7) c44s79) := fun _ _ _ _ _ => rfl
def c44s81 : SCode := (.seq (.ops c44r6) c44s80)
@[go_sem] theorem c44s81eq : U c44s81 (.seq (.ops c44r6) c44s80) := fun _ _ _ _ _ => rfl
@[go_sem] def c44r82 : List GOp := [oT (.ld (some 5) S3), oN (.st 5 S1 T0)]
def c44s83 : SCode := (.seq (.ops c44r82) .ret)
@[go_sem] theorem c44s83eq : U c44s83 (.seq (.ops c44r82) .ret) := fun _ _ _ _ _ => rfl
def c44s84 : SCode := (.seq (.block 0 (.seq (.ops c44r3) (.cond S6 c44s5 c44s81))) c44s83)
@[go_sem] theorem c44s84eq : U c44s84 (.seq (.block 0 (.seq (.ops c44r3) (.cond S6 c44s5 c44s81))) c44s83) := fun _ _ _ _ _ => rfl
def c44s85 : SCode := (.seq (.ops c44r2) c44s84)
@[go_sem] theorem c44s85eq : U c44s85 (.seq (.ops c44r2) c44s84) := fun _ _ _ _ _ => rfl
def c44s86 : SCode := (.seq (.ops c44r1) c44s85)
@[go_sem] theorem c44s86eq : U c44s86 (.seq (.ops c44r1) c44s85) := fun _ _ _ _ _ => rfl
def c44 : Gx.Fn := ⟨126, c44k, (.seq (.ops c44r0) c44s86), [(.cell S1 (some 5))]⟩
theorem c44ok : stripFn Tryd.prog c44k Tryd.f44 = some c44 := by kernel_rfl

/- (*parser.parser).comma -/
@[go_sem] def c45k : List Nat := [0, 2, 4]
@[go_sem] def c45r0 : List GOp := [mS 1 (.c (.bool false))]
@[go_sem] def c45r1 : List GOp := [mT S0, oS 2 (.call 42 [T0, (.c (.string ⟨⟨[44]⟩⟩))])]
@[go_sem] def c45r2 : List GOp := [mS 1 (.c (.bool true))]
def c45s3 : SCode := (.seq (.ops c45r2) .ret)
@[go_sem] theorem c45s3eq : U c45s3 (.seq (.ops c45r2) .ret) := fun _ _ _ _ _ => rfl
@[go_sem] def c45r4 : List GOp := [mT S0, oT (.call 38 [T0, (.c (.string ⟨⟨[41]⟩⟩))])]
@[go_sem] def c45r5 : List GOp := [mS 1 (.c (.bool false))]
def c45s6 : SCode := (.seq (.ops c45r5) .ret)
@[go_sem] theorem c45s6eq : U c45s6 (.seq (.ops c45r5) .ret) := fun _ _ _ _ _ => rfl
def c45s7 : SCode := (.seq (.ops c45r4) c45s6)
@[go_sem] theorem c45s7eq : U c45s7 (.seq (.ops c45r4) c45s6) := fun _ _ _ _ _ => rfl
def c45s8 : SCode := (.seq (.seq (.ops c45r1) (.cond S2 c45s3 .skip)) c45s7)
@[go_sem] theorem c45s8eq : U c45s8 (.seq (.seq (.ops c45r1) (.cond S2 c45s3 .skip)) c45s7) := fun _ _ _ _ _ => rfl
def c45 : Gx.Fn := ⟨7, c45k, (.seq (.ops c45r0) c45s8), [(.tmp S1)]⟩
theorem c45ok : stripFn Tryd.prog c45k Tryd.f45 = some c45 := by kernel_rfl

/- (*parser.parser).param -/
@[go_sem] def c46k : List Nat := [0, 2, 3]
@[go_sem] def c46r0 : List GOp := [oS 1 (.al 24 [(I 0), (.string ⟨⟨[]⟩⟩), (I 0), (I 0), Z])]
@[go_sem] def c46r1 : List GOp := [mT S0, oT (.call 47 [T0, (C 6)]), oS 2 (.al 24 [(I 0), (.string ⟨⟨[]⟩⟩), (I 0), (I 0), Z]), oN (.st 5 S2 T0)]
@[go_sem] def c46r2 : List GOp := [mT S0, oT (.call 38 [T0, (.c (.string ⟨⟨[58]⟩⟩))])]
@[go_sem] def c46r3 : List GOp := [mT S0, oT (.call 48 [T0]), fT 2 S2, oN (.st 1 T0 T1)]
@[go_sem] def c46r4 : List GOp := [oT (.ld (some 5) S2), oN (.st 5 S1 T0)]
def c46s5 : SCode := (.seq (.ops c46r4) .ret)
@[go_sem] theorem c46s5eq : U c46s5 (.seq (.ops c46r4) .ret) := fun _ _ _ _ _ => rfl
def c46s6 : SCode := (.seq (.ops c46r3) c46s5)
@[go_sem] theorem c46s6eq : U c46s6 (.seq (.ops c46r3) c46s5) := fun _ _ _ _ _ => rfl
def c46s7 : SCode := (.seq (.ops c46r2) c46s6)
@[go_sem] theorem c46s7eq : U c46s7 (.seq (.ops c46r2) c46s6) := fun _ _ _ _ _ => rfl
def c46s8 : SCode := (.seq (.ops c46r1) c46s7)
@[go_sem] theorem c46s8eq : U c46s8 (.seq (.ops c46r1) c46s7) := fun _ _ _ _ _ => rfl
def c46 : Gx.Fn := ⟨12, c46k, (.seq (.ops c46r0) c46s8), [(.cell S1 (some 5))]⟩
theorem c46ok : stripFn Tryd.prog c46k Tryd.f46 = some c46 := by kernel_rfl

/- (*parser.parser).named -/
@[go_sem] def c47k : List Nat := [0, 1, 4, 5]
@[go_sem] def c47r0 : List GOp := [oS 2 (.al 24 [(I 0), (.string ⟨⟨[]⟩⟩), (I 0), (I 0), Z])]
@[go_sem] def c47r1 : List GOp := [mT S0, oT (.call 43 [T0, (C 1)]), oS 3 (.al 39 [(I 0), (.string ⟨⟨[]⟩⟩), (I 0), (I 0)]), oN (.st 4 S3 T0)]
@[go_sem] def c47r2 : List GOp := [mT S1, fT 1 S3, lT T0, fT 3 S3, lT T0, oT (.v (.bld [(I 0), (.string ⟨⟨[]⟩⟩), (I 0), (I 0), Z] [(0, (1, T4)), (1, (1, T2)), (3, (1, T0))])), oN (.st 5 S2 T0)]
def c47s3 : SCode := (.seq (.ops c47r2) .ret)
@[go_sem] theorem c47s3eq : U c47s3 (.seq (.ops c47r2) .ret) := fun _ _ _ _ _ => rfl
def c47s4 : SCode := (.seq (.ops c47r1) c47s3)
@[go_sem] theorem c47s4eq : U c47s4 (.seq (.ops c47r1) c47s3) := fun _ _ _ _ _ => rfl
def c47 : Gx.Fn := ⟨14, c47k, (.seq (.ops c47r0) c47s4), [(.cell S2 (some 5))]⟩
theorem c47ok : stripFn Tryd.prog c47k Tryd.f47 = some c47 := by kernel_rfl

/- (*parser.parser).sort -/
@[go_sem] def c48k : List Nat := [0, 2, 3, 4, 5, 6, 7, 8, 14]
@[go_sem] def c48r0 : List GOp := [mS 1 (C 0)]
@[go_sem] def c48r1 : List GOp := [oS 4 (.bs 9 4 [(.string ⟨⟨[]⟩⟩), (.string ⟨⟨[]⟩⟩), (.string ⟨⟨[]⟩⟩), (.string ⟨⟨[]⟩⟩)] [(0, (1, (.c (.string ⟨⟨[105, 110, 116]⟩⟩)))), (1, (1, (.c (.string ⟨⟨[98, 111, 111, 108]⟩⟩)))), (2, (1, (.c (.string ⟨⟨[110, 97, 109, 101]⟩⟩)))), (3, (1, (.c (.string ⟨⟨[110, 97, 109, 101, 115]⟩⟩))))]), oS 5 (.v (.len S4)), mS 6 (C 0)]
@[go_sem] def c48r2 : List GOp := [oS 7 (.v (.bin .lss S6 S5))]
@[go_sem] def c48r3 : List GOp := [mT S6, oT (.v (.ix 1 S4 S6)), lT T0, mS 2 T2, mS 3 T0]
@[go_sem] def c48r4 : List GOp := [mT S0, mT S3, oS 8 (.call 42 [T1, T0])]
@[go_sem] def c48r5 : List GOp := [mT S2, oT (.v (.bin .add T0 (C 1))), mS 1 T0]
def c48s6 : SCode := (.seq (.ops c48r5) .ret)
@[go_sem] theorem c48s6eq : U c48s6 (.seq (.ops c48r5) .ret) := fun _ _ _ _ _ => rfl
def c48s7 : SCode := (.seq (.ops c48r4) (.cond S8 c48s6 .skip))
@[go_sem] theorem c48s7eq : U c48s7 (.seq (.ops c48r4) (.cond S8 c48s6 .skip)) := fun _ _ _ _ _ => rfl
@[go_sem] def c48r8 : List GOp := [oT (.v (.bin .add S6 (C 1))), mS 6 T0]
def c48s9 : SCode := (.ops c48r8)
@[go_sem] theorem c48s9eq : U c48s9 (.ops c48r8) := fun _ _ _ _ _ => rfl
def c48s10 : SCode := (.seq (.block 1 (.seq (.ops c48r3) c48s7)) c48s9)
@[go_sem] theorem c48s10eq : U c48s10 (.seq (.block 1 (.seq (.ops c48r3) c48s7)) c48s9) := fun _ _ _ _ _ => rfl
def c48s11 : SCode := (.seq (.cond S7 .skip (.exit 0)) c48s10)
@[go_sem] theorem c48s11eq : U c48s11 (.seq (.cond S7 .skip (.exit 0)) c48s10) := fun _ _ _ _ _ => rfl
def c48s12 : SCode := (.seq (.ops c48r2) c48s11)
@[go_sem] theorem c48s12eq : U c48s12 (.seq (.ops c48r2) c48s11) := fun _ _ _ _ _ => rfl
def c48s13 : SCode := (.block 0 (.loop c48k c48s12))
@[go_sem] theorem c48s13eq : U c48s13 (.block 0 (.loop c48k c48s12)) := fun _ _ _ _ _ => rfl
@[go_sem] def c48r14 : List GOp := [mT S0, oT (.call 34 [T0, (C 2)])]
@[go_sem] def c48r15 : List GOp := [mS 1 (C 0)]
def c48s16 : SCode := (.seq (.ops c48r15) .ret)
@[go_sem] theorem c48s16eq : U c48s16 (.seq (.ops c48r15) .ret) := fun _ _ _ _ _ => rfl
def c48s17 : SCode := (.seq (.ops c48r14) c48s16)
@[go_sem] theorem c48s17eq : U c48s17 (.seq (.ops c48r14) c48s16) := fun _ _ _ _ _ => rfl
def c48s18 : SCode := (.seq (.seq (.ops c48r1) c48s13) c48s17)
@[go_sem] theorem c48s18eq : U c48s18 (.seq (.seq (.ops c48r1) c48s13) c48s17) := fun _ _ _ _ _ => rfl
def c48 : Gx.Fn := ⟨20, c48k, (.seq (.ops c48r0) c48s18), [(.tmp S1)]⟩
theorem c48ok : stripFn Tryd.prog c48k Tryd.f48 = some c48 := by kernel_rfl

/- (*parser.parser).chain -/
@[go_sem] def c56k : List Nat := [0, 1, 2, 6, 7, 8, 9, 26]
@[go_sem] def c56r0 : List GOp := [oS 3 (.al 24 [(I 0), (.string ⟨⟨[]⟩⟩), (I 0), (I 0), Z])]
@[go_sem] def c56r1 : List GOp := [mT S1, oT (.cv T0 []), oS 4 (.al 24 [(I 0), (.string ⟨⟨[]⟩⟩), (I 0), (I 0), Z]), oN (.st 5 S4 T0)]
@[go_sem] def c56r2 : List GOp := [mT S0, oT (.call 29 [T0]), oS 5 (.al 39 [(I 0), (.string ⟨⟨[]⟩⟩), (I 0), (I 0)]), oN (.st 4 S5 T0)]
@[go_sem] def c56r3 : List GOp := [mT S2, fT 1 S5, lT T0, oT (.lkp (I 0) T2 T0), mS 6 T0]
@[go_sem] def c56r4 : List GOp := [mT S6, oT (.v (.bin .eql T0 (C 0))), mT T0, (.op (some (T0, (false, true))) .t (.v (.mv S0))), (.op (some (T1, (false, false))) .t (.v (.fa 1 S5))), (.op (some (T2, (false, false))) .t (.ld none T0)), (.op (some (T3, (false, false))) .t (.call 42 [T2, T0])), (.op (some (T4, (false, false))) .t (.v (.un .not T0))), oS 7 (.v (.pick T5 (.c (.bool true)) T0))]
@[go_sem] def c56r5 : List GOp := [oT (.ld (some 5) S4), oN (.st 5 S3 T0)]
def c56s6 : SCode := (.seq (.ops c56r5) .ret)
@[go_sem] theorem c56s6eq : U c56s6 (.seq (.ops c56r5) .ret) := fun _ _ _ _ _ => rfl
@[go_sem] def c56d7 : DT := (rm S6 [8] (rf 3 S5 [8] (rl T0 [8] (.rd none .t (.ld (some 5) S4) [6, 8] (rm S1 [5, 6, 8] (.ef 5 none .t (.cv T0 []) (.ef 6 none .t (.bs 24 2 [(I 0), (.string ⟨⟨[]⟩⟩), (I 0), (I 0), Z, (I 0), (.string ⟨⟨[]⟩⟩), (I 0), (I 0), Z] [(0, (5, T2)), (5, (5, T0))]) (.rd none .t (.v (.bld [(I 0), (.string ⟨⟨[]⟩⟩), (I 0), (I 0), Z] [(0, (1, T6)), (3, (1, T4)), (4, (1, T0))])) [8] (.ef 8 none .no (.st 5 S4 T0) .done)))))))))
def c56s8 : SCode := (.de c56d7)
@[go_sem] theorem c56s8eq : U c56s8 (.de c56d7) := fun _ _ _ _ _ => rfl
def c56s9 : SCode := (.seq (.seq (.ops c56r4) (.cond S7 c56s6 .skip)) c56s8)
@[go_sem] theorem c56s9eq : U c56s9 (.seq (.seq (.ops c56r4) (.cond S7 c56s6 .skip)) c56s8) := fun _ _ _ _ _ => rfl
def c56s10 : SCode := (.seq (.ops c56r3) c56s9)
@[go_sem] theorem c56s10eq : U c56s10 (.seq (.ops c56r3) c56s9) := fun _ _ _ _ _ => rfl
def c56s11 : SCode := (.block 1 (.seq (.ops c56r2) c56s10))
@[go_sem] theorem c56s11eq : U c56s11 (.block 1 (.seq (.ops c56r2) c56s10)) := fun _ _ _ _ _ => rfl
def c56s12 : SCode := (.block 0 (.loop c56k c56s11))
@[go_sem] theorem c56s12eq : U c56s12 (.block 0 (.loop c56k c56s11)) := fun _ _ _ _ _ => rfl
def c56s13 : SCode := (.seq (.ops c56r1) c56s12)
@[go_sem] theorem c56s13eq : U c56s13 (.seq (.ops c56r1) c56s12) := fun _ _ _ _ _ => rfl
def c56 : Gx.Fn := ⟨36, c56k, (.seq (.ops c56r0) c56s13), [(.cell S3 (some 5))]⟩
theorem c56ok : stripFn Tryd.prog c56k Tryd.f56 = some c56 := by kernel_rfl

/- (*parser.parser).and -/
@[go_sem] def c57k : List Nat := [0, 2]
@[go_sem] def c57r0 : List GOp := [oS 1 (.al 24 [(I 0), (.string ⟨⟨[]⟩⟩), (I 0), (I 0), Z])]
@[go_sem] def c57r1 : List GOp := [mT S0, mT S0, oT (.v (.mkf 74 [T0] [])), oT .mm, oN (.ins T0 (.c (.string ⟨⟨[97, 110, 100]⟩⟩)) (C 32)), mT T0, oT (.call 56 [T4, T2, T0]), oN (.st 5 S1 T0)]
def c57s2 : SCode := (.seq (.ops c57r1) .ret)
@[go_sem] theorem c57s2eq : U c57s2 (.seq (.ops c57r1) .ret) := fun _ _ _ _ _ => rfl
def c57 : Gx.Fn := ⟨9, c57k, (.seq (.ops c57r0) c57s2), [(.cell S1 (some 5))]⟩
theorem c57ok : stripFn Tryd.prog c57k Tryd.f57 = some c57 := by kernel_rfl

/- (*parser.parser).allowed -/
@[go_sem] def c65k : List Nat := [0, 2, 3, 6]
@[go_sem] def c65r0 : List GOp := [mS 1 (.c Z)]
@[go_sem] def c65r1 : List GOp := [mT S0, oT (.call 42 [T0, (.c (.string ⟨⟨[40]⟩⟩))]), oS 3 (.v (.un .not T0))]
@[go_sem] def c65r2 : List GOp := [mS 1 (.c Z)]
def c65s3 : SCode := (.seq (.ops c65r2) .ret)
@[go_sem] theorem c65s3eq : U c65s3 (.seq (.ops c65r2) .ret) := fun _ _ _ _ _ => rfl
@[go_sem] def c65r4 : List GOp := [mT S0, oT (.call 77 [T0]), mS 2 T0]
@[go_sem] def c65r5 : List GOp := [mT S0, oT (.call 38 [T0, (.c (.string ⟨⟨[41]⟩⟩))])]
@[go_sem] def c65r6 : List GOp := [mT S2, mS 1 T0]
def c65s7 : SCode := (.seq (.ops c65r6) .ret)
@[go_sem] theorem c65s7eq : U c65s7 (.seq (.ops c65r6) .ret) := fun _ _ _ _ _ => rfl
def c65s8 : SCode := (.seq (.ops c65r5) c65s7)
@[go_sem] theorem c65s8eq : U c65s8 (.seq (.ops c65r5) c65s7) := fun _ _ _ _ _ => rfl
def c65s9 : SCode := (.seq (.ops c65r4) c65s8)
@[go_sem] theorem c65s9eq : U c65s9 (.seq (.ops c65r4) c65s8) := fun _ _ _ _ _ => rfl
def c65s10 : SCode := (.seq (.seq (.ops c65r1) (.cond S3 c65s3 .skip)) c65s9)
@[go_sem] theorem c65s10eq : U c65s10 (.seq (.seq (.ops c65r1) (.cond S3 c65s3 .skip)) c65s9) := fun _ _ _ _ _ => rfl
def c65 : Gx.Fn := ⟨12, c65k, (.seq (.ops c65r0) c65s10), [(.tmp S1)]⟩
theorem c65ok : stripFn Tryd.prog c65k Tryd.f65 = some c65 := by kernel_rfl

/- (*parser.parser).two -/
@[go_sem] def c66k : List Nat := [0, 1, 4, 5, 6]
@[go_sem] def c66r0 : List GOp := [mS 2 (.c Z)]
@[go_sem] def c66r1 : List GOp := [mT S0, oT (.call 38 [T0, (.c (.string ⟨⟨[40]⟩⟩))])]
@[go_sem] def c66r2 : List GOp := [mT S1, oT (.cv T0 []), oS 3 (.al 24 [(I 0), (.string ⟨⟨[]⟩⟩), (I 0), (I 0), Z]), oN (.st 5 S3 T0)]
@[go_sem] def c66r3 : List GOp := [mT S0, oT (.call 38 [T0, (.c (.string ⟨⟨[44]⟩⟩))])]
@[go_sem] def c66r4 : List GOp := [mT S1, oT (.cv T0 []), oS 4 (.al 24 [(I 0), (.string ⟨⟨[]⟩⟩), (I 0), (I 0), Z]), oN (.st 5 S4 T0)]
@[go_sem] def c66r5 : List GOp := [mT S0, oT (.call 38 [T0, (.c (.string ⟨⟨[41]⟩⟩))])]
@[go_sem] def c66r6 : List GOp := [oT (.ld (some 5) S3), oT (.ld (some 5) S4), oT (.bs 24 2 [(I 0), (.string ⟨⟨[]⟩⟩), (I 0), (I 0), Z, (I 0), (.string ⟨⟨[]⟩⟩), (I 0), (I 0), Z] [(0, (5, T1)), (5, (5, T0))]), mS 2 T0]
def c66s7 : SCode := (.seq (.ops c66r6) .ret)
@[go_sem] theorem c66s7eq : U c66s7 (.seq (.ops c66r6) .ret) := fun _ _ _ _ _ => rfl
def c66s8 : SCode := (.seq (.ops c66r5) c66s7)
@[go_sem] theorem c66s8eq : U c66s8 (.seq (.ops c66r5) c66s7) := fun _ _ _ _ _ => rfl
def c66s9 : SCode := (.seq (.ops c66r4) c66s8)
@[go_sem] theorem c66s9eq : U c66s9 (.seq (.ops c66r4) c66s8) := fun _ _ _ _ _ => rfl
def c66s10 : SCode := (.seq (.ops c66r3) c66s9)
@[go_sem] theorem c66s10eq : U c66s10 (.seq (.ops c66r3) c66s9) := fun _ _ _ _ _ => rfl
def c66s11 : SCode := (.seq (.ops c66r2) c66s10)
@[go_sem] theorem c66s11eq : U c66s11 (.seq (.ops c66r2) c66s10) := fun _ _ _ _ _ => rfl
def c66s12 : SCode := (.seq (.ops c66r1) c66s11)
@[go_sem] theorem c66s12eq : U c66s12 (.seq (.ops c66r1) c66s11) := fun _ _ _ _ _ => rfl
def c66 : Gx.Fn := ⟨20, c66k, (.seq (.ops c66r0) c66s12), [(.tmp S2)]⟩
theorem c66ok : stripFn Tryd.prog c66k Tryd.f66 = some c66 := by kernel_rfl

/- (*parser.parser).integer -/
@[go_sem] def c67k : List Nat := [0, 2, 3, 9]
@[go_sem] def c67r0 : List GOp := [oS 1 (.al 24 [(I 0), (.string ⟨⟨[]⟩⟩), (I 0), (I 0), Z])]
@[go_sem] def c67r1 : List GOp := [mT S0, oT (.call 29 [T0]), oT (.v (.fld1 3 T0)), oT (.v (.bld [(I 0), (.string ⟨⟨[]⟩⟩), (I 0), (I 0), Z] [(0, (1, (C 44))), (3, (1, T0))])), oS 2 (.al 24 [(I 0), (.string ⟨⟨[]⟩⟩), (I 0), (I 0), Z]), oN (.st 5 S2 T0)]
@[go_sem] def c67r2 : List GOp := [mT S0, oS 3 (.call 42 [T0, (.c (.string ⟨⟨[45]⟩⟩))])]
@[go_sem] def c67r3 : List GOp := [mT S0, oT (.call 43 [T0, (C 3)]), oT (.v (.fld1 2 T0)), oT (.v (.un .neg T0)), fT 2 S2, oN (.st 1 T0 T1)]
@[go_sem] def c67r4 : List GOp := [oT (.ld (some 5) S2), oN (.st 5 S1 T0)]
def c67s5 : SCode := (.seq (.ops c67r4) .ret)
@[go_sem] theorem c67s5eq : U c67s5 (.seq (.ops c67r4) .ret) := fun _ _ _ _ _ => rfl
def c67s6 : SCode := (.seq (.ops c67r3) c67s5)
@[go_sem] theorem c67s6eq : U c67s6 (.seq (.ops c67r3) c67s5) := fun _ _ _ _ _ => rfl
@[go_sem] def c67r7 : List GOp := [mT S0, oT (.call 43 [T0, (C 3)]), oT (.v (.fld1 2 T0)), fT 2 S2, oN (.st 1 T0 T1)]
@[go_sem] def c67r8 : List GOp := [oT (.ld (some 5) S2), oN (.st 5 S1 T0)]
def c67s9 : SCode := (.seq (.ops c67r8) .ret)
@[go_sem] theorem c67s9eq : U c67s9 (.seq (.ops c67r8) .ret) := fun _ _ _ _ _ => rfl
def c67s10 : SCode := (.seq (.ops c67r7) c67s9)
@[go_sem] theorem c67s10eq : U c67s10 (.seq (.ops c67r7) c67s9) := fun _ _ _ _ _ => rfl
def c67s11 : SCode := (.seq (.seq (.ops c67r2) (.cond S3 c67s6 .skip)) c67s10)
@[go_sem] theorem c67s11eq : U c67s11 (.seq (.seq (.ops c67r2) (.cond S3 c67s6 .skip)) c67s10) := fun _ _ _ _ _ => rfl
def c67s12 : SCode := (.seq (.ops c67r1) c67s11)
@[go_sem] theorem c67s12eq : U c67s12 (.seq (.ops c67r1) c67s11) := fun _ _ _ _ _ => rfl
def c67 : Gx.Fn := ⟨21, c67k, (.seq (.ops c67r0) c67s12), [(.cell S1 (some 5))]⟩
theorem c67ok : stripFn Tryd.prog c67k Tryd.f67 = some c67 := by kernel_rfl

/- (*parser.parser).closed -/
@[go_sem] def c68k : List Nat := [0, 2, 3, 4, 10, 14, 22]
@[go_sem] def c68r0 : List GOp := [mS 1 (.c Z)]
@[go_sem] def c68r1 : List GOp := [mS 2 (.c Z)]
@[go_sem] def c68r2 : List GOp := [mT S0, oT (.call 38 [T0, (.c (.string ⟨⟨[40]⟩⟩))])]
@[go_sem] def c68r3 : List GOp := [mT S0, oT (.call 29 [T0]), oT (.v (.fld1 0 T0)), oS 4 (.v (.bin .eql T0 (C 4)))]
@[go_sem] def c68r4 : List GOp := [mT S0, oT (.call 77 [T0]), mS 2 T0]
def c68s5 : SCode := (.cond S4 (.ops c68r4) .skip)
@[go_sem] theorem c68s5eq : U c68s5 (.cond S4 (.ops c68r4) .skip) := fun _ _ _ _ _ => rfl
@[go_sem] def c68r6 : List GOp := [mT S0, oS 5 (.call 42 [T0, (.c (.string ⟨⟨[59]⟩⟩))])]
def c68s7 : SCode := (.cond S5 .skip (.exit 0))
@[go_sem] theorem c68s7eq : U c68s7 (.cond S5 .skip (.exit 0)) := fun _ _ _ _ _ => rfl
@[go_sem] def c68r8 : List GOp := [mT S0, oT (.call 29 [T0]), oT (.v (.fld1 3 T0)), oT (.v (.bld [(I 0), (.string ⟨⟨[]⟩⟩), (I 0), (I 0), Z] [(0, (1, (C 20))), (3, (1, T0))])), oS 3 (.al 24 [(I 0), (.string ⟨⟨[]⟩⟩), (I 0), (I 0), Z]), oN (.st 5 S3 T0)]
@[go_sem] def c68r9 : List GOp := [mT S0, oT (.call 29 [T0]), oT (.v (.fld1 0 T0)), oS 6 (.v (.bin .eql T0 (C 4)))]
@[go_sem] def c68r10 : List GOp := [mT S0, oT (.call 77 [T0]), fT 4 S3, oN (.st 1 T0 T1)]
def c68s11 : SCode := (.cond S6 (.ops c68r10) .skip)
@[go_sem] theorem c68s11eq : U c68s11 (.cond S6 (.ops c68r10) .skip) := fun _ _ _ _ _ => rfl
@[go_sem] def c68r12 : List GOp := [mT S0, oT (.call 38 [T0, (.c (.string ⟨⟨[61, 62]⟩⟩))])]
@[go_sem] def c68d13 : DT := (rf 4 S3 [5, 7] (rl T0 [5, 7] (rm S0 [3, 4, 5, 7] (.ef 3 none .t (.call 78 [T0]) (.ef 4 none .t (.bs 24 1 [(I 0), (.string ⟨⟨[]⟩⟩), (I 0), (I 0), Z] [(0, (5, T0))]) (.ef 5 none .t (.ap 22 22 T3 T0) (rf 4 S3 [7] (.ef 7 none .no (.st 1 T0 T1) .done))))))))
@[go_sem] def c68r14 : List GOp := [mT S2, oT (.ld (some 5) S3), oT (.bs 24 1 [(I 0), (.string ⟨⟨[]⟩⟩), (I 0), (I 0), Z] [(0, (5, T0))]), oT (.ap 22 22 T2 T0), mS 2 T0]
def c68s15 : SCode := (.ops c68r14)
@[go_sem] theorem c68s15eq : U c68s15 (.ops c68r14) := fun _ _ _ _ _ => rfl
def c68s16 : SCode := (.seq (.de c68d13) c68s15)
@[go_sem] theorem c68s16eq : U c68s16 (.seq (.de c68d13) c68s15) := fun _ _ _ _ _ => rfl
def c68s17 : SCode := (.seq (.ops c68r12) c68s16)
theorem c68s17eq : U c68s17 (.seq (.ops c68r12) c68s16) := fun _ _ _ _ _ => rfl
def c68s18 : SCode := (.seq (.seq (.ops c68r9) c68s11) c68s17)
@[go_sem] theorem c68s18eq : U c68s18 (.seq (.seq (.ops c68r9) c68s11) c68s17) := fun _ _ _ _ _ => rfl
def c68s19 : SCode := (.block 1 (.seq (.ops c68r8) c68s18))
@[go_sem] theorem c68s19eq : U c68s19 (.block 1 (.seq (.ops c68r8) c68s18)) := fun _ _ _ _ _ => rfl
def c68s20 : SCode := (.seq (.seq (.ops c68r6) c68s7) c68s19)
@[go_sem] theorem c68s20eq : U c68s20 (.seq (.seq (.ops c68r6) c68s7) c68s19) := fun _ _ _ _ _ => rfl
@[go_sem] def c68r21 : List GOp := [mT S0, oT (.call 38 [T0, (.c (.string ⟨⟨[41]⟩⟩))])]
@[go_sem] def c68r22 : List GOp := [mT S2, mS 1 T0]
def c68s23 : SCode := (.seq (.ops c68r22) .ret)
@[go_sem] theorem c68s23eq : U c68s23 (.seq (.ops c68r22) .ret) := fun _ _ _ _ _ => rfl
def c68s24 : SCode := (.seq (.ops c68r21) c68s23)
@[go_sem] theorem c68s24eq : U c68s24 (.seq (.ops c68r21) c68s23) := fun _ _ _ _ _ => rfl
def c68s25 : SCode := (.seq (.block 0 (.loop c68k c68s20)) c68s24)
theorem c68s25eq : U c68s25 (.seq (.block 0 (.loop c68k c68s20)) c68s24) := fun _ _ _ _ _ => rfl
def c68s26 : SCode := (.seq (.seq (.ops c68r3) c68s5) c68s25)
@[go_sem] theorem c68s26eq : U c68s26 (.seq (.seq (.ops c68r3) c68s5) c68s25) := fun _ _ _ _ _ => rfl
def c68s27 : SCode := (.seq (.ops c68r2) c68s26)
@[go_sem] theorem c68s27eq : U c68s27 (.seq (.ops c68r2) c68s26) := fun _ _ _ _ _ => rfl
def c68s28 : SCode := (.seq (.ops c68r1) c68s27)
@[go_sem] theorem c68s28eq : U c68s28 (.seq (.ops c68r1) c68s27) := fun _ _ _ _ _ => rfl
def c68 : Gx.Fn := ⟨42, c68k, (.seq (.ops c68r0) c68s28), [(.tmp S1)]⟩
theorem c68ok : stripFn Tryd.prog c68k Tryd.f68 = some c68 := by kernel_rfl

/- (*parser.parser).not -/
@[go_sem] def c74k : List Nat := [0, 2, 3, 6]
@[go_sem] def c74r0 : List GOp := [oS 1 (.al 24 [(I 0), (.string ⟨⟨[]⟩⟩), (I 0), (I 0), Z])]
@[go_sem] def c74r1 : List GOp := [mT S0, oT (.call 35 [T0, (.c (.string ⟨⟨[110, 111, 116]⟩⟩))]), oS 3 (.v (.un .not T0))]
@[go_sem] def c74r2 : List GOp := [mT S0, oT (.call 86 [T0]), oN (.st 5 S1 T0)]
def c74s3 : SCode := (.seq (.ops c74r2) .ret)
@[go_sem] theorem c74s3eq : U c74s3 (.seq (.ops c74r2) .ret) := fun _ _ _ _ _ => rfl
@[go_sem] def c74r4 : List GOp := [mT S0, oT (.call 37 [T0, (.c (.string ⟨⟨[110, 111, 116]⟩⟩))]), oT (.v (.bld [(I 0), (.string ⟨⟨[]⟩⟩), (I 0), (I 0), Z] [(0, (1, (C 33))), (3, (1, T0))])), oS 2 (.al 24 [(I 0), (.string ⟨⟨[]⟩⟩), (I 0), (I 0), Z]), oN (.st 5 S2 T0)]
@[go_sem] def c74r5 : List GOp := [mT S0, oT (.call 74 [T0]), oT (.bs 24 1 [(I 0), (.string ⟨⟨[]⟩⟩), (I 0), (I 0), Z] [(0, (5, T0))]), fT 4 S2, oN (.st 1 T0 T1)]
@[go_sem] def c74r6 : List GOp := [mT S0, oT (.call 39 [T0])]
@[go_sem] def c74r7 : List GOp := [oT (.ld (some 5) S2), oN (.st 5 S1 T0)]
def c74s8 : SCode := (.seq (.ops c74r7) .ret)
@[go_sem] theorem c74s8eq : U c74s8 (.seq (.ops c74r7) .ret) := fun _ _ _ _ _ => rfl
def c74s9 : SCode := (.seq (.ops c74r6) c74s8)
@[go_sem] theorem c74s9eq : U c74s9 (.seq (.ops c74r6) c74s8) := fun _ _ _ _ _ => rfl
def c74s10 : SCode := (.seq (.ops c74r5) c74s9)
@[go_sem] theorem c74s10eq : U c74s10 (.seq (.ops c74r5) c74s9) := fun _ _ _ _ _ => rfl
def c74s11 : SCode := (.seq (.ops c74r4) c74s10)
@[go_sem] theorem c74s11eq : U c74s11 (.seq (.ops c74r4) c74s10) := fun _ _ _ _ _ => rfl
def c74s12 : SCode := (.seq (.seq (.ops c74r1) (.cond S3 c74s3 .skip)) c74s11)
@[go_sem] theorem c74s12eq : U c74s12 (.seq (.seq (.ops c74r1) (.cond S3 c74s3 .skip)) c74s11) := fun _ _ _ _ _ => rfl
def c74 : Gx.Fn := ⟨19, c74k, (.seq (.ops c74r0) c74s12), [(.cell S1 (some 5))]⟩
theorem c74ok : stripFn Tryd.prog c74k Tryd.f74 = some c74 := by kernel_rfl

/- (*parser.parser).quotes -/
@[go_sem] def c77k : List Nat := [0, 2, 3, 8]
@[go_sem] def c77r0 : List GOp := [mS 1 (.c Z)]
@[go_sem] def c77r1 : List GOp := [mT S0, oT (.call 78 [T0]), oT (.bs 24 1 [(I 0), (.string ⟨⟨[]⟩⟩), (I 0), (I 0), Z] [(0, (5, T0))]), mS 2 T0]
@[go_sem] def c77r2 : List GOp := [mT S0, oS 3 (.call 42 [T0, (.c (.string ⟨⟨[44]⟩⟩))])]
def c77s3 : SCode := (.cond S3 .skip (.exit 0))
@[go_sem] theorem c77s3eq : U c77s3 (.cond S3 .skip (.exit 0)) := fun _ _ _ _ _ => rfl
@[go_sem] def c77r4 : List GOp := [mT S2, mT S0, oT (.call 78 [T0]), oT (.bs 24 1 [(I 0), (.string ⟨⟨[]⟩⟩), (I 0), (I 0), Z] [(0, (5, T0))]), oT (.ap 22 22 T3 T0), mS 2 T0]
def c77s5 : SCode := (.seq (.seq (.ops c77r2) c77s3) (.block 1 (.ops c77r4)))
@[go_sem] theorem c77s5eq : U c77s5 (.seq (.seq (.ops c77r2) c77s3) (.block 1 (.ops c77r4))) := fun _ _ _ _ _ => rfl
@[go_sem] def c77r6 : List GOp := [mT S2, mS 1 T0]
def c77s7 : SCode := (.seq (.ops c77r6) .ret)
@[go_sem] theorem c77s7eq : U c77s7 (.seq (.ops c77r6) .ret) := fun _ _ _ _ _ => rfl
def c77s8 : SCode := (.seq (.block 0 (.loop c77k c77s5)) c77s7)
@[go_sem] theorem c77s8eq : U c77s8 (.seq (.block 0 (.loop c77k c77s5)) c77s7) := fun _ _ _ _ _ => rfl
def c77s9 : SCode := (.seq (.ops c77r1) c77s8)
@[go_sem] theorem c77s9eq : U c77s9 (.seq (.ops c77r1) c77s8) := fun _ _ _ _ _ => rfl
def c77 : Gx.Fn := ⟨15, c77k, (.seq (.ops c77r0) c77s9), [(.tmp S1)]⟩
theorem c77ok : stripFn Tryd.prog c77k Tryd.f77 = some c77 := by kernel_rfl

/- (*parser.parser).quote -/
@[go_sem] def c78k : List Nat := [0, 2, 3]
@[go_sem] def c78r0 : List GOp := [oS 1 (.al 24 [(I 0), (.string ⟨⟨[]⟩⟩), (I 0), (I 0), Z])]
@[go_sem] def c78r1 : List GOp := [mT S0, oT (.call 43 [T0, (C 4)]), oS 2 (.al 39 [(I 0), (.string ⟨⟨[]⟩⟩), (I 0), (I 0)]), oN (.st 4 S2 T0)]
@[go_sem] def c78r2 : List GOp := [fT 1 S2, lT T0, fT 3 S2, lT T0, oT (.v (.bld [(I 0), (.string ⟨⟨[]⟩⟩), (I 0), (I 0), Z] [(0, (1, (C 47))), (1, (1, T2)), (3, (1, T0))])), oN (.st 5 S1 T0)]
def c78s3 : SCode := (.seq (.ops c78r2) .ret)
@[go_sem] theorem c78s3eq : U c78s3 (.seq (.ops c78r2) .ret) := fun _ _ _ _ _ => rfl
def c78s4 : SCode := (.seq (.ops c78r1) c78s3)
@[go_sem] theorem c78s4eq : U c78s4 (.seq (.ops c78r1) c78s3) := fun _ _ _ _ _ => rfl
def c78 : Gx.Fn := ⟨11, c78k, (.seq (.ops c78r0) c78s4), [(.cell S1 (some 5))]⟩
theorem c78ok : stripFn Tryd.prog c78k Tryd.f78 = some c78 := by kernel_rfl

/- (*parser.parser).comparison -/
@[go_sem] def c86k : List Nat := [0, 2, 3, 4, 5, 6, 24]
@[go_sem] def c86r0 : List GOp := [oS 1 (.al 24 [(I 0), (.string ⟨⟨[]⟩⟩), (I 0), (I 0), Z])]
@[go_sem] def c86r1 : List GOp := [mT S0, oT (.call 97 [T0]), oS 2 (.al 24 [(I 0), (.string ⟨⟨[]⟩⟩), (I 0), (I 0), Z]), oN (.st 5 S2 T0)]
@[go_sem] def c86r2 : List GOp := [oT .mm, oN (.ins T0 (.c (.string ⟨⟨[60, 61]⟩⟩)) (C 34)), oN (.ins T0 (.c (.string ⟨⟨[60]⟩⟩)) (C 35)), oN (.ins T0 (.c (.string ⟨⟨[61, 61]⟩⟩)) (C 36)), oN (.ins T0 (.c (.string ⟨⟨[105, 110]⟩⟩)) (C 37)), oN (.ins T0 (.c (.string ⟨⟨[108, 101, 113]⟩⟩)) (C 38)), mT T0, mS 3 T0]
@[go_sem] def c86r3 : List GOp := [mT S0, oT (.call 29 [T0]), oS 4 (.al 39 [(I 0), (.string ⟨⟨[]⟩⟩), (I 0), (I 0)]), oN (.st 4 S4 T0)]
@[go_sem] def c86r4 : List GOp := [mT S3, fT 1 S4, lT T0, oT (.lkp (I 0) T2 T0), mS 5 T0]
@[go_sem] def c86r5 : List GOp := [mT S5, oT (.v (.bin .neq T0 (C 0))), mT T0, (.op (some (T0, (true, true))) .t (.v (.mv S0))), (.op (some (T1, (true, false))) .t (.v (.fa 1 S4))), (.op (some (T2, (true, false))) .t (.ld none T0)), (.op (some (T3, (true, false))) .t (.call 42 [T2, T0])), oS 6 (.v (.pick T4 T0 (.c (.bool false))))]
@[go_sem] def c86d6 : DT := (rm S5 [8] (rf 3 S4 [8] (rl T0 [8] (.rd none .t (.ld (some 5) S2) [6, 8] (rm S0 [5, 6, 8] (.ef 5 none .t (.call 97 [T0]) (.ef 6 none .t (.bs 24 2 [(I 0), (.string ⟨⟨[]⟩⟩), (I 0), (I 0), Z, (I 0), (.string ⟨⟨[]⟩⟩), (I 0), (I 0), Z] [(0, (5, T2)), (5, (5, T0))]) (.rd none .t (.v (.bld [(I 0), (.string ⟨⟨[]⟩⟩), (I 0), (I 0), Z] [(0, (1, T6)), (3, (1, T4)), (4, (1, T0))])) [8] (.ef 8 none .no (.st 5 S1 T0) .done)))))))))
def c86s7 : SCode := (.cond S6 (.seq (.de c86d6) .ret) .skip)
@[go_sem] theorem c86s7eq : U c86s7 (.cond S6 (.seq (.de c86d6) .ret) .skip) := fun _ _ _ _ _ => rfl
def c86s8 : SCode := (.seq (.ops c86r5) c86s7)
@[go_sem] theorem c86s8eq : U c86s8 (.seq (.ops c86r5) c86s7) := fun _ _ _ _ _ => rfl
@[go_sem] def c86r9 : List GOp := [oT (.ld (some 5) S2), oN (.st 5 S1 T0)]
def c86s10 : SCode := (.seq (.ops c86r9) .ret)
@[go_sem] theorem c86s10eq : U c86s10 (.seq (.ops c86r9) .ret) := fun _ _ _ _ _ => rfl
def c86s11 : SCode := (.seq (.seq (.ops c86r4) c86s8) c86s10)
@[go_sem] theorem c86s11eq : U c86s11 (.seq (.seq (.ops c86r4) c86s8) c86s10) := fun _ _ _ _ _ => rfl
def c86s12 : SCode := (.seq (.ops c86r3) c86s11)
@[go_sem] theorem c86s12eq : U c86s12 (.seq (.ops c86r3) c86s11) := fun _ _ _ _ _ => rfl
def c86s13 : SCode := (.seq (.ops c86r2) c86s12)
@[go_sem] theorem c86s13eq : U c86s13 (.seq (.ops c86r2) c86s12) := fun _ _ _ _ _ => rfl
def c86s14 : SCode := (.seq (.ops c86r1) c86s13)
@[go_sem] theorem c86s14eq : U c86s14 (.seq (.ops c86r1) c86s13) := fun _ _ _ _ _ => rfl
def c86 : Gx.Fn := ⟨34, c86k, (.seq (.ops c86r0) c86s14), [(.cell S1 (some 5))]⟩
theorem c86ok : stripFn Tryd.prog c86k Tryd.f86 = some c86 := by kernel_rfl

/- (*parser.parser).joined -/
@[go_sem] def c97k : List Nat := [0, 2]
@[go_sem] def c97r0 : List GOp := [oS 1 (.al 24 [(I 0), (.string ⟨⟨[]⟩⟩), (I 0), (I 0), Z])]
@[go_sem] def c97r1 : List GOp := [mT S0, mT S0, oT (.v (.mkf 105 [T0] [])), oT .mm, oN (.ins T0 (.c (.string ⟨⟨[106, 111, 105, 110]⟩⟩)) (C 39)), mT T0, oT (.call 56 [T4, T2, T0]), oN (.st 5 S1 T0)]
def c97s2 : SCode := (.seq (.ops c97r1) .ret)
@[go_sem] theorem c97s2eq : U c97s2 (.seq (.ops c97r1) .ret) := fun _ _ _ _ _ => rfl
def c97 : Gx.Fn := ⟨9, c97k, (.seq (.ops c97r0) c97s2), [(.cell S1 (some 5))]⟩
theorem c97ok : stripFn Tryd.prog c97k Tryd.f97 = some c97 := by kernel_rfl

/- (*parser.parser).sum -/
@[go_sem] def c105k : List Nat := [0, 2]
@[go_sem] def c105r0 : List GOp := [oS 1 (.al 24 [(I 0), (.string ⟨⟨[]⟩⟩), (I 0), (I 0), Z])]
@[go_sem] def c105r1 : List GOp := [mT S0, mT S0, oT (.v (.mkf 107 [T0] [])), oT .mm, oN (.ins T0 (.c (.string ⟨⟨[43]⟩⟩)) (C 40)), oN (.ins T0 (.c (.string ⟨⟨[45]⟩⟩)) (C 41)), mT T0, oT (.call 56 [T4, T2, T0]), oN (.st 5 S1 T0)]
def c105s2 : SCode := (.seq (.ops c105r1) .ret)
@[go_sem] theorem c105s2eq : U c105s2 (.seq (.ops c105r1) .ret) := fun _ _ _ _ _ => rfl
def c105 : Gx.Fn := ⟨9, c105k, (.seq (.ops c105r0) c105s2), [(.cell S1 (some 5))]⟩
theorem c105ok : stripFn Tryd.prog c105k Tryd.f105 = some c105 := by kernel_rfl

/- (*parser.parser).postfix -/
@[go_sem] def c107k : List Nat := [0, 2, 3, 4, 11, 21]
@[go_sem] def c107r0 : List GOp := [oS 1 (.al 24 [(I 0), (.string ⟨⟨[]⟩⟩), (I 0), (I 0), Z])]
@[go_sem] def c107r1 : List GOp := [mT S0, oT (.call 108 [T0]), oS 2 (.al 24 [(I 0), (.string ⟨⟨[]⟩⟩), (I 0), (I 0), Z]), oN (.st 5 S2 T0)]
@[go_sem] def c107r2 : List GOp := [mT S0, oT (.call 29 [T0]), oT (.v (.fld1 3 T0)), mS 3 T0]
@[go_sem] def c107r3 : List GOp := [mT S0, oT (.call 42 [T0, (.c (.string ⟨⟨[46]⟩⟩))]), mS 4 T0]
@[go_sem] def c107d4 : DT := (rm S3 [7] (rm S0 [2, 7] (.rd none .t (.ld (some 5) S2) [5, 7] (.br (.ef 2 none .t (.call 43 [T1, (C 1)]) (.rd none .t (.v (.fld1 1 T0)) [7] (.ef 5 none .t (.bs 24 1 [(I 0), (.string ⟨⟨[]⟩⟩), (I 0), (I 0), Z] [(0, (5, T2))]) (.rd none .t (.v (.bld [(I 0), (.string ⟨⟨[]⟩⟩), (I 0), (I 0), Z] [(0, (1, (C 42))), (3, (1, T5)), (1, (1, T1)), (4, (1, T0))])) [7] (.ef 7 none .no (.st 5 S2 T0) .done))))) (.ef 5 none .t (.bs 24 1 [(I 0), (.string ⟨⟨[]⟩⟩), (I 0), (I 0), Z] [(0, (5, T0))]) (.ef 2 none .t (.call 43 [T2, (C 1)]) (.rd none .t (.v (.fld1 1 T0)) [7] (.rd none .t (.v (.bld [(I 0), (.string ⟨⟨[]⟩⟩), (I 0), (I 0), Z] [(0, (1, (C 42))), (3, (1, T5)), (1, (1, T0)), (4, (1, T2))])) [7] (.ef 7 none .no (.st 5 S2 T0) .done)))))))))
@[go_sem] def c107r5 : List GOp := [mT S0, oT (.call 35 [T0, (.c (.string ⟨⟨[91]⟩⟩))]), mS 5 T0]
@[go_sem] def c107r6 : List GOp := [mT S0, oT (.call 37 [T0, (.c (.string ⟨⟨[91]⟩⟩))])]
@[go_sem] def c107d7 : DT := (rm S3 [6] (.rd none .t (.ld (some 5) S2) [4, 6] (rm S0 [3, 4, 6] (.ef 3 none .t (.call 26 [T0]) (.ef 4 none .t (.bs 24 2 [(I 0), (.string ⟨⟨[]⟩⟩), (I 0), (I 0), Z, (I 0), (.string ⟨⟨[]⟩⟩), (I 0), (I 0), Z] [(0, (5, T2)), (5, (5, T0))]) (.rd none .t (.v (.bld [(I 0), (.string ⟨⟨[]⟩⟩), (I 0), (I 0), Z] [(0, (1, (C 43))), (3, (1, T4)), (4, (1, T0))])) [6] (.ef 6 none .no (.st 5 S2 T0) .done)))))))
@[go_sem] def c107r8 : List GOp := [mT S0, oT (.call 38 [T0, (.c (.string ⟨⟨[93]⟩⟩))])]
@[go_sem] def c107r9 : List GOp := [mT S0, oT (.call 39 [T0])]
def c107s10 : SCode := (.ops c107r9)
@[go_sem] theorem c107s10eq : U c107s10 (.ops c107r9) := fun _ _ _ _ _ => rfl
def c107s11 : SCode := (.seq (.ops c107r8) c107s10)
@[go_sem] theorem c107s11eq : U c107s11 (.seq (.ops c107r8) c107s10) := fun _ _ _ _ _ => rfl
def c107s12 : SCode := (.seq (.de c107d7) c107s11)
@[go_sem] theorem c107s12eq : U c107s12 (.seq (.de c107d7) c107s11) := fun _ _ _ _ _ => rfl
def c107s13 : SCode := (.seq (.ops c107r6) c107s12)
@[go_sem] theorem c107s13eq : U c107s13 (.seq (.ops c107r6) c107s12) := fun _ _ _ _ _ => rfl
@[go_sem] def c107r14 : List GOp := [oT (.ld (some 5) S2), oN (.st 5 S1 T0)]
def c107s15 : SCode := (.seq (.ops c107r14) .ret)
@[go_sem] theorem c107s15eq : U c107s15 (.seq (.ops c107r14) .ret) := fun _ _ _ _ _ => rfl
def c107s16 : SCode := (.cond S5 c107s13 c107s15)
@[go_sem] theorem c107s16eq : U c107s16 (.cond S5 c107s13 c107s15) := fun _ _ _ _ _ => rfl
def c107s17 : SCode := (.seq (.ops c107r5) c107s16)
@[go_sem] theorem c107s17eq : U c107s17 (.seq (.ops c107r5) c107s16) := fun _ _ _ _ _ => rfl
def c107s18 : SCode := (.cond S4 (.de c107d4) c107s17)
@[go_sem] theorem c107s18eq : U c107s18 (.cond S4 (.de c107d4) c107s17) := fun _ _ _ _ _ => rfl
def c107s19 : SCode := (.block 2 (.seq (.ops c107r3) c107s18))
@[go_sem] theorem c107s19eq : U c107s19 (.block 2 (.seq (.ops c107r3) c107s18)) := fun _ _ _ _ _ => rfl
def c107s20 : SCode := (.block 1 (.seq (.ops c107r2) c107s19))
@[go_sem] theorem c107s20eq : U c107s20 (.block 1 (.seq (.ops c107r2) c107s19)) := fun _ _ _ _ _ => rfl
def c107s21 : SCode := (.block 0 (.loop c107k c107s20))
@[go_sem] theorem c107s21eq : U c107s21 (.block 0 (.loop c107k c107s20)) := fun _ _ _ _ _ => rfl
def c107s22 : SCode := (.seq (.ops c107r1) c107s21)
@[go_sem] theorem c107s22eq : U c107s22 (.seq (.ops c107r1) c107s21) := fun _ _ _ _ _ => rfl
def c107 : Gx.Fn := ⟨36, c107k, (.seq (.ops c107r0) c107s22), [(.cell S1 (some 5))]⟩
theorem c107ok : stripFn Tryd.prog c107k Tryd.f107 = some c107 := by kernel_rfl

/- (*parser.parser).primary -/
@[go_sem] def c108k : List Nat := [0, 2, 3, 4, 5, 13, 23, 29, 35, 39, 43, 47, 51, 62, 87]
@[go_sem] def c108r0 : List GOp := [oS 1 (.al 24 [(I 0), (.string ⟨⟨[]⟩⟩), (I 0), (I 0), Z])]
@[go_sem] def c108r1 : List GOp := [mT S0, oT (.call 29 [T0]), oS 2 (.al 39 [(I 0), (.string ⟨⟨[]⟩⟩), (I 0), (I 0)]), oN (.st 4 S2 T0)]
@[go_sem] def c108r2 : List GOp := [fT 3 S2, lT T0, oT (.v (.bld [(I 0), (.string ⟨⟨[]⟩⟩), (I 0), (I 0), Z] [(3, (1, T0))])), oS 3 (.al 24 [(I 0), (.string ⟨⟨[]⟩⟩), (I 0), (I 0), Z]), oN (.st 5 S3 T0)]
@[go_sem] def c108r3 : List GOp := [fT 0 S2, lT T0, oT (.v (.bin .eql T0 (C 3))), mT T0, (.op (some (T0, (false, true))) .t (.v (.mv S0))), (.op (some (T1, (false, false))) .t (.call 35 [T0, (.c (.string ⟨⟨[45]⟩⟩))])), oT (.v (.pick T2 (.c (.bool true)) T0)), mS 5 T0]
@[go_sem] def c108r4 : List GOp := [mT S0, oT (.call 67 [T0]), oN (.st 5 S1 T0)]
def c108s5 : SCode := (.seq (.ops c108r4) .ret)
@[go_sem] theorem c108s5eq : U c108s5 (.seq (.ops c108r4) .ret) := fun _ _ _ _ _ => rfl
@[go_sem] def c108r6 : List GOp := [fT 0 S2, lT T0, oT (.v (.bin .eql T0 (C 4))), mS 6 T0]
@[go_sem] def c108r7 : List GOp := [mT S0, oT (.call 78 [T0]), oN (.st 5 S1 T0)]
def c108s8 : SCode := (.seq (.ops c108r7) .ret)
@[go_sem] theorem c108s8eq : U c108s8 (.seq (.ops c108r7) .ret) := fun _ _ _ _ _ => rfl
@[go_sem] def c108r9 : List GOp := [fT 0 S2, lT T0, oT (.v (.bin .eql T0 (C 1))), mS 7 T0]
@[go_sem] def c108r10 : List GOp := [mT S0, oT (.call 47 [T0, (C 48)]), oN (.st 5 S1 T0)]
def c108s11 : SCode := (.seq (.ops c108r10) .ret)
@[go_sem] theorem c108s11eq : U c108s11 (.seq (.ops c108r10) .ret) := fun _ _ _ _ _ => rfl
@[go_sem] def c108r12 : List GOp := [mT S0, oT (.call 42 [T0, (.c (.string ⟨⟨[116, 114, 117, 101]⟩⟩))]), mS 8 T0]
@[go_sem] def c108r13 : List GOp := [fT 0 S3, oN (.st 1 T0 (C 45))]
@[go_sem] def c108r14 : List GOp := [mT S0, oT (.call 42 [T0, (.c (.string ⟨⟨[102, 97, 108, 115, 101]⟩⟩))]), mS 9 T0]
@[go_sem] def c108r15 : List GOp := [fT 0 S3, oN (.st 1 T0 (C 46))]
@[go_sem] def c108r16 : List GOp := [mT S0, oT (.call 42 [T0, (.c (.string ⟨⟨[115]⟩⟩))]), mS 10 T0]
@[go_sem] def c108r17 : List GOp := [fT 0 S3, oN (.st 1 T0 (C 49))]
@[go_sem] def c108r18 : List GOp := [mT S0, oT (.call 42 [T0, (.c (.string ⟨⟨[98, 111, 116, 116, 111, 109]⟩⟩))]), mS 11 T0]
@[go_sem] def c108r19 : List GOp := [fT 0 S3, oN (.st 1 T0 (C 50))]
@[go_sem] def c108r20 : List GOp := [mT S0, oT (.call 35 [T0, (.c (.string ⟨⟨[40]⟩⟩))]), mS 12 T0]
@[go_sem] def c108r21 : List GOp := [mT S0, oT (.call 37 [T0, (.c (.string ⟨⟨[40]⟩⟩))])]
@[go_sem] def c108r22 : List GOp := [mT S0, oT (.call 26 [T0]), oN (.st 5 S3 T0)]
@[go_sem] def c108r23 : List GOp := [mT S0, oT (.call 38 [T0, (.c (.string ⟨⟨[41]⟩⟩))])]
@[go_sem] def c108r24 : List GOp := [mT S0, oT (.call 39 [T0])]
def c108s25 : SCode := (.ops c108r24)
@[go_sem] theorem c108s25eq : U c108s25 (.ops c108r24) := fun _ _ _ _ _ => rfl
def c108s26 : SCode := (.seq (.ops c108r23) c108s25)
@[go_sem] theorem c108s26eq : U c108s26 (.seq (.ops c108r23) c108s25) := fun _ _ _ _ _ => rfl
def c108s27 : SCode := (.seq (.ops c108r22) c108s26)
@[go_sem] theorem c108s27eq : U c108s27 (.seq (.ops c108r22) c108s26) := fun _ _ _ _ _ => rfl
def c108s28 : SCode := (.seq (.ops c108r21) c108s27)
@[go_sem] theorem c108s28eq : U c108s28 (.seq (.ops c108r21) c108s27) := fun _ _ _ _ _ => rfl
@[go_sem] def c108r29 : List GOp := [fT 0 S2, lT T0, oT (.v (.bin .eql T0 (C 2))), mT T0, (.op (some (T0, (true, true))) .t (.v (.fa 1 S2))), (.op (some (T1, (true, false))) .t (.ld none T0)), (.op (some (T2, (true, false))) .t (.call 109 [T0])), oT (.v (.pick T3 T0 (.c (.bool false)))), mS 13 T0]
@[go_sem] def c108r30 : List GOp := [mT S0, oT (.v (.nc T0)), fT 1 T0, lT T0, oT (.v (.bin .add T0 (C 1))), oT (.v (.nc T4)), fT 1 T0, oN (.st 1 T0 T2)]
@[go_sem] def c108d31 : DT := (rf 1 S2 [5] (rl T0 [5] (rf 0 S3 [3, 5] (.ef 3 none .no (.st 1 T0 (C 51)) (rf 1 S3 [5] (.ef 5 none .no (.st 1 T0 T2) .done))))))
@[go_sem] def c108r32 : List GOp := [mT S0, oT (.call 37 [T0, (.c (.string ⟨⟨[40]⟩⟩))])]
@[go_sem] def c108r33 : List GOp := [mT S0, oT (.call 42 [T0, (.c (.string ⟨⟨[41]⟩⟩))]), oT (.v (.un .not T0)), mS 4 T0]
@[go_sem] def c108r34 : List GOp := [mS 14 S4]
def c108s35 : SCode := (.cond S14 .skip (.exit 1))
@[go_sem] theorem c108s35eq : U c108s35 (.cond S14 .skip (.exit 1)) := fun _ _ _ _ _ => rfl
@[go_sem] def c108d36 : DT := (rf 4 S3 [7, 9] (rl T0 [7, 9] (rm S0 [5, 6, 7, 9] (rf 1 S2 [5, 6, 7, 9] (rl T0 [5, 6, 7, 9] (.ef 5 none .t (.call 110 [T2, T0]) (.ef 6 none .t (.bs 24 1 [(I 0), (.string ⟨⟨[]⟩⟩), (I 0), (I 0), Z] [(0, (5, T0))]) (.ef 7 none .t (.ap 22 22 T5 T0) (rf 4 S3 [9] (.ef 9 none .no (.st 1 T0 T1) .done))))))))))
@[go_sem] def c108r37 : List GOp := [mT S0, oT (.call 45 [T0]), mS 4 T0]
def c108s38 : SCode := (.ops c108r37)
@[go_sem] theorem c108s38eq : U c108s38 (.ops c108r37) := fun _ _ _ _ _ => rfl
def c108s39 : SCode := (.seq (.block 2 (.de c108d36)) c108s38)
@[go_sem] theorem c108s39eq : U c108s39 (.seq (.block 2 (.de c108d36)) c108s38) := fun _ _ _ _ _ => rfl
def c108s40 : SCode := (.seq (.seq (.ops c108r34) c108s35) c108s39)
@[go_sem] theorem c108s40eq : U c108s40 (.seq (.seq (.ops c108r34) c108s35) c108s39) := fun _ _ _ _ _ => rfl
def c108s41 : SCode := (.block 1 (.loop c108k c108s40))
@[go_sem] theorem c108s41eq : U c108s41 (.block 1 (.loop c108k c108s40)) := fun _ _ _ _ _ => rfl
@[go_sem] def c108r42 : List GOp := [mT S0, oT (.call 39 [T0])]
def c108s43 : SCode := (.ops c108r42)
@[go_sem] theorem c108s43eq : U c108s43 (.ops c108r42) := fun _ _ _ _ _ => rfl
def c108s44 : SCode := (.seq (.seq (.ops c108r33) c108s41) c108s43)
@[go_sem] theorem c108s44eq : U c108s44 (.seq (.seq (.ops c108r33) c108s41) c108s43) := fun _ _ _ _ _ => rfl
def c108s45 : SCode := (.seq (.ops c108r32) c108s44)
@[go_sem] theorem c108s45eq : U c108s45 (.seq (.ops c108r32) c108s44) := fun _ _ _ _ _ => rfl
def c108s46 : SCode := (.seq (.de c108d31) c108s45)
@[go_sem] theorem c108s46eq : U c108s46 (.seq (.de c108d31) c108s45) := fun _ _ _ _ _ => rfl
def c108s47 : SCode := (.seq (.ops c108r30) c108s46)
@[go_sem] theorem c108s47eq : U c108s47 (.seq (.ops c108r30) c108s46) := fun _ _ _ _ _ => rfl
@[go_sem] def c108r48 : List GOp := [mT S0, oT (.call 34 [T0, (C 2)])]
def c108s49 : SCode := (.cond S13 c108s47 (.ops c108r48))
@[go_sem] theorem c108s49eq : U c108s49 (.cond S13 c108s47 (.ops c108r48)) := fun _ _ _ _ _ => rfl
def c108s50 : SCode := (.seq (.ops c108r29) c108s49)
@[go_sem] theorem c108s50eq : U c108s50 (.seq (.ops c108r29) c108s49) := fun _ _ _ _ _ => rfl
def c108s51 : SCode := (.cond S12 c108s28 c108s50)
@[go_sem] theorem c108s51eq : U c108s51 (.cond S12 c108s28 c108s50) := fun _ _ _ _ _ => rfl
def c108s52 : SCode := (.seq (.ops c108r20) c108s51)
@[go_sem] theorem c108s52eq : U c108s52 (.seq (.ops c108r20) c108s51) := fun _ _ _ _ _ => rfl
def c108s53 : SCode := (.cond S11 (.ops c108r19) c108s52)
@[go_sem] theorem c108s53eq : U c108s53 (.cond S11 (.ops c108r19) c108s52) := fun _ _ _ _ _ => rfl
def c108s54 : SCode := (.seq (.ops c108r18) c108s53)
@[go_sem] theorem c108s54eq : U c108s54 (.seq (.ops c108r18) c108s53) := fun _ _ _ _ _ => rfl
def c108s55 : SCode := (.cond S10 (.ops c108r17) c108s54)
@[go_sem] theorem c108s55eq : U c108s55 (.cond S10 (.ops c108r17) c108s54) := fun _ _ _ _ _ => rfl
def c108s56 : SCode := (.seq (.ops c108r16) c108s55)
@[go_sem] theorem c108s56eq : U c108s56 (.seq (.ops c108r16) c108s55) := fun _ _ _ _ _ => rfl
def c108s57 : SCode := (.cond S9 (.ops c108r15) c108s56)
@[go_sem] theorem c108s57eq : U c108s57 (.cond S9 (.ops c108r15) c108s56) := fun _ _ _ _ _ => rfl
def c108s58 : SCode := (.seq (.ops c108r14) c108s57)
@[go_sem] theorem c108s58eq : U c108s58 (.seq (.ops c108r14) c108s57) := fun _ _ _ _ _ => rfl
def c108s59 : SCode := (.cond S8 (.ops c108r13) c108s58)
@[go_sem] theorem c108s59eq : U c108s59 (.cond S8 (.ops c108r13) c108s58) := fun _ _ _ _ _ => rfl
def c108s60 : SCode := (.seq (.ops c108r12) c108s59)
@[go_sem] theorem c108s60eq : U c108s60 (.seq (.ops c108r12) c108s59) := fun _ _ _ _ _ => rfl
def c108s61 : SCode := (.cond S7 c108s11 c108s60)
@[go_sem] theorem c108s61eq : U c108s61 (.cond S7 c108s11 c108s60) := fun _ _ _ _ _ => rfl
def c108s62 : SCode := (.seq (.ops c108r9) c108s61)
@[go_sem] theorem c108s62eq : U c108s62 (.seq (.ops c108r9) c108s61) := fun _ _ _ _ _ => rfl
def c108s63 : SCode := (.cond S6 c108s8 c108s62)
@[go_sem] theorem c108s63eq : U c108s63 (.cond S6 c108s8 c108s62) := fun _ _ _ _ _ => rfl
def c108s64 : SCode := (.seq (.ops c108r6) c108s63)
@[go_sem] theorem c108s64eq : U c108s64 (.seq (.ops c108r6) c108s63) := fun _ _ _ _ _ => rfl
def c108s65 : SCode := (.cond S5 c108s5 c108s64)
@[go_sem] theorem c108s65eq : U c108s65 (.cond S5 c108s5 c108s64) := fun _ _ _ _ _ => rfl
@[go_sem] def c108r66 : List GOp := [oT (.ld (some 5) S3), oN (.st 5 S1 T0)]
def c108s67 : SCode := (.seq (.ops c108r66) .ret)
@[go_sem] theorem c108s67eq : U c108s67 (.seq (.ops c108r66) .ret) := fun _ _ _ _ _ => rfl
def c108s68 : SCode := (.seq (.block 0 (.seq (.ops c108r3) c108s65)) c108s67)
@[go_sem] theorem c108s68eq : U c108s68 (.seq (.block 0 (.seq (.ops c108r3) c108s65)) c108s67) := fun _ _ _ _ _ => rfl
def c108s69 : SCode := (.seq (.ops c108r2) c108s68)
@[go_sem] theorem c108s69eq : U c108s69 (.seq (.ops c108r2) c108s68) := fun _ _ _ _ _ => rfl
def c108s70 : SCode := (.seq (.ops c108r1) c108s69)
@[go_sem] theorem c108s70eq : U c108s70 (.seq (.ops c108r1) c108s69) := fun _ _ _ _ _ => rfl
def c108 : Gx.Fn := ⟨102, c108k, (.seq (.ops c108r0) c108s70), [(.cell S1 (some 5))]⟩
theorem c108ok : stripFn Tryd.prog c108k Tryd.f108 = some c108 := by kernel_rfl

/- parser.functions -/
@[go_sem] def c109k : List Nat := [0, 2, 3, 4]
@[go_sem] def c109r0 : List GOp := [mS 1 (.c (.bool false))]
@[go_sem] def c109r1 : List GOp := [mS 2 S0]
@[go_sem] def c109r2 : List GOp := [oT (.v (.bin .eql S2 (.c (.string ⟨⟨[102, 108, 97, 103]⟩⟩)))), mS 3 T0]
@[go_sem] def c109r3 : List GOp := [oT (.v (.bin .eql S2 (.c (.string ⟨⟨[110, 117, 109]⟩⟩)))), mS 3 T0]
@[go_sem] def c109r4 : List GOp := [oT (.v (.bin .eql S2 (.c (.string ⟨⟨[115, 101, 116]⟩⟩)))), mS 3 T0]
@[go_sem] def c109r5 : List GOp := [oT (.v (.bin .eql S2 (.c (.string ⟨⟨[109, 97, 112]⟩⟩)))), mS 3 T0]
@[go_sem] def c109r6 : List GOp := [oT (.v (.bin .eql S2 (.c (.string ⟨⟨[114, 101, 99]⟩⟩)))), mS 3 T0]
@[go_sem] def c109r7 : List GOp := [oT (.v (.bin .eql S2 (.c (.string ⟨⟨[112, 97, 105, 114]⟩⟩)))), mS 3 T0]
@[go_sem] def c109r8 : List GOp := [oT (.v (.bin .eql S2 (.c (.string ⟨⟨[111, 110, 101]⟩⟩)))), mS 3 T0]
@[go_sem] def c109r9 : List GOp := [oT (.v (.bin .eql S2 (.c (.string ⟨⟨[119, 114, 105, 116, 101]⟩⟩)))), mS 3 T0]
@[go_sem] def c109r10 : List GOp := [oT (.v (.bin .eql S2 (.c (.string ⟨⟨[115, 105, 122, 101]⟩⟩)))), mS 3 T0]
@[go_sem] def c109r11 : List GOp := [oT (.v (.bin .eql S2 (.c (.string ⟨⟨[115, 117, 109]⟩⟩)))), mS 3 T0]
@[go_sem] def c109r12 : List GOp := [oT (.v (.bin .eql S2 (.c (.string ⟨⟨[110, 117, 109, 98, 101, 114]⟩⟩)))), mS 3 T0]
@[go_sem] def c109r13 : List GOp := [oT (.v (.bin .eql S2 (.c (.string ⟨⟨[111, 110]⟩⟩)))), mS 3 T0]
@[go_sem] def c109r14 : List GOp := [oT (.v (.bin .eql S2 (.c (.string ⟨⟨[107, 101, 121, 115]⟩⟩)))), mS 3 T0]
@[go_sem] def c109r15 : List GOp := [oT (.v (.bin .eql S2 (.c (.string ⟨⟨[118, 97, 108, 117, 101, 115]⟩⟩)))), mS 3 T0]
@[go_sem] def c109r16 : List GOp := [oT (.v (.bin .eql S2 (.c (.string ⟨⟨[102, 105, 114, 115, 116]⟩⟩)))), mS 3 T0]
@[go_sem] def c109r17 : List GOp := [oT (.v (.bin .eql S2 (.c (.string ⟨⟨[115, 101, 99, 111, 110, 100]⟩⟩)))), mS 3 T0]
@[go_sem] def c109r18 : List GOp := [oT (.v (.bin .eql S2 (.c (.string ⟨⟨[99, 111, 110, 102, 108, 105, 99, 116]⟩⟩)))), mS 3 T0]
def c109s19 : SCode := (.cond S3 .skip (.ops c109r18))
@[go_sem] theorem c109s19eq : U c109s19 (.cond S3 .skip (.ops c109r18)) := fun _ _ _ _ _ => rfl
def c109s20 : SCode := (.seq (.ops c109r17) c109s19)
@[go_sem] theorem c109s20eq : U c109s20 (.seq (.ops c109r17) c109s19) := fun _ _ _ _ _ => rfl
def c109s21 : SCode := (.cond S3 .skip c109s20)
@[go_sem] theorem c109s21eq : U c109s21 (.cond S3 .skip c109s20) := fun _ _ _ _ _ => rfl
def c109s22 : SCode := (.seq (.ops c109r16) c109s21)
@[go_sem] theorem c109s22eq : U c109s22 (.seq (.ops c109r16) c109s21) := fun _ _ _ _ _ => rfl
def c109s23 : SCode := (.cond S3 .skip c109s22)
@[go_sem] theorem c109s23eq : U c109s23 (.cond S3 .skip c109s22) := fun _ _ _ _ _ => rfl
def c109s24 : SCode := (.seq (.ops c109r15) c109s23)
@[go_sem] theorem c109s24eq : U c109s24 (.seq (.ops c109r15) c109s23) := fun _ _ _ _ _ => rfl
def c109s25 : SCode := (.cond S3 .skip c109s24)
@[go_sem] theorem c109s25eq : U c109s25 (.cond S3 .skip c109s24) := fun _ _ _ _ _ => rfl
def c109s26 : SCode := (.seq (.ops c109r14) c109s25)
@[go_sem] theorem c109s26eq : U c109s26 (.seq (.ops c109r14) c109s25) := fun _ _ _ _ _ => rfl
def c109s27 : SCode := (.cond S3 .skip c109s26)
@[go_sem] theorem c109s27eq : U c109s27 (.cond S3 .skip c109s26) := fun _ _ _ _ _ => rfl
def c109s28 : SCode := (.seq (.ops c109r13) c109s27)
@[go_sem] theorem c109s28eq : U c109s28 (.seq (.ops c109r13) c109s27) := fun _ _ _ _ _ => rfl
def c109s29 : SCode := (.cond S3 .skip c109s28)
@[go_sem] theorem c109s29eq : U c109s29 (.cond S3 .skip c109s28) := fun _ _ _ _ _ => rfl
def c109s30 : SCode := (.seq (.ops c109r12) c109s29)
@[go_sem] theorem c109s30eq : U c109s30 (.seq (.ops c109r12) c109s29) := fun _ _ _ _ _ => rfl
def c109s31 : SCode := (.cond S3 .skip c109s30)
@[go_sem] theorem c109s31eq : U c109s31 (.cond S3 .skip c109s30) := fun _ _ _ _ _ => rfl
def c109s32 : SCode := (.seq (.ops c109r11) c109s31)
@[go_sem] theorem c109s32eq : U c109s32 (.seq (.ops c109r11) c109s31) := fun _ _ _ _ _ => rfl
def c109s33 : SCode := (.cond S3 .skip c109s32)
@[go_sem] theorem c109s33eq : U c109s33 (.cond S3 .skip c109s32) := fun _ _ _ _ _ => rfl
def c109s34 : SCode := (.seq (.ops c109r10) c109s33)
@[go_sem] theorem c109s34eq : U c109s34 (.seq (.ops c109r10) c109s33) := fun _ _ _ _ _ => rfl
def c109s35 : SCode := (.cond S3 .skip c109s34)
@[go_sem] theorem c109s35eq : U c109s35 (.cond S3 .skip c109s34) := fun _ _ _ _ _ => rfl
def c109s36 : SCode := (.seq (.ops c109r9) c109s35)
@[go_sem] theorem c109s36eq : U c109s36 (.seq (.ops c109r9) c109s35) := fun _ _ _ _ _ => rfl
def c109s37 : SCode := (.cond S3 .skip c109s36)
@[go_sem] theorem c109s37eq : U c109s37 (.cond S3 .skip c109s36) := fun _ _ _ _ _ => rfl
def c109s38 : SCode := (.seq (.ops c109r8) c109s37)
@[go_sem] theorem c109s38eq : U c109s38 (.seq (.ops c109r8) c109s37) := fun _ _ _ _ _ => rfl
def c109s39 : SCode := (.cond S3 .skip c109s38)
@[go_sem] theorem c109s39eq : U c109s39 (.cond S3 .skip c109s38) := fun _ _ _ _ _ => rfl
def c109s40 : SCode := (.seq (.ops c109r7) c109s39)
@[go_sem] theorem c109s40eq : U c109s40 (.seq (.ops c109r7) c109s39) := fun _ _ _ _ _ => rfl
def c109s41 : SCode := (.cond S3 .skip c109s40)
@[go_sem] theorem c109s41eq : U c109s41 (.cond S3 .skip c109s40) := fun _ _ _ _ _ => rfl
def c109s42 : SCode := (.seq (.ops c109r6) c109s41)
@[go_sem] theorem c109s42eq : U c109s42 (.seq (.ops c109r6) c109s41) := fun _ _ _ _ _ => rfl
def c109s43 : SCode := (.cond S3 .skip c109s42)
@[go_sem] theorem c109s43eq : U c109s43 (.cond S3 .skip c109s42) := fun _ _ _ _ _ => rfl
def c109s44 : SCode := (.seq (.ops c109r5) c109s43)
@[go_sem] theorem c109s44eq : U c109s44 (.seq (.ops c109r5) c109s43) := fun _ _ _ _ _ => rfl
def c109s45 : SCode := (.cond S3 .skip c109s44)
@[go_sem] theorem c109s45eq : U c109s45 (.cond S3 .skip c109s44) := fun _ _ _ _ _ => rfl
def c109s46 : SCode := (.seq (.ops c109r4) c109s45)
@[go_sem] theorem c109s46eq : U c109s46 (.seq (.ops c109r4) c109s45) := fun _ _ _ _ _ => rfl
def c109s47 : SCode := (.cond S3 .skip c109s46)
@[go_sem] theorem c109s47eq : U c109s47 (.cond S3 .skip c109s46) := fun _ _ _ _ _ => rfl
def c109s48 : SCode := (.seq (.ops c109r3) c109s47)
@[go_sem] theorem c109s48eq : U c109s48 (.seq (.ops c109r3) c109s47) := fun _ _ _ _ _ => rfl
def c109s49 : SCode := (.cond S3 .skip c109s48)
@[go_sem] theorem c109s49eq : U c109s49 (.cond S3 .skip c109s48) := fun _ _ _ _ _ => rfl
@[go_sem] def c109r50 : List GOp := [mS 1 (.c (.bool true))]
def c109s51 : SCode := (.seq (.ops c109r50) .ret)
@[go_sem] theorem c109s51eq : U c109s51 (.seq (.ops c109r50) .ret) := fun _ _ _ _ _ => rfl
def c109s52 : SCode := (.cond S3 c109s51 .skip)
@[go_sem] theorem c109s52eq : U c109s52 (.cond S3 c109s51 .skip) := fun _ _ _ _ _ => rfl
def c109s53 : SCode := (.block 0 (.seq (.seq (.ops c109r2) c109s49) c109s52))
@[go_sem] theorem c109s53eq : U c109s53 (.block 0 (.seq (.seq (.ops c109r2) c109s49) c109s52)) := fun _ _ _ _ _ => rfl
@[go_sem] def c109r54 : List GOp := [mS 1 (.c (.bool false))]
def c109s55 : SCode := (.seq (.ops c109r54) .ret)
@[go_sem] theorem c109s55eq : U c109s55 (.seq (.ops c109r54) .ret) := fun _ _ _ _ _ => rfl
def c109s56 : SCode := (.seq (.seq (.ops c109r1) c109s53) c109s55)
@[go_sem] theorem c109s56eq : U c109s56 (.seq (.seq (.ops c109r1) c109s53) c109s55) := fun _ _ _ _ _ => rfl
def c109 : Gx.Fn := ⟨22, c109k, (.seq (.ops c109r0) c109s56), [(.tmp S1)]⟩
theorem c109ok : stripFn Tryd.prog c109k Tryd.f109 = some c109 := by kernel_rfl

/- (*parser.parser).argument -/
@[go_sem] def c110k : List Nat := [0, 1, 4, 5, 10, 13, 19]
@[go_sem] def c110r0 : List GOp := [oS 2 (.al 24 [(I 0), (.string ⟨⟨[]⟩⟩), (I 0), (I 0), Z])]
@[go_sem] def c110r1 : List GOp := [mT S0, oT (.call 29 [T0]), oT (.v (.fld1 3 T0)), oT (.v (.bld [(I 0), (.string ⟨⟨[]⟩⟩), (I 0), (I 0), Z] [(0, (1, (C 52))), (3, (1, T0))])), oS 3 (.al 24 [(I 0), (.string ⟨⟨[]⟩⟩), (I 0), (I 0), Z]), oN (.st 5 S3 T0)]
@[go_sem] def c110r2 : List GOp := [mS 4 S1]
@[go_sem] def c110r3 : List GOp := [oT (.v (.bin .eql S4 (.c (.string ⟨⟨[114, 101, 99]⟩⟩)))), mS 5 T0]
@[go_sem] def c110r4 : List GOp := [mT S0, oT (.call 43 [T0, (C 1)]), oT (.v (.fld1 1 T0)), fT 1 S3, oN (.st 1 T0 T1)]
@[go_sem] def c110r5 : List GOp := [oT (.v (.bin .eql S4 (.c (.string ⟨⟨[109, 97, 112]⟩⟩)))), mS 6 T0]
@[go_sem] def c110r6 : List GOp := [mT S0, oT (.call 26 [T0]), oT (.bs 24 1 [(I 0), (.string ⟨⟨[]⟩⟩), (I 0), (I 0), Z] [(0, (5, T0))]), fT 4 S3, oN (.st 1 T0 T1)]
@[go_sem] def c110r7 : List GOp := [mT S0, oT (.call 26 [T0]), oN (.st 5 S2 T0)]
def c110s8 : SCode := (.seq (.ops c110r7) .ret)
@[go_sem] theorem c110s8eq : U c110s8 (.seq (.ops c110r7) .ret) := fun _ _ _ _ _ => rfl
def c110s9 : SCode := (.cond S6 (.ops c110r6) c110s8)
@[go_sem] theorem c110s9eq : U c110s9 (.cond S6 (.ops c110r6) c110s8) := fun _ _ _ _ _ => rfl
def c110s10 : SCode := (.seq (.ops c110r5) c110s9)
@[go_sem] theorem c110s10eq : U c110s10 (.seq (.ops c110r5) c110s9) := fun _ _ _ _ _ => rfl
def c110s11 : SCode := (.cond S5 (.ops c110r4) c110s10)
@[go_sem] theorem c110s11eq : U c110s11 (.cond S5 (.ops c110r4) c110s10) := fun _ _ _ _ _ => rfl
def c110s12 : SCode := (.block 0 (.seq (.ops c110r3) c110s11))
@[go_sem] theorem c110s12eq : U c110s12 (.block 0 (.seq (.ops c110r3) c110s11)) := fun _ _ _ _ _ => rfl
@[go_sem] def c110r13 : List GOp := [mT S0, oT (.call 38 [T0, (.c (.string ⟨⟨[58]⟩⟩))])]
@[go_sem] def c110d14 : DT := (rf 4 S3 [5, 7] (rl T0 [5, 7] (rm S0 [3, 4, 5, 7] (.ef 3 none .t (.call 26 [T0]) (.ef 4 none .t (.bs 24 1 [(I 0), (.string ⟨⟨[]⟩⟩), (I 0), (I 0), Z] [(0, (5, T0))]) (.ef 5 none .t (.ap 22 22 T3 T0) (rf 4 S3 [7] (.ef 7 none .no (.st 1 T0 T1) .done))))))))
@[go_sem] def c110r15 : List GOp := [oT (.ld (some 5) S3), oN (.st 5 S2 T0)]
def c110s16 : SCode := (.seq (.ops c110r15) .ret)
@[go_sem] theorem c110s16eq : U c110s16 (.seq (.ops c110r15) .ret) := fun _ _ _ _ _ => rfl
def c110s17 : SCode := (.seq (.de c110d14) c110s16)
@[go_sem] theorem c110s17eq : U c110s17 (.seq (.de c110d14) c110s16) := fun _ _ _ _ _ => rfl
def c110s18 : SCode := (.seq (.ops c110r13) c110s17)
@[go_sem] theorem c110s18eq : U c110s18 (.seq (.ops c110r13) c110s17) := fun _ _ _ _ _ => rfl
def c110s19 : SCode := (.seq (.seq (.ops c110r2) c110s12) c110s18)
@[go_sem] theorem c110s19eq : U c110s19 (.seq (.seq (.ops c110r2) c110s12) c110s18) := fun _ _ _ _ _ => rfl
def c110s20 : SCode := (.seq (.ops c110r1) c110s19)
@[go_sem] theorem c110s20eq : U c110s20 (.seq (.ops c110r1) c110s19) := fun _ _ _ _ _ => rfl
def c110 : Gx.Fn := ⟨35, c110k, (.seq (.ops c110r0) c110s20), [(.cell S2 (some 5))]⟩
theorem c110ok : stripFn Tryd.prog c110k Tryd.f110 = some c110 := by kernel_rfl

end Go.Proofs.YtbgjgaaobnbijaaDoor
end
section
/- Functions that defer one call, and calls that recover. -/
namespace Gx
open Go

/-- A deferred call, from every world with this heap, the frame below being in mode `u`: it returns, and leaves it in mode `u'`. -/
def DCalls (P : Program) (g : FuncId) (args : Array Value) (u u' : FrameMode) (H : Heap) (R : Heap → Prop) : Prop :=
  ∀ w : World, w.heap = H → CallsD P g args u w fun e m w' => ∃ v, e = .returned v ∧ settle m = u' ∧ R w'.heap ∧ Same w w'

theorem DCalls.mono {P : Program} {g : FuncId} {args : Array Value} {u u' : FrameMode} {H : Heap} {R R' : Heap → Prop} (h : DCalls P g args u u' H R) (hr : ∀ H', R H' → R' H') : DCalls P g args u u' H R' :=
  fun w hw => (h w hw).mono fun _ _ _ ⟨v, h1, h2, h3, h4⟩ => ⟨v, h1, h2, hr _ h3, h4⟩

/-- The region that defers: the closure is made; its call is deferred. -/
def defTarget (o1 o2 : Oper) : Option (Nat × Nat × List Nat) :=
  match o1.op, o1.dst, o1.guard, o2.op, o2.dst, o2.guard with
  | .makeFunc (.func g) first caps, some d, none, .defer { callee := .value (.tmp d'), args, argTypes := _ }, none, none =>
    if d = d' ∧ first.toList.isEmpty = true ∧ args.toList.isEmpty = true then
      match caps.toList.mapM (fun (x : Operand) => match x with | .tmp t => some t | _ => none) with
      | some cs => some (g, d, cs)
      | none => none
    else none
  | _, _, _, _, _, _ => none

structure DFn where
  n : Nat
  keep : List Nat
  fx : List Nat
  pre : SCode
  g : Nat
  caps : List Nat
  code : SCode
  res : List RV
  res0 : List RV

def isDef : Code → Bool
  | .region _ ops false => match ops.toList with
    | [o1, o2] => (defTarget o1 o2).isSome
    | _ => false
  | _ => false
/-- The pieces in front of the region that defers. -/
def unspine : Code → Option (List Code × Code)
  | .seq a b => if isDef a then some ([], .seq a b) else match unspine b with
    | some (l, r) => some (a :: l, r)
    | none => none
  | _ => none
def spine : List Code → Code → Code
  | [], r => r
  | a :: l, r => .seq a (spine l r)
theorem unspine_spec : ∀ {c : Code} {l : List Code} {r : Code}, unspine c = some (l, r) → c = spine l r
  | .seq a b, l, r, h => by
    simp only [unspine] at h
    split at h
    · simp only [Option.some.injEq, Prod.mk.injEq] at h
      obtain ⟨rfl, rfl⟩ := h; rfl
    · split at h
      · rename_i l' r' hb
        simp only [Option.some.injEq, Prod.mk.injEq] at h
        obtain ⟨rfl, rfl⟩ := h
        rw [spine, ← unspine_spec hb]
      · cases h
  | .skip, _, _, h => by simp [unspine] at h
  | .region .., _, _, h => by simp [unspine] at h
  | .cond .., _, _, h => by simp [unspine] at h
  | .block .., _, _, h => by simp [unspine] at h
  | .loop .., _, _, h => by simp [unspine] at h
  | .exit .., _, _, h => by simp [unspine] at h
  | .ret, _, _, h => by simp [unspine] at h
  | .rangeFunc .., _, _, h => by simp [unspine] at h
  | .scope .., _, _, h => by simp [unspine] at h
  | .label .., _, _, h => by simp [unspine] at h
  | .goto .., _, _, h => by simp [unspine] at h
  | .refuse .., _, _, h => by simp [unspine] at h
def stripAll (P : Program) (n : Nx) (keep : List Nat) : List Code → Option SCode
  | [] => some .skip
  | a :: l => match strip P n keep a, stripAll P n keep l with
    | some x, some y => some (.seq x y)
    | _, _ => none

def stripDef (P : Program) (keep fx : List Nat) (fn : Func) : Option DFn :=
  if keep.all (fun t => decide (t < fn.ntmps)) then
    match fn.body with
    | some c => match unspine c with
      | some (A, .seq (.region _ ops false) C) =>
        match ops.toList with
        | [o1, o2] => match defTarget o1 o2 with
          | some (g, d, cs) =>
            if decide (d < fn.ntmps) && (posOf keep d).isNone && !fx.elem d && hasBody P g then
              match stripAll P ⟨fn.ntmps, []⟩ keep A, strip P ⟨fn.ntmps, fx⟩ keep C, stripRVs P fx fn.results.toList, stripRVs P keep fn.results.toList with
              | some a, some c, some rs, some rs0 => some ⟨fn.ntmps, keep, fx, a, g, cs, c, rs, rs0⟩
              | _, _, _, _ => none
            else none
          | none => none
        | _ => none
      | _ => none
    | none => none
  else none

def lookL (keep : List Nat) (σ : Slots) : List Nat → Option (List Value)
  | [] => some []
  | t :: r => match lookS keep σ t, lookL keep σ r with
    | some v, some vs => some (v :: vs)
    | _, _ => none

/-- What must hold where the deferred call begins. -/
def defQ (P : Program) (F : DFn) (R : Value → Heap → Prop) : Post
  | .nrm, σ, H => ∃ vs cs, lookL F.keep σ F.fx = some vs ∧ lookL F.keep σ F.caps = some cs ∧
      vc P (fun c H' => DCalls P F.g cs.toArray (.panicking c) .returning H' fun H'' => finN R H'' (resV (vs.map some) H'' F.res)) F.code σ H fun x _ H' =>
        match x with
        | .ext _ => False
        | _ => DCalls P F.g cs.toArray .returning .returning H' fun H'' => finN R H'' (resV (vs.map some) H'' F.res)
  | .ret, σ, H => finN R H (resV σ H F.res0)
  | .ext _, _, _ => False

section
variable {P : Program}

theorem lookL_tmps {n : Nx} {dd : DD} {keep : List Nat} {σ : Slots} {a : Act} (h : F2 n dd keep [] σ [] a) : ∀ {ts : List Nat} {vs : List Value}, lookL keep σ ts = some vs → ts.map (fun t => a.tmps.getD t undef) = vs ∧ ∀ t ∈ ts, a.tmps[t]? = some (a.tmps.getD t undef)
  | [], vs, hv => by simp [lookL] at hv; subst hv; exact ⟨rfl, fun t ht => by cases ht⟩
  | t :: ts, vs, hv => by
    simp only [lookL] at hv
    split at hv
    · rename_i v vs' h1 h2
      simp at hv; subst hv
      obtain ⟨k, hk, hs⟩ := lookS_pos h1
      have e := h.slots t k v hk hs
      obtain ⟨i1, i2⟩ := lookL_tmps h h2
      have e' : a.tmps.getD t undef = v := by simp [Array.getD_eq_getD_getElem?, e]
      refine ⟨by rw [List.map_cons, e', i1], fun t' ht' => ?_⟩
      rcases List.mem_cons.1 ht' with rfl | ht'
      · rw [e', e]
      · exact i2 t' ht'
    · cases hv

theorem mapM_tmps {xs : List Operand} {cs : List Nat} (h : xs.mapM (fun (x : Operand) => match x with | .tmp t => some t | _ => none) = some cs) : xs = cs.map .tmp := by
  induction xs generalizing cs with
  | nil => simp at h; subst h; rfl
  | cons x xs ih =>
    simp only [List.mapM_cons, Option.bind_eq_bind, Option.bind_eq_some_iff, Option.pure_def, Option.some.injEq] at h
    obtain ⟨t, h1, ts, h2, rfl⟩ := h
    cases x with
    | tmp u => simp at h1; subst h1; simp [ih h2]
    | const u => simp at h1
    | global u => simp at h1
    | func u => simp at h1

theorem defTarget_spec {o1 o2 : Oper} {g d : Nat} {cs : List Nat} (h : defTarget o1 o2 = some (g, d, cs)) :
    o1.op = .makeFunc (.func g) #[] (cs.map Operand.tmp).toArray ∧ o1.dst = some d ∧ o1.guard = none ∧ (∃ tys, o2.op = .defer { callee := .value (.tmp d), args := #[], argTypes := tys }) ∧ o2.dst = none ∧ o2.guard = none := by
  unfold defTarget at h
  split at h
  · rename_i g' first caps d' d'' args tys h1 h2 h3 h4 h5 h6
    split at h
    · rename_i hc
      obtain ⟨rfl, hc2, hc3⟩ := hc
      split at h
      · rename_i cs' hcs
        simp at h
        obtain ⟨rfl, rfl, rfl⟩ := h
        have e1 : first = #[] := by
          apply Array.toList_inj.1; simpa using hc2
        have e2 : args = #[] := by
          apply Array.toList_inj.1; simpa using hc3
        have e3 : caps = (cs'.map Operand.tmp).toArray := by
          apply Array.toList_inj.1; simpa using mapM_tmps hcs
        subst e1 e2 e3
        exact ⟨h1, h2, h3, ⟨tys, h4⟩, h5, h6⟩
      · cases h
    · cases h
  · cases h

theorem pre_sound {E : Chain → Heap → Prop} {n : Nx} {dd : DD} {keep : List Nat} {rest : Code} {T : Exit → Act → World → Prop} {Q : Post} {w0 : World} (hT : ∀ e a w, e ≠ .normal → QX E n dd keep w0 Q e a w → T e a w)
    (hrest : ∀ a w σ, F2 n dd keep [] σ [] a → Same w0 w → Q .nrm σ w.heap → rest.wp P T a w) : ∀ {l : List Code} {s : SCode}, stripAll P n keep l = some s → ∀ {σ : Slots} {a : Act} {w : World}, F2 n dd keep [] σ [] a → Same w0 w → vc P E s σ w.heap Q → (spine l rest).wp P T a w
  | [], s, hs, σ, a, w, hf, hw, hv => by
    simp only [stripAll, Option.some.injEq] at hs; subst hs
    exact hrest a w σ hf hw hv
  | x :: l, s, hs, σ, a, w, hf, hw, hv => by
    simp only [stripAll] at hs
    split at hs
    · rename_i sx sl h1 h2
      simp only [Option.some.injEq] at hs; subst hs
      refine wp_seq (wp_mono (vc_sound x h1 hf hw hv) fun e a' w' hq => ?_)
      cases e with
      | normal =>
        obtain ⟨hw', σ', hf', hv'⟩ := hq
        exact pre_sound hT hrest h2 hf' hw' hv'
      | exit i => exact hT _ _ _ (by simp) hq
      | ret => exact hT _ _ _ (by simp) hq
      | panic c => exact hT _ _ _ (by simp) hq
      | _ => first | exact hq.elim | exact hT _ _ _ (by simp) hq
    · cases hs

theorem calls_of_defers {f : Nat} {fn : Func} {keep fx : List Nat} {F : DFn} {args : List Value} {H : Heap} {R : Value → Heap → Prop} (hf : P.funcs[f]? = some fn) (hs : stripDef P keep fx fn = some F)
    (hn : args.length ≤ F.n) (h : vc P (fun _ _ => False) F.pre (argS F.keep args) H (defQ P F R)) : HCalls P f args.toArray H R := by
  unfold stripDef at hs
  split at hs
  case isFalse => cases hs
  rename_i hkn
  split at hs
  case h_2 => cases hs
  rename_i body hb
  split at hs
  case h_2 => cases hs
  rename_i A rid ops C hsp
  have hb0 := unspine_spec hsp
  subst hb0
  split at hs
  case h_2 => cases hs
  rename_i o1 o2 hops
  split at hs
  case h_2 => cases hs
  rename_i g d cs hdt
  split at hs
  case isFalse => cases hs
  rename_i hc
  split at hs
  case h_2 => cases hs
  rename_i sa sc rs rs0 hA hC hR hR0
  simp at hs; subst hs
  simp only [Bool.and_eq_true, decide_eq_true_eq, Bool.not_eq_true', Option.isNone_iff_eq_none] at hc
  obtain ⟨⟨⟨hdn, hdk⟩, hdx⟩, hgb⟩ := hc
  obtain ⟨e1, e2, e3, ⟨tys, e4⟩, e5, e6⟩ := defTarget_spec hdt
  intro w hw
  subst hw
  refine calls_of_wp_defers hf hb ?_
  refine pre_sound (fun e a w1 he hq => ?_) (fun a w1 σ hfit hs1 hq => ?_) hA (fits_args (dd := ⟨[], fun _ => undef⟩) hn hkn) (Same.refl w) h
  · cases e <;> simp only [QX, bodyPostD] at hq ⊢
    case normal => exact absurd rfl he
    case exit => exact hq.2.elim fun σ h => h.2.elim
    case panic => exact hq.2.2.elim
    case ret =>
      obtain ⟨hs1, σ, hfit, hfin⟩ := hq
      rw [hfit.fixd.1]
      unfold Leaves
      replace hfin : finN R w1.heap (resV σ w1.heap rs0) := hfin
      cases hr : resV σ w1.heap rs0 with
      | none => rw [hr] at hfin; exact hfin.elim
      | some us =>
        rw [hr] at hfin
        refine ⟨_, results_ok hfit hR0 hr, ?_, hs1⟩
        match us, hfin with
        | [], hfin => exact hfin
        | [v], hfin => exact hfin
        | v :: u :: r, hfin => exact hfin
  obtain ⟨vs, cvs, hvs, hcvs, hv⟩ := hq
  obtain ⟨f1, f2⟩ := lookL_tmps hfit hvs
  obtain ⟨g1, g2⟩ := lookL_tmps hfit hcvs
  -- the frame behind the deferring
  let fv : Value := .func (.func g) #[] cvs.toArray
  let a2 : Act := { (a.put (some d) fv) with defers := [{ target := .fn (.func g) cvs.toArray, args := #[] }] }
  have hd : d < a.tmps.size := by rw [hfit.size]; exact hdn
  have ha0 : a.defers = [] := hfit.fixd.1
  refine wp_seq (wp_region_list ?_)
  rw [hops]
  have w1' : Region.wanted o1 (yielded ops a.tmps) = true := by simp [Region.wanted, e3]
  have w2' : Region.wanted o2 (yielded ops (a.put o1.dst fv).tmps) = true := by simp [Region.wanted, e6]
  have x1 : (execOp a.eval o1).run P w1 = .ok (.value fv) w1 := by
    have : (cs.map Operand.tmp).toArray.map a.eval = cvs.toArray := by
      apply Array.toList_inj.1
      simp only [List.map_toArray, List.map_map]
      rw [← g1]
      apply List.map_congr_left
      intro t ht
      rfl
    simp [execOp, e1, Instr.makeFunc, fv, ← this]
  have x2 : (execOp (a.put o1.dst fv).eval o2).run P w1 = .ok (.defer { target := .fn (.func g) cvs.toArray, args := #[] }) w1 := by
    have : (a.put o1.dst fv).eval (.tmp d) = fv := by
      simp [Act.eval, e2, Act.put, Array.getD_eq_getD_getElem?, hd]
    simp [execOp, e4, resolve, this, fv, Deferred.ofValue]
  unfold wpList
  rw [if_pos w1']
  refine .inl ?_
  unfold Oper.wp
  rw [x1]
  simp only [Oper.upon_value]
  unfold wpList
  rw [if_pos w2']
  refine .inl ?_
  unfold Oper.wp
  rw [x2]
  simp only [Oper.upon_defer]
  unfold wpList
  have hact : ({ (a.put o1.dst fv) with defers := { target := .fn (.func g) cvs.toArray, args := #[] } :: (a.put o1.dst fv).defers } : Act).put o2.dst undef = a2 := by
    simp [e2, e5, a2, Act.put, ha0]
  rw [hact]
  simp only [Exit.then]
  -- the code behind it
  let dd : DD := ⟨[{ target := .fn (.func g) cvs.toArray, args := #[] }], fun t => a.tmps.getD t undef⟩
  have hne : ∀ t ∈ fx, d ≠ t := by
    rintro t ht rfl
    simp only [List.elem_eq_contains, List.contains_eq_mem, decide_eq_false_iff_not] at hdx
    exact hdx ht
  have hget : ∀ t, d ≠ t → a2.tmps[t]? = a.tmps[t]? := fun t ht => by simp [a2, Act.put, Array.getElem?_setIfInBounds_ne ht]
  have hfit2 : F2 ⟨fn.ntmps, fx⟩ dd keep [] σ [] a2 := by
    refine ⟨by simp [a2, Act.put]; exact hfit.size, ⟨rfl, fun t ht => ?_⟩, fun t k v ht hu => ?_, fun t k v _ hk _ => by simp [posOf] at hk⟩
    · rw [hget t (hne t ht)]; exact f2 t ht
    · have : d ≠ t := by rintro rfl; rw [hdk] at ht; cases ht
      rw [hget t this]; exact hfit.slots t k v ht hu
  have fin : ∀ (a' : Act) (w' : World) (u : FrameMode), u ≠ .run → Fixed ⟨fn.ntmps, fx⟩ dd a' → Same w w' → DCalls P g cvs.toArray u .returning w'.heap (fun H'' => finN R H'' (resV (vs.map some) H'' rs)) →
      Leaves P fn a'.tmps (EndH R (fun _ _ => False) w) a'.defers u w' := by
    intro a' w' u hu hfx hs' hD
    rw [hfx.1]
    refine leaves_cons (f := g) (args := cvs.toArray) hu ?_ ((hD w' rfl).mono fun e m w'' ⟨v, he, hm, hR', hs''⟩ => ?_)
    · simp [invoke, run_callFunc hgb]
    · subst he
      simp only [hm]
      unfold Leaves
      -- the results
      have hF : F2 ⟨a'.tmps.size, fx⟩ dd fx [] (vs.map some) [] a' := by
        refine ⟨rfl, hfx, fun t k v' ht hu => ?_, fun t k v _ hk _ => by simp [posOf] at hk⟩
        have hg := posOf_get ht
        have hm' : t ∈ fx := List.mem_of_getElem? hg
        rw [hfx.2 t hm']
        rw [← f1] at hu
        simp only [List.getElem?_map, hg, Option.map_some, Option.some.injEq] at hu
        simpa [dd] using hu
      replace hR' : finN R w''.heap (resV (vs.map some) w''.heap rs) := hR'
      cases hr : resV (vs.map some) w''.heap rs with
      | none => rw [hr] at hR'; exact hR'.elim
      | some us =>
        rw [hr] at hR'
        refine ⟨_, results_ok hF hR hr, ?_, hs'.trans hs''⟩
        match us, hR' with
        | [], hfin => exact hfin
        | [v], hfin => exact hfin
        | v :: u :: r, hfin => exact hfin
  refine wp_mono (vc_sound C hC hfit2 hs1 hv) fun e a' w' hq => ?_
  cases e <;> simp only [QX, bodyPostD] at hq ⊢
  · obtain ⟨hs', σ', hf', hq⟩ := hq; exact fin a' w' _ (by simp) hf'.fixd hs' hq
  · exact hq.2.elim fun _ h => h.2.elim
  · obtain ⟨hs', σ', hf', hq⟩ := hq; exact fin a' w' _ (by simp) hf'.fixd hs' hq
  · obtain ⟨hs', hfx, hq⟩ := hq; exact fin a' w' _ (by simp) hfx hs' hq


/-- A function that begins with a recover. -/
structure RFn where
  n : Nat
  keep : List Nat
  d0 : Nat
  d1 : Nat
  code : SCode
  res : List RV

def recOps (o0 o1 : Oper) : Option (Nat × Nat) :=
  match o0.op, o0.dst, o0.guard, o1.op, o1.dst, o1.guard with
  | .call { callee := .builtin .recover, args := _, argTypes := _ }, some d0, none, .assign (.tmp d), some d1, none => if d = d0 then some (d0, d1) else none
  | _, _, _, _, _, _ => none

def stripRec (P : Program) (keep : List Nat) (fn : Func) : Option RFn :=
  if keep.all (fun t => decide (t < fn.ntmps)) then
    match fn.body with
    | some (.seq (.region _ ops false) C) =>
      match ops.toList with
      | [o0, o1] => match recOps o0 o1 with
        | some (d0, d1) =>
          if decide (d0 < fn.ntmps) && decide (d1 < fn.ntmps) then
            match strip P ⟨fn.ntmps, []⟩ keep C, stripRVs P keep fn.results.toList with
            | some c, some rs => some ⟨fn.ntmps, keep, d0, d1, c, rs⟩
            | _, _ => none
          else none
        | none => none
      | _ => none
    | _ => none
  else none

/-- What a recover gives, and what it leaves. -/
def recV : FrameMode → Option (Value × FrameMode)
  | .returning => some (.nilIface, .returning)
  | .panicking [{ v, recovered := false, goexit := false }] => some (v, .panicking [{ v, recovered := true }])
  | _ => none

theorem recOps_spec {o0 o1 : Oper} {d0 d1 : Nat} (h : recOps o0 o1 = some (d0, d1)) :
    (∃ xs tys, o0.op = .call { callee := .builtin .recover, args := xs, argTypes := tys }) ∧ o0.dst = some d0 ∧ o0.guard = none ∧ o1.op = .assign (.tmp d0) ∧ o1.dst = some d1 ∧ o1.guard = none := by
  unfold recOps at h
  split at h
  · rename_i xs tys e0 d e1 h1 h2 h3 h4 h5 h6
    split at h
    · rename_i hc
      simp at h; obtain ⟨rfl, rfl⟩ := h
      subst hc
      exact ⟨⟨_, _, h1⟩, h2, h3, h4, h5, h6⟩
    · cases h
  · cases h

theorem dcalls_of_rec {g : Nat} {fn : Func} {keep : List Nat} {F : RFn} {args : List Value} {H : Heap} {R : Heap → Prop} {u m : FrameMode} {v : Value} (hf : P.funcs[g]? = some fn) (hs : stripRec P keep fn = some F)
    (hn : args.length ≤ F.n) (hu : recV u = some (v, m)) (h : vc P (fun _ _ => False) F.code (putS (cD F.keep (some F.d1)) v (putS (cD F.keep (some F.d0)) v (argS F.keep args))) H (finQ F.res (fun _ H' => R H'))) :
    DCalls P g args.toArray u (settle m) H R := by
  unfold stripRec at hs
  split at hs
  case isFalse => cases hs
  rename_i hkn
  split at hs
  case h_2 => cases hs
  rename_i rid ops C hb
  split at hs
  case h_2 => cases hs
  rename_i o0 o1 hops
  split at hs
  case h_2 => cases hs
  rename_i d0 d1 hro
  split at hs
  case isFalse => cases hs
  rename_i hc
  split at hs
  case h_2 => cases hs
  rename_i sc rs hC hR
  simp at hs; subst hs
  simp only [Bool.and_eq_true, decide_eq_true_eq] at hc
  obtain ⟨hd0, hd1⟩ := hc
  obtain ⟨⟨xs, tys, e1⟩, e2, e3, e4, e5, e6⟩ := recOps_spec hro
  intro w hw
  subst hw
  refine callsD_of_wpS hf hb fun c₀ cs hc₀ => ?_
  refine wpS_seq (wpS_region ?_)
  have hsz : ops.size = 2 := by rw [← Array.length_toList, hops]; rfl
  have hg0 : ops[0]? = some o0 := by rw [← Array.getElem?_toList, hops]; rfl
  have hg1 : ops[1]? = some o1 := by rw [← Array.getElem?_toList, hops]; rfl
  have hrange : List.range ops.size = [0, 1] := by rw [hsz]; rfl
  rw [hrange]
  let a0 : Act := { tmps := args.toArray ++ Array.replicate (fn.ntmps - args.toArray.size) undef, defers := [] }
  have hF0 : F2 ⟨fn.ntmps, []⟩ ⟨[], fun _ => undef⟩ keep [] (argS keep args) [] a0 := fits_args (dd := ⟨[], fun _ => undef⟩) hn hkn
  have hF1 := (hF0.put (d := some d0) (by simp [dstOk, hd0]) v).rest
  have hF2 := (hF1.put (d := some d1) (by simp [dstOk, hd1]) v).rest
  -- the two operations
  have x0 : (execOp a0.eval o0).run P w = .ok .recover w := by simp [execOp, e1, resolve, invoke, builtin]
  have x1 : (execOp (a0.put o0.dst v).eval o1).run P w = .ok (.value v) w := by
    have hsz0 : d0 < a0.tmps.size := by rw [hF0.size]; exact hd0
    have : (a0.put o0.dst v).eval (.tmp d0) = v := by
      simp [Act.eval, e2, Act.put, Array.getD_eq_getD_getElem?, hsz0]
    simp [execOp, e4, this]
  have w0' : Region.wanted o0 (yielded ops a0.tmps) = true := by simp [Region.wanted, e3]
  have w1' : Region.wanted o1 (yielded ops (a0.put o0.dst v).tmps) = true := by simp [Region.wanted, e6]
  have hrec : ∃ cs', (∀ Q : Exit → Act → List Frame → World → Prop, wpOpsS P ops Q [1] (a0.put o0.dst v) cs' w → wpOpsS P ops Q [0, 1] a0 (c₀ :: cs) w) ∧ cs' = { c₀ with mode := m } :: cs := by
    cases u with
    | run => simp [recV] at hu
    | returning =>
      simp [recV] at hu; obtain ⟨rfl, rfl⟩ := hu
      refine ⟨c₀ :: cs, fun Q hq => ?_, by rw [← hc₀]⟩
      rw [wpOpsS, hg0]
      simp only [if_pos w0', x0, recoverD, hc₀]
      exact hq
    | panicking chain =>
      match chain, hu with
      | [{ v := v', recovered := false, goexit := false }], hu =>
        simp [recV] at hu; obtain ⟨rfl, rfl⟩ := hu
        refine ⟨_, fun Q hq => ?_, rfl⟩
        rw [wpOpsS, hg0]
        simp only [if_pos w0', x0, recoverD, hc₀]
        exact hq
  obtain ⟨cs', hstep, rfl⟩ := hrec
  refine hstep _ ?_
  rw [wpOpsS, hg1]
  simp only [if_pos w1', x1, Oper.upon_value]
  rw [wpOpsS]
  simp only [Exit.thenS]
  rw [e2, e5]
  refine wpS_of_wp ?_
  refine wp_mono (vc_sound C hC hF2 (Same.refl w) h) fun e a w' hq => ?_
  have fin : ∀ σ, F2 ⟨fn.ntmps, []⟩ ⟨[], fun _ => undef⟩ keep [] σ [] a → Same w w' → finN (fun _ H' => R H') w'.heap (resV σ w'.heap rs) →
      a.defers = [] ∧ ∃ u', { c₀ with mode := m } :: cs = { c₀ with mode := u' } :: cs ∧ ∃ v, (results fn a.tmps).run P w' = .ok v w' ∧ ∃ v', Ending.returned v = .returned v' ∧ settle u' = settle m ∧ R w'.heap ∧ Same w w' := by
    intro σ hfit hsame hfin
    refine ⟨hfit.fixd.1, m, rfl, ?_⟩
    cases hr : resV σ w'.heap rs with
    | none => rw [hr] at hfin; exact hfin.elim
    | some vs =>
      rw [hr] at hfin
      refine ⟨_, results_ok hfit hR hr, _, rfl, rfl, ?_, hsame⟩
      match vs, hfin with
      | [], hfin => exact hfin
      | [v], hfin => exact hfin
      | v :: u :: r, hfin => exact hfin
  cases e <;> simp only [QX, bodyPostS, finQ] at hq ⊢
  · obtain ⟨hsame, σ, hfit, hfin⟩ := hq; exact fin σ hfit hsame hfin
  · obtain ⟨_, _, _, hfin⟩ := hq; exact hfin
  · obtain ⟨hsame, σ, hfit, hfin⟩ := hq; exact fin σ hfit hsame hfin
  · exact hq.2.2.elim

end
end Gx
end
section
/- Generated: the code of functions that defer and recover, held against the loaded program. -/
namespace Go.Proofs.YtbgjgaaobnbijaaDoor
open Gx Go
def c24a : SCode := (.seq (.ops [(.op none (.s 2) (.al 24 [(.int .i64 0), (.string ⟨⟨[]⟩⟩), (.int .i64 0), (.int .i64 0), (.slice none 0 0)])), (.op none (.s 3) (.al 31 [(.int .i64 0), (.int .i64 0)]))]) (.seq (.ops [(.op none .t (.v (.mv (.s 0)))), (.op none .t (.call 17 [(.t 0)])), (.op none .t (.v (.mv (.t 0)))), (.op none .t (.v (.ext (.t 0) 0))), (.op none .t (.v (.ext (.t 1) 1))), (.op none (.s 5) (.al 31 [(.int .i64 0), (.int .i64 0)])), (.op none (.s 4) (.v (.mv (.t 1)))), (.op none .no (.st 2 (.s 5) (.t 0)))]) (.seq (.seq (.ops [(.op none .t (.v (.fa 0 (.s 5)))), (.op none .t (.ld none (.t 0))), (.op none (.s 7) (.v (.bin .neq (.t 0) (.c (.int .i64 0)))))]) (.cond (.s 7) (.seq (.de (.rd none .t (.v (.bld [(.int .i64 0), (.string ⟨⟨[]⟩⟩), (.int .i64 0), (.int .i64 0), (.slice none 0 0)] [])) [2, 3] (.rd none .t (.ld (some 2) (.s 5)) [3] (.ef 2 none .no (.st 5 (.s 2) (.t 1)) (.ef 3 none .no (.st 2 (.s 3) (.t 0)) .done))))) .ret) .skip)) (.seq (.ops [(.op none .t (.v (.mv (.s 4)))), (.op none .t (.v (.bld [(.slice none 0 0), (.int .i64 0), (.int .i64 0)] [(0, (1, (.t 0)))]))), (.op none .t (.bx 67 (.t 0))), (.op none (.s 6) (.v (.mv (.t 0))))]) .skip))))
def c24b : SCode := (.seq (.ops [(.op none .t (.v (.mv (.s 1)))), (.op none .t (.v (.mv (.s 6)))), (.op none .t (.cv (.t 1) [(.t 0)])), (.op none .no (.st 5 (.s 2) (.t 0)))]) (.seq (.seq (.ops [(.op none .t (.v (.mv (.s 6)))), (.op none .t (.call 29 [(.t 0)])), (.op none .t (.v (.fld1 0 (.t 0)))), (.op none (.s 8) (.v (.bin .neq (.t 0) (.c (.int .i64 6)))))]) (.cond (.s 8) (.ops [(.op none .t (.v (.mv (.s 6)))), (.op none .t (.call 34 [(.t 0), (.c (.int .i64 2))]))]) .skip)) (.seq (.ops [(.op none .t (.ld (some 5) (.s 2))), (.op none .t (.v (.bld [(.int .i64 0), (.int .i64 0)] []))), (.op none .no (.st 5 (.s 2) (.t 1))), (.op none .no (.st 2 (.s 3) (.t 0)))]) .ret)))
def c24 : Gx.DFn := ⟨34, [0, 1, 4, 5, 6, 7, 8, 16, 29], [4, 5], c24a, 33, [5, 4], c24b, [(.cell (.s 0) (some 5)), (.cell (.s 1) (some 2))], [(.cell (.s 2) (some 5)), (.cell (.s 3) (some 2))]⟩
theorem c24ok : stripDef Tryd.prog [0, 1, 4, 5, 6, 7, 8, 16, 29] [4, 5] Tryd.f24 = some c24 := by kernel_rfl
def c33b : SCode := (.seq (.ops [(.op none .t (.v (.mv (.s 2)))), (.op none (.s 3) (.v (.isnilf true (.t 0))))]) (.cond (.s 3) (.seq (.ops [(.op none .t (.v (.mv (.s 2)))), (.op none .t (.v (.tyb 31 (.t 0)))), (.op none .no (.st 2 (.s 0) (.t 0)))]) (.ops [(.op none .t (.v (.bld [(.int .i64 0), (.string ⟨⟨[]⟩⟩), (.int .i64 0), (.int .i64 0), (.slice none 0 0)] []))), (.op none .no (.st 5 (.s 1) (.t 0)))])) .skip))
def c33 : Gx.RFn := ⟨9, [0, 1, 2, 5], 3, 2, c33b, []⟩
theorem c33ok : stripRec Tryd.prog [0, 1, 2, 5] Tryd.f33 = some c33 := by kernel_rfl
end Go.Proofs.YtbgjgaaobnbijaaDoor
end
section
/- Generated: the stripped code of Go functions, each held against the loaded program. -/
namespace Go.Proofs.YtbgjgaaobnbijaaDoor
open Gx Go

/- plexuslaw16.ParserTrees -/
@[go_sem] def c3k : List Nat := [0, 1, 2, 3, 4, 6, 14]
@[go_sem] def c3r0 : List GOp := [oS 2 (.bx 24 S0), oS 3 (.bx 24 S1), mS 4 (.c (.bool false))]
@[go_sem] def c3r1 : List GOp := [oT (.call 10 []), oS 5 (.v (.un .not T0))]
@[go_sem] def c3r2 : List GOp := [mS 4 (.c (.bool false))]
def c3s3 : SCode := (.cond S5 (.seq (.ops c3r2) .ret) .skip)
@[go_sem] theorem c3s3eq : U c3s3 (.cond S5 (.seq (.ops c3r2) .ret) .skip) := fun _ _ _ _ _ => rfl
@[go_sem] def c3r4 : List GOp := [oT (.ld (some 5) S2), oT (.call 11 [T0, (C 400)]), oT (.v (.un .not T0)), mT T0, (.op (some (T0, (false, true))) .t (.ld (some 5) S3)), (.op (some (T1, (false, false))) .t (.call 11 [T0, (C 400)])), (.op (some (T2, (false, false))) .t (.v (.un .not T0))), oS 6 (.v (.pick T3 (.c (.bool true)) T0))]
@[go_sem] def c3r5 : List GOp := [mS 4 (.c (.bool true))]
def c3s6 : SCode := (.cond S6 (.seq (.ops c3r5) .ret) .skip)
@[go_sem] theorem c3s6eq : U c3s6 (.cond S6 (.seq (.ops c3r5) .ret) .skip) := fun _ _ _ _ _ => rfl
@[go_sem] def c3d7 : DT := (.rd none .t (.ld (some 5) S2) [2, 5, 10, 13, 19, 23, 25] (.rd none .t (.ld (some 5) S3) [2, 5, 10, 13, 19, 23, 25] (.rd none .t (.ld (some 5) S2) [5, 10, 13, 19, 23, 25] (.rd none .t (.ld (some 5) S3) [5, 10, 13, 19, 23, 25] (.ef 2 none .t (.call 12 [T3, T2]) (.ef 5 none .t (.call 13 [T2, T1]) (.rd none .t (.v (.beq false T1 T0)) [10, 13, 19, 23, 25] (rm T0 [10, 13, 19, 23, 25] (.rd (some (T0, true)) .t (.ld (some 5) S3) [10, 13, 19, 23, 25] (.rd (some (T1, true)) .t (.ld (some 5) S2) [10, 13, 19, 23, 25] (.rd (some (T2, true)) .t (.ld (some 5) S2) [13, 19, 23, 25] (.rd (some (T3, true)) .t (.ld (some 5) S3) [13, 19, 23, 25] (.ef 10 (some (T4, true)) .t (.call 12 [T3, T2]) (.ef 13 (some (T5, true)) .t (.call 12 [T2, T1]) (.rd (some (T6, true)) .t (.v (.beq false T1 T0)) [19, 23, 25] (.rd none .t (.v (.pick T7 T0 (.c (.bool false)))) [19, 23, 25] (rm T0 [19, 23, 25] (.rd (some (T0, true)) .t (.ld (some 5) S2) [19, 23, 25] (.rd (some (T1, true)) .t (.ld (some 5) S2) [19, 23, 25] (.ef 19 (some (T2, true)) .t (.call 12 [T1, T0]) (.rd none .t (.v (.pick T3 T0 (.c (.bool false)))) [23, 25] (rm T0 [23, 25] (.rd (some (T0, true)) .t (.ld (some 5) S2) [23, 25] (.rd (some (T1, true)) .t (.ld (some 5) S2) [25] (.ef 23 (some (T2, true)) .t (.call 14 [T1]) (.ef 25 (some (T3, true)) .t (.call 15 [T1]) (.rd (some (T4, true)) .t (.v (.bin .eql T1 T0)) [] (.rd none .t (.v (.pick T5 T0 (.c (.bool false)))) [] (.rd none (.s 4) (.v (.mv T0)) [] .done)))))))))))))))))))))))))))))
def c3s8 : SCode := (.seq (.seq (.ops c3r4) c3s6) (.seq (.de c3d7) .ret))
@[go_sem] theorem c3s8eq : U c3s8 (.seq (.seq (.ops c3r4) c3s6) (.seq (.de c3d7) .ret)) := fun _ _ _ _ _ => rfl
def c3s9 : SCode := (.seq (.seq (.ops c3r1) c3s3) c3s8)
@[go_sem] theorem c3s9eq : U c3s9 (.seq (.seq (.ops c3r1) c3s3) c3s8) := fun _ _ _ _ _ => rfl
def c3 : Gx.Fn := ⟨43, c3k, (.seq (.ops c3r0) c3s9), [(.tmp S4)]⟩
theorem c3ok : stripFn Tryd.prog c3k Tryd.f3 = some c3 := by kernel_rfl

/- plexuslaw16.ParserOffsets -/
@[go_sem] def c4k : List Nat := [0, 2, 3, 4, 5, 6, 7, 8, 10, 18, 46, 54, 72]
@[go_sem] def c4r0 : List GOp := [mS 1 (.c (.bool false))]
@[go_sem] def c4r1 : List GOp := [oT (.call 10 []), oS 8 (.v (.un .not T0))]
@[go_sem] def c4r2 : List GOp := [mS 1 (.c (.bool false))]
def c4s3 : SCode := (.cond S8 (.seq (.ops c4r2) .ret) .skip)
@[go_sem] theorem c4s3eq : U c4s3 (.cond S8 (.seq (.ops c4r2) .ret) .skip) := fun _ _ _ _ _ => rfl
@[go_sem] def c4r4 : List GOp := [mT S0, oT (.call 16 [T0]), mT T0, oT (.v (.ext T0 0)), oT (.v (.ext T1 1)), oS 2 (.al 24 [(I 0), (.string ⟨⟨[]⟩⟩), (I 0), (I 0), Z]), oS 3 (.al 31 [(I 0), (I 0)]), oN (.st 5 S2 T1), oN (.st 2 S3 T0)]
@[go_sem] def c4r5 : List GOp := [fT 0 S3, lT T0, oS 9 (.v (.bin .neq T0 (C 0)))]
@[go_sem] def c4r6 : List GOp := [fT 1 S3, lT T0, oT (.v (.bin .geq T0 (C 0))), mT T0, (.sel T0 true [(.op (.v (.fa 1 S3))), (.op (.ld none T0)), (.op (.v (.mv S0))), (.op (.v (.slen T0))), (.op (.v (.bin .leq T2 T0)))] .t T0 (.c (.bool false))), mT T0, (.op (some (T0, (true, true))) .t (.ld (some 5) S2)), (.op (some (T1, (true, false))) .t (.v (.bld [(I 0), (.string ⟨⟨[]⟩⟩), (I 0), (I 0), Z] []))), (.op (some (T2, (true, false))) .t (.call 12 [T1, T0])), oT (.v (.pick T3 T0 (.c (.bool false)))), mT T0, (.sel T0 true [(.op (.v (.fa 3 S2))), (.op (.ld none T0)), (.op (.v (.bin .eql T0 (C 0))))] .t T0 (.c (.bool false))), mS 1 T0]
def c4s7 : SCode := (.cond S9 (.seq (.ops c4r6) .ret) .skip)
@[go_sem] theorem c4s7eq : U c4s7 (.cond S9 (.seq (.ops c4r6) .ret) .skip) := fun _ _ _ _ _ => rfl
@[go_sem] def c4r8 : List GOp := [mT S0, oT (.call 17 [T0]), mT T0, oT (.v (.ext T0 0)), oT (.v (.ext T1 1)), oS 5 (.al 31 [(I 0), (I 0)]), mS 4 T1, oN (.st 2 S5 T0)]
@[go_sem] def c4r9 : List GOp := [fT 0 S5, lT T0, oS 10 (.v (.bin .neq T0 (C 0)))]
@[go_sem] def c4r10 : List GOp := [mS 1 (.c (.bool false))]
def c4s11 : SCode := (.seq (.ops c4r10) .ret)
@[go_sem] theorem c4s11eq : U c4s11 (.seq (.ops c4r10) .ret) := fun _ _ _ _ _ => rfl
@[go_sem] def c4r12 : List GOp := [mT S0, oT (.v (.slen T0)), oT (.v (.bin .add T0 (C 1))), oT (.mk 4 1 1 (.bool false) T0 T0), mS 6 T0]
@[go_sem] def c4r13 : List GOp := [mS 7 (C 0)]
@[go_sem] def c4r14 : List GOp := [mT S7, mT S4, nT T0, oS 11 (.v (.bin .lss T2 T0))]
def c4s15 : SCode := (.cond S11 .skip (.exit 0))
@[go_sem] theorem c4s15eq : U c4s15 (.cond S11 .skip (.exit 0)) := fun _ _ _ _ _ => rfl
@[go_sem] def c4r16 : List GOp := [mT S4, mT S7, oT (.v (.ix 4 T1 T0)), fT 3 T0, lT T0, oT (.v (.bin .lss T0 (C 0))), mT T0, (.op (some (T0, (false, true))) .t (.v (.mv S4))), (.op (some (T1, (false, false))) .t (.v (.mv S7))), (.op (some (T2, (false, false))) .t (.v (.ix 4 T1 T0))), (.op (some (T3, (false, false))) .t (.v (.fa 3 T0))), (.op (some (T4, (false, false))) .t (.ld none T0)), (.op (some (T5, (false, false))) .t (.v (.mv S0))), (.op (some (T6, (false, false))) .t (.v (.slen T0))), (.op (some (T7, (false, false))) .t (.v (.bin .gtr T2 T0))), oS 12 (.v (.pick T8 (.c (.bool true)) T0))]
@[go_sem] def c4r17 : List GOp := [mS 1 (.c (.bool false))]
def c4s18 : SCode := (.seq (.ops c4r17) .ret)
@[go_sem] theorem c4s18eq : U c4s18 (.seq (.ops c4r17) .ret) := fun _ _ _ _ _ => rfl
@[go_sem] def c4d19 : DT := (rm S6 [13] (rm S4 [13] (rm S7 [13] (.rd none .t (.v (.ix 4 T1 T0)) [13] (rf 3 T0 [13] (rl T0 [13] (rm S4 [13] (rm S7 [13] (.rd none .t (.v (.ix 4 T1 T0)) [13] (rf 0 T0 [13] (rl T0 [13] (.rd none .t (.v (.bin .neq T0 (C 6))) [13] (.rd none .t (.v (.ix 1 T11 T6)) [13] (.ef 13 none .no (.st 1 T0 T1) .done))))))))))))))
def c4s20 : SCode := (.de c4d19)
@[go_sem] theorem c4s20eq : U c4s20 (.de c4d19) := fun _ _ _ _ _ => rfl
@[go_sem] def c4r21 : List GOp := [mT S7, oT (.v (.bin .add T0 (C 1))), mS 7 T0]
def c4s22 : SCode := (.ops c4r21)
@[go_sem] theorem c4s22eq : U c4s22 (.ops c4r21) := fun _ _ _ _ _ => rfl
def c4s23 : SCode := (.seq (.block 1 (.seq (.seq (.ops c4r16) (.cond S12 c4s18 .skip)) c4s20)) c4s22)
@[go_sem] theorem c4s23eq : U c4s23 (.seq (.block 1 (.seq (.seq (.ops c4r16) (.cond S12 c4s18 .skip)) c4s20)) c4s22) := fun _ _ _ _ _ => rfl
def c4s24 : SCode := (.seq (.seq (.ops c4r14) c4s15) c4s23)
@[go_sem] theorem c4s24eq : U c4s24 (.seq (.seq (.ops c4r14) c4s15) c4s23) := fun _ _ _ _ _ => rfl
def c4s25 : SCode := (.block 0 (.loop c4k c4s24))
@[go_sem] theorem c4s25eq : U c4s25 (.block 0 (.loop c4k c4s24)) := fun _ _ _ _ _ => rfl
@[go_sem] def c4r26 : List GOp := [oT (.ld (some 5) S2), mT S6, oT (.call 18 [T1, T0]), mS 1 T0]
def c4s27 : SCode := (.seq (.ops c4r26) .ret)
@[go_sem] theorem c4s27eq : U c4s27 (.seq (.ops c4r26) .ret) := fun _ _ _ _ _ => rfl
def c4s28 : SCode := (.seq (.seq (.ops c4r13) c4s25) c4s27)
@[go_sem] theorem c4s28eq : U c4s28 (.seq (.seq (.ops c4r13) c4s25) c4s27) := fun _ _ _ _ _ => rfl
def c4s29 : SCode := (.seq (.ops c4r12) c4s28)
@[go_sem] theorem c4s29eq : U c4s29 (.seq (.ops c4r12) c4s28) := fun _ _ _ _ _ => rfl
def c4s30 : SCode := (.seq (.seq (.ops c4r9) (.cond S10 c4s11 .skip)) c4s29)
@[go_sem] theorem c4s30eq : U c4s30 (.seq (.seq (.ops c4r9) (.cond S10 c4s11 .skip)) c4s29) := fun _ _ _ _ _ => rfl
def c4s31 : SCode := (.seq (.ops c4r8) c4s30)
@[go_sem] theorem c4s31eq : U c4s31 (.seq (.ops c4r8) c4s30) := fun _ _ _ _ _ => rfl
def c4s32 : SCode := (.seq (.seq (.ops c4r5) c4s7) c4s31)
@[go_sem] theorem c4s32eq : U c4s32 (.seq (.seq (.ops c4r5) c4s7) c4s31) := fun _ _ _ _ _ => rfl
def c4s33 : SCode := (.seq (.ops c4r4) c4s32)
@[go_sem] theorem c4s33eq : U c4s33 (.seq (.ops c4r4) c4s32) := fun _ _ _ _ _ => rfl
def c4s34 : SCode := (.seq (.seq (.ops c4r1) c4s3) c4s33)
@[go_sem] theorem c4s34eq : U c4s34 (.seq (.seq (.ops c4r1) c4s3) c4s33) := fun _ _ _ _ _ => rfl
def c4 : Gx.Fn := ⟨89, c4k, (.seq (.ops c4r0) c4s34), [(.tmp S1)]⟩
theorem c4ok : stripFn Tryd.prog c4k Tryd.f4 = some c4 := by kernel_rfl

/- plexuslaw16.ParserParentheses -/
@[go_sem] def c5k : List Nat := [0, 1, 4, 5, 6, 7, 8, 9, 10, 12, 29, 58, 78]
@[go_sem] def c5r0 : List GOp := [mS 2 (.c (.bool false))]
@[go_sem] def c5r1 : List GOp := [oT (.call 10 []), oS 9 (.v (.un .not T0))]
@[go_sem] def c5r2 : List GOp := [mS 2 (.c (.bool false))]
def c5s3 : SCode := (.cond S9 (.seq (.ops c5r2) .ret) .skip)
@[go_sem] theorem c5s3eq : U c5s3 (.cond S9 (.seq (.ops c5r2) .ret) .skip) := fun _ _ _ _ _ => rfl
@[go_sem] def c5r4 : List GOp := [mT S1, oT (.v (.cvi .u64 T0)), oT (.v (.bin .rem T0 (.c (.int .u64 70)))), oT (.v (.cvi .i64 T0)), mS 1 T0]
@[go_sem] def c5r5 : List GOp := [mT S0, oT (.call 16 [T0]), mT T0, oT (.v (.ext T0 0)), oT (.v (.ext T1 1)), oS 3 (.al 24 [(I 0), (.string ⟨⟨[]⟩⟩), (I 0), (I 0), Z]), oS 4 (.al 31 [(I 0), (I 0)]), oN (.st 5 S3 T1), oN (.st 2 S4 T0)]
@[go_sem] def c5r6 : List GOp := [fT 0 S4, lT T0, oT (.v (.bin .neq T0 (C 0))), mT T0, (.sel T0 false [(.op (.v (.mv S0))), (.op (.v (.slen T0))), (.op (.v (.bin .gtr T0 (C 65000))))] (.s 10) (.c (.bool true)) T0)]
@[go_sem] def c5r7 : List GOp := [mS 2 (.c (.bool true))]
def c5s8 : SCode := (.cond S10 (.seq (.ops c5r7) .ret) .skip)
@[go_sem] theorem c5s8eq : U c5s8 (.cond S10 (.seq (.ops c5r7) .ret) .skip) := fun _ _ _ _ _ => rfl
@[go_sem] def c5r9 : List GOp := [mT S1, oT (.call 19 [(.c (.string ⟨⟨[40]⟩⟩)), T0]), mT S0, oT (.v (.bin .add T1 T0)), oT (.v (.bin .add T0 (.c (.string ⟨⟨[10]⟩⟩)))), mT S1, oT (.call 19 [(.c (.string ⟨⟨[41]⟩⟩)), T0]), oT (.v (.bin .add T2 T0)), oT (.call 16 [T0]), mT T0, oT (.v (.ext T0 0)), oT (.v (.ext T1 1)), oS 5 (.al 24 [(I 0), (.string ⟨⟨[]⟩⟩), (I 0), (I 0), Z]), oS 6 (.al 31 [(I 0), (I 0)]), oN (.st 5 S5 T1), oN (.st 2 S6 T0)]
@[go_sem] def c5r10 : List GOp := [mT S1, oT (.v (.bin .add T0 (C 1))), oT (.call 19 [(.c (.string ⟨⟨[40]⟩⟩)), T0]), mT S0, oT (.v (.bin .add T1 T0)), oT (.v (.bin .add T0 (.c (.string ⟨⟨[10]⟩⟩)))), mT S1, oT (.v (.bin .add T0 (C 1))), oT (.call 19 [(.c (.string ⟨⟨[41]⟩⟩)), T0]), oT (.v (.bin .add T3 T0)), oT (.call 16 [T0]), mT T0, oT (.v (.ext T0 0)), oT (.v (.ext T1 1)), oS 7 (.al 24 [(I 0), (.string ⟨⟨[]⟩⟩), (I 0), (I 0), Z]), oS 8 (.al 31 [(I 0), (I 0)]), oN (.st 5 S7 T1), oN (.st 2 S8 T0)]
@[go_sem] def c5r11 : List GOp := [fT 0 S6, lT T0, oS 11 (.v (.bin .eql T0 (C 6)))]
@[go_sem] def c5r12 : List GOp := [mT S1, oT (.v (.bin .gtr T0 (C 0))), mT T0, (.sel T0 true [(.op (.v (.fa 0 S8))), (.op (.ld none T0)), (.op (.v (.bin .eql T0 (C 6))))] .t T0 (.c (.bool false))), mS 2 T0]
def c5s13 : SCode := (.seq (.ops c5r12) .ret)
@[go_sem] theorem c5s13eq : U c5s13 (.seq (.ops c5r12) .ret) := fun _ _ _ _ _ => rfl
@[go_sem] def c5r14 : List GOp := [fT 0 S6, lT T0, oT (.v (.bin .neq T0 (C 0))), mT T0, (.op (some (T0, (false, true))) .t (.ld (some 5) S3)), (.op (some (T1, (false, false))) .t (.ld (some 5) S5)), (.op (some (T2, (false, false))) .t (.call 12 [T1, T0])), (.op (some (T3, (false, false))) .t (.v (.un .not T0))), oT (.v (.pick T4 (.c (.bool true)) T0)), mT T0, (.sel T0 false [(.op (.v (.mv S1))), (.op (.v (.bin .gtr T0 (C 64))))] (.s 12) (.c (.bool true)) T0)]
@[go_sem] def c5r15 : List GOp := [mS 2 (.c (.bool false))]
def c5s16 : SCode := (.seq (.ops c5r15) .ret)
@[go_sem] theorem c5s16eq : U c5s16 (.seq (.ops c5r15) .ret) := fun _ _ _ _ _ => rfl
@[go_sem] def c5r17 : List GOp := [fT 0 S8, lT T0, oT (.v (.bin .eql T0 (C 6))), mT T0, (.op (some (T0, (false, true))) .t (.v (.fa 0 S8))), (.op (some (T1, (false, false))) .t (.ld none T0)), (.op (some (T2, (false, false))) .t (.v (.bin .eql T0 (C 0)))), (.op (some (T3, (false, false))) .t (.v (.mv T0))), (.op (some (T0, (true, true))) .t (.ld (some 5) S3)), (.op (some (T1, (true, false))) .t (.ld (some 5) S7)), (.op (some (T2, (true, false))) .t (.call 12 [T1, T0])), (.op (some (T7, (false, true))) .t (.v (.pick T3 T0 (.c (.bool false))))), oT (.v (.pick T8 (.c (.bool true)) T0)), mS 2 T0]
def c5s18 : SCode := (.seq (.ops c5r17) .ret)
@[go_sem] theorem c5s18eq : U c5s18 (.seq (.ops c5r17) .ret) := fun _ _ _ _ _ => rfl
def c5s19 : SCode := (.seq (.seq (.ops c5r14) (.cond S12 c5s16 .skip)) c5s18)
@[go_sem] theorem c5s19eq : U c5s19 (.seq (.seq (.ops c5r14) (.cond S12 c5s16 .skip)) c5s18) := fun _ _ _ _ _ => rfl
def c5s20 : SCode := (.seq (.seq (.ops c5r11) (.cond S11 c5s13 .skip)) c5s19)
@[go_sem] theorem c5s20eq : U c5s20 (.seq (.seq (.ops c5r11) (.cond S11 c5s13 .skip)) c5s19) := fun _ _ _ _ _ => rfl
def c5s21 : SCode := (.seq (.ops c5r10) c5s20)
@[go_sem] theorem c5s21eq : U c5s21 (.seq (.ops c5r10) c5s20) := fun _ _ _ _ _ => rfl
def c5s22 : SCode := (.seq (.ops c5r9) c5s21)
@[go_sem] theorem c5s22eq : U c5s22 (.seq (.ops c5r9) c5s21) := fun _ _ _ _ _ => rfl
def c5s23 : SCode := (.seq (.seq (.ops c5r6) c5s8) c5s22)
@[go_sem] theorem c5s23eq : U c5s23 (.seq (.seq (.ops c5r6) c5s8) c5s22) := fun _ _ _ _ _ => rfl
def c5s24 : SCode := (.seq (.ops c5r5) c5s23)
@[go_sem] theorem c5s24eq : U c5s24 (.seq (.ops c5r5) c5s23) := fun _ _ _ _ _ => rfl
def c5s25 : SCode := (.seq (.ops c5r4) c5s24)
@[go_sem] theorem c5s25eq : U c5s25 (.seq (.ops c5r4) c5s24) := fun _ _ _ _ _ => rfl
def c5s26 : SCode := (.seq (.seq (.ops c5r1) c5s3) c5s25)
@[go_sem] theorem c5s26eq : U c5s26 (.seq (.seq (.ops c5r1) c5s3) c5s25) := fun _ _ _ _ _ => rfl
def c5 : Gx.Fn := ⟨92, c5k, (.seq (.ops c5r0) c5s26), [(.tmp S2)]⟩
theorem c5ok : stripFn Tryd.prog c5k Tryd.f5 = some c5 := by kernel_rfl

/- plexuslaw16.ParserPrecedence -/
@[go_sem] def c6k : List Nat := [0, 1, 2, 3, 4, 5, 6, 7, 8, 9, 10, 14, 15, 17, 18, 19, 20, 22, 25, 37, 49, 84, 90, 96, 99]
@[go_sem] def c6r0 : List GOp := [oS 2 (.bx 45 S0), oS 3 (.bx 46 S1), mS 4 (.c (.bool false))]
@[go_sem] def c6r1 : List GOp := [oT (.call 10 []), oS 17 (.v (.un .not T0))]
@[go_sem] def c6r2 : List GOp := [mS 4 (.c (.bool false))]
def c6s3 : SCode := (.cond S17 (.seq (.ops c6r2) .ret) .skip)
@[go_sem] theorem c6s3eq : U c6s3 (.cond S17 (.seq (.ops c6r2) .ret) .skip) := fun _ _ _ _ _ => rfl
@[go_sem] def c6r4 : List GOp := [oT (.v (.bld [(I 0), (.string ⟨⟨[]⟩⟩), (I 0), (I 0), Z, (I 0), (.string ⟨⟨[]⟩⟩), (I 0), (I 0), Z, (I 0), (.string ⟨⟨[]⟩⟩), (I 0), (I 0), Z] [])), oS 5 (.al 47 [(I 0), (.string ⟨⟨[]⟩⟩), (I 0), (I 0), Z, (I 0), (.string ⟨⟨[]⟩⟩), (I 0), (I 0), Z, (I 0), (.string ⟨⟨[]⟩⟩), (I 0), (I 0), Z]), oN (.st 15 S5 T0)]
@[go_sem] def c6r5 : List GOp := [mS 6 (.c (.string ⟨⟨[]⟩⟩))]
@[go_sem] def c6r6 : List GOp := [mS 7 (C 0)]
@[go_sem] def c6r7 : List GOp := [mT S7, oS 18 (.v (.bin .lss T0 (C 3)))]
def c6s8 : SCode := (.cond S18 .skip (.exit 0))
@[go_sem] theorem c6s8eq : U c6s8 (.cond S18 .skip (.exit 0)) := fun _ _ _ _ _ => rfl
@[go_sem] def c6r9 : List GOp := [mT S7, oT (.v (.ixa 1 3 S2 T0)), lT T0, oT (.call 16 [T0]), mT T0, oT (.v (.ext T0 0)), oT (.v (.ext T1 1)), oS 8 (.al 24 [(I 0), (.string ⟨⟨[]⟩⟩), (I 0), (I 0), Z]), oS 9 (.al 31 [(I 0), (I 0)]), oN (.st 5 S8 T1), oN (.st 2 S9 T0)]
@[go_sem] def c6r10 : List GOp := [fT 0 S9, lT T0, oS 19 (.v (.bin .neq T0 (C 0)))]
@[go_sem] def c6r11 : List GOp := [mS 4 (.c (.bool true))]
def c6s12 : SCode := (.seq (.ops c6r11) .ret)
@[go_sem] theorem c6s12eq : U c6s12 (.seq (.ops c6r11) .ret) := fun _ _ _ _ _ => rfl
@[go_sem] def c6r13 : List GOp := [mT S7, oT (.ld (some 5) S8), oT (.v (.ixa 5 3 S5 T1)), oN (.st 5 T0 T1)]
@[go_sem] def c6r14 : List GOp := [mT S6, mT S7, oT (.v (.ixa 1 3 S2 T0)), lT T0, oT (.v (.bin .add (.c (.string ⟨⟨[40]⟩⟩)) T0)), oT (.v (.bin .add T0 (.c (.string ⟨⟨[10, 41]⟩⟩)))), oT (.v (.bin .add T5 T0)), mS 6 T0]
@[go_sem] def c6r15 : List GOp := [mT S7, oS 20 (.v (.bin .lss T0 (C 2)))]
@[go_sem] def c6r16 : List GOp := [mT S7, oT (.v (.ixa 1 2 S3 T0)), lT T0, oT (.call 20 [T0]), mT T0, oT (.v (.ext T0 0)), oT (.v (.ext T1 1)), oT (.v (.ext T2 2)), mS 10 T2, mT T1, mT T1]
@[go_sem] def c6r17 : List GOp := [mT S6, mT S10, oT (.v (.bin .add (.c (.string ⟨⟨[32]⟩⟩)) T0)), oT (.v (.bin .add T0 (.c (.string ⟨⟨[32]⟩⟩)))), oT (.v (.bin .add T3 T0)), mS 6 T0]
def c6s18 : SCode := (.ops c6r17)
@[go_sem] theorem c6s18eq : U c6s18 (.ops c6r17) := fun _ _ _ _ _ => rfl
def c6s19 : SCode := (.seq (.ops c6r16) c6s18)
@[go_sem] theorem c6s19eq : U c6s19 (.seq (.ops c6r16) c6s18) := fun _ _ _ _ _ => rfl
def c6s20 : SCode := (.seq (.ops c6r15) (.cond S20 c6s19 .skip))
@[go_sem] theorem c6s20eq : U c6s20 (.seq (.ops c6r15) (.cond S20 c6s19 .skip)) := fun _ _ _ _ _ => rfl
def c6s21 : SCode := (.seq (.ops c6r14) c6s20)
@[go_sem] theorem c6s21eq : U c6s21 (.seq (.ops c6r14) c6s20) := fun _ _ _ _ _ => rfl
def c6s22 : SCode := (.seq (.ops c6r13) c6s21)
@[go_sem] theorem c6s22eq : U c6s22 (.seq (.ops c6r13) c6s21) := fun _ _ _ _ _ => rfl
def c6s23 : SCode := (.seq (.seq (.ops c6r10) (.cond S19 c6s12 .skip)) c6s22)
@[go_sem] theorem c6s23eq : U c6s23 (.seq (.seq (.ops c6r10) (.cond S19 c6s12 .skip)) c6s22) := fun _ _ _ _ _ => rfl
@[go_sem] def c6r24 : List GOp := [mT S7, oT (.v (.bin .add T0 (C 1))), mS 7 T0]
def c6s25 : SCode := (.ops c6r24)
@[go_sem] theorem c6s25eq : U c6s25 (.ops c6r24) := fun _ _ _ _ _ => rfl
def c6s26 : SCode := (.seq (.block 1 (.seq (.ops c6r9) c6s23)) c6s25)
@[go_sem] theorem c6s26eq : U c6s26 (.seq (.block 1 (.seq (.ops c6r9) c6s23)) c6s25) := fun _ _ _ _ _ => rfl
def c6s27 : SCode := (.seq (.seq (.ops c6r7) c6s8) c6s26)
@[go_sem] theorem c6s27eq : U c6s27 (.seq (.seq (.ops c6r7) c6s8) c6s26) := fun _ _ _ _ _ => rfl
def c6s28 : SCode := (.block 0 (.loop c6k c6s27))
@[go_sem] theorem c6s28eq : U c6s28 (.block 0 (.loop c6k c6s27)) := fun _ _ _ _ _ => rfl
@[go_sem] def c6r29 : List GOp := [oT (.v (.ixa 1 2 S3 (C 0))), lT T0, oT (.call 20 [T0]), mT T0, oT (.v (.ext T0 0)), oT (.v (.ext T1 1)), oT (.v (.ext T2 2)), mT T2, mS 11 T2, mS 12 T1]
@[go_sem] def c6r30 : List GOp := [oT (.v (.ixa 1 2 S3 (C 1))), lT T0, oT (.call 20 [T0]), mT T0, oT (.v (.ext T0 0)), oT (.v (.ext T1 1)), oT (.v (.ext T2 2)), mT T2, mS 13 T2, mS 14 T1]
@[go_sem] def c6r31 : List GOp := [mT S6, oT (.call 16 [T0]), mT T0, oT (.v (.ext T0 0)), oT (.v (.ext T1 1)), oS 15 (.al 24 [(I 0), (.string ⟨⟨[]⟩⟩), (I 0), (I 0), Z]), oS 16 (.al 31 [(I 0), (I 0)]), oN (.st 5 S15 T1), oN (.st 2 S16 T0)]
@[go_sem] def c6r32 : List GOp := [fT 0 S16, lT T0, oS 21 (.v (.bin .eql T0 (C 6)))]
@[go_sem] def c6r33 : List GOp := [mS 4 (.c (.bool true))]
def c6s34 : SCode := (.seq (.ops c6r33) .ret)
@[go_sem] theorem c6s34eq : U c6s34 (.seq (.ops c6r33) .ret) := fun _ _ _ _ _ => rfl
@[go_sem] def c6r35 : List GOp := [mT S12, oT (.v (.bin .eql T0 (C 2))), mT T0, (.sel T0 true [(.op (.v (.mv S14))), (.op (.v (.bin .eql T0 (C 2))))] (.s 22) T0 (.c (.bool false)))]
@[go_sem] def c6r36 : List GOp := [fT 0 S16, lT T0, oT (.v (.bin .eql T0 (C 2))), mS 4 T0]
def c6s37 : SCode := (.seq (.ops c6r36) .ret)
@[go_sem] theorem c6s37eq : U c6s37 (.seq (.ops c6r36) .ret) := fun _ _ _ _ _ => rfl
@[go_sem] def c6r38 : List GOp := [fT 0 S16, lT T0, oS 23 (.v (.bin .neq T0 (C 0)))]
@[go_sem] def c6r39 : List GOp := [mS 4 (.c (.bool false))]
def c6s40 : SCode := (.seq (.ops c6r39) .ret)
@[go_sem] theorem c6s40eq : U c6s40 (.seq (.ops c6r39) .ret) := fun _ _ _ _ _ => rfl
@[go_sem] def c6r41 : List GOp := [mT S12, mT S14, oS 24 (.v (.bin .geq T1 T0))]
@[go_sem] def c6r42 : List GOp := [oT (.ld (some 5) S15), mT S13, mT S11, oT (.v (.ixa 5 3 S5 (C 0))), oT (.ld (some 5) T0), oT (.v (.ixa 5 3 S5 (C 1))), oT (.ld (some 5) T0), oT (.bs 24 2 [(I 0), (.string ⟨⟨[]⟩⟩), (I 0), (I 0), Z, (I 0), (.string ⟨⟨[]⟩⟩), (I 0), (I 0), Z] [(0, (5, T2)), (5, (5, T0))]), oT (.v (.bld [(I 0), (.string ⟨⟨[]⟩⟩), (I 0), (I 0), Z] [(0, (1, T5)), (4, (1, T0))])), oT (.v (.ixa 5 3 S5 (C 2))), oT (.ld (some 5) T0), oT (.bs 24 2 [(I 0), (.string ⟨⟨[]⟩⟩), (I 0), (I 0), Z, (I 0), (.string ⟨⟨[]⟩⟩), (I 0), (I 0), Z] [(0, (5, T2)), (5, (5, T0))]), oT (.v (.bld [(I 0), (.string ⟨⟨[]⟩⟩), (I 0), (I 0), Z] [(0, (1, T10)), (4, (1, T0))])), oT (.call 12 [T12, T0]), mS 4 T0]
def c6s43 : SCode := (.seq (.ops c6r42) .ret)
@[go_sem] theorem c6s43eq : U c6s43 (.seq (.ops c6r42) .ret) := fun _ _ _ _ _ => rfl
@[go_sem] def c6r44 : List GOp := [oT (.ld (some 5) S15), mT S11, oT (.v (.ixa 5 3 S5 (C 0))), oT (.ld (some 5) T0), mT S13, oT (.v (.ixa 5 3 S5 (C 1))), oT (.ld (some 5) T0), oT (.v (.ixa 5 3 S5 (C 2))), oT (.ld (some 5) T0), oT (.bs 24 2 [(I 0), (.string ⟨⟨[]⟩⟩), (I 0), (I 0), Z, (I 0), (.string ⟨⟨[]⟩⟩), (I 0), (I 0), Z] [(0, (5, T2)), (5, (5, T0))]), oT (.v (.bld [(I 0), (.string ⟨⟨[]⟩⟩), (I 0), (I 0), Z] [(0, (1, T5)), (4, (1, T0))])), oT (.bs 24 2 [(I 0), (.string ⟨⟨[]⟩⟩), (I 0), (I 0), Z, (I 0), (.string ⟨⟨[]⟩⟩), (I 0), (I 0), Z] [(0, (5, T7)), (5, (5, T0))]), oT (.v (.bld [(I 0), (.string ⟨⟨[]⟩⟩), (I 0), (I 0), Z] [(0, (1, T10)), (4, (1, T0))])), oT (.call 12 [T12, T0]), mS 4 T0]
def c6s45 : SCode := (.seq (.ops c6r44) .ret)
@[go_sem] theorem c6s45eq : U c6s45 (.seq (.ops c6r44) .ret) := fun _ _ _ _ _ => rfl
def c6s46 : SCode := (.seq (.seq (.ops c6r41) (.cond S24 c6s43 .skip)) c6s45)
@[go_sem] theorem c6s46eq : U c6s46 (.seq (.seq (.ops c6r41) (.cond S24 c6s43 .skip)) c6s45) := fun _ _ _ _ _ => rfl
def c6s47 : SCode := (.seq (.seq (.ops c6r38) (.cond S23 c6s40 .skip)) c6s46)
@[go_sem] theorem c6s47eq : U c6s47 (.seq (.seq (.ops c6r38) (.cond S23 c6s40 .skip)) c6s46) := fun _ _ _ _ _ => rfl
def c6s48 : SCode := (.seq (.seq (.ops c6r35) (.cond S22 c6s37 .skip)) c6s47)
@[go_sem] theorem c6s48eq : U c6s48 (.seq (.seq (.ops c6r35) (.cond S22 c6s37 .skip)) c6s47) := fun _ _ _ _ _ => rfl
def c6s49 : SCode := (.seq (.seq (.ops c6r32) (.cond S21 c6s34 .skip)) c6s48)
@[go_sem] theorem c6s49eq : U c6s49 (.seq (.seq (.ops c6r32) (.cond S21 c6s34 .skip)) c6s48) := fun _ _ _ _ _ => rfl
def c6s50 : SCode := (.seq (.ops c6r31) c6s49)
@[go_sem] theorem c6s50eq : U c6s50 (.seq (.ops c6r31) c6s49) := fun _ _ _ _ _ => rfl
def c6s51 : SCode := (.seq (.ops c6r30) c6s50)
@[go_sem] theorem c6s51eq : U c6s51 (.seq (.ops c6r30) c6s50) := fun _ _ _ _ _ => rfl
def c6s52 : SCode := (.seq (.ops c6r29) c6s51)
@[go_sem] theorem c6s52eq : U c6s52 (.seq (.ops c6r29) c6s51) := fun _ _ _ _ _ => rfl
def c6s53 : SCode := (.seq (.seq (.ops c6r6) c6s28) c6s52)
@[go_sem] theorem c6s53eq : U c6s53 (.seq (.seq (.ops c6r6) c6s28) c6s52) := fun _ _ _ _ _ => rfl
def c6s54 : SCode := (.seq (.ops c6r5) c6s53)
@[go_sem] theorem c6s54eq : U c6s54 (.seq (.ops c6r5) c6s53) := fun _ _ _ _ _ => rfl
def c6s55 : SCode := (.seq (.ops c6r4) c6s54)
@[go_sem] theorem c6s55eq : U c6s55 (.seq (.ops c6r4) c6s54) := fun _ _ _ _ _ => rfl
def c6s56 : SCode := (.seq (.seq (.ops c6r1) c6s3) c6s55)
@[go_sem] theorem c6s56eq : U c6s56 (.seq (.seq (.ops c6r1) c6s3) c6s55) := fun _ _ _ _ _ => rfl
def c6 : Gx.Fn := ⟨128, c6k, (.seq (.ops c6r0) c6s56), [(.tmp S4)]⟩
theorem c6ok : stripFn Tryd.prog c6k Tryd.f6 = some c6 := by kernel_rfl

/- plexuslaw16.ParserAppends -/
@[go_sem] def c7k : List Nat := [0, 1, 4, 5, 6, 7, 8, 9, 10, 11, 13, 31, 42]
@[go_sem] def c7r0 : List GOp := [mS 2 (.c (.bool false))]
@[go_sem] def c7r1 : List GOp := [oT (.call 10 []), oS 10 (.v (.un .not T0))]
@[go_sem] def c7r2 : List GOp := [mS 2 (.c (.bool false))]
def c7s3 : SCode := (.cond S10 (.seq (.ops c7r2) .ret) .skip)
@[go_sem] theorem c7s3eq : U c7s3 (.cond S10 (.seq (.ops c7r2) .ret) .skip) := fun _ _ _ _ _ => rfl
@[go_sem] def c7r4 : List GOp := [mT S0, oT (.call 21 [T0]), mT T0, oT (.v (.ext T0 0)), oT (.v (.ext T1 1)), oS 3 (.al 24 [(I 0), (.string ⟨⟨[]⟩⟩), (I 0), (I 0), Z]), oS 4 (.al 31 [(I 0), (I 0)]), oN (.st 5 S3 T1), oN (.st 2 S4 T0)]
@[go_sem] def c7r5 : List GOp := [mT S1, oT (.call 21 [T0]), mT T0, oT (.v (.ext T0 0)), oT (.v (.ext T1 1)), oS 5 (.al 24 [(I 0), (.string ⟨⟨[]⟩⟩), (I 0), (I 0), Z]), oS 6 (.al 31 [(I 0), (I 0)]), oN (.st 5 S5 T1), oN (.st 2 S6 T0)]
@[go_sem] def c7r6 : List GOp := [fT 0 S4, lT T0, oT (.v (.bin .neq T0 (C 0))), mT T0, (.sel T0 false [(.op (.v (.fa 0 S6))), (.op (.ld none T0)), (.op (.v (.bin .neq T0 (C 0))))] (.s 11) (.c (.bool true)) T0)]
@[go_sem] def c7r7 : List GOp := [mS 2 (.c (.bool true))]
def c7s8 : SCode := (.cond S11 (.seq (.ops c7r7) .ret) .skip)
@[go_sem] theorem c7s8eq : U c7s8 (.cond S11 (.seq (.ops c7r7) .ret) .skip) := fun _ _ _ _ _ => rfl
@[go_sem] def c7r9 : List GOp := [mT S0, oT (.v (.bin .add T0 (.c (.string ⟨⟨[10]⟩⟩)))), mT S1, oT (.v (.bin .add T1 T0)), oT (.call 21 [T0]), mT T0, oT (.v (.ext T0 0)), oT (.v (.ext T1 1)), oS 7 (.al 24 [(I 0), (.string ⟨⟨[]⟩⟩), (I 0), (I 0), Z]), oS 8 (.al 31 [(I 0), (I 0)]), oN (.st 5 S7 T1), oN (.st 2 S8 T0)]
@[go_sem] def c7r10 : List GOp := [fT 0 S8, lT T0, oS 12 (.v (.bin .eql T0 (C 6)))]
@[go_sem] def c7r11 : List GOp := [mT S0, oT (.v (.slen T0)), mT S1, oT (.v (.slen T0)), oT (.v (.bin .add T2 T0)), oT (.v (.bin .geq T0 (C 65536))), mS 2 T0]
def c7s12 : SCode := (.seq (.ops c7r11) .ret)
@[go_sem] theorem c7s12eq : U c7s12 (.seq (.ops c7r11) .ret) := fun _ _ _ _ _ => rfl
@[go_sem] def c7d13 : DT := (rf 4 S3 [3, 6] (rl T0 [3, 6] (rf 4 S5 [6] (rl T0 [6] (.ef 0 none .t (.bs 24 0 [] []) (.ef 3 none .t (.ap 22 22 T0 T3) (.ef 6 none .t (.ap 22 22 T0 T2) (.rd none (.s 9) (.v (.mv T0)) [] .done))))))))
@[go_sem] def c7r14 : List GOp := [fT 0 S8, lT T0, oT (.v (.bin .eql T0 (C 0))), mT T0, (.op (some (T0, (true, true))) .t (.ld (some 5) S7)), (.op (some (T1, (true, false))) .t (.v (.mv S9))), (.op (some (T2, (true, false))) .t (.v (.bld [(I 0), (.string ⟨⟨[]⟩⟩), (I 0), (I 0), Z] [(0, (1, (C 1))), (4, (1, T0))]))), (.op (some (T3, (true, false))) .t (.call 12 [T2, T0])), oT (.v (.pick T4 T0 (.c (.bool false)))), mS 2 T0]
def c7s15 : SCode := (.seq (.ops c7r14) .ret)
@[go_sem] theorem c7s15eq : U c7s15 (.seq (.ops c7r14) .ret) := fun _ _ _ _ _ => rfl
def c7s16 : SCode := (.seq (.de c7d13) c7s15)
@[go_sem] theorem c7s16eq : U c7s16 (.seq (.de c7d13) c7s15) := fun _ _ _ _ _ => rfl
def c7s17 : SCode := (.seq (.seq (.ops c7r10) (.cond S12 c7s12 .skip)) c7s16)
@[go_sem] theorem c7s17eq : U c7s17 (.seq (.seq (.ops c7r10) (.cond S12 c7s12 .skip)) c7s16) := fun _ _ _ _ _ => rfl
def c7s18 : SCode := (.seq (.ops c7r9) c7s17)
@[go_sem] theorem c7s18eq : U c7s18 (.seq (.ops c7r9) c7s17) := fun _ _ _ _ _ => rfl
def c7s19 : SCode := (.seq (.seq (.ops c7r6) c7s8) c7s18)
@[go_sem] theorem c7s19eq : U c7s19 (.seq (.seq (.ops c7r6) c7s8) c7s18) := fun _ _ _ _ _ => rfl
def c7s20 : SCode := (.seq (.ops c7r5) c7s19)
@[go_sem] theorem c7s20eq : U c7s20 (.seq (.ops c7r5) c7s19) := fun _ _ _ _ _ => rfl
def c7s21 : SCode := (.seq (.ops c7r4) c7s20)
@[go_sem] theorem c7s21eq : U c7s21 (.seq (.ops c7r4) c7s20) := fun _ _ _ _ _ => rfl
def c7s22 : SCode := (.seq (.seq (.ops c7r1) c7s3) c7s21)
@[go_sem] theorem c7s22eq : U c7s22 (.seq (.seq (.ops c7r1) c7s3) c7s21) := fun _ _ _ _ _ => rfl
def c7 : Gx.Fn := ⟨65, c7k, (.seq (.ops c7r0) c7s22), [(.tmp S2)]⟩
theorem c7ok : stripFn Tryd.prog c7k Tryd.f7 = some c7 := by kernel_rfl

/- plexuslaw16.ParserPrefix -/
@[go_sem] def c8k : List Nat := [0, 1, 4, 5, 6, 7, 8, 10, 11, 12, 13, 14, 15, 16, 17, 19, 21, 49, 53, 71, 74, 99, 113]
@[go_sem] def c8r0 : List GOp := [mS 2 (.c (.bool false))]
@[go_sem] def c8r1 : List GOp := [oT (.call 10 []), oS 16 (.v (.un .not T0))]
@[go_sem] def c8r2 : List GOp := [mS 2 (.c (.bool false))]
def c8s3 : SCode := (.cond S16 (.seq (.ops c8r2) .ret) .skip)
@[go_sem] theorem c8s3eq : U c8s3 (.cond S16 (.seq (.ops c8r2) .ret) .skip) := fun _ _ _ _ _ => rfl
@[go_sem] def c8r4 : List GOp := [mT S0, oT (.call 17 [T0]), mT T0, oT (.v (.ext T0 0)), oT (.v (.ext T1 1)), oS 4 (.al 31 [(I 0), (I 0)]), mS 3 T1, oN (.st 2 S4 T0)]
@[go_sem] def c8r5 : List GOp := [mT S1, oT (.call 17 [T0]), mT T0, oT (.v (.ext T0 0)), oT (.v (.ext T1 1)), oS 6 (.al 31 [(I 0), (I 0)]), mS 5 T1, oN (.st 2 S6 T0)]
@[go_sem] def c8r6 : List GOp := [mT S0, oT (.call 21 [T0]), mT T0, oT (.v (.ext T0 0)), oT (.v (.ext T1 1)), oT (.al 24 [(I 0), (.string ⟨⟨[]⟩⟩), (I 0), (I 0), Z]), oS 7 (.al 31 [(I 0), (I 0)]), oN (.st 5 T0 T2), oN (.st 2 S7 T1)]
@[go_sem] def c8r7 : List GOp := [fT 0 S4, lT T0, oT (.v (.bin .neq T0 (C 0))), mT T0, (.sel T0 false [(.op (.v (.fa 0 S6))), (.op (.ld none T0)), (.op (.v (.bin .neq T0 (C 0))))] .t (.c (.bool true)) T0), mT T0, (.sel T0 false [(.op (.v (.fa 0 S7))), (.op (.ld none T0)), (.op (.v (.bin .eql T0 (C 0))))] (.s 17) (.c (.bool true)) T0)]
@[go_sem] def c8r8 : List GOp := [mS 2 (.c (.bool true))]
def c8s9 : SCode := (.cond S17 (.seq (.ops c8r8) .ret) .skip)
@[go_sem] theorem c8s9eq : U c8s9 (.cond S17 (.seq (.ops c8r8) .ret) .skip) := fun _ _ _ _ _ => rfl
@[go_sem] def c8r10 : List GOp := [mS 8 (C (-1))]
@[go_sem] def c8r11 : List GOp := [mS 9 (C 0)]
@[go_sem] def c8r12 : List GOp := [mT S9, mT S3, nT T0, oS 18 (.v (.bin .lss T2 T0))]
def c8s13 : SCode := (.cond S18 .skip (.exit 0))
@[go_sem] theorem c8s13eq : U c8s13 (.cond S18 .skip (.exit 0)) := fun _ _ _ _ _ => rfl
@[go_sem] def c8r14 : List GOp := [mT S3, mT S9, oT (.v (.ix 4 T1 T0)), fT 3 T0, lT T0, fT 1 S7, lT T0, oT (.v (.bin .eql T2 T0)), mT T0, (.op (some (T0, (true, true))) .t (.v (.mv S3))), (.op (some (T1, (true, false))) .t (.v (.mv S9))), (.op (some (T2, (true, false))) .t (.v (.ix 4 T1 T0))), (.op (some (T3, (true, false))) .t (.v (.fa 0 T0))), (.op (some (T4, (true, false))) .t (.ld none T0)), (.op (some (T5, (true, false))) .t (.v (.bin .neq T0 (C 6)))), oS 19 (.v (.pick T6 T0 (.c (.bool false))))]
@[go_sem] def c8r15 : List GOp := [mT S9, mS 8 T0]
def c8s16 : SCode := (.cond S19 (.ops c8r15) .skip)
@[go_sem] theorem c8s16eq : U c8s16 (.cond S19 (.ops c8r15) .skip) := fun _ _ _ _ _ => rfl
@[go_sem] def c8r17 : List GOp := [mT S9, oT (.v (.bin .add T0 (C 1))), mS 9 T0]
def c8s18 : SCode := (.ops c8r17)
@[go_sem] theorem c8s18eq : U c8s18 (.ops c8r17) := fun _ _ _ _ _ => rfl
def c8s19 : SCode := (.seq (.block 1 (.seq (.dq c8r14) c8s16)) c8s18)
@[go_sem] theorem c8s19eq : U c8s19 (.seq (.block 1 (.seq (.dq c8r14) c8s16)) c8s18) := fun _ _ _ _ _ => rfl
def c8s20 : SCode := (.seq (.seq (.ops c8r12) c8s13) c8s19)
@[go_sem] theorem c8s20eq : U c8s20 (.seq (.seq (.ops c8r12) c8s13) c8s19) := fun _ _ _ _ _ => rfl
def c8s21 : SCode := (.block 0 (.loop c8k c8s20))
@[go_sem] theorem c8s21eq : U c8s21 (.block 0 (.loop c8k c8s20)) := fun _ _ _ _ _ => rfl
@[go_sem] def c8r22 : List GOp := [mT S8, oS 20 (.v (.bin .lss T0 (C 0)))]
@[go_sem] def c8r23 : List GOp := [fT 1 S7, lT T0, mT S0, oT (.v (.slen T0)), oT (.v (.bin .eql T2 T0)), mT T0, (.sel T0 true [(.op (.v (.fa 0 S7))), (.op (.ld none T0)), (.op (.v (.bin .eql T0 (C 2))))] .t T0 (.c (.bool false))), mS 2 T0]
def c8s24 : SCode := (.seq (.ops c8r23) .ret)
@[go_sem] theorem c8s24eq : U c8s24 (.seq (.ops c8r23) .ret) := fun _ _ _ _ _ => rfl
@[go_sem] def c8r25 : List GOp := [oT (.bs 39 0 [] []), mT S3, mT S8, oT (.v (.bin .add T0 (C 1))), oT (.v (.sl 4 T2 none (some T0))), oT (.ap 34 34 T4 T0), mT S5, oT (.ap 34 34 T1 T0), mS 10 T0]
@[go_sem] def c8r26 : List GOp := [mT S10, oT (.call 22 [T0]), mT T0, oT (.v (.ext T0 0)), oT (.v (.ext T1 1)), mS 11 T1, mS 12 T0]
@[go_sem] def c8r27 : List GOp := [mT S12, oS 21 (.v (.bin .neq T0 (C 0)))]
@[go_sem] def c8r28 : List GOp := [mS 2 (.c (.bool true))]
def c8s29 : SCode := (.seq (.ops c8r28) .ret)
@[go_sem] theorem c8s29eq : U c8s29 (.seq (.ops c8r28) .ret) := fun _ _ _ _ _ => rfl
@[go_sem] def c8r30 : List GOp := [mT S11, oT (.call 17 [T0]), mT T0, oT (.v (.ext T0 0)), oT (.v (.ext T1 1)), oS 14 (.al 31 [(I 0), (I 0)]), mS 13 T1, oN (.st 2 S14 T0)]
@[go_sem] def c8r31 : List GOp := [fT 0 S14, lT T0, oT (.v (.bin .neq T0 (C 0))), mT T0, (.sel T0 false [(.op (.v (.mv S13))), (.op (.v (.len T0))), (.op (.v (.mv S8))), (.op (.v (.bin .leq T1 T0)))] (.s 22) (.c (.bool true)) T0)]
@[go_sem] def c8r32 : List GOp := [mS 2 (.c (.bool false))]
def c8s33 : SCode := (.seq (.ops c8r32) .ret)
@[go_sem] theorem c8s33eq : U c8s33 (.seq (.ops c8r32) .ret) := fun _ _ _ _ _ => rfl
@[go_sem] def c8r34 : List GOp := [mT S11, oT (.call 21 [T0]), mT T0, oT (.v (.ext T0 0)), oT (.v (.ext T1 1)), oT (.al 24 [(I 0), (.string ⟨⟨[]⟩⟩), (I 0), (I 0), Z]), oS 15 (.al 31 [(I 0), (I 0)]), oN (.st 5 T0 T2), oN (.st 2 S15 T1)]
@[go_sem] def c8r35 : List GOp := [fT 0 S15, lT T0, fT 0 S7, lT T0, oT (.v (.bin .eql T2 T0)), mT T0, (.op (some (T0, (true, true))) .t (.v (.fa 1 S15))), (.op (some (T1, (true, false))) .t (.ld none T0)), (.op (some (T2, (true, false))) .t (.v (.mv S13))), (.op (some (T3, (true, false))) .t (.v (.mv S8))), (.op (some (T4, (true, false))) .t (.v (.ix 4 T1 T0))), (.op (some (T5, (true, false))) .t (.v (.fa 3 T0))), (.op (some (T6, (true, false))) .t (.ld none T0)), (.op (some (T7, (true, false))) .t (.v (.bin .eql T5 T0))), oT (.v (.pick T8 T0 (.c (.bool false)))), mS 2 T0]
def c8s36 : SCode := (.seq (.ops c8r34) (.seq (.dq c8r35) .ret))
@[go_sem] theorem c8s36eq : U c8s36 (.seq (.ops c8r34) (.seq (.dq c8r35) .ret)) := fun _ _ _ _ _ => rfl
def c8s37 : SCode := (.seq (.seq (.ops c8r31) (.cond S22 c8s33 .skip)) c8s36)
@[go_sem] theorem c8s37eq : U c8s37 (.seq (.seq (.ops c8r31) (.cond S22 c8s33 .skip)) c8s36) := fun _ _ _ _ _ => rfl
def c8s38 : SCode := (.seq (.ops c8r30) c8s37)
@[go_sem] theorem c8s38eq : U c8s38 (.seq (.ops c8r30) c8s37) := fun _ _ _ _ _ => rfl
def c8s39 : SCode := (.seq (.seq (.ops c8r27) (.cond S21 c8s29 .skip)) c8s38)
@[go_sem] theorem c8s39eq : U c8s39 (.seq (.seq (.ops c8r27) (.cond S21 c8s29 .skip)) c8s38) := fun _ _ _ _ _ => rfl
def c8s40 : SCode := (.seq (.ops c8r26) c8s39)
@[go_sem] theorem c8s40eq : U c8s40 (.seq (.ops c8r26) c8s39) := fun _ _ _ _ _ => rfl
def c8s41 : SCode := (.seq (.ops c8r25) c8s40)
@[go_sem] theorem c8s41eq : U c8s41 (.seq (.ops c8r25) c8s40) := fun _ _ _ _ _ => rfl
def c8s42 : SCode := (.seq (.seq (.ops c8r22) (.cond S20 c8s24 .skip)) c8s41)
@[go_sem] theorem c8s42eq : U c8s42 (.seq (.seq (.ops c8r22) (.cond S20 c8s24 .skip)) c8s41) := fun _ _ _ _ _ => rfl
def c8s43 : SCode := (.seq (.seq (.ops c8r11) c8s21) c8s42)
@[go_sem] theorem c8s43eq : U c8s43 (.seq (.seq (.ops c8r11) c8s21) c8s42) := fun _ _ _ _ _ => rfl
def c8s44 : SCode := (.seq (.ops c8r10) c8s43)
@[go_sem] theorem c8s44eq : U c8s44 (.seq (.ops c8r10) c8s43) := fun _ _ _ _ _ => rfl
def c8s45 : SCode := (.seq (.seq (.ops c8r7) c8s9) c8s44)
@[go_sem] theorem c8s45eq : U c8s45 (.seq (.seq (.ops c8r7) c8s9) c8s44) := fun _ _ _ _ _ => rfl
def c8s46 : SCode := (.seq (.ops c8r6) c8s45)
@[go_sem] theorem c8s46eq : U c8s46 (.seq (.ops c8r6) c8s45) := fun _ _ _ _ _ => rfl
def c8s47 : SCode := (.seq (.ops c8r5) c8s46)
@[go_sem] theorem c8s47eq : U c8s47 (.seq (.ops c8r5) c8s46) := fun _ _ _ _ _ => rfl
def c8s48 : SCode := (.seq (.ops c8r4) c8s47)
@[go_sem] theorem c8s48eq : U c8s48 (.seq (.ops c8r4) c8s47) := fun _ _ _ _ _ => rfl
def c8s49 : SCode := (.seq (.seq (.ops c8r1) c8s3) c8s48)
@[go_sem] theorem c8s49eq : U c8s49 (.seq (.seq (.ops c8r1) c8s3) c8s48) := fun _ _ _ _ _ => rfl
def c8 : Gx.Fn := ⟨134, c8k, (.seq (.ops c8r0) c8s49), [(.tmp S2)]⟩
theorem c8ok : stripFn Tryd.prog c8k Tryd.f8 = some c8 := by kernel_rfl

/- plexuslaw16.ParserBlanks -/
@[go_sem] def c9k : List Nat := [0, 2, 3, 4, 5, 6, 7, 8, 9, 10, 11, 12, 13, 14, 15, 16, 18, 26, 46]
@[go_sem] def c9r0 : List GOp := [mS 1 (.c (.bool false))]
@[go_sem] def c9r1 : List GOp := [oT (.call 10 []), oS 16 (.v (.un .not T0))]
@[go_sem] def c9r2 : List GOp := [mS 1 (.c (.bool false))]
def c9s3 : SCode := (.cond S16 (.seq (.ops c9r2) .ret) .skip)
@[go_sem] theorem c9s3eq : U c9s3 (.cond S16 (.seq (.ops c9r2) .ret) .skip) := fun _ _ _ _ _ => rfl
@[go_sem] def c9r4 : List GOp := [mT S0, oT (.call 17 [T0]), mT T0, oT (.v (.ext T0 0)), oT (.v (.ext T1 1)), oS 3 (.al 31 [(I 0), (I 0)]), mS 2 T1, oN (.st 2 S3 T0)]
@[go_sem] def c9r5 : List GOp := [fT 0 S3, lT T0, oS 17 (.v (.bin .neq T0 (C 0)))]
@[go_sem] def c9r6 : List GOp := [mT S0, oT (.call 21 [T0]), mT T0, oT (.v (.ext T0 0)), oT (.v (.ext T1 1)), oS 4 (.al 24 [(I 0), (.string ⟨⟨[]⟩⟩), (I 0), (I 0), Z]), oS 5 (.al 31 [(I 0), (I 0)]), oN (.st 5 S4 T1), oN (.st 2 S5 T0)]
@[go_sem] def c9r7 : List GOp := [oT (.ld (some 2) S5), oT (.ld (some 2) S3), oT (.v (.steq false [(0, .i), (1, .i)] T1 T0)), mT T0, (.op (some (T0, (true, true))) .t (.ld (some 5) S4)), (.op (some (T1, (true, false))) .t (.v (.bld [(I 0), (.string ⟨⟨[]⟩⟩), (I 0), (I 0), Z] []))), (.op (some (T2, (true, false))) .t (.call 12 [T1, T0])), oT (.v (.pick T3 T0 (.c (.bool false)))), mS 1 T0]
def c9s8 : SCode := (.seq (.ops c9r6) (.seq (.ops c9r7) .ret))
@[go_sem] theorem c9s8eq : U c9s8 (.seq (.ops c9r6) (.seq (.ops c9r7) .ret)) := fun _ _ _ _ _ => rfl
@[go_sem] def c9r9 : List GOp := [mT S2, oT (.call 22 [T0]), mT T0, oT (.v (.ext T0 0)), oT (.v (.ext T1 1)), mS 6 T1, mS 7 T0]
@[go_sem] def c9r10 : List GOp := [mT S7, oS 18 (.v (.bin .neq T0 (C 0)))]
@[go_sem] def c9r11 : List GOp := [mS 1 (.c (.bool true))]
def c9s12 : SCode := (.seq (.ops c9r11) .ret)
@[go_sem] theorem c9s12eq : U c9s12 (.seq (.ops c9r11) .ret) := fun _ _ _ _ _ => rfl
@[go_sem] def c9r13 : List GOp := [mT S0, oT (.call 21 [T0]), mT T0, oT (.v (.ext T0 0)), oT (.v (.ext T1 1)), oS 8 (.al 24 [(I 0), (.string ⟨⟨[]⟩⟩), (I 0), (I 0), Z]), oS 9 (.al 31 [(I 0), (I 0)]), oN (.st 5 S8 T1), oN (.st 2 S9 T0)]
@[go_sem] def c9r14 : List GOp := [mT S6, oT (.call 21 [T0]), mT T0, oT (.v (.ext T0 0)), oT (.v (.ext T1 1)), oS 10 (.al 24 [(I 0), (.string ⟨⟨[]⟩⟩), (I 0), (I 0), Z]), oS 11 (.al 31 [(I 0), (I 0)]), oN (.st 5 S10 T1), oN (.st 2 S11 T0)]
@[go_sem] def c9r15 : List GOp := [mT S0, oT (.call 16 [T0]), mT T0, oT (.v (.ext T0 0)), oT (.v (.ext T1 1)), oS 12 (.al 24 [(I 0), (.string ⟨⟨[]⟩⟩), (I 0), (I 0), Z]), oS 13 (.al 31 [(I 0), (I 0)]), oN (.st 5 S12 T1), oN (.st 2 S13 T0)]
@[go_sem] def c9r16 : List GOp := [mT S6, oT (.call 16 [T0]), mT T0, oT (.v (.ext T0 0)), oT (.v (.ext T1 1)), oS 14 (.al 24 [(I 0), (.string ⟨⟨[]⟩⟩), (I 0), (I 0), Z]), oS 15 (.al 31 [(I 0), (I 0)]), oN (.st 5 S14 T1), oN (.st 2 S15 T0)]
@[go_sem] def c9r17 : List GOp := [fT 0 S9, lT T0, fT 0 S11, lT T0, oT (.v (.bin .eql T2 T0)), mT T0, (.op (some (T0, (true, true))) .t (.ld (some 5) S8)), (.op (some (T1, (true, false))) .t (.ld (some 5) S10)), (.op (some (T2, (true, false))) .t (.call 12 [T1, T0])), oT (.v (.pick T3 T0 (.c (.bool false)))), mT T0, (.sel T0 true [(.op (.v (.fa 0 S13))), (.op (.ld none T0)), (.op (.v (.fa 0 S15))), (.op (.ld none T0)), (.op (.v (.bin .eql T2 T0)))] .t T0 (.c (.bool false))), mT T0, (.op (some (T0, (true, true))) .t (.ld (some 5) S12)), (.op (some (T1, (true, false))) .t (.ld (some 5) S14)), (.op (some (T2, (true, false))) .t (.call 12 [T1, T0])), oT (.v (.pick T3 T0 (.c (.bool false)))), mS 1 T0]
def c9s18 : SCode := (.seq (.ops c9r17) .ret)
@[go_sem] theorem c9s18eq : U c9s18 (.seq (.ops c9r17) .ret) := fun _ _ _ _ _ => rfl
def c9s19 : SCode := (.seq (.ops c9r16) c9s18)
@[go_sem] theorem c9s19eq : U c9s19 (.seq (.ops c9r16) c9s18) := fun _ _ _ _ _ => rfl
def c9s20 : SCode := (.seq (.ops c9r15) c9s19)
@[go_sem] theorem c9s20eq : U c9s20 (.seq (.ops c9r15) c9s19) := fun _ _ _ _ _ => rfl
def c9s21 : SCode := (.seq (.ops c9r14) c9s20)
@[go_sem] theorem c9s21eq : U c9s21 (.seq (.ops c9r14) c9s20) := fun _ _ _ _ _ => rfl
def c9s22 : SCode := (.seq (.ops c9r13) c9s21)
@[go_sem] theorem c9s22eq : U c9s22 (.seq (.ops c9r13) c9s21) := fun _ _ _ _ _ => rfl
def c9s23 : SCode := (.seq (.seq (.ops c9r10) (.cond S18 c9s12 .skip)) c9s22)
@[go_sem] theorem c9s23eq : U c9s23 (.seq (.seq (.ops c9r10) (.cond S18 c9s12 .skip)) c9s22) := fun _ _ _ _ _ => rfl
def c9s24 : SCode := (.seq (.ops c9r9) c9s23)
@[go_sem] theorem c9s24eq : U c9s24 (.seq (.ops c9r9) c9s23) := fun _ _ _ _ _ => rfl
def c9s25 : SCode := (.seq (.seq (.ops c9r5) (.cond S17 c9s8 .skip)) c9s24)
@[go_sem] theorem c9s25eq : U c9s25 (.seq (.seq (.ops c9r5) (.cond S17 c9s8 .skip)) c9s24) := fun _ _ _ _ _ => rfl
def c9s26 : SCode := (.seq (.ops c9r4) c9s25)
@[go_sem] theorem c9s26eq : U c9s26 (.seq (.ops c9r4) c9s25) := fun _ _ _ _ _ => rfl
def c9s27 : SCode := (.seq (.seq (.ops c9r1) c9s3) c9s26)
@[go_sem] theorem c9s27eq : U c9s27 (.seq (.seq (.ops c9r1) c9s3) c9s26) := fun _ _ _ _ _ => rfl
def c9 : Gx.Fn := ⟨89, c9k, (.seq (.ops c9r0) c9s27), [(.tmp S1)]⟩
theorem c9ok : stripFn Tryd.prog c9k Tryd.f9 = some c9 := by kernel_rfl

/- plexuslaw16.awake -/
@[go_sem] def c10k : List Nat := [0, 1, 2]
@[go_sem] def c10r0 : List GOp := [mS 0 (.c (.bool false))]
@[go_sem] def c10r1 : List GOp := [oT (.call 16 [(.c (.string ⟨⟨[97, 32, 45, 32, 49, 32, 43, 32, 115]⟩⟩))]), mT T0, oT (.v (.ext T0 0)), oT (.v (.ext T1 1)), oS 1 (.al 24 [(I 0), (.string ⟨⟨[]⟩⟩), (I 0), (I 0), Z]), oS 2 (.al 31 [(I 0), (I 0)]), oN (.st 5 S1 T1), oN (.st 2 S2 T0)]
@[go_sem] def c10r2 : List GOp := [oT (.ld (some 2) S2), oT (.v (.bld [(I 0), (I 0)] [])), oT (.v (.steq false [(0, .i), (1, .i)] T1 T0)), mT T0, (.sel T0 true [(.op (.v (.fa 0 S1))), (.op (.ld none T0)), (.op (.v (.bin .eql T0 (C 40))))] .t T0 (.c (.bool false))), mT T0, (.sel T0 true [(.op (.v (.fa 3 S1))), (.op (.ld none T0)), (.op (.v (.bin .eql T0 (C 6))))] .t T0 (.c (.bool false))), mT T0, (.sel T0 true [(.op (.v (.fa 4 S1))), (.op (.ld none T0)), (.op (.v (.len T0))), (.op (.v (.bin .eql T0 (C 2))))] .t T0 (.c (.bool false))), mT T0, (.op (some (T0, (true, true))) .t (.v (.fa 4 S1))), (.op (some (T1, (true, false))) .t (.ld none T0)), (.op (some (T2, (true, false))) .t (.v (.ix 5 T0 (C 0)))), (.op (some (T3, (true, false))) .t (.v (.fa 0 T0))), (.op (some (T4, (true, false))) .t (.ld none T0)), (.op (some (T5, (true, false))) .t (.v (.bin .eql T0 (C 41)))), oT (.v (.pick T6 T0 (.c (.bool false)))), mT T0, (.op (some (T0, (true, true))) .t (.ld (some 5) S1)), (.op (some (T1, (true, false))) .t (.call 14 [T0])), (.op (some (T2, (true, false))) .t (.v (.bin .eql T0 (C 5)))), oT (.v (.pick T3 T0 (.c (.bool false)))), mS 0 T0]
def c10s3 : SCode := (.seq (.ops c10r2) .ret)
@[go_sem] theorem c10s3eq : U c10s3 (.seq (.ops c10r2) .ret) := fun _ _ _ _ _ => rfl
def c10s4 : SCode := (.seq (.ops c10r1) c10s3)
@[go_sem] theorem c10s4eq : U c10s4 (.seq (.ops c10r1) c10s3) := fun _ _ _ _ _ => rfl
def c10 : Gx.Fn := ⟨39, c10k, (.seq (.ops c10r0) c10s4), [(.tmp S0)]⟩
theorem c10ok : stripFn Tryd.prog c10k Tryd.f10 = some c10 := by kernel_rfl

/- plexusref16.Small -/
@[go_sem] def c11k : List Nat := [0, 1, 2, 4]
@[go_sem] def c11r0 : List GOp := [oS 2 (.bx 24 S0), mS 3 (.c (.bool false))]
@[go_sem] def c11r1 : List GOp := [oT (.ld (some 5) S2), mT S1, oT (.call 23 [T1, T0]), oT (.v (.bin .geq T0 (C 0))), mS 3 T0]
def c11s2 : SCode := (.seq (.ops c11r1) .ret)
@[go_sem] theorem c11s2eq : U c11s2 (.seq (.ops c11r1) .ret) := fun _ _ _ _ _ => rfl
def c11 : Gx.Fn := ⟨9, c11k, (.seq (.ops c11r0) c11s2), [(.tmp S3)]⟩
theorem c11ok : stripFn Tryd.prog c11k Tryd.f11 = some c11 := by kernel_rfl

/- plexusref16.Same -/
@[go_sem] def c13k : List Nat := [0, 1, 2, 3, 4, 5, 33, 38, 52]
@[go_sem] def c13r0 : List GOp := [oS 2 (.bx 24 S0), oS 3 (.bx 24 S1), mS 4 (.c (.bool false))]
@[go_sem] def c13r1 : List GOp := [fT 0 S2, lT T0, fT 0 S3, lT T0, oT (.v (.bin .neq T2 T0)), mT T0, (.sel T0 false [(.op (.v (.fa 1 S2))), (.op (.ld none T0)), (.op (.v (.fa 1 S3))), (.op (.ld none T0)), (.op (.v (.bin .neq T2 T0)))] .t (.c (.bool true)) T0), mT T0, (.sel T0 false [(.op (.v (.fa 2 S2))), (.op (.ld none T0)), (.op (.v (.fa 2 S3))), (.op (.ld none T0)), (.op (.v (.bin .neq T2 T0)))] .t (.c (.bool true)) T0), mT T0, (.sel T0 false [(.op (.v (.fa 4 S2))), (.op (.ld none T0)), (.op (.v (.len T0))), (.op (.v (.fa 4 S3))), (.op (.ld none T0)), (.op (.v (.len T0))), (.op (.v (.bin .neq T3 T0)))] (.s 6) (.c (.bool true)) T0)]
@[go_sem] def c13r2 : List GOp := [mS 4 (.c (.bool false))]
def c13s3 : SCode := (.seq (.ops c13r2) .ret)
@[go_sem] theorem c13s3eq : U c13s3 (.seq (.ops c13r2) .ret) := fun _ _ _ _ _ => rfl
@[go_sem] def c13r4 : List GOp := [mS 5 (C 0)]
@[go_sem] def c13r5 : List GOp := [mT S5, fT 4 S2, lT T0, nT T0, oS 7 (.v (.bin .lss T3 T0))]
def c13s6 : SCode := (.cond S7 .skip (.exit 0))
@[go_sem] theorem c13s6eq : U c13s6 (.cond S7 .skip (.exit 0)) := fun _ _ _ _ _ => rfl
@[go_sem] def c13d7 : DT := (rf 4 S2 [10] (rl T0 [10] (rm S5 [10] (.rd none .t (.v (.ix 5 T1 T0)) [10] (.rd none .t (.ld (some 5) T0) [10] (rf 4 S3 [10] (rl T0 [10] (rm S5 [10] (.rd none .t (.v (.ix 5 T1 T0)) [10] (.rd none .t (.ld (some 5) T0) [10] (.ef 10 none .t (.call 13 [T5, T0]) (.rd none (.s 8) (.v (.un .not T0)) [] .done))))))))))))
@[go_sem] def c13r8 : List GOp := [mS 4 (.c (.bool false))]
def c13s9 : SCode := (.seq (.ops c13r8) .ret)
@[go_sem] theorem c13s9eq : U c13s9 (.seq (.ops c13r8) .ret) := fun _ _ _ _ _ => rfl
@[go_sem] def c13r10 : List GOp := [mT S5, oT (.v (.bin .add T0 (C 1))), mS 5 T0]
def c13s11 : SCode := (.ops c13r10)
@[go_sem] theorem c13s11eq : U c13s11 (.ops c13r10) := fun _ _ _ _ _ => rfl
def c13s12 : SCode := (.seq (.block 1 (.seq (.de c13d7) (.cond S8 c13s9 .skip))) c13s11)
@[go_sem] theorem c13s12eq : U c13s12 (.seq (.block 1 (.seq (.de c13d7) (.cond S8 c13s9 .skip))) c13s11) := fun _ _ _ _ _ => rfl
def c13s13 : SCode := (.seq (.seq (.ops c13r5) c13s6) c13s12)
@[go_sem] theorem c13s13eq : U c13s13 (.seq (.seq (.ops c13r5) c13s6) c13s12) := fun _ _ _ _ _ => rfl
def c13s14 : SCode := (.block 0 (.loop c13k c13s13))
@[go_sem] theorem c13s14eq : U c13s14 (.block 0 (.loop c13k c13s13)) := fun _ _ _ _ _ => rfl
@[go_sem] def c13r15 : List GOp := [mS 4 (.c (.bool true))]
def c13s16 : SCode := (.seq (.ops c13r15) .ret)
@[go_sem] theorem c13s16eq : U c13s16 (.seq (.ops c13r15) .ret) := fun _ _ _ _ _ => rfl
def c13s17 : SCode := (.seq (.seq (.ops c13r4) c13s14) c13s16)
@[go_sem] theorem c13s17eq : U c13s17 (.seq (.seq (.ops c13r4) c13s14) c13s16) := fun _ _ _ _ _ => rfl
def c13s18 : SCode := (.seq (.seq (.ops c13r1) (.cond S6 c13s3 .skip)) c13s17)
@[go_sem] theorem c13s18eq : U c13s18 (.seq (.seq (.ops c13r1) (.cond S6 c13s3 .skip)) c13s17) := fun _ _ _ _ _ => rfl
def c13 : Gx.Fn := ⟨53, c13k, (.seq (.ops c13r0) c13s18), [(.tmp S4)]⟩
theorem c13ok : stripFn Tryd.prog c13k Tryd.f13 = some c13 := by kernel_rfl

/- plexusref16.Size -/
@[go_sem] def c15k : List Nat := [0, 1, 2, 3, 4, 9]
@[go_sem] def c15r0 : List GOp := [oS 1 (.bx 24 S0), mS 2 (C 0)]
@[go_sem] def c15r1 : List GOp := [mS 3 (C 1)]
@[go_sem] def c15r2 : List GOp := [mS 4 (C 0)]
@[go_sem] def c15r3 : List GOp := [mT S4, fT 4 S1, lT T0, nT T0, oS 5 (.v (.bin .lss T3 T0))]
def c15s4 : SCode := (.cond S5 .skip (.exit 0))
@[go_sem] theorem c15s4eq : U c15s4 (.cond S5 .skip (.exit 0)) := fun _ _ _ _ _ => rfl
@[go_sem] def c15r5 : List GOp := [mT S3, fT 4 S1, lT T0, mT S4, oT (.v (.ix 5 T1 T0)), oT (.ld (some 5) T0), oT (.call 15 [T0]), oT (.v (.bin .add T6 T0)), mS 3 T0]
@[go_sem] def c15r6 : List GOp := [mT S4, oT (.v (.bin .add T0 (C 1))), mS 4 T0]
def c15s7 : SCode := (.ops c15r6)
@[go_sem] theorem c15s7eq : U c15s7 (.ops c15r6) := fun _ _ _ _ _ => rfl
def c15s8 : SCode := (.seq (.block 1 (.ops c15r5)) c15s7)
@[go_sem] theorem c15s8eq : U c15s8 (.seq (.block 1 (.ops c15r5)) c15s7) := fun _ _ _ _ _ => rfl
def c15s9 : SCode := (.seq (.seq (.ops c15r3) c15s4) c15s8)
@[go_sem] theorem c15s9eq : U c15s9 (.seq (.seq (.ops c15r3) c15s4) c15s8) := fun _ _ _ _ _ => rfl
def c15s10 : SCode := (.block 0 (.loop c15k c15s9))
@[go_sem] theorem c15s10eq : U c15s10 (.block 0 (.loop c15k c15s9)) := fun _ _ _ _ _ => rfl
@[go_sem] def c15r11 : List GOp := [mT S3, mS 2 T0]
def c15s12 : SCode := (.seq (.ops c15r11) .ret)
@[go_sem] theorem c15s12eq : U c15s12 (.seq (.ops c15r11) .ret) := fun _ _ _ _ _ => rfl
def c15s13 : SCode := (.seq (.seq (.ops c15r2) c15s10) c15s12)
@[go_sem] theorem c15s13eq : U c15s13 (.seq (.seq (.ops c15r2) c15s10) c15s12) := fun _ _ _ _ _ => rfl
def c15s14 : SCode := (.seq (.ops c15r1) c15s13)
@[go_sem] theorem c15s14eq : U c15s14 (.seq (.ops c15r1) c15s13) := fun _ _ _ _ _ => rfl
def c15 : Gx.Fn := ⟨21, c15k, (.seq (.ops c15r0) c15s14), [(.tmp S2)]⟩
theorem c15ok : stripFn Tryd.prog c15k Tryd.f15 = some c15 := by kernel_rfl

/- plexuslaw16.placed -/
@[go_sem] def c18k : List Nat := [0, 1, 2, 4, 5, 23, 28, 38]
@[go_sem] def c18r0 : List GOp := [oS 2 (.bx 24 S0), mS 3 (.c (.bool false))]
@[go_sem] def c18r1 : List GOp := [fT 3 S2, lT T0, oT (.v (.bin .lss T0 (C 0))), mT T0, (.sel T0 false [(.op (.v (.fa 3 S2))), (.op (.ld none T0)), (.op (.v (.mv S1))), (.op (.v (.len T0))), (.op (.v (.bin .geq T2 T0)))] .t (.c (.bool true)) T0), mT T0, (.op (some (T0, (false, true))) .t (.v (.mv S1))), (.op (some (T1, (false, false))) .t (.v (.fa 3 S2))), (.op (some (T2, (false, false))) .t (.ld none T0)), (.op (some (T3, (false, false))) .t (.v (.ix 1 T2 T0))), (.op (some (T4, (false, false))) .t (.ld none T0)), (.op (some (T5, (false, false))) .t (.v (.un .not T0))), oS 5 (.v (.pick T6 (.c (.bool true)) T0))]
@[go_sem] def c18r2 : List GOp := [mS 3 (.c (.bool false))]
def c18s3 : SCode := (.seq (.ops c18r2) .ret)
@[go_sem] theorem c18s3eq : U c18s3 (.seq (.ops c18r2) .ret) := fun _ _ _ _ _ => rfl
@[go_sem] def c18r4 : List GOp := [mS 4 (C 0)]
@[go_sem] def c18r5 : List GOp := [mT S4, fT 4 S2, lT T0, nT T0, oS 6 (.v (.bin .lss T3 T0))]
def c18s6 : SCode := (.cond S6 .skip (.exit 0))
@[go_sem] theorem c18s6eq : U c18s6 (.cond S6 .skip (.exit 0)) := fun _ _ _ _ _ => rfl
@[go_sem] def c18r7 : List GOp := [fT 4 S2, lT T0, mT S4, oT (.v (.ix 5 T1 T0)), oT (.ld (some 5) T0), mT S1, oT (.call 18 [T1, T0]), oS 7 (.v (.un .not T0))]
@[go_sem] def c18r8 : List GOp := [mS 3 (.c (.bool false))]
def c18s9 : SCode := (.seq (.ops c18r8) .ret)
@[go_sem] theorem c18s9eq : U c18s9 (.seq (.ops c18r8) .ret) := fun _ _ _ _ _ => rfl
@[go_sem] def c18r10 : List GOp := [mT S4, oT (.v (.bin .add T0 (C 1))), mS 4 T0]
def c18s11 : SCode := (.ops c18r10)
@[go_sem] theorem c18s11eq : U c18s11 (.ops c18r10) := fun _ _ _ _ _ => rfl
def c18s12 : SCode := (.seq (.block 1 (.seq (.ops c18r7) (.cond S7 c18s9 .skip))) c18s11)
@[go_sem] theorem c18s12eq : U c18s12 (.seq (.block 1 (.seq (.ops c18r7) (.cond S7 c18s9 .skip))) c18s11) := fun _ _ _ _ _ => rfl
def c18s13 : SCode := (.seq (.seq (.ops c18r5) c18s6) c18s12)
@[go_sem] theorem c18s13eq : U c18s13 (.seq (.seq (.ops c18r5) c18s6) c18s12) := fun _ _ _ _ _ => rfl
def c18s14 : SCode := (.block 0 (.loop c18k c18s13))
@[go_sem] theorem c18s14eq : U c18s14 (.block 0 (.loop c18k c18s13)) := fun _ _ _ _ _ => rfl
@[go_sem] def c18r15 : List GOp := [mS 3 (.c (.bool true))]
def c18s16 : SCode := (.seq (.ops c18r15) .ret)
@[go_sem] theorem c18s16eq : U c18s16 (.seq (.ops c18r15) .ret) := fun _ _ _ _ _ => rfl
def c18s17 : SCode := (.seq (.seq (.ops c18r4) c18s14) c18s16)
@[go_sem] theorem c18s17eq : U c18s17 (.seq (.seq (.ops c18r4) c18s14) c18s16) := fun _ _ _ _ _ => rfl
def c18s18 : SCode := (.seq (.seq (.ops c18r1) (.cond S5 c18s3 .skip)) c18s17)
@[go_sem] theorem c18s18eq : U c18s18 (.seq (.seq (.ops c18r1) (.cond S5 c18s3 .skip)) c18s17) := fun _ _ _ _ _ => rfl
def c18 : Gx.Fn := ⟨39, c18k, (.seq (.ops c18r0) c18s18), [(.tmp S3)]⟩
theorem c18ok : stripFn Tryd.prog c18k Tryd.f18 = some c18 := by kernel_rfl

/- plexuslaw16.repeat -/
@[go_sem] def c19k : List Nat := [0, 1, 4, 5, 6, 9]
@[go_sem] def c19r0 : List GOp := [mS 2 (.c (.string ⟨⟨[]⟩⟩))]
@[go_sem] def c19r1 : List GOp := [mS 3 (.c (.string ⟨⟨[]⟩⟩))]
@[go_sem] def c19r2 : List GOp := [mS 4 (C 0)]
@[go_sem] def c19r3 : List GOp := [mT S4, mT S1, oS 5 (.v (.bin .lss T1 T0))]
def c19s4 : SCode := (.cond S5 .skip (.exit 0))
@[go_sem] theorem c19s4eq : U c19s4 (.cond S5 .skip (.exit 0)) := fun _ _ _ _ _ => rfl
@[go_sem] def c19r5 : List GOp := [mT S3, mT S0, oT (.v (.bin .add T1 T0)), mS 3 T0]
@[go_sem] def c19r6 : List GOp := [mT S4, oT (.v (.bin .add T0 (C 1))), mS 4 T0]
def c19s7 : SCode := (.ops c19r6)
@[go_sem] theorem c19s7eq : U c19s7 (.ops c19r6) := fun _ _ _ _ _ => rfl
def c19s8 : SCode := (.seq (.block 1 (.ops c19r5)) c19s7)
@[go_sem] theorem c19s8eq : U c19s8 (.seq (.block 1 (.ops c19r5)) c19s7) := fun _ _ _ _ _ => rfl
def c19s9 : SCode := (.seq (.seq (.ops c19r3) c19s4) c19s8)
@[go_sem] theorem c19s9eq : U c19s9 (.seq (.seq (.ops c19r3) c19s4) c19s8) := fun _ _ _ _ _ => rfl
def c19s10 : SCode := (.block 0 (.loop c19k c19s9))
@[go_sem] theorem c19s10eq : U c19s10 (.block 0 (.loop c19k c19s9)) := fun _ _ _ _ _ => rfl
@[go_sem] def c19r11 : List GOp := [mT S3, mS 2 T0]
def c19s12 : SCode := (.seq (.ops c19r11) .ret)
@[go_sem] theorem c19s12eq : U c19s12 (.seq (.ops c19r11) .ret) := fun _ _ _ _ _ => rfl
def c19s13 : SCode := (.seq (.seq (.ops c19r2) c19s10) c19s12)
@[go_sem] theorem c19s13eq : U c19s13 (.seq (.seq (.ops c19r2) c19s10) c19s12) := fun _ _ _ _ _ => rfl
def c19s14 : SCode := (.seq (.ops c19r1) c19s13)
@[go_sem] theorem c19s14eq : U c19s14 (.seq (.ops c19r1) c19s13) := fun _ _ _ _ _ => rfl
def c19 : Gx.Fn := ⟨16, c19k, (.seq (.ops c19r0) c19s14), [(.tmp S2)]⟩
theorem c19ok : stripFn Tryd.prog c19k Tryd.f19 = some c19 := by kernel_rfl

/- plexuslaw16.binary -/
@[go_sem] def c20k : List Nat := [0, 2, 3, 4, 7, 8, 10, 12, 14, 16, 18, 20, 22, 24]
@[go_sem] def c20r0 : List GOp := [mS 1 (.c (.string ⟨⟨[]⟩⟩)), mS 2 (C 0), mS 3 (C 0)]
@[go_sem] def c20r1 : List GOp := [mT S0, oT (.v (.cvi .u64 T0)), oS 4 (.v (.bin .rem T0 (.c (.int .u64 10))))]
@[go_sem] def c20r2 : List GOp := [oT (.v (.bin .eql S4 (.c (.int .u64 0)))), mS 5 T0]
@[go_sem] def c20r3 : List GOp := [mS 1 (.c (.string ⟨⟨[111, 114]⟩⟩)), mS 2 (C 31), mS 3 (C 0)]
def c20s4 : SCode := (.seq (.ops c20r3) .ret)
@[go_sem] theorem c20s4eq : U c20s4 (.seq (.ops c20r3) .ret) := fun _ _ _ _ _ => rfl
@[go_sem] def c20r5 : List GOp := [oT (.v (.bin .eql S4 (.c (.int .u64 1)))), mS 6 T0]
@[go_sem] def c20r6 : List GOp := [mS 1 (.c (.string ⟨⟨[97, 110, 100]⟩⟩)), mS 2 (C 32), mS 3 (C 1)]
def c20s7 : SCode := (.seq (.ops c20r6) .ret)
@[go_sem] theorem c20s7eq : U c20s7 (.seq (.ops c20r6) .ret) := fun _ _ _ _ _ => rfl
@[go_sem] def c20r8 : List GOp := [oT (.v (.bin .eql S4 (.c (.int .u64 2)))), mS 7 T0]
@[go_sem] def c20r9 : List GOp := [mS 1 (.c (.string ⟨⟨[60, 61]⟩⟩)), mS 2 (C 34), mS 3 (C 2)]
def c20s10 : SCode := (.seq (.ops c20r9) .ret)
@[go_sem] theorem c20s10eq : U c20s10 (.seq (.ops c20r9) .ret) := fun _ _ _ _ _ => rfl
@[go_sem] def c20r11 : List GOp := [oT (.v (.bin .eql S4 (.c (.int .u64 3)))), mS 8 T0]
@[go_sem] def c20r12 : List GOp := [mS 1 (.c (.string ⟨⟨[60]⟩⟩)), mS 2 (C 35), mS 3 (C 2)]
def c20s13 : SCode := (.seq (.ops c20r12) .ret)
@[go_sem] theorem c20s13eq : U c20s13 (.seq (.ops c20r12) .ret) := fun _ _ _ _ _ => rfl
@[go_sem] def c20r14 : List GOp := [oT (.v (.bin .eql S4 (.c (.int .u64 4)))), mS 9 T0]
@[go_sem] def c20r15 : List GOp := [mS 1 (.c (.string ⟨⟨[61, 61]⟩⟩)), mS 2 (C 36), mS 3 (C 2)]
def c20s16 : SCode := (.seq (.ops c20r15) .ret)
@[go_sem] theorem c20s16eq : U c20s16 (.seq (.ops c20r15) .ret) := fun _ _ _ _ _ => rfl
@[go_sem] def c20r17 : List GOp := [oT (.v (.bin .eql S4 (.c (.int .u64 5)))), mS 10 T0]
@[go_sem] def c20r18 : List GOp := [mS 1 (.c (.string ⟨⟨[105, 110]⟩⟩)), mS 2 (C 37), mS 3 (C 2)]
def c20s19 : SCode := (.seq (.ops c20r18) .ret)
@[go_sem] theorem c20s19eq : U c20s19 (.seq (.ops c20r18) .ret) := fun _ _ _ _ _ => rfl
@[go_sem] def c20r20 : List GOp := [oT (.v (.bin .eql S4 (.c (.int .u64 6)))), mS 11 T0]
@[go_sem] def c20r21 : List GOp := [mS 1 (.c (.string ⟨⟨[108, 101, 113]⟩⟩)), mS 2 (C 38), mS 3 (C 2)]
def c20s22 : SCode := (.seq (.ops c20r21) .ret)
@[go_sem] theorem c20s22eq : U c20s22 (.seq (.ops c20r21) .ret) := fun _ _ _ _ _ => rfl
@[go_sem] def c20r23 : List GOp := [oT (.v (.bin .eql S4 (.c (.int .u64 7)))), mS 12 T0]
@[go_sem] def c20r24 : List GOp := [mS 1 (.c (.string ⟨⟨[106, 111, 105, 110]⟩⟩)), mS 2 (C 39), mS 3 (C 3)]
def c20s25 : SCode := (.seq (.ops c20r24) .ret)
@[go_sem] theorem c20s25eq : U c20s25 (.seq (.ops c20r24) .ret) := fun _ _ _ _ _ => rfl
@[go_sem] def c20r26 : List GOp := [oT (.v (.bin .eql S4 (.c (.int .u64 8)))), mS 13 T0]
@[go_sem] def c20r27 : List GOp := [mS 1 (.c (.string ⟨⟨[43]⟩⟩)), mS 2 (C 40), mS 3 (C 4)]
def c20s28 : SCode := (.seq (.ops c20r27) .ret)
@[go_sem] theorem c20s28eq : U c20s28 (.seq (.ops c20r27) .ret) := fun _ _ _ _ _ => rfl
def c20s29 : SCode := (.cond S13 c20s28 .skip)
@[go_sem] theorem c20s29eq : U c20s29 (.cond S13 c20s28 .skip) := fun _ _ _ _ _ => rfl
def c20s30 : SCode := (.seq (.ops c20r26) c20s29)
@[go_sem] theorem c20s30eq : U c20s30 (.seq (.ops c20r26) c20s29) := fun _ _ _ _ _ => rfl
def c20s31 : SCode := (.cond S12 c20s25 c20s30)
@[go_sem] theorem c20s31eq : U c20s31 (.cond S12 c20s25 c20s30) := fun _ _ _ _ _ => rfl
def c20s32 : SCode := (.seq (.ops c20r23) c20s31)
@[go_sem] theorem c20s32eq : U c20s32 (.seq (.ops c20r23) c20s31) := fun _ _ _ _ _ => rfl
def c20s33 : SCode := (.cond S11 c20s22 c20s32)
@[go_sem] theorem c20s33eq : U c20s33 (.cond S11 c20s22 c20s32) := fun _ _ _ _ _ => rfl
def c20s34 : SCode := (.seq (.ops c20r20) c20s33)
@[go_sem] theorem c20s34eq : U c20s34 (.seq (.ops c20r20) c20s33) := fun _ _ _ _ _ => rfl
def c20s35 : SCode := (.cond S10 c20s19 c20s34)
@[go_sem] theorem c20s35eq : U c20s35 (.cond S10 c20s19 c20s34) := fun _ _ _ _ _ => rfl
def c20s36 : SCode := (.seq (.ops c20r17) c20s35)
@[go_sem] theorem c20s36eq : U c20s36 (.seq (.ops c20r17) c20s35) := fun _ _ _ _ _ => rfl
def c20s37 : SCode := (.cond S9 c20s16 c20s36)
@[go_sem] theorem c20s37eq : U c20s37 (.cond S9 c20s16 c20s36) := fun _ _ _ _ _ => rfl
def c20s38 : SCode := (.seq (.ops c20r14) c20s37)
@[go_sem] theorem c20s38eq : U c20s38 (.seq (.ops c20r14) c20s37) := fun _ _ _ _ _ => rfl
def c20s39 : SCode := (.cond S8 c20s13 c20s38)
@[go_sem] theorem c20s39eq : U c20s39 (.cond S8 c20s13 c20s38) := fun _ _ _ _ _ => rfl
def c20s40 : SCode := (.seq (.ops c20r11) c20s39)
@[go_sem] theorem c20s40eq : U c20s40 (.seq (.ops c20r11) c20s39) := fun _ _ _ _ _ => rfl
def c20s41 : SCode := (.cond S7 c20s10 c20s40)
@[go_sem] theorem c20s41eq : U c20s41 (.cond S7 c20s10 c20s40) := fun _ _ _ _ _ => rfl
def c20s42 : SCode := (.seq (.ops c20r8) c20s41)
@[go_sem] theorem c20s42eq : U c20s42 (.seq (.ops c20r8) c20s41) := fun _ _ _ _ _ => rfl
def c20s43 : SCode := (.seq (.ops c20r5) (.cond S6 c20s7 c20s42))
@[go_sem] theorem c20s43eq : U c20s43 (.seq (.ops c20r5) (.cond S6 c20s7 c20s42)) := fun _ _ _ _ _ => rfl
def c20s44 : SCode := (.block 0 (.seq (.ops c20r2) (.cond S5 c20s4 c20s43)))
@[go_sem] theorem c20s44eq : U c20s44 (.block 0 (.seq (.ops c20r2) (.cond S5 c20s4 c20s43))) := fun _ _ _ _ _ => rfl
@[go_sem] def c20r45 : List GOp := [mS 1 (.c (.string ⟨⟨[45]⟩⟩)), mS 2 (C 41), mS 3 (C 4)]
def c20s46 : SCode := (.seq (.ops c20r45) .ret)
@[go_sem] theorem c20s46eq : U c20s46 (.seq (.ops c20r45) .ret) := fun _ _ _ _ _ => rfl
def c20s47 : SCode := (.seq (.seq (.ops c20r1) c20s44) c20s46)
@[go_sem] theorem c20s47eq : U c20s47 (.seq (.seq (.ops c20r1) c20s44) c20s46) := fun _ _ _ _ _ => rfl
def c20 : Gx.Fn := ⟨26, c20k, (.seq (.ops c20r0) c20s47), [(.tmp S1), (.tmp S2), (.tmp S3)]⟩
theorem c20ok : stripFn Tryd.prog c20k Tryd.f20 = some c20 := by kernel_rfl

/- plexusref16.room -/
@[go_sem] def c23k : List Nat := [0, 1, 2, 4, 5, 16]
@[go_sem] def c23r0 : List GOp := [oS 2 (.bx 24 S0), mS 3 (C 0)]
@[go_sem] def c23r1 : List GOp := [mT S1, oT (.v (.bin .sub T0 (C 1))), mS 1 T0]
@[go_sem] def c23r2 : List GOp := [mS 4 (C 0)]
@[go_sem] def c23r3 : List GOp := [mT S4, fT 4 S2, lT T0, nT T0, oT (.v (.bin .lss T3 T0)), mT T0, (.sel T0 true [(.op (.v (.mv S1))), (.op (.v (.bin .geq T0 (C 0))))] (.s 5) T0 (.c (.bool false)))]
def c23s4 : SCode := (.cond S5 .skip (.exit 0))
@[go_sem] theorem c23s4eq : U c23s4 (.cond S5 .skip (.exit 0)) := fun _ _ _ _ _ => rfl
@[go_sem] def c23r5 : List GOp := [fT 4 S2, lT T0, mT S4, oT (.v (.ix 5 T1 T0)), oT (.ld (some 5) T0), mT S1, oT (.call 23 [T1, T0]), mS 1 T0]
@[go_sem] def c23r6 : List GOp := [mT S4, oT (.v (.bin .add T0 (C 1))), mS 4 T0]
def c23s7 : SCode := (.ops c23r6)
@[go_sem] theorem c23s7eq : U c23s7 (.ops c23r6) := fun _ _ _ _ _ => rfl
def c23s8 : SCode := (.seq (.block 1 (.ops c23r5)) c23s7)
@[go_sem] theorem c23s8eq : U c23s8 (.seq (.block 1 (.ops c23r5)) c23s7) := fun _ _ _ _ _ => rfl
def c23s9 : SCode := (.seq (.seq (.ops c23r3) c23s4) c23s8)
@[go_sem] theorem c23s9eq : U c23s9 (.seq (.seq (.ops c23r3) c23s4) c23s8) := fun _ _ _ _ _ => rfl
def c23s10 : SCode := (.block 0 (.loop c23k c23s9))
@[go_sem] theorem c23s10eq : U c23s10 (.block 0 (.loop c23k c23s9)) := fun _ _ _ _ _ => rfl
@[go_sem] def c23r11 : List GOp := [mT S1, mS 3 T0]
def c23s12 : SCode := (.seq (.ops c23r11) .ret)
@[go_sem] theorem c23s12eq : U c23s12 (.seq (.ops c23r11) .ret) := fun _ _ _ _ _ => rfl
def c23s13 : SCode := (.seq (.seq (.ops c23r2) c23s10) c23s12)
@[go_sem] theorem c23s13eq : U c23s13 (.seq (.seq (.ops c23r2) c23s10) c23s12) := fun _ _ _ _ _ => rfl
def c23s14 : SCode := (.seq (.ops c23r1) c23s13)
@[go_sem] theorem c23s14eq : U c23s14 (.seq (.ops c23r1) c23s13) := fun _ _ _ _ _ => rfl
def c23 : Gx.Fn := ⟨27, c23k, (.seq (.ops c23r0) c23s14), [(.tmp S3)]⟩
theorem c23ok : stripFn Tryd.prog c23k Tryd.f23 = some c23 := by kernel_rfl

/- parser.Same -/
@[go_sem] def c12k : List Nat := [0, 1, 2, 3, 4, 5, 33, 36, 37, 38, 51]
@[go_sem] def c12r0 : List GOp := [oS 2 (.bx 24 S0), oS 3 (.bx 24 S1), mS 4 (.c (.bool false))]
@[go_sem] def c12r1 : List GOp := [fT 0 S2, lT T0, fT 0 S3, lT T0, oT (.v (.bin .neq T2 T0)), mT T0, (.sel T0 false [(.op (.v (.fa 1 S2))), (.op (.ld none T0)), (.op (.v (.fa 1 S3))), (.op (.ld none T0)), (.op (.v (.bin .neq T2 T0)))] .t (.c (.bool true)) T0), mT T0, (.sel T0 false [(.op (.v (.fa 2 S2))), (.op (.ld none T0)), (.op (.v (.fa 2 S3))), (.op (.ld none T0)), (.op (.v (.bin .neq T2 T0)))] .t (.c (.bool true)) T0), mT T0, (.sel T0 false [(.op (.v (.fa 4 S2))), (.op (.ld none T0)), (.op (.v (.len T0))), (.op (.v (.fa 4 S3))), (.op (.ld none T0)), (.op (.v (.len T0))), (.op (.v (.bin .neq T3 T0)))] (.s 6) (.c (.bool true)) T0)]
@[go_sem] def c12r2 : List GOp := [mS 4 (.c (.bool false))]
def c12s3 : SCode := (.seq (.ops c12r2) .ret)
@[go_sem] theorem c12s3eq : U c12s3 (.seq (.ops c12r2) .ret) := fun _ _ _ _ _ => rfl
@[go_sem] def c12r4 : List GOp := [fT 4 S2, lT T0, oS 7 (.v (.len T0)), mS 8 (C 0)]
@[go_sem] def c12r5 : List GOp := [oS 9 (.v (.bin .lss S8 S7))]
@[go_sem] def c12r6 : List GOp := [mT S8, mS 5 T0]
@[go_sem] def c12d7 : DT := (rf 4 S2 [10] (rl T0 [10] (rm S5 [10] (.rd none .t (.v (.ix 5 T1 T0)) [10] (.rd none .t (.ld (some 5) T0) [10] (rf 4 S3 [10] (rl T0 [10] (rm S5 [10] (.rd none .t (.v (.ix 5 T1 T0)) [10] (.rd none .t (.ld (some 5) T0) [10] (.ef 10 none .t (.call 12 [T5, T0]) (.rd none (.s 10) (.v (.un .not T0)) [] .done))))))))))))
@[go_sem] def c12r8 : List GOp := [mS 4 (.c (.bool false))]
def c12s9 : SCode := (.seq (.ops c12r8) .ret)
@[go_sem] theorem c12s9eq : U c12s9 (.seq (.ops c12r8) .ret) := fun _ _ _ _ _ => rfl
def c12s10 : SCode := (.seq (.de c12d7) (.cond S10 c12s9 .skip))
@[go_sem] theorem c12s10eq : U c12s10 (.seq (.de c12d7) (.cond S10 c12s9 .skip)) := fun _ _ _ _ _ => rfl
@[go_sem] def c12r11 : List GOp := [oT (.v (.bin .add S8 (C 1))), mS 8 T0]
def c12s12 : SCode := (.ops c12r11)
@[go_sem] theorem c12s12eq : U c12s12 (.ops c12r11) := fun _ _ _ _ _ => rfl
def c12s13 : SCode := (.seq (.block 1 (.seq (.ops c12r6) c12s10)) c12s12)
@[go_sem] theorem c12s13eq : U c12s13 (.seq (.block 1 (.seq (.ops c12r6) c12s10)) c12s12) := fun _ _ _ _ _ => rfl
def c12s14 : SCode := (.seq (.cond S9 .skip (.exit 0)) c12s13)
@[go_sem] theorem c12s14eq : U c12s14 (.seq (.cond S9 .skip (.exit 0)) c12s13) := fun _ _ _ _ _ => rfl
def c12s15 : SCode := (.seq (.ops c12r5) c12s14)
@[go_sem] theorem c12s15eq : U c12s15 (.seq (.ops c12r5) c12s14) := fun _ _ _ _ _ => rfl
def c12s16 : SCode := (.block 0 (.loop c12k c12s15))
@[go_sem] theorem c12s16eq : U c12s16 (.block 0 (.loop c12k c12s15)) := fun _ _ _ _ _ => rfl
@[go_sem] def c12r17 : List GOp := [mS 4 (.c (.bool true))]
def c12s18 : SCode := (.seq (.ops c12r17) .ret)
@[go_sem] theorem c12s18eq : U c12s18 (.seq (.ops c12r17) .ret) := fun _ _ _ _ _ => rfl
def c12s19 : SCode := (.seq (.seq (.ops c12r4) c12s16) c12s18)
@[go_sem] theorem c12s19eq : U c12s19 (.seq (.seq (.ops c12r4) c12s16) c12s18) := fun _ _ _ _ _ => rfl
def c12s20 : SCode := (.seq (.seq (.ops c12r1) (.cond S6 c12s3 .skip)) c12s19)
@[go_sem] theorem c12s20eq : U c12s20 (.seq (.seq (.ops c12r1) (.cond S6 c12s3 .skip)) c12s19) := fun _ _ _ _ _ => rfl
def c12 : Gx.Fn := ⟨53, c12k, (.seq (.ops c12r0) c12s20), [(.tmp S4)]⟩
theorem c12ok : stripFn Tryd.prog c12k Tryd.f12 = some c12 := by kernel_rfl

/- parser.Size -/
@[go_sem] def c14k : List Nat := [0, 1, 2, 3, 5, 7, 8, 9, 10]
@[go_sem] def c14r0 : List GOp := [oS 1 (.bx 24 S0), mS 2 (C 0)]
@[go_sem] def c14r1 : List GOp := [mS 3 (C 1)]
@[go_sem] def c14r2 : List GOp := [fT 4 S1, oS 5 (.ld none T0), oS 6 (.v (.len S5)), mS 7 (C 0)]
@[go_sem] def c14r3 : List GOp := [oS 8 (.v (.bin .lss S7 S6))]
@[go_sem] def c14r4 : List GOp := [oT (.v (.ix 5 S5 S7)), oT (.ld (some 5) T0), oS 4 (.al 24 [(I 0), (.string ⟨⟨[]⟩⟩), (I 0), (I 0), Z]), oN (.st 5 S4 T0)]
@[go_sem] def c14r5 : List GOp := [mT S3, oT (.ld (some 5) S4), oT (.call 14 [T0]), oT (.v (.bin .add T2 T0)), mS 3 T0]
def c14s6 : SCode := (.ops c14r5)
@[go_sem] theorem c14s6eq : U c14s6 (.ops c14r5) := fun _ _ _ _ _ => rfl
@[go_sem] def c14r7 : List GOp := [oT (.v (.bin .add S7 (C 1))), mS 7 T0]
def c14s8 : SCode := (.ops c14r7)
@[go_sem] theorem c14s8eq : U c14s8 (.ops c14r7) := fun _ _ _ _ _ => rfl
def c14s9 : SCode := (.seq (.block 1 (.seq (.ops c14r4) c14s6)) c14s8)
@[go_sem] theorem c14s9eq : U c14s9 (.seq (.block 1 (.seq (.ops c14r4) c14s6)) c14s8) := fun _ _ _ _ _ => rfl
def c14s10 : SCode := (.seq (.cond S8 .skip (.exit 0)) c14s9)
@[go_sem] theorem c14s10eq : U c14s10 (.seq (.cond S8 .skip (.exit 0)) c14s9) := fun _ _ _ _ _ => rfl
def c14s11 : SCode := (.seq (.ops c14r3) c14s10)
@[go_sem] theorem c14s11eq : U c14s11 (.seq (.ops c14r3) c14s10) := fun _ _ _ _ _ => rfl
def c14s12 : SCode := (.block 0 (.loop c14k c14s11))
@[go_sem] theorem c14s12eq : U c14s12 (.block 0 (.loop c14k c14s11)) := fun _ _ _ _ _ => rfl
@[go_sem] def c14r13 : List GOp := [mT S3, mS 2 T0]
def c14s14 : SCode := (.seq (.ops c14r13) .ret)
@[go_sem] theorem c14s14eq : U c14s14 (.seq (.ops c14r13) .ret) := fun _ _ _ _ _ => rfl
def c14s15 : SCode := (.seq (.seq (.ops c14r2) c14s12) c14s14)
@[go_sem] theorem c14s15eq : U c14s15 (.seq (.seq (.ops c14r2) c14s12) c14s14) := fun _ _ _ _ _ => rfl
def c14s16 : SCode := (.seq (.ops c14r1) c14s15)
@[go_sem] theorem c14s16eq : U c14s16 (.seq (.ops c14r1) c14s15) := fun _ _ _ _ _ => rfl
def c14 : Gx.Fn := ⟨19, c14k, (.seq (.ops c14r0) c14s16), [(.tmp S2)]⟩
theorem c14ok : stripFn Tryd.prog c14k Tryd.f14 = some c14 := by kernel_rfl

/- parser.Expression -/
@[go_sem] def c16k : List Nat := [0, 2, 3]
@[go_sem] def c16r0 : List GOp := [oS 1 (.al 24 [(I 0), (.string ⟨⟨[]⟩⟩), (I 0), (I 0), Z]), oS 2 (.al 31 [(I 0), (I 0)])]
@[go_sem] def c16r1 : List GOp := [mT S0, oT (.call 24 [T0, (.f 25)]), oT (.v (.ext T0 0)), oT (.v (.ext T1 1)), oN (.st 5 S1 T1), oN (.st 2 S2 T0)]
def c16s2 : SCode := (.seq (.ops c16r1) .ret)
@[go_sem] theorem c16s2eq : U c16s2 (.seq (.ops c16r1) .ret) := fun _ _ _ _ _ => rfl
def c16 : Gx.Fn := ⟨8, c16k, (.seq (.ops c16r0) c16s2), [(.cell S1 (some 5)), (.cell S2 (some 2))]⟩
theorem c16ok : stripFn Tryd.prog c16k Tryd.f16 = some c16 := by kernel_rfl

/- parser.Parse -/
@[go_sem] def c21k : List Nat := [0, 2, 3]
@[go_sem] def c21r0 : List GOp := [oS 1 (.al 24 [(I 0), (.string ⟨⟨[]⟩⟩), (I 0), (I 0), Z]), oS 2 (.al 31 [(I 0), (I 0)])]
@[go_sem] def c21r1 : List GOp := [mT S0, oT (.call 24 [T0, (.f 28)]), oT (.v (.ext T0 0)), oT (.v (.ext T1 1)), oN (.st 5 S1 T1), oN (.st 2 S2 T0)]
def c21s2 : SCode := (.seq (.ops c21r1) .ret)
@[go_sem] theorem c21s2eq : U c21s2 (.seq (.ops c21r1) .ret) := fun _ _ _ _ _ => rfl
def c21 : Gx.Fn := ⟨8, c21k, (.seq (.ops c21r0) c21s2), [(.cell S1 (some 5)), (.cell S2 (some 2))]⟩
theorem c21ok : stripFn Tryd.prog c21k Tryd.f21 = some c21 := by kernel_rfl

end Go.Proofs.YtbgjgaaobnbijaaDoor
end
