/- Generated: the stripped code of Go functions, each held against the loaded program. -/
import Derived.Test.YtbgjgaaobnbijaaDoorProg
import Derived.Test.YtbgjgaaobnbijaaDoorGx20
namespace Go.Proofs.YtbgjgaaobnbijaaDoor
open Gx Go

/- parser.Expression$1 -/
@[go_sem] def c25k : List Nat := [0, 2]
@[go_sem] def c25r0 : List GOp := [oS 1 (.al 24 [(I 0), (.string ⟨⟨[]⟩⟩), (I 0), (I 0), Z])]
@[go_sem] def c25r1 : List GOp := [mT S0, oT (.call 26 [T0]), oN (.st 5 S1 T0)]
def c25s2 : SCode := (.seq (.ops c25r1) .ret)
@[go_sem] theorem c25s2eq : U c25s2 (.seq (.ops c25r1) .ret) := fun _ _ _ _ _ => rfl
def c25 : Gx.Fn := ⟨5, c25k, (.seq (.ops c25r0) c25s2), [(.cell S1 (some 5))]⟩
theorem c25ok : stripFn Tryd.prog c25k Tryd.f25 = some c25 := by kernel_rfl

/- (*parser.parser).expression -/
@[go_sem] def c26k : List Nat := [0, 2, 3, 4, 5, 8]
@[go_sem] def c26r0 : List GOp := [oS 1 (.al 24 [(I 0), (.string ⟨⟨[]⟩⟩), (I 0), (I 0), Z])]
@[go_sem] def c26r1 : List GOp := [mT S0, oT (.call 35 [T0, (.c (.string ⟨⟨[105, 102]⟩⟩))]), oS 5 (.v (.un .not T0))]
@[go_sem] def c26r2 : List GOp := [mT S0, oT (.call 36 [T0]), oN (.st 5 S1 T0)]
def c26s3 : SCode := (.seq (.ops c26r2) .ret)
@[go_sem] theorem c26s3eq : U c26s3 (.seq (.ops c26r2) .ret) := fun _ _ _ _ _ => rfl
@[go_sem] def c26r4 : List GOp := [mT S0, oT (.call 37 [T0, (.c (.string ⟨⟨[105, 102]⟩⟩))]), oT (.v (.bld [(I 0), (.string ⟨⟨[]⟩⟩), (I 0), (I 0), Z] [(0, (1, (C 30))), (3, (1, T0))])), oS 2 (.al 24 [(I 0), (.string ⟨⟨[]⟩⟩), (I 0), (I 0), Z]), oN (.st 5 S2 T0)]
@[go_sem] def c26r5 : List GOp := [mT S0, oT (.call 26 [T0]), oS 3 (.al 24 [(I 0), (.string ⟨⟨[]⟩⟩), (I 0), (I 0), Z]), oN (.st 5 S3 T0)]
@[go_sem] def c26r6 : List GOp := [mT S0, oT (.call 38 [T0, (.c (.string ⟨⟨[116, 104, 101, 110]⟩⟩))])]
@[go_sem] def c26r7 : List GOp := [mT S0, oT (.call 26 [T0]), oS 4 (.al 24 [(I 0), (.string ⟨⟨[]⟩⟩), (I 0), (I 0), Z]), oN (.st 5 S4 T0)]
@[go_sem] def c26r8 : List GOp := [mT S0, oT (.call 38 [T0, (.c (.string ⟨⟨[101, 108, 115, 101]⟩⟩))])]
@[go_sem] def c26d9 : DT := (.rd none .t (.ld (some 5) S3) [4, 6] (.rd none .t (.ld (some 5) S4) [4, 6] (rm S0 [3, 4, 6] (.ef 3 none .t (.call 26 [T0]) (.ef 4 none .t (.bs 24 3 [(I 0), (.string ⟨⟨[]⟩⟩), (I 0), (I 0), Z, (I 0), (.string ⟨⟨[]⟩⟩), (I 0), (I 0), Z, (I 0), (.string ⟨⟨[]⟩⟩), (I 0), (I 0), Z] [(0, (5, T3)), (5, (5, T2)), (10, (5, T0))]) (rf 4 S2 [6] (.ef 6 none .no (.st 1 T0 T1) .done)))))))
@[go_sem] def c26r10 : List GOp := [mT S0, oT (.call 39 [T0])]
@[go_sem] def c26r11 : List GOp := [oT (.ld (some 5) S2), oN (.st 5 S1 T0)]
def c26s12 : SCode := (.seq (.ops c26r11) .ret)
@[go_sem] theorem c26s12eq : U c26s12 (.seq (.ops c26r11) .ret) := fun _ _ _ _ _ => rfl
def c26s13 : SCode := (.seq (.ops c26r10) c26s12)
@[go_sem] theorem c26s13eq : U c26s13 (.seq (.ops c26r10) c26s12) := fun _ _ _ _ _ => rfl
def c26s14 : SCode := (.seq (.de c26d9) c26s13)
@[go_sem] theorem c26s14eq : U c26s14 (.seq (.de c26d9) c26s13) := fun _ _ _ _ _ => rfl
def c26s15 : SCode := (.seq (.ops c26r8) c26s14)
@[go_sem] theorem c26s15eq : U c26s15 (.seq (.ops c26r8) c26s14) := fun _ _ _ _ _ => rfl
def c26s16 : SCode := (.seq (.ops c26r7) c26s15)
@[go_sem] theorem c26s16eq : U c26s16 (.seq (.ops c26r7) c26s15) := fun _ _ _ _ _ => rfl
def c26s17 : SCode := (.seq (.ops c26r6) c26s16)
@[go_sem] theorem c26s17eq : U c26s17 (.seq (.ops c26r6) c26s16) := fun _ _ _ _ _ => rfl
def c26s18 : SCode := (.seq (.ops c26r5) c26s17)
@[go_sem] theorem c26s18eq : U c26s18 (.seq (.ops c26r5) c26s17) := fun _ _ _ _ _ => rfl
def c26s19 : SCode := (.seq (.ops c26r4) c26s18)
@[go_sem] theorem c26s19eq : U c26s19 (.seq (.ops c26r4) c26s18) := fun _ _ _ _ _ => rfl
def c26s20 : SCode := (.seq (.seq (.ops c26r1) (.cond S5 c26s3 .skip)) c26s19)
@[go_sem] theorem c26s20eq : U c26s20 (.seq (.seq (.ops c26r1) (.cond S5 c26s3 .skip)) c26s19) := fun _ _ _ _ _ => rfl
def c26 : Gx.Fn := ⟨31, c26k, (.seq (.ops c26r0) c26s20), [(.cell S1 (some 5))]⟩
theorem c26ok : stripFn Tryd.prog c26k Tryd.f26 = some c26 := by kernel_rfl

/- parser.Parse$1 -/
@[go_sem] def c28k : List Nat := [0, 2, 3, 8]
@[go_sem] def c28r0 : List GOp := [oS 1 (.al 24 [(I 0), (.string ⟨⟨[]⟩⟩), (I 0), (I 0), Z])]
@[go_sem] def c28r1 : List GOp := [oT (.v (.bld [(I 0), (.string ⟨⟨[]⟩⟩), (I 0), (I 0), Z] [(0, (1, (C 1)))])), oS 2 (.al 24 [(I 0), (.string ⟨⟨[]⟩⟩), (I 0), (I 0), Z]), oN (.st 5 S2 T0)]
@[go_sem] def c28r2 : List GOp := [mT S0, oT (.call 29 [T0]), oT (.v (.fld1 0 T0)), oS 3 (.v (.bin .neq T0 (C 6)))]
def c28s3 : SCode := (.cond S3 .skip (.exit 0))
@[go_sem] theorem c28s3eq : U c28s3 (.cond S3 .skip (.exit 0)) := fun _ _ _ _ _ => rfl
@[go_sem] def c28d4 : DT := (rf 4 S2 [5, 7] (rl T0 [5, 7] (rm S0 [3, 4, 5, 7] (.ef 3 none .t (.call 30 [T0]) (.ef 4 none .t (.bs 24 1 [(I 0), (.string ⟨⟨[]⟩⟩), (I 0), (I 0), Z] [(0, (5, T0))]) (.ef 5 none .t (.ap 22 22 T3 T0) (rf 4 S2 [7] (.ef 7 none .no (.st 1 T0 T1) .done))))))))
def c28s5 : SCode := (.seq (.seq (.ops c28r2) c28s3) (.block 1 (.de c28d4)))
@[go_sem] theorem c28s5eq : U c28s5 (.seq (.seq (.ops c28r2) c28s3) (.block 1 (.de c28d4))) := fun _ _ _ _ _ => rfl
@[go_sem] def c28r6 : List GOp := [oT (.ld (some 5) S2), oN (.st 5 S1 T0)]
def c28s7 : SCode := (.seq (.ops c28r6) .ret)
@[go_sem] theorem c28s7eq : U c28s7 (.seq (.ops c28r6) .ret) := fun _ _ _ _ _ => rfl
def c28s8 : SCode := (.seq (.block 0 (.loop c28k c28s5)) c28s7)
@[go_sem] theorem c28s8eq : U c28s8 (.seq (.block 0 (.loop c28k c28s5)) c28s7) := fun _ _ _ _ _ => rfl
def c28s9 : SCode := (.seq (.ops c28r1) c28s8)
@[go_sem] theorem c28s9eq : U c28s9 (.seq (.ops c28r1) c28s8) := fun _ _ _ _ _ => rfl
def c28 : Gx.Fn := ⟨17, c28k, (.seq (.ops c28r0) c28s9), [(.cell S1 (some 5))]⟩
theorem c28ok : stripFn Tryd.prog c28k Tryd.f28 = some c28 := by kernel_rfl

/- (*parser.parser).look -/
@[go_sem] def c29k : List Nat := [0, 2]
@[go_sem] def c29r0 : List GOp := [oS 1 (.al 39 [(I 0), (.string ⟨⟨[]⟩⟩), (I 0), (I 0)])]
@[go_sem] def c29d1 : DT := (rm S0 [10] (.rd none .t (.v (.nc T0)) [10] (rf 0 T0 [10] (rl T0 [10] (rm S0 [10] (.rd none .t (.v (.nc T0)) [10] (rf 1 T0 [10] (rl T0 [10] (.rd none .t (.v (.ix 4 T4 T0)) [10] (.rd none .t (.ld (some 4) T0) [10] (.ef 10 none .no (.st 4 S1 T0) .done)))))))))))
def c29 : Gx.Fn := ⟨13, c29k, (.seq (.ops c29r0) (.seq (.de c29d1) .ret)), [(.cell S1 (some 4))]⟩
theorem c29ok : stripFn Tryd.prog c29k Tryd.f29 = some c29 := by kernel_rfl

/- (*parser.parser).declaration -/
@[go_sem] def c30k : List Nat := [0, 2, 3, 4, 11, 15, 19, 23, 32, 38, 59, 74, 82]
@[go_sem] def c30r0 : List GOp := [oS 1 (.al 24 [(I 0), (.string ⟨⟨[]⟩⟩), (I 0), (I 0), Z])]
@[go_sem] def c30r1 : List GOp := [mT S0, oT (.call 29 [T0]), oT (.v (.fld1 3 T0)), oT (.v (.bld [(I 0), (.string ⟨⟨[]⟩⟩), (I 0), (I 0), Z] [(3, (1, T0))])), oS 2 (.al 24 [(I 0), (.string ⟨⟨[]⟩⟩), (I 0), (I 0), Z]), oN (.st 5 S2 T0)]
@[go_sem] def c30r2 : List GOp := [mT S0, oT (.call 42 [T0, (.c (.string ⟨⟨[108, 97, 116, 116, 105, 99, 101]⟩⟩))]), mS 4 T0]
@[go_sem] def c30r3 : List GOp := [fT 0 S2, oN (.st 1 T0 (C 2))]
@[go_sem] def c30r4 : List GOp := [mT S0, oT (.call 42 [T0, (.c (.string ⟨⟨[111, 98, 106, 101, 99, 116]⟩⟩))]), mS 5 T0]
@[go_sem] def c30r5 : List GOp := [fT 0 S2, oN (.st 1 T0 (C 3))]
@[go_sem] def c30r6 : List GOp := [mT S0, oT (.call 42 [T0, (.c (.string ⟨⟨[117, 112, 100, 97, 116, 101]⟩⟩))]), mS 6 T0]
@[go_sem] def c30r7 : List GOp := [fT 0 S2, oN (.st 1 T0 (C 4))]
@[go_sem] def c30r8 : List GOp := [mT S0, oT (.call 42 [T0, (.c (.string ⟨⟨[113, 117, 101, 114, 121]⟩⟩))]), mS 7 T0]
@[go_sem] def c30r9 : List GOp := [fT 0 S2, oN (.st 1 T0 (C 5))]
@[go_sem] def c30r10 : List GOp := [mT S0, oT (.call 34 [T0, (C 2)])]
def c30s11 : SCode := (.cond S7 (.ops c30r9) (.ops c30r10))
@[go_sem] theorem c30s11eq : U c30s11 (.cond S7 (.ops c30r9) (.ops c30r10)) := fun _ _ _ _ _ => rfl
def c30s12 : SCode := (.seq (.ops c30r8) c30s11)
@[go_sem] theorem c30s12eq : U c30s12 (.seq (.ops c30r8) c30s11) := fun _ _ _ _ _ => rfl
def c30s13 : SCode := (.cond S6 (.ops c30r7) c30s12)
@[go_sem] theorem c30s13eq : U c30s13 (.cond S6 (.ops c30r7) c30s12) := fun _ _ _ _ _ => rfl
def c30s14 : SCode := (.seq (.ops c30r6) c30s13)
@[go_sem] theorem c30s14eq : U c30s14 (.seq (.ops c30r6) c30s13) := fun _ _ _ _ _ => rfl
def c30s15 : SCode := (.cond S5 (.ops c30r5) c30s14)
@[go_sem] theorem c30s15eq : U c30s15 (.cond S5 (.ops c30r5) c30s14) := fun _ _ _ _ _ => rfl
def c30s16 : SCode := (.seq (.ops c30r4) c30s15)
@[go_sem] theorem c30s16eq : U c30s16 (.seq (.ops c30r4) c30s15) := fun _ _ _ _ _ => rfl
def c30s17 : SCode := (.cond S4 (.ops c30r3) c30s16)
@[go_sem] theorem c30s17eq : U c30s17 (.cond S4 (.ops c30r3) c30s16) := fun _ _ _ _ _ => rfl
@[go_sem] def c30r18 : List GOp := [mT S0, oT (.call 43 [T0, (C 1)]), oT (.v (.fld1 1 T0)), fT 1 S2, oN (.st 1 T0 T1)]
@[go_sem] def c30r19 : List GOp := [fT 0 S2, oS 8 (.ld none T0)]
@[go_sem] def c30r20 : List GOp := [oT (.v (.bin .eql S8 (C 2))), mS 11 T0]
@[go_sem] def c30r21 : List GOp := [mT S0, oT (.call 38 [T0, (.c (.string ⟨⟨[61]⟩⟩))])]
@[go_sem] def c30r22 : List GOp := [mT S0, oT (.call 44 [T0]), oT (.bs 24 1 [(I 0), (.string ⟨⟨[]⟩⟩), (I 0), (I 0), Z] [(0, (5, T0))]), fT 4 S2, oN (.st 1 T0 T1)]
def c30s23 : SCode := (.ops c30r22)
@[go_sem] theorem c30s23eq : U c30s23 (.ops c30r22) := fun _ _ _ _ _ => rfl
def c30s24 : SCode := (.seq (.ops c30r21) c30s23)
@[go_sem] theorem c30s24eq : U c30s24 (.seq (.ops c30r21) c30s23) := fun _ _ _ _ _ => rfl
@[go_sem] def c30r25 : List GOp := [oT (.v (.bin .eql S8 (C 3))), mS 12 T0]
@[go_sem] def c30r26 : List GOp := [mT S0, oT (.call 38 [T0, (.c (.string ⟨⟨[58]⟩⟩))])]
@[go_sem] def c30r27 : List GOp := [mT S0, oT (.call 44 [T0]), oT (.bs 24 1 [(I 0), (.string ⟨⟨[]⟩⟩), (I 0), (I 0), Z] [(0, (5, T0))]), fT 4 S2, oN (.st 1 T0 T1)]
def c30s28 : SCode := (.ops c30r27)
@[go_sem] theorem c30s28eq : U c30s28 (.ops c30r27) := fun _ _ _ _ _ => rfl
def c30s29 : SCode := (.seq (.ops c30r26) c30s28)
@[go_sem] theorem c30s29eq : U c30s29 (.seq (.ops c30r26) c30s28) := fun _ _ _ _ _ => rfl
@[go_sem] def c30r30 : List GOp := [mT S0, oT (.call 38 [T0, (.c (.string ⟨⟨[40]⟩⟩))])]
@[go_sem] def c30r31 : List GOp := [mT S0, oT (.call 42 [T0, (.c (.string ⟨⟨[41]⟩⟩))]), oT (.v (.un .not T0)), mS 3 T0]
@[go_sem] def c30r32 : List GOp := [mS 9 S3]
def c30s33 : SCode := (.cond S9 .skip (.exit 2))
@[go_sem] theorem c30s33eq : U c30s33 (.cond S9 .skip (.exit 2)) := fun _ _ _ _ _ => rfl
@[go_sem] def c30d34 : DT := (rf 4 S2 [5, 7] (rl T0 [5, 7] (rm S0 [3, 4, 5, 7] (.ef 3 none .t (.call 46 [T0]) (.ef 4 none .t (.bs 24 1 [(I 0), (.string ⟨⟨[]⟩⟩), (I 0), (I 0), Z] [(0, (5, T0))]) (.ef 5 none .t (.ap 22 22 T3 T0) (rf 4 S2 [7] (.ef 7 none .no (.st 1 T0 T1) .done))))))))
@[go_sem] def c30r35 : List GOp := [mT S0, oT (.call 45 [T0]), mS 3 T0]
def c30s36 : SCode := (.ops c30r35)
@[go_sem] theorem c30s36eq : U c30s36 (.ops c30r35) := fun _ _ _ _ _ => rfl
def c30s37 : SCode := (.seq (.block 3 (.de c30d34)) c30s36)
@[go_sem] theorem c30s37eq : U c30s37 (.seq (.block 3 (.de c30d34)) c30s36) := fun _ _ _ _ _ => rfl
def c30s38 : SCode := (.seq (.seq (.ops c30r32) c30s33) c30s37)
@[go_sem] theorem c30s38eq : U c30s38 (.seq (.seq (.ops c30r32) c30s33) c30s37) := fun _ _ _ _ _ => rfl
def c30s39 : SCode := (.block 2 (.loop c30k c30s38))
@[go_sem] theorem c30s39eq : U c30s39 (.block 2 (.loop c30k c30s38)) := fun _ _ _ _ _ => rfl
@[go_sem] def c30r40 : List GOp := [mT S0, oT (.call 38 [T0, (.c (.string ⟨⟨[111, 110]⟩⟩))])]
@[go_sem] def c30d41 : DT := (rf 4 S2 [5, 7] (rl T0 [5, 7] (rm S0 [3, 4, 5, 7] (.ef 3 none .t (.call 47 [T0, (C 48)]) (.ef 4 none .t (.bs 24 1 [(I 0), (.string ⟨⟨[]⟩⟩), (I 0), (I 0), Z] [(0, (5, T0))]) (.ef 5 none .t (.ap 22 22 T3 T0) (rf 4 S2 [7] (.ef 7 none .no (.st 1 T0 T1) .done))))))))
@[go_sem] def c30r42 : List GOp := [fT 0 S2, lT T0, oS 10 (.v (.bin .eql T0 (C 5)))]
@[go_sem] def c30r43 : List GOp := [mT S0, oT (.call 38 [T0, (.c (.string ⟨⟨[58]⟩⟩))])]
@[go_sem] def c30r44 : List GOp := [mT S0, oT (.call 48 [T0]), fT 2 S2, oN (.st 1 T0 T1)]
def c30s45 : SCode := (.ops c30r44)
@[go_sem] theorem c30s45eq : U c30s45 (.ops c30r44) := fun _ _ _ _ _ => rfl
def c30s46 : SCode := (.seq (.ops c30r43) c30s45)
@[go_sem] theorem c30s46eq : U c30s46 (.seq (.ops c30r43) c30s45) := fun _ _ _ _ _ => rfl
def c30s47 : SCode := (.cond S10 c30s46 .skip)
@[go_sem] theorem c30s47eq : U c30s47 (.cond S10 c30s46 .skip) := fun _ _ _ _ _ => rfl
@[go_sem] def c30r48 : List GOp := [mT S0, oT (.call 38 [T0, (.c (.string ⟨⟨[61]⟩⟩))])]
@[go_sem] def c30d49 : DT := (rf 4 S2 [5, 7] (rl T0 [5, 7] (rm S0 [3, 4, 5, 7] (.ef 3 none .t (.call 26 [T0]) (.ef 4 none .t (.bs 24 1 [(I 0), (.string ⟨⟨[]⟩⟩), (I 0), (I 0), Z] [(0, (5, T0))]) (.ef 5 none .t (.ap 22 22 T3 T0) (rf 4 S2 [7] (.ef 7 none .no (.st 1 T0 T1) .done))))))))
def c30s50 : SCode := (.de c30d49)
@[go_sem] theorem c30s50eq : U c30s50 (.de c30d49) := fun _ _ _ _ _ => rfl
def c30s51 : SCode := (.seq (.ops c30r48) c30s50)
theorem c30s51eq : U c30s51 (.seq (.ops c30r48) c30s50) := fun _ _ _ _ _ => rfl
def c30s52 : SCode := (.seq (.seq (.ops c30r42) c30s47) c30s51)
@[go_sem] theorem c30s52eq : U c30s52 (.seq (.seq (.ops c30r42) c30s47) c30s51) := fun _ _ _ _ _ => rfl
def c30s53 : SCode := (.seq (.de c30d41) c30s52)
@[go_sem] theorem c30s53eq : U c30s53 (.seq (.de c30d41) c30s52) := fun _ _ _ _ _ => rfl
def c30s54 : SCode := (.seq (.ops c30r40) c30s53)
@[go_sem] theorem c30s54eq : U c30s54 (.seq (.ops c30r40) c30s53) := fun _ _ _ _ _ => rfl
def c30s55 : SCode := (.seq (.seq (.ops c30r31) c30s39) c30s54)
@[go_sem] theorem c30s55eq : U c30s55 (.seq (.seq (.ops c30r31) c30s39) c30s54) := fun _ _ _ _ _ => rfl
def c30s56 : SCode := (.seq (.ops c30r30) c30s55)
theorem c30s56eq : U c30s56 (.seq (.ops c30r30) c30s55) := fun _ _ _ _ _ => rfl
def c30s57 : SCode := (.cond S12 c30s29 c30s56)
@[go_sem] theorem c30s57eq : U c30s57 (.cond S12 c30s29 c30s56) := fun _ _ _ _ _ => rfl
def c30s58 : SCode := (.seq (.ops c30r25) c30s57)
@[go_sem] theorem c30s58eq : U c30s58 (.seq (.ops c30r25) c30s57) := fun _ _ _ _ _ => rfl
def c30s59 : SCode := (.cond S11 c30s24 c30s58)
@[go_sem] theorem c30s59eq : U c30s59 (.cond S11 c30s24 c30s58) := fun _ _ _ _ _ => rfl
def c30s60 : SCode := (.block 1 (.seq (.ops c30r20) c30s59))
@[go_sem] theorem c30s60eq : U c30s60 (.block 1 (.seq (.ops c30r20) c30s59)) := fun _ _ _ _ _ => rfl
@[go_sem] def c30r61 : List GOp := [mT S0, oT (.call 38 [T0, (.c (.string ⟨⟨[59]⟩⟩))])]
@[go_sem] def c30r62 : List GOp := [oT (.ld (some 5) S2), oN (.st 5 S1 T0)]
def c30s63 : SCode := (.seq (.ops c30r62) .ret)
@[go_sem] theorem c30s63eq : U c30s63 (.seq (.ops c30r62) .ret) := fun _ _ _ _ _ => rfl
def c30s64 : SCode := (.seq (.ops c30r61) c30s63)
@[go_sem] theorem c30s64eq : U c30s64 (.seq (.ops c30r61) c30s63) := fun _ _ _ _ _ => rfl
def c30s65 : SCode := (.seq (.seq (.ops c30r19) c30s60) c30s64)
@[go_sem] theorem c30s65eq : U c30s65 (.seq (.seq (.ops c30r19) c30s60) c30s64) := fun _ _ _ _ _ => rfl
def c30s66 : SCode := (.seq (.ops c30r18) c30s65)
@[go_sem] theorem c30s66eq : U c30s66 (.seq (.ops c30r18) c30s65) := fun _ _ _ _ _ => rfl
def c30s67 : SCode := (.seq (.block 0 (.seq (.ops c30r2) c30s17)) c30s66)
@[go_sem] theorem c30s67eq : U c30s67 (.seq (.block 0 (.seq (.ops c30r2) c30s17)) c30s66) := fun _ _ _ _ _ => rfl
def c30s68 : SCode := (.seq (.ops c30r1) c30s67)
@[go_sem] theorem c30s68eq : U c30s68 (.seq (.ops c30r1) c30s67) := fun _ _ _ _ _ => rfl
def c30 : Gx.Fn := ⟨93, c30k, (.seq (.ops c30r0) c30s68), [(.cell S1 (some 5))]⟩
theorem c30ok : stripFn Tryd.prog c30k Tryd.f30 = some c30 := by kernel_rfl

/- (*parser.parser).fail -/
@[go_sem] def c34k : List Nat := [0, 1]
@[go_sem] def c34r0 : List GOp := [mT S1, mT S0, oT (.call 29 [T0]), oT (.v (.fld1 3 T0)), oT (.v (.bld [(I 0), (I 0)] [(0, (1, T3)), (1, (1, T0))])), oT (.v (.mki 31 T0)), oN (.pnc T0)]
def c34 : Gx.Fn := ⟨10, c34k, (.ops c34r0), []⟩
theorem c34ok : stripFn Tryd.prog c34k Tryd.f34 = some c34 := by kernel_rfl

/- (*parser.parser).is -/
@[go_sem] def c35k : List Nat := [0, 1, 4, 5]
@[go_sem] def c35r0 : List GOp := [mS 2 (.c (.bool false))]
@[go_sem] def c35r1 : List GOp := [mT S0, oT (.call 29 [T0]), oS 3 (.al 39 [(I 0), (.string ⟨⟨[]⟩⟩), (I 0), (I 0)]), oN (.st 4 S3 T0)]
@[go_sem] def c35r2 : List GOp := [fT 0 S3, lT T0, oT (.v (.bin .eql T0 (C 2))), mT T0, (.sel T0 false [(.op (.v (.fa 0 S3))), (.op (.ld none T0)), (.op (.v (.bin .eql T0 (C 5))))] .t (.c (.bool true)) T0), mT T0, (.sel T0 true [(.op (.v (.fa 1 S3))), (.op (.ld none T0)), (.op (.v (.mv S1))), (.op (.v (.bin .eql T1 T0)))] .t T0 (.c (.bool false))), mS 2 T0]
def c35s3 : SCode := (.seq (.ops c35r2) .ret)
@[go_sem] theorem c35s3eq : U c35s3 (.seq (.ops c35r2) .ret) := fun _ _ _ _ _ => rfl
def c35s4 : SCode := (.seq (.ops c35r1) c35s3)
@[go_sem] theorem c35s4eq : U c35s4 (.seq (.ops c35r1) c35s3) := fun _ _ _ _ _ => rfl
def c35 : Gx.Fn := ⟨22, c35k, (.seq (.ops c35r0) c35s4), [(.tmp S2)]⟩
theorem c35ok : stripFn Tryd.prog c35k Tryd.f35 = some c35 := by kernel_rfl

/- (*parser.parser).or -/
@[go_sem] def c36k : List Nat := [0, 2]
@[go_sem] def c36r0 : List GOp := [oS 1 (.al 24 [(I 0), (.string ⟨⟨[]⟩⟩), (I 0), (I 0), Z])]
@[go_sem] def c36r1 : List GOp := [mT S0, mT S0, oT (.v (.mkf 57 [T0] [])), oT .mm, oN (.ins T0 (.c (.string ⟨⟨[111, 114]⟩⟩)) (C 31)), mT T0, oT (.call 56 [T4, T2, T0]), oN (.st 5 S1 T0)]
def c36s2 : SCode := (.seq (.ops c36r1) .ret)
@[go_sem] theorem c36s2eq : U c36s2 (.seq (.ops c36r1) .ret) := fun _ _ _ _ _ => rfl
def c36 : Gx.Fn := ⟨9, c36k, (.seq (.ops c36r0) c36s2), [(.cell S1 (some 5))]⟩
theorem c36ok : stripFn Tryd.prog c36k Tryd.f36 = some c36 := by kernel_rfl

/- (*parser.parser).enter -/
@[go_sem] def c37k : List Nat := [0, 1, 4, 5, 15]
@[go_sem] def c37r0 : List GOp := [mS 2 (C 0)]
@[go_sem] def c37r1 : List GOp := [mT S0, mT S1, oT (.call 35 [T1, T0]), mT T0, (.sel T0 true [(.op (.v (.mv S0))), (.op (.v (.nc T0))), (.op (.v (.fa 2 T0))), (.op (.ld none T0)), (.op (.v (.bin .eql T0 (C 64))))] (.s 4) T0 (.c (.bool false)))]
@[go_sem] def c37r2 : List GOp := [mT S0, oT (.call 34 [T0, (C 6)])]
def c37s3 : SCode := (.cond S4 (.ops c37r2) .skip)
@[go_sem] theorem c37s3eq : U c37s3 (.cond S4 (.ops c37r2) .skip) := fun _ _ _ _ _ => rfl
@[go_sem] def c37r4 : List GOp := [mT S0, mT S1, oT (.call 38 [T1, T0]), mS 3 T0]
@[go_sem] def c37r5 : List GOp := [mT S0, oT (.v (.nc T0)), fT 2 T0, lT T0, oT (.v (.bin .add T0 (C 1))), oT (.v (.nc T4)), fT 2 T0, oN (.st 1 T0 T2)]
@[go_sem] def c37r6 : List GOp := [mT S3, mS 2 T0]
def c37s7 : SCode := (.seq (.ops c37r6) .ret)
@[go_sem] theorem c37s7eq : U c37s7 (.seq (.ops c37r6) .ret) := fun _ _ _ _ _ => rfl
def c37s8 : SCode := (.seq (.ops c37r5) c37s7)
@[go_sem] theorem c37s8eq : U c37s8 (.seq (.ops c37r5) c37s7) := fun _ _ _ _ _ => rfl
def c37s9 : SCode := (.seq (.ops c37r4) c37s8)
@[go_sem] theorem c37s9eq : U c37s9 (.seq (.ops c37r4) c37s8) := fun _ _ _ _ _ => rfl
def c37s10 : SCode := (.seq (.seq (.ops c37r1) c37s3) c37s9)
@[go_sem] theorem c37s10eq : U c37s10 (.seq (.seq (.ops c37r1) c37s3) c37s9) := fun _ _ _ _ _ => rfl
def c37 : Gx.Fn := ⟨29, c37k, (.seq (.ops c37r0) c37s10), [(.tmp S2)]⟩
theorem c37ok : stripFn Tryd.prog c37k Tryd.f37 = some c37 := by kernel_rfl

/- (*parser.parser).expect -/
@[go_sem] def c38k : List Nat := [0, 1, 4, 5, 12]
@[go_sem] def c38r0 : List GOp := [mS 2 (C 0)]
@[go_sem] def c38r1 : List GOp := [mT S0, oT (.call 29 [T0]), oT (.v (.fld1 3 T0)), mS 3 T0]
@[go_sem] def c38r2 : List GOp := [mT S0, mT S1, oT (.call 42 [T1, T0]), oS 4 (.v (.un .not T0))]
@[go_sem] def c38r3 : List GOp := [mT S0, oT (.call 34 [T0, (C 2)])]
def c38s4 : SCode := (.cond S4 (.ops c38r3) .skip)
@[go_sem] theorem c38s4eq : U c38s4 (.cond S4 (.ops c38r3) .skip) := fun _ _ _ _ _ => rfl
@[go_sem] def c38r5 : List GOp := [mT S3, mS 2 T0]
def c38s6 : SCode := (.seq (.ops c38r5) .ret)
@[go_sem] theorem c38s6eq : U c38s6 (.seq (.ops c38r5) .ret) := fun _ _ _ _ _ => rfl
def c38s7 : SCode := (.seq (.seq (.ops c38r2) c38s4) c38s6)
@[go_sem] theorem c38s7eq : U c38s7 (.seq (.seq (.ops c38r2) c38s4) c38s6) := fun _ _ _ _ _ => rfl
def c38s8 : SCode := (.seq (.ops c38r1) c38s7)
@[go_sem] theorem c38s8eq : U c38s8 (.seq (.ops c38r1) c38s7) := fun _ _ _ _ _ => rfl
def c38 : Gx.Fn := ⟨16, c38k, (.seq (.ops c38r0) c38s8), [(.tmp S2)]⟩
theorem c38ok : stripFn Tryd.prog c38k Tryd.f38 = some c38 := by kernel_rfl

/- (*parser.parser).leave -/
@[go_sem] def c39k : List Nat := [0]
@[go_sem] def c39r0 : List GOp := [mT S0, oT (.v (.nc T0)), fT 2 T0, lT T0, oT (.v (.bin .sub T0 (C 1))), oT (.v (.nc T4)), fT 2 T0, oN (.st 1 T0 T2)]
def c39 : Gx.Fn := ⟨9, c39k, (.ops c39r0), []⟩
theorem c39ok : stripFn Tryd.prog c39k Tryd.f39 = some c39 := by kernel_rfl

/- (*parser.parser).accept -/
@[go_sem] def c42k : List Nat := [0, 1, 4, 8]
@[go_sem] def c42r0 : List GOp := [mS 2 (.c (.bool false))]
@[go_sem] def c42r1 : List GOp := [mT S0, mT S1, oT (.call 35 [T1, T0]), oS 3 (.v (.un .not T0))]
@[go_sem] def c42r2 : List GOp := [mS 2 (.c (.bool false))]
def c42s3 : SCode := (.seq (.ops c42r2) .ret)
@[go_sem] theorem c42s3eq : U c42s3 (.seq (.ops c42r2) .ret) := fun _ _ _ _ _ => rfl
@[go_sem] def c42r4 : List GOp := [mT S0, oT (.v (.nc T0)), fT 1 T0, lT T0, oT (.v (.bin .add T0 (C 1))), oT (.v (.nc T4)), fT 1 T0, oN (.st 1 T0 T2)]
@[go_sem] def c42r5 : List GOp := [mS 2 (.c (.bool true))]
def c42s6 : SCode := (.seq (.ops c42r5) .ret)
@[go_sem] theorem c42s6eq : U c42s6 (.seq (.ops c42r5) .ret) := fun _ _ _ _ _ => rfl
def c42s7 : SCode := (.seq (.ops c42r4) c42s6)
@[go_sem] theorem c42s7eq : U c42s7 (.seq (.ops c42r4) c42s6) := fun _ _ _ _ _ => rfl
def c42s8 : SCode := (.seq (.seq (.ops c42r1) (.cond S3 c42s3 .skip)) c42s7)
@[go_sem] theorem c42s8eq : U c42s8 (.seq (.seq (.ops c42r1) (.cond S3 c42s3 .skip)) c42s7) := fun _ _ _ _ _ => rfl
def c42 : Gx.Fn := ⟨16, c42k, (.seq (.ops c42r0) c42s8), [(.tmp S2)]⟩
theorem c42ok : stripFn Tryd.prog c42k Tryd.f42 = some c42 := by kernel_rfl

/- (*parser.parser).take -/
@[go_sem] def c43k : List Nat := [0, 1, 4, 5, 11]
@[go_sem] def c43r0 : List GOp := [oS 2 (.al 39 [(I 0), (.string ⟨⟨[]⟩⟩), (I 0), (I 0)])]
@[go_sem] def c43r1 : List GOp := [mT S0, oT (.call 29 [T0]), oS 3 (.al 39 [(I 0), (.string ⟨⟨[]⟩⟩), (I 0), (I 0)]), oN (.st 4 S3 T0)]
@[go_sem] def c43r2 : List GOp := [fT 0 S3, lT T0, mT S1, oS 4 (.v (.bin .neq T1 T0))]
@[go_sem] def c43r3 : List GOp := [mT S0, oT (.call 34 [T0, (C 2)])]
def c43s4 : SCode := (.cond S4 (.ops c43r3) .skip)
@[go_sem] theorem c43s4eq : U c43s4 (.cond S4 (.ops c43r3) .skip) := fun _ _ _ _ _ => rfl
@[go_sem] def c43r5 : List GOp := [mT S0, oT (.v (.nc T0)), fT 1 T0, lT T0, oT (.v (.bin .add T0 (C 1))), oT (.v (.nc T4)), fT 1 T0, oN (.st 1 T0 T2)]
@[go_sem] def c43r6 : List GOp := [oT (.ld (some 4) S3), oN (.st 4 S2 T0)]
def c43s7 : SCode := (.seq (.ops c43r6) .ret)
@[go_sem] theorem c43s7eq : U c43s7 (.seq (.ops c43r6) .ret) := fun _ _ _ _ _ => rfl
def c43s8 : SCode := (.seq (.ops c43r5) c43s7)
@[go_sem] theorem c43s8eq : U c43s8 (.seq (.ops c43r5) c43s7) := fun _ _ _ _ _ => rfl
def c43s9 : SCode := (.seq (.seq (.ops c43r2) c43s4) c43s8)
@[go_sem] theorem c43s9eq : U c43s9 (.seq (.seq (.ops c43r2) c43s4) c43s8) := fun _ _ _ _ _ => rfl
def c43s10 : SCode := (.seq (.ops c43r1) c43s9)
@[go_sem] theorem c43s10eq : U c43s10 (.seq (.ops c43r1) c43s9) := fun _ _ _ _ _ => rfl
def c43 : Gx.Fn := ⟨22, c43k, (.seq (.ops c43r0) c43s10), [(.cell S2 (some 4))]⟩
theorem c43ok : stripFn Tryd.prog c43k Tryd.f43 = some c43 := by kernel_rfl

/- (*parser.parser).lattice -/
@[go_sem] def c44k : List Nat := [0, 2, 3, 4, 5, 6, 14, 20, 24, 28, 35, 42, 60, 69, 78, 91, 97, 118]
@[go_sem] def c44r0 : List GOp := [oS 1 (.al 24 [(I 0), (.string ⟨⟨[]⟩⟩), (I 0), (I 0), Z])]
@[go_sem] def c44r1 : List GOp := [mT S0, oT (.call 29 [T0]), oS 2 (.al 39 [(I 0), (.string ⟨⟨[]⟩⟩), (I 0), (I 0)]), oN (.st 4 S2 T0)]
@[go_sem] def c44r2 : List GOp := [fT 3 S2, lT T0, oT (.v (.bld [(I 0), (.string ⟨⟨[]⟩⟩), (I 0), (I 0), Z] [(3, (1, T0))])), oS 3 (.al 24 [(I 0), (.string ⟨⟨[]⟩⟩), (I 0), (I 0), Z]), oN (.st 5 S3 T0)]
@[go_sem] def c44r3 : List GOp := [fT 0 S2, lT T0, oT (.v (.bin .eql T0 (C 1))), mS 6 T0]
@[go_sem] def c44r4 : List GOp := [mT S0, oT (.call 47 [T0, (C 21)]), oN (.st 5 S1 T0)]
def c44s5 : SCode := (.seq (.ops c44r4) .ret)
@[go_sem] theorem c44s5eq : U c44s5 (.seq (.ops c44r4) .ret) := fun _ _ _ _ _ => rfl
@[go_sem] def c44r6 : List GOp := [mT S0, oT (.call 42 [T0, (.c (.string ⟨⟨[102, 108, 97, 103]⟩⟩))]), mS 7 T0]
@[go_sem] def c44r7 : List GOp := [fT 0 S3, oN (.st 1 T0 (C 10))]
@[go_sem] def c44r8 : List GOp := [mT S0, oT (.call 42 [T0, (.c (.string ⟨⟨[114, 101, 103, 105, 115, 116, 101, 114]⟩⟩))]), mS 8 T0]
@[go_sem] def c44r9 : List GOp := [fT 0 S3, oN (.st 1 T0 (C 18))]
@[go_sem] def c44r10 : List GOp := [mT S0, oT (.call 42 [T0, (.c (.string ⟨⟨[115, 101, 116]⟩⟩))]), mS 9 T0]
@[go_sem] def c44r11 : List GOp := [mT S0, oT (.call 65 [T0]), fT 0 S3, oN (.st 1 T0 (C 13)), fT 4 S3, oN (.st 1 T0 T2)]
@[go_sem] def c44r12 : List GOp := [mT S0, oT (.call 42 [T0, (.c (.string ⟨⟨[102, 108, 97, 116]⟩⟩))]), mS 10 T0]
@[go_sem] def c44r13 : List GOp := [mT S0, oT (.call 65 [T0]), fT 0 S3, oN (.st 1 T0 (C 17)), fT 4 S3, oN (.st 1 T0 T2)]
@[go_sem] def c44r14 : List GOp := [mT S0, oT (.call 35 [T0, (.c (.string ⟨⟨[109, 97, 112]⟩⟩))]), mS 11 T0]
@[go_sem] def c44r15 : List GOp := [mT S0, oT (.call 37 [T0, (.c (.string ⟨⟨[109, 97, 112]⟩⟩))])]
@[go_sem] def c44r16 : List GOp := [mT S0, oT (.call 65 [T0]), fT 0 S3, oN (.st 1 T0 (C 14)), fT 4 S3, oN (.st 1 T0 T2)]
@[go_sem] def c44d17 : DT := (rf 4 S3 [5, 7] (rl T0 [5, 7] (rm S0 [3, 4, 5, 7] (.ef 3 none .t (.call 44 [T0]) (.ef 4 none .t (.bs 24 1 [(I 0), (.string ⟨⟨[]⟩⟩), (I 0), (I 0), Z] [(0, (5, T0))]) (.ef 5 none .t (.ap 22 22 T3 T0) (rf 4 S3 [7] (.ef 7 none .no (.st 1 T0 T1) .done))))))))
@[go_sem] def c44r18 : List GOp := [mT S0, oT (.call 39 [T0])]
def c44s19 : SCode := (.ops c44r18)
@[go_sem] theorem c44s19eq : U c44s19 (.ops c44r18) := fun _ _ _ _ _ => rfl
def c44s20 : SCode := (.seq (.de c44d17) c44s19)
@[go_sem] theorem c44s20eq : U c44s20 (.seq (.de c44d17) c44s19) := fun _ _ _ _ _ => rfl
def c44s21 : SCode := (.seq (.ops c44r16) c44s20)
@[go_sem] theorem c44s21eq : U c44s21 (.seq (.ops c44r16) c44s20) := fun _ _ _ _ _ => rfl
def c44s22 : SCode := (.seq (.ops c44r15) c44s21)
@[go_sem] theorem c44s22eq : U c44s22 (.seq (.ops c44r15) c44s21) := fun _ _ _ _ _ => rfl
@[go_sem] def c44r23 : List GOp := [mT S0, oT (.call 42 [T0, (.c (.string ⟨⟨[109, 97, 120]⟩⟩))]), mS 12 T0]
@[go_sem] def c44r24 : List GOp := [mT S0, mT S0, oT (.v (.mkf 67 [T0] [])), oT (.call 66 [T2, T0]), fT 0 S3, oN (.st 1 T0 (C 11)), fT 4 S3, oN (.st 1 T0 T2)]
@[go_sem] def c44r25 : List GOp := [mT S0, oT (.call 42 [T0, (.c (.string ⟨⟨[109, 105, 110]⟩⟩))]), mS 13 T0]
@[go_sem] def c44r26 : List GOp := [mT S0, mT S0, oT (.v (.mkf 67 [T0] [])), oT (.call 66 [T2, T0]), fT 0 S3, oN (.st 1 T0 (C 12)), fT 4 S3, oN (.st 1 T0 T2)]
@[go_sem] def c44r27 : List GOp := [mT S0, oT (.call 35 [T0, (.c (.string ⟨⟨[108, 101, 120]⟩⟩))]), mS 14 T0]
@[go_sem] def c44r28 : List GOp := [mT S0, oT (.call 37 [T0, (.c (.string ⟨⟨[108, 101, 120]⟩⟩))])]
@[go_sem] def c44r29 : List GOp := [mT S0, mT S0, oT (.v (.mkf 44 [T0] [])), oT (.call 66 [T2, T0]), fT 0 S3, oN (.st 1 T0 (C 16)), fT 4 S3, oN (.st 1 T0 T2)]
@[go_sem] def c44r30 : List GOp := [mT S0, oT (.call 39 [T0])]
def c44s31 : SCode := (.ops c44r30)
@[go_sem] theorem c44s31eq : U c44s31 (.ops c44r30) := fun _ _ _ _ _ => rfl
def c44s32 : SCode := (.seq (.ops c44r29) c44s31)
@[go_sem] theorem c44s32eq : U c44s32 (.seq (.ops c44r29) c44s31) := fun _ _ _ _ _ => rfl
def c44s33 : SCode := (.seq (.ops c44r28) c44s32)
@[go_sem] theorem c44s33eq : U c44s33 (.seq (.ops c44r28) c44s32) := fun _ _ _ _ _ => rfl
@[go_sem] def c44r34 : List GOp := [mT S0, oT (.call 35 [T0, (.c (.string ⟨⟨[123]⟩⟩))]), mS 15 T0]
@[go_sem] def c44r35 : List GOp := [mT S0, oT (.call 37 [T0, (.c (.string ⟨⟨[123]⟩⟩))])]
@[go_sem] def c44r36 : List GOp := [fT 0 S3, oN (.st 1 T0 (C 15))]
@[go_sem] def c44r37 : List GOp := [mS 4 (.c (.bool true))]
@[go_sem] def c44r38 : List GOp := [mS 16 S4]
def c44s39 : SCode := (.cond S16 .skip (.exit 1))
@[go_sem] theorem c44s39eq : U c44s39 (.cond S16 .skip (.exit 1)) := fun _ _ _ _ _ => rfl
@[go_sem] def c44r40 : List GOp := [mT S0, oT (.call 47 [T0, (C 22)]), oS 5 (.al 24 [(I 0), (.string ⟨⟨[]⟩⟩), (I 0), (I 0), Z]), oN (.st 5 S5 T0)]
@[go_sem] def c44r41 : List GOp := [mT S0, oT (.call 38 [T0, (.c (.string ⟨⟨[58]⟩⟩))])]
@[go_sem] def c44r42 : List GOp := [mT S0, oT (.call 44 [T0]), oT (.bs 24 1 [(I 0), (.string ⟨⟨[]⟩⟩), (I 0), (I 0), Z] [(0, (5, T0))]), fT 4 S5, oN (.st 1 T0 T1)]
@[go_sem] def c44r43 : List GOp := [fT 4 S3, lT T0, oT (.ld (some 5) S5), oT (.bs 24 1 [(I 0), (.string ⟨⟨[]⟩⟩), (I 0), (I 0), Z] [(0, (5, T0))]), oT (.ap 22 22 T2 T0), fT 4 S3, oN (.st 1 T0 T1)]
def c44s44 : SCode := (.ops c44r43)
@[go_sem] theorem c44s44eq : U c44s44 (.ops c44r43) := fun _ _ _ _ _ => rfl
def c44s45 : SCode := (.seq (.ops c44r42) c44s44)
@[go_sem] theorem c44s45eq : U c44s45 (.seq (.ops c44r42) c44s44) := fun _ _ _ _ _ => rfl
def c44s46 : SCode := (.seq (.ops c44r41) c44s45)
@[go_sem] theorem c44s46eq : U c44s46 (.seq (.ops c44r41) c44s45) := fun _ _ _ _ _ => rfl
@[go_sem] def c44r47 : List GOp := [mT S0, oT (.call 42 [T0, (.c (.string ⟨⟨[44]⟩⟩))]), mS 4 T0]
def c44s48 : SCode := (.ops c44r47)
@[go_sem] theorem c44s48eq : U c44s48 (.ops c44r47) := fun _ _ _ _ _ => rfl
def c44s49 : SCode := (.seq (.block 2 (.seq (.ops c44r40) c44s46)) c44s48)
@[go_sem] theorem c44s49eq : U c44s49 (.seq (.block 2 (.seq (.ops c44r40) c44s46)) c44s48) := fun _ _ _ _ _ => rfl
def c44s50 : SCode := (.seq (.seq (.ops c44r38) c44s39) c44s49)
@[go_sem] theorem c44s50eq : U c44s50 (.seq (.seq (.ops c44r38) c44s39) c44s49) := fun _ _ _ _ _ => rfl
def c44s51 : SCode := (.block 1 (.loop c44k c44s50))
@[go_sem] theorem c44s51eq : U c44s51 (.block 1 (.loop c44k c44s50)) := fun _ _ _ _ _ => rfl
@[go_sem] def c44r52 : List GOp := [mT S0, oT (.call 38 [T0, (.c (.string ⟨⟨[125]⟩⟩))])]
@[go_sem] def c44r53 : List GOp := [mT S0, oT (.call 39 [T0])]
def c44s54 : SCode := (.ops c44r53)
@[go_sem] theorem c44s54eq : U c44s54 (.ops c44r53) := fun _ _ _ _ _ => rfl
def c44s55 : SCode := (.seq (.ops c44r52) c44s54)
@[go_sem] theorem c44s55eq : U c44s55 (.seq (.ops c44r52) c44s54) := fun _ _ _ _ _ => rfl
def c44s56 : SCode := (.seq (.seq (.ops c44r37) c44s51) c44s55)
@[go_sem] theorem c44s56eq : U c44s56 (.seq (.seq (.ops c44r37) c44s51) c44s55) := fun _ _ _ _ _ => rfl
def c44s57 : SCode := (.seq (.ops c44r36) c44s56)
@[go_sem] theorem c44s57eq : U c44s57 (.seq (.ops c44r36) c44s56) := fun _ _ _ _ _ => rfl
def c44s58 : SCode := (.seq (.ops c44r35) c44s57)
@[go_sem] theorem c44s58eq : U c44s58 (.seq (.ops c44r35) c44s57) := fun _ _ _ _ _ => rfl
@[go_sem] def c44r59 : List GOp := [mT S0, oT (.call 42 [T0, (.c (.string ⟨⟨[99, 108, 111, 115, 101, 100]⟩⟩))]), mS 17 T0]
@[go_sem] def c44r60 : List GOp := [mT S0, oT (.call 68 [T0]), fT 0 S3, oN (.st 1 T0 (C 19)), fT 4 S3, oN (.st 1 T0 T2)]
@[go_sem] def c44r61 : List GOp := [mT S0, oT (.call 34 [T0, (C 2)])]
def c44s62 : SCode := (.cond S17 (.ops c44r60) (.ops c44r61))
@[go_sem] theorem c44s62eq : U c44s62 (.cond S17 (.ops c44r60) (.ops c44r61)) := fun _ _ _ _ _ => rfl
def c44s63 : SCode := (.seq (.ops c44r59) c44s62)
@[go_sem] theorem c44s63eq : U c44s63 (.seq (.ops c44r59) c44s62) := fun _ _ _ _ _ => rfl
def c44s64 : SCode := (.cond S15 c44s58 c44s63)
@[go_sem] theorem c44s64eq : U c44s64 (.cond S15 c44s58 c44s63) := fun _ _ _ _ _ => rfl
def c44s65 : SCode := (.seq (.ops c44r34) c44s64)
@[go_sem] theorem c44s65eq : U c44s65 (.seq (.ops c44r34) c44s64) := fun _ _ _ _ _ => rfl
def c44s66 : SCode := (.cond S14 c44s33 c44s65)
@[go_sem] theorem c44s66eq : U c44s66 (.cond S14 c44s33 c44s65) := fun _ _ _ _ _ => rfl
def c44s67 : SCode := (.seq (.ops c44r27) c44s66)
@[go_sem] theorem c44s67eq : U c44s67 (.seq (.ops c44r27) c44s66) := fun _ _ _ _ _ => rfl
def c44s68 : SCode := (.cond S13 (.ops c44r26) c44s67)
@[go_sem] theorem c44s68eq : U c44s68 (.cond S13 (.ops c44r26) c44s67) := fun _ _ _ _ _ => rfl
def c44s69 : SCode := (.seq (.ops c44r25) c44s68)
@[go_sem] theorem c44s69eq : U c44s69 (.seq (.ops c44r25) c44s68) := fun _ _ _ _ _ => rfl
def c44s70 : SCode := (.cond S12 (.ops c44r24) c44s69)
@[go_sem] theorem c44s70eq : U c44s70 (.cond S12 (.ops c44r24) c44s69) := fun _ _ _ _ _ => rfl
def c44s71 : SCode := (.seq (.ops c44r23) c44s70)
@[go_sem] theorem c44s71eq : U c44s71 (.seq (.ops c44r23) c44s70) := fun _ _ _ _ _ => rfl
def c44s72 : SCode := (.cond S11 c44s22 c44s71)
@[go_sem] theorem c44s72eq : U c44s72 (.cond S11 c44s22 c44s71) := fun _ _ _ _ _ => rfl
def c44s73 : SCode := (.seq (.ops c44r14) c44s72)
@[go_sem] theorem c44s73eq : U c44s73 (.seq (.ops c44r14) c44s72) := fun _ _ _ _ _ => rfl
def c44s74 : SCode := (.cond S10 (.ops c44r13) c44s73)
@[go_sem] theorem c44s74eq : U c44s74 (.cond S10 (.ops c44r13) c44s73) := fun _ _ _ _ _ => rfl
def c44s75 : SCode := (.seq (.ops c44r12) c44s74)
@[go_sem] theorem c44s75eq : U c44s75 (.seq (.ops c44r12) c44s74) := fun _ _ _ _ _ => rfl
def c44s76 : SCode := (.cond S9 (.ops c44r11) c44s75)
@[go_sem] theorem c44s76eq : U c44s76 (.cond S9 (.ops c44r11) c44s75) := fun _ _ _ _ _ => rfl
def c44s77 : SCode := (.seq (.ops c44r10) c44s76)
@[go_sem] theorem c44s77eq : U c44s77 (.seq (.ops c44r10) c44s76) := fun _ _ _ _ _ => rfl
def c44s78 : SCode := (.cond S8 (.ops c44r9) c44s77)
@[go_sem] theorem c44s78eq : U c44s78 (.cond S8 (.ops c44r9) c44s77) := fun _ _ _ _ _ => rfl
def c44s79 : SCode := (.seq (.ops c44r8) c44s78)
@[go_sem] theorem c44s79eq : U c44s79 (.seq (.ops c44r8) c44s78) := fun _ _ _ _ _ => rfl
def c44s80 : SCode := (.cond S7 (.ops c44r7) c44s79)
@[go_sem] theorem c44s80eq : U c44s80 (.cond S7 (.ops c44r7) c44s79) := fun _ _ _ _ _ => rfl
def c44s81 : SCode := (.seq (.ops c44r6) c44s80)
@[go_sem] theorem c44s81eq : U c44s81 (.seq (.ops c44r6) c44s80) := fun _ _ _ _ _ => rfl
@[go_sem] def c44r82 : List GOp := [oT (.ld (some 5) S3), oN (.st 5 S1 T0)]
def c44s83 : SCode := (.seq (.ops c44r82) .ret)
@[go_sem] theorem c44s83eq : U c44s83 (.seq (.ops c44r82) .ret) := fun _ _ _ _ _ => rfl
def c44s84 : SCode := (.seq (.block 0 (.seq (.ops c44r3) (.cond S6 c44s5 c44s81))) c44s83)
@[go_sem] theorem c44s84eq : U c44s84 (.seq (.block 0 (.seq (.ops c44r3) (.cond S6 c44s5 c44s81))) c44s83) := fun _ _ _ _ _ => rfl
def c44s85 : SCode := (.seq (.ops c44r2) c44s84)
@[go_sem] theorem c44s85eq : U c44s85 (.seq (.ops c44r2) c44s84) := fun _ _ _ _ _ => rfl
def c44s86 : SCode := (.seq (.ops c44r1) c44s85)
@[go_sem] theorem c44s86eq : U c44s86 (.seq (.ops c44r1) c44s85) := fun _ _ _ _ _ => rfl
def c44 : Gx.Fn := ⟨126, c44k, (.seq (.ops c44r0) c44s86), [(.cell S1 (some 5))]⟩
theorem c44ok : stripFn Tryd.prog c44k Tryd.f44 = some c44 := by kernel_rfl

/- (*parser.parser).comma -/
@[go_sem] def c45k : List Nat := [0, 2, 4]
@[go_sem] def c45r0 : List GOp := [mS 1 (.c (.bool false))]
@[go_sem] def c45r1 : List GOp := [mT S0, oS 2 (.call 42 [T0, (.c (.string ⟨⟨[44]⟩⟩))])]
@[go_sem] def c45r2 : List GOp := [mS 1 (.c (.bool true))]
def c45s3 : SCode := (.seq (.ops c45r2) .ret)
@[go_sem] theorem c45s3eq : U c45s3 (.seq (.ops c45r2) .ret) := fun _ _ _ _ _ => rfl
@[go_sem] def c45r4 : List GOp := [mT S0, oT (.call 38 [T0, (.c (.string ⟨⟨[41]⟩⟩))])]
@[go_sem] def c45r5 : List GOp := [mS 1 (.c (.bool false))]
def c45s6 : SCode := (.seq (.ops c45r5) .ret)
@[go_sem] theorem c45s6eq : U c45s6 (.seq (.ops c45r5) .ret) := fun _ _ _ _ _ => rfl
def c45s7 : SCode := (.seq (.ops c45r4) c45s6)
@[go_sem] theorem c45s7eq : U c45s7 (.seq (.ops c45r4) c45s6) := fun _ _ _ _ _ => rfl
def c45s8 : SCode := (.seq (.seq (.ops c45r1) (.cond S2 c45s3 .skip)) c45s7)
@[go_sem] theorem c45s8eq : U c45s8 (.seq (.seq (.ops c45r1) (.cond S2 c45s3 .skip)) c45s7) := fun _ _ _ _ _ => rfl
def c45 : Gx.Fn := ⟨7, c45k, (.seq (.ops c45r0) c45s8), [(.tmp S1)]⟩
theorem c45ok : stripFn Tryd.prog c45k Tryd.f45 = some c45 := by kernel_rfl

/- (*parser.parser).param -/
@[go_sem] def c46k : List Nat := [0, 2, 3]
@[go_sem] def c46r0 : List GOp := [oS 1 (.al 24 [(I 0), (.string ⟨⟨[]⟩⟩), (I 0), (I 0), Z])]
@[go_sem] def c46r1 : List GOp := [mT S0, oT (.call 47 [T0, (C 6)]), oS 2 (.al 24 [(I 0), (.string ⟨⟨[]⟩⟩), (I 0), (I 0), Z]), oN (.st 5 S2 T0)]
@[go_sem] def c46r2 : List GOp := [mT S0, oT (.call 38 [T0, (.c (.string ⟨⟨[58]⟩⟩))])]
@[go_sem] def c46r3 : List GOp := [mT S0, oT (.call 48 [T0]), fT 2 S2, oN (.st 1 T0 T1)]
@[go_sem] def c46r4 : List GOp := [oT (.ld (some 5) S2), oN (.st 5 S1 T0)]
def c46s5 : SCode := (.seq (.ops c46r4) .ret)
@[go_sem] theorem c46s5eq : U c46s5 (.seq (.ops c46r4) .ret) := fun _ _ _ _ _ => rfl
def c46s6 : SCode := (.seq (.ops c46r3) c46s5)
@[go_sem] theorem c46s6eq : U c46s6 (.seq (.ops c46r3) c46s5) := fun _ _ _ _ _ => rfl
def c46s7 : SCode := (.seq (.ops c46r2) c46s6)
@[go_sem] theorem c46s7eq : U c46s7 (.seq (.ops c46r2) c46s6) := fun _ _ _ _ _ => rfl
def c46s8 : SCode := (.seq (.ops c46r1) c46s7)
@[go_sem] theorem c46s8eq : U c46s8 (.seq (.ops c46r1) c46s7) := fun _ _ _ _ _ => rfl
def c46 : Gx.Fn := ⟨12, c46k, (.seq (.ops c46r0) c46s8), [(.cell S1 (some 5))]⟩
theorem c46ok : stripFn Tryd.prog c46k Tryd.f46 = some c46 := by kernel_rfl

/- (*parser.parser).named -/
@[go_sem] def c47k : List Nat := [0, 1, 4, 5]
@[go_sem] def c47r0 : List GOp := [oS 2 (.al 24 [(I 0), (.string ⟨⟨[]⟩⟩), (I 0), (I 0), Z])]
@[go_sem] def c47r1 : List GOp := [mT S0, oT (.call 43 [T0, (C 1)]), oS 3 (.al 39 [(I 0), (.string ⟨⟨[]⟩⟩), (I 0), (I 0)]), oN (.st 4 S3 T0)]
@[go_sem] def c47r2 : List GOp := [mT S1, fT 1 S3, lT T0, fT 3 S3, lT T0, oT (.v (.bld [(I 0), (.string ⟨⟨[]⟩⟩), (I 0), (I 0), Z] [(0, (1, T4)), (1, (1, T2)), (3, (1, T0))])), oN (.st 5 S2 T0)]
def c47s3 : SCode := (.seq (.ops c47r2) .ret)
@[go_sem] theorem c47s3eq : U c47s3 (.seq (.ops c47r2) .ret) := fun _ _ _ _ _ => rfl
def c47s4 : SCode := (.seq (.ops c47r1) c47s3)
@[go_sem] theorem c47s4eq : U c47s4 (.seq (.ops c47r1) c47s3) := fun _ _ _ _ _ => rfl
def c47 : Gx.Fn := ⟨14, c47k, (.seq (.ops c47r0) c47s4), [(.cell S2 (some 5))]⟩
theorem c47ok : stripFn Tryd.prog c47k Tryd.f47 = some c47 := by kernel_rfl

/- (*parser.parser).sort -/
@[go_sem] def c48k : List Nat := [0, 2, 3, 4, 5, 6, 7, 8, 14]
@[go_sem] def c48r0 : List GOp := [mS 1 (C 0)]
@[go_sem] def c48r1 : List GOp := [oS 4 (.bs 9 4 [(.string ⟨⟨[]⟩⟩), (.string ⟨⟨[]⟩⟩), (.string ⟨⟨[]⟩⟩), (.string ⟨⟨[]⟩⟩)] [(0, (1, (.c (.string ⟨⟨[105, 110, 116]⟩⟩)))), (1, (1, (.c (.string ⟨⟨[98, 111, 111, 108]⟩⟩)))), (2, (1, (.c (.string ⟨⟨[110, 97, 109, 101]⟩⟩)))), (3, (1, (.c (.string ⟨⟨[110, 97, 109, 101, 115]⟩⟩))))]), oS 5 (.v (.len S4)), mS 6 (C 0)]
@[go_sem] def c48r2 : List GOp := [oS 7 (.v (.bin .lss S6 S5))]
@[go_sem] def c48r3 : List GOp := [mT S6, oT (.v (.ix 1 S4 S6)), lT T0, mS 2 T2, mS 3 T0]
@[go_sem] def c48r4 : List GOp := [mT S0, mT S3, oS 8 (.call 42 [T1, T0])]
@[go_sem] def c48r5 : List GOp := [mT S2, oT (.v (.bin .add T0 (C 1))), mS 1 T0]
def c48s6 : SCode := (.seq (.ops c48r5) .ret)
@[go_sem] theorem c48s6eq : U c48s6 (.seq (.ops c48r5) .ret) := fun _ _ _ _ _ => rfl
def c48s7 : SCode := (.seq (.ops c48r4) (.cond S8 c48s6 .skip))
@[go_sem] theorem c48s7eq : U c48s7 (.seq (.ops c48r4) (.cond S8 c48s6 .skip)) := fun _ _ _ _ _ => rfl
@[go_sem] def c48r8 : List GOp := [oT (.v (.bin .add S6 (C 1))), mS 6 T0]
def c48s9 : SCode := (.ops c48r8)
@[go_sem] theorem c48s9eq : U c48s9 (.ops c48r8) := fun _ _ _ _ _ => rfl
def c48s10 : SCode := (.seq (.block 1 (.seq (.ops c48r3) c48s7)) c48s9)
@[go_sem] theorem c48s10eq : U c48s10 (.seq (.block 1 (.seq (.ops c48r3) c48s7)) c48s9) := fun _ _ _ _ _ => rfl
def c48s11 : SCode := (.seq (.cond S7 .skip (.exit 0)) c48s10)
@[go_sem] theorem c48s11eq : U c48s11 (.seq (.cond S7 .skip (.exit 0)) c48s10) := fun _ _ _ _ _ => rfl
def c48s12 : SCode := (.seq (.ops c48r2) c48s11)
@[go_sem] theorem c48s12eq : U c48s12 (.seq (.ops c48r2) c48s11) := fun _ _ _ _ _ => rfl
def c48s13 : SCode := (.block 0 (.loop c48k c48s12))
@[go_sem] theorem c48s13eq : U c48s13 (.block 0 (.loop c48k c48s12)) := fun _ _ _ _ _ => rfl
@[go_sem] def c48r14 : List GOp := [mT S0, oT (.call 34 [T0, (C 2)])]
@[go_sem] def c48r15 : List GOp := [mS 1 (C 0)]
def c48s16 : SCode := (.seq (.ops c48r15) .ret)
@[go_sem] theorem c48s16eq : U c48s16 (.seq (.ops c48r15) .ret) := fun _ _ _ _ _ => rfl
def c48s17 : SCode := (.seq (.ops c48r14) c48s16)
@[go_sem] theorem c48s17eq : U c48s17 (.seq (.ops c48r14) c48s16) := fun _ _ _ _ _ => rfl
def c48s18 : SCode := (.seq (.seq (.ops c48r1) c48s13) c48s17)
@[go_sem] theorem c48s18eq : U c48s18 (.seq (.seq (.ops c48r1) c48s13) c48s17) := fun _ _ _ _ _ => rfl
def c48 : Gx.Fn := ⟨20, c48k, (.seq (.ops c48r0) c48s18), [(.tmp S1)]⟩
theorem c48ok : stripFn Tryd.prog c48k Tryd.f48 = some c48 := by kernel_rfl

/- (*parser.parser).chain -/
@[go_sem] def c56k : List Nat := [0, 1, 2, 6, 7, 8, 9, 26]
@[go_sem] def c56r0 : List GOp := [oS 3 (.al 24 [(I 0), (.string ⟨⟨[]⟩⟩), (I 0), (I 0), Z])]
@[go_sem] def c56r1 : List GOp := [mT S1, oT (.cv T0 []), oS 4 (.al 24 [(I 0), (.string ⟨⟨[]⟩⟩), (I 0), (I 0), Z]), oN (.st 5 S4 T0)]
@[go_sem] def c56r2 : List GOp := [mT S0, oT (.call 29 [T0]), oS 5 (.al 39 [(I 0), (.string ⟨⟨[]⟩⟩), (I 0), (I 0)]), oN (.st 4 S5 T0)]
@[go_sem] def c56r3 : List GOp := [mT S2, fT 1 S5, lT T0, oT (.lkp (I 0) T2 T0), mS 6 T0]
@[go_sem] def c56r4 : List GOp := [mT S6, oT (.v (.bin .eql T0 (C 0))), mT T0, (.op (some (T0, (false, true))) .t (.v (.mv S0))), (.op (some (T1, (false, false))) .t (.v (.fa 1 S5))), (.op (some (T2, (false, false))) .t (.ld none T0)), (.op (some (T3, (false, false))) .t (.call 42 [T2, T0])), (.op (some (T4, (false, false))) .t (.v (.un .not T0))), oS 7 (.v (.pick T5 (.c (.bool true)) T0))]
@[go_sem] def c56r5 : List GOp := [oT (.ld (some 5) S4), oN (.st 5 S3 T0)]
def c56s6 : SCode := (.seq (.ops c56r5) .ret)
@[go_sem] theorem c56s6eq : U c56s6 (.seq (.ops c56r5) .ret) := fun _ _ _ _ _ => rfl
@[go_sem] def c56d7 : DT := (rm S6 [8] (rf 3 S5 [8] (rl T0 [8] (.rd none .t (.ld (some 5) S4) [6, 8] (rm S1 [5, 6, 8] (.ef 5 none .t (.cv T0 []) (.ef 6 none .t (.bs 24 2 [(I 0), (.string ⟨⟨[]⟩⟩), (I 0), (I 0), Z, (I 0), (.string ⟨⟨[]⟩⟩), (I 0), (I 0), Z] [(0, (5, T2)), (5, (5, T0))]) (.rd none .t (.v (.bld [(I 0), (.string ⟨⟨[]⟩⟩), (I 0), (I 0), Z] [(0, (1, T6)), (3, (1, T4)), (4, (1, T0))])) [8] (.ef 8 none .no (.st 5 S4 T0) .done)))))))))
def c56s8 : SCode := (.de c56d7)
@[go_sem] theorem c56s8eq : U c56s8 (.de c56d7) := fun _ _ _ _ _ => rfl
def c56s9 : SCode := (.seq (.seq (.ops c56r4) (.cond S7 c56s6 .skip)) c56s8)
@[go_sem] theorem c56s9eq : U c56s9 (.seq (.seq (.ops c56r4) (.cond S7 c56s6 .skip)) c56s8) := fun _ _ _ _ _ => rfl
def c56s10 : SCode := (.seq (.ops c56r3) c56s9)
@[go_sem] theorem c56s10eq : U c56s10 (.seq (.ops c56r3) c56s9) := fun _ _ _ _ _ => rfl
def c56s11 : SCode := (.block 1 (.seq (.ops c56r2) c56s10))
@[go_sem] theorem c56s11eq : U c56s11 (.block 1 (.seq (.ops c56r2) c56s10)) := fun _ _ _ _ _ => rfl
def c56s12 : SCode := (.block 0 (.loop c56k c56s11))
@[go_sem] theorem c56s12eq : U c56s12 (.block 0 (.loop c56k c56s11)) := fun _ _ _ _ _ => rfl
def c56s13 : SCode := (.seq (.ops c56r1) c56s12)
@[go_sem] theorem c56s13eq : U c56s13 (.seq (.ops c56r1) c56s12) := fun _ _ _ _ _ => rfl
def c56 : Gx.Fn := ⟨36, c56k, (.seq (.ops c56r0) c56s13), [(.cell S3 (some 5))]⟩
theorem c56ok : stripFn Tryd.prog c56k Tryd.f56 = some c56 := by kernel_rfl

/- (*parser.parser).and -/
@[go_sem] def c57k : List Nat := [0, 2]
@[go_sem] def c57r0 : List GOp := [oS 1 (.al 24 [(I 0), (.string ⟨⟨[]⟩⟩), (I 0), (I 0), Z])]
@[go_sem] def c57r1 : List GOp := [mT S0, mT S0, oT (.v (.mkf 74 [T0] [])), oT .mm, oN (.ins T0 (.c (.string ⟨⟨[97, 110, 100]⟩⟩)) (C 32)), mT T0, oT (.call 56 [T4, T2, T0]), oN (.st 5 S1 T0)]
def c57s2 : SCode := (.seq (.ops c57r1) .ret)
@[go_sem] theorem c57s2eq : U c57s2 (.seq (.ops c57r1) .ret) := fun _ _ _ _ _ => rfl
def c57 : Gx.Fn := ⟨9, c57k, (.seq (.ops c57r0) c57s2), [(.cell S1 (some 5))]⟩
theorem c57ok : stripFn Tryd.prog c57k Tryd.f57 = some c57 := by kernel_rfl

/- (*parser.parser).allowed -/
@[go_sem] def c65k : List Nat := [0, 2, 3, 6]
@[go_sem] def c65r0 : List GOp := [mS 1 (.c Z)]
@[go_sem] def c65r1 : List GOp := [mT S0, oT (.call 42 [T0, (.c (.string ⟨⟨[40]⟩⟩))]), oS 3 (.v (.un .not T0))]
@[go_sem] def c65r2 : List GOp := [mS 1 (.c Z)]
def c65s3 : SCode := (.seq (.ops c65r2) .ret)
@[go_sem] theorem c65s3eq : U c65s3 (.seq (.ops c65r2) .ret) := fun _ _ _ _ _ => rfl
@[go_sem] def c65r4 : List GOp := [mT S0, oT (.call 77 [T0]), mS 2 T0]
@[go_sem] def c65r5 : List GOp := [mT S0, oT (.call 38 [T0, (.c (.string ⟨⟨[41]⟩⟩))])]
@[go_sem] def c65r6 : List GOp := [mT S2, mS 1 T0]
def c65s7 : SCode := (.seq (.ops c65r6) .ret)
@[go_sem] theorem c65s7eq : U c65s7 (.seq (.ops c65r6) .ret) := fun _ _ _ _ _ => rfl
def c65s8 : SCode := (.seq (.ops c65r5) c65s7)
@[go_sem] theorem c65s8eq : U c65s8 (.seq (.ops c65r5) c65s7) := fun _ _ _ _ _ => rfl
def c65s9 : SCode := (.seq (.ops c65r4) c65s8)
@[go_sem] theorem c65s9eq : U c65s9 (.seq (.ops c65r4) c65s8) := fun _ _ _ _ _ => rfl
def c65s10 : SCode := (.seq (.seq (.ops c65r1) (.cond S3 c65s3 .skip)) c65s9)
@[go_sem] theorem c65s10eq : U c65s10 (.seq (.seq (.ops c65r1) (.cond S3 c65s3 .skip)) c65s9) := fun _ _ _ _ _ => rfl
def c65 : Gx.Fn := ⟨12, c65k, (.seq (.ops c65r0) c65s10), [(.tmp S1)]⟩
theorem c65ok : stripFn Tryd.prog c65k Tryd.f65 = some c65 := by kernel_rfl

/- (*parser.parser).two -/
@[go_sem] def c66k : List Nat := [0, 1, 4, 5, 6]
@[go_sem] def c66r0 : List GOp := [mS 2 (.c Z)]
@[go_sem] def c66r1 : List GOp := [mT S0, oT (.call 38 [T0, (.c (.string ⟨⟨[40]⟩⟩))])]
@[go_sem] def c66r2 : List GOp := [mT S1, oT (.cv T0 []), oS 3 (.al 24 [(I 0), (.string ⟨⟨[]⟩⟩), (I 0), (I 0), Z]), oN (.st 5 S3 T0)]
@[go_sem] def c66r3 : List GOp := [mT S0, oT (.call 38 [T0, (.c (.string ⟨⟨[44]⟩⟩))])]
@[go_sem] def c66r4 : List GOp := [mT S1, oT (.cv T0 []), oS 4 (.al 24 [(I 0), (.string ⟨⟨[]⟩⟩), (I 0), (I 0), Z]), oN (.st 5 S4 T0)]
@[go_sem] def c66r5 : List GOp := [mT S0, oT (.call 38 [T0, (.c (.string ⟨⟨[41]⟩⟩))])]
@[go_sem] def c66r6 : List GOp := [oT (.ld (some 5) S3), oT (.ld (some 5) S4), oT (.bs 24 2 [(I 0), (.string ⟨⟨[]⟩⟩), (I 0), (I 0), Z, (I 0), (.string ⟨⟨[]⟩⟩), (I 0), (I 0), Z] [(0, (5, T1)), (5, (5, T0))]), mS 2 T0]
def c66s7 : SCode := (.seq (.ops c66r6) .ret)
@[go_sem] theorem c66s7eq : U c66s7 (.seq (.ops c66r6) .ret) := fun _ _ _ _ _ => rfl
def c66s8 : SCode := (.seq (.ops c66r5) c66s7)
@[go_sem] theorem c66s8eq : U c66s8 (.seq (.ops c66r5) c66s7) := fun _ _ _ _ _ => rfl
def c66s9 : SCode := (.seq (.ops c66r4) c66s8)
@[go_sem] theorem c66s9eq : U c66s9 (.seq (.ops c66r4) c66s8) := fun _ _ _ _ _ => rfl
def c66s10 : SCode := (.seq (.ops c66r3) c66s9)
@[go_sem] theorem c66s10eq : U c66s10 (.seq (.ops c66r3) c66s9) := fun _ _ _ _ _ => rfl
def c66s11 : SCode := (.seq (.ops c66r2) c66s10)
@[go_sem] theorem c66s11eq : U c66s11 (.seq (.ops c66r2) c66s10) := fun _ _ _ _ _ => rfl
def c66s12 : SCode := (.seq (.ops c66r1) c66s11)
@[go_sem] theorem c66s12eq : U c66s12 (.seq (.ops c66r1) c66s11) := fun _ _ _ _ _ => rfl
def c66 : Gx.Fn := ⟨20, c66k, (.seq (.ops c66r0) c66s12), [(.tmp S2)]⟩
theorem c66ok : stripFn Tryd.prog c66k Tryd.f66 = some c66 := by kernel_rfl

/- (*parser.parser).integer -/
@[go_sem] def c67k : List Nat := [0, 2, 3, 9]
@[go_sem] def c67r0 : List GOp := [oS 1 (.al 24 [(I 0), (.string ⟨⟨[]⟩⟩), (I 0), (I 0), Z])]
@[go_sem] def c67r1 : List GOp := [mT S0, oT (.call 29 [T0]), oT (.v (.fld1 3 T0)), oT (.v (.bld [(I 0), (.string ⟨⟨[]⟩⟩), (I 0), (I 0), Z] [(0, (1, (C 44))), (3, (1, T0))])), oS 2 (.al 24 [(I 0), (.string ⟨⟨[]⟩⟩), (I 0), (I 0), Z]), oN (.st 5 S2 T0)]
@[go_sem] def c67r2 : List GOp := [mT S0, oS 3 (.call 42 [T0, (.c (.string ⟨⟨[45]⟩⟩))])]
@[go_sem] def c67r3 : List GOp := [mT S0, oT (.call 43 [T0, (C 3)]), oT (.v (.fld1 2 T0)), oT (.v (.un .neg T0)), fT 2 S2, oN (.st 1 T0 T1)]
@[go_sem] def c67r4 : List GOp := [oT (.ld (some 5) S2), oN (.st 5 S1 T0)]
def c67s5 : SCode := (.seq (.ops c67r4) .ret)
@[go_sem] theorem c67s5eq : U c67s5 (.seq (.ops c67r4) .ret) := fun _ _ _ _ _ => rfl
def c67s6 : SCode := (.seq (.ops c67r3) c67s5)
@[go_sem] theorem c67s6eq : U c67s6 (.seq (.ops c67r3) c67s5) := fun _ _ _ _ _ => rfl
@[go_sem] def c67r7 : List GOp := [mT S0, oT (.call 43 [T0, (C 3)]), oT (.v (.fld1 2 T0)), fT 2 S2, oN (.st 1 T0 T1)]
@[go_sem] def c67r8 : List GOp := [oT (.ld (some 5) S2), oN (.st 5 S1 T0)]
def c67s9 : SCode := (.seq (.ops c67r8) .ret)
@[go_sem] theorem c67s9eq : U c67s9 (.seq (.ops c67r8) .ret) := fun _ _ _ _ _ => rfl
def c67s10 : SCode := (.seq (.ops c67r7) c67s9)
@[go_sem] theorem c67s10eq : U c67s10 (.seq (.ops c67r7) c67s9) := fun _ _ _ _ _ => rfl
def c67s11 : SCode := (.seq (.seq (.ops c67r2) (.cond S3 c67s6 .skip)) c67s10)
@[go_sem] theorem c67s11eq : U c67s11 (.seq (.seq (.ops c67r2) (.cond S3 c67s6 .skip)) c67s10) := fun _ _ _ _ _ => rfl
def c67s12 : SCode := (.seq (.ops c67r1) c67s11)
@[go_sem] theorem c67s12eq : U c67s12 (.seq (.ops c67r1) c67s11) := fun _ _ _ _ _ => rfl
def c67 : Gx.Fn := ⟨21, c67k, (.seq (.ops c67r0) c67s12), [(.cell S1 (some 5))]⟩
theorem c67ok : stripFn Tryd.prog c67k Tryd.f67 = some c67 := by kernel_rfl

/- (*parser.parser).closed -/
@[go_sem] def c68k : List Nat := [0, 2, 3, 4, 10, 14, 22]
@[go_sem] def c68r0 : List GOp := [mS 1 (.c Z)]
@[go_sem] def c68r1 : List GOp := [mS 2 (.c Z)]
@[go_sem] def c68r2 : List GOp := [mT S0, oT (.call 38 [T0, (.c (.string ⟨⟨[40]⟩⟩))])]
@[go_sem] def c68r3 : List GOp := [mT S0, oT (.call 29 [T0]), oT (.v (.fld1 0 T0)), oS 4 (.v (.bin .eql T0 (C 4)))]
@[go_sem] def c68r4 : List GOp := [mT S0, oT (.call 77 [T0]), mS 2 T0]
def c68s5 : SCode := (.cond S4 (.ops c68r4) .skip)
@[go_sem] theorem c68s5eq : U c68s5 (.cond S4 (.ops c68r4) .skip) := fun _ _ _ _ _ => rfl
@[go_sem] def c68r6 : List GOp := [mT S0, oS 5 (.call 42 [T0, (.c (.string ⟨⟨[59]⟩⟩))])]
def c68s7 : SCode := (.cond S5 .skip (.exit 0))
@[go_sem] theorem c68s7eq : U c68s7 (.cond S5 .skip (.exit 0)) := fun _ _ _ _ _ => rfl
@[go_sem] def c68r8 : List GOp := [mT S0, oT (.call 29 [T0]), oT (.v (.fld1 3 T0)), oT (.v (.bld [(I 0), (.string ⟨⟨[]⟩⟩), (I 0), (I 0), Z] [(0, (1, (C 20))), (3, (1, T0))])), oS 3 (.al 24 [(I 0), (.string ⟨⟨[]⟩⟩), (I 0), (I 0), Z]), oN (.st 5 S3 T0)]
@[go_sem] def c68r9 : List GOp := [mT S0, oT (.call 29 [T0]), oT (.v (.fld1 0 T0)), oS 6 (.v (.bin .eql T0 (C 4)))]
@[go_sem] def c68r10 : List GOp := [mT S0, oT (.call 77 [T0]), fT 4 S3, oN (.st 1 T0 T1)]
def c68s11 : SCode := (.cond S6 (.ops c68r10) .skip)
@[go_sem] theorem c68s11eq : U c68s11 (.cond S6 (.ops c68r10) .skip) := fun _ _ _ _ _ => rfl
@[go_sem] def c68r12 : List GOp := [mT S0, oT (.call 38 [T0, (.c (.string ⟨⟨[61, 62]⟩⟩))])]
@[go_sem] def c68d13 : DT := (rf 4 S3 [5, 7] (rl T0 [5, 7] (rm S0 [3, 4, 5, 7] (.ef 3 none .t (.call 78 [T0]) (.ef 4 none .t (.bs 24 1 [(I 0), (.string ⟨⟨[]⟩⟩), (I 0), (I 0), Z] [(0, (5, T0))]) (.ef 5 none .t (.ap 22 22 T3 T0) (rf 4 S3 [7] (.ef 7 none .no (.st 1 T0 T1) .done))))))))
@[go_sem] def c68r14 : List GOp := [mT S2, oT (.ld (some 5) S3), oT (.bs 24 1 [(I 0), (.string ⟨⟨[]⟩⟩), (I 0), (I 0), Z] [(0, (5, T0))]), oT (.ap 22 22 T2 T0), mS 2 T0]
def c68s15 : SCode := (.ops c68r14)
@[go_sem] theorem c68s15eq : U c68s15 (.ops c68r14) := fun _ _ _ _ _ => rfl
def c68s16 : SCode := (.seq (.de c68d13) c68s15)
@[go_sem] theorem c68s16eq : U c68s16 (.seq (.de c68d13) c68s15) := fun _ _ _ _ _ => rfl
def c68s17 : SCode := (.seq (.ops c68r12) c68s16)
theorem c68s17eq : U c68s17 (.seq (.ops c68r12) c68s16) := fun _ _ _ _ _ => rfl
def c68s18 : SCode := (.seq (.seq (.ops c68r9) c68s11) c68s17)
@[go_sem] theorem c68s18eq : U c68s18 (.seq (.seq (.ops c68r9) c68s11) c68s17) := fun _ _ _ _ _ => rfl
def c68s19 : SCode := (.block 1 (.seq (.ops c68r8) c68s18))
@[go_sem] theorem c68s19eq : U c68s19 (.block 1 (.seq (.ops c68r8) c68s18)) := fun _ _ _ _ _ => rfl
def c68s20 : SCode := (.seq (.seq (.ops c68r6) c68s7) c68s19)
@[go_sem] theorem c68s20eq : U c68s20 (.seq (.seq (.ops c68r6) c68s7) c68s19) := fun _ _ _ _ _ => rfl
@[go_sem] def c68r21 : List GOp := [mT S0, oT (.call 38 [T0, (.c (.string ⟨⟨[41]⟩⟩))])]
@[go_sem] def c68r22 : List GOp := [mT S2, mS 1 T0]
def c68s23 : SCode := (.seq (.ops c68r22) .ret)
@[go_sem] theorem c68s23eq : U c68s23 (.seq (.ops c68r22) .ret) := fun _ _ _ _ _ => rfl
def c68s24 : SCode := (.seq (.ops c68r21) c68s23)
@[go_sem] theorem c68s24eq : U c68s24 (.seq (.ops c68r21) c68s23) := fun _ _ _ _ _ => rfl
def c68s25 : SCode := (.seq (.block 0 (.loop c68k c68s20)) c68s24)
theorem c68s25eq : U c68s25 (.seq (.block 0 (.loop c68k c68s20)) c68s24) := fun _ _ _ _ _ => rfl
def c68s26 : SCode := (.seq (.seq (.ops c68r3) c68s5) c68s25)
@[go_sem] theorem c68s26eq : U c68s26 (.seq (.seq (.ops c68r3) c68s5) c68s25) := fun _ _ _ _ _ => rfl
def c68s27 : SCode := (.seq (.ops c68r2) c68s26)
@[go_sem] theorem c68s27eq : U c68s27 (.seq (.ops c68r2) c68s26) := fun _ _ _ _ _ => rfl
def c68s28 : SCode := (.seq (.ops c68r1) c68s27)
@[go_sem] theorem c68s28eq : U c68s28 (.seq (.ops c68r1) c68s27) := fun _ _ _ _ _ => rfl
def c68 : Gx.Fn := ⟨42, c68k, (.seq (.ops c68r0) c68s28), [(.tmp S1)]⟩
theorem c68ok : stripFn Tryd.prog c68k Tryd.f68 = some c68 := by kernel_rfl

/- (*parser.parser).not -/
@[go_sem] def c74k : List Nat := [0, 2, 3, 6]
@[go_sem] def c74r0 : List GOp := [oS 1 (.al 24 [(I 0), (.string ⟨⟨[]⟩⟩), (I 0), (I 0), Z])]
@[go_sem] def c74r1 : List GOp := [mT S0, oT (.call 35 [T0, (.c (.string ⟨⟨[110, 111, 116]⟩⟩))]), oS 3 (.v (.un .not T0))]
@[go_sem] def c74r2 : List GOp := [mT S0, oT (.call 86 [T0]), oN (.st 5 S1 T0)]
def c74s3 : SCode := (.seq (.ops c74r2) .ret)
@[go_sem] theorem c74s3eq : U c74s3 (.seq (.ops c74r2) .ret) := fun _ _ _ _ _ => rfl
@[go_sem] def c74r4 : List GOp := [mT S0, oT (.call 37 [T0, (.c (.string ⟨⟨[110, 111, 116]⟩⟩))]), oT (.v (.bld [(I 0), (.string ⟨⟨[]⟩⟩), (I 0), (I 0), Z] [(0, (1, (C 33))), (3, (1, T0))])), oS 2 (.al 24 [(I 0), (.string ⟨⟨[]⟩⟩), (I 0), (I 0), Z]), oN (.st 5 S2 T0)]
@[go_sem] def c74r5 : List GOp := [mT S0, oT (.call 74 [T0]), oT (.bs 24 1 [(I 0), (.string ⟨⟨[]⟩⟩), (I 0), (I 0), Z] [(0, (5, T0))]), fT 4 S2, oN (.st 1 T0 T1)]
@[go_sem] def c74r6 : List GOp := [mT S0, oT (.call 39 [T0])]
@[go_sem] def c74r7 : List GOp := [oT (.ld (some 5) S2), oN (.st 5 S1 T0)]
def c74s8 : SCode := (.seq (.ops c74r7) .ret)
@[go_sem] theorem c74s8eq : U c74s8 (.seq (.ops c74r7) .ret) := fun _ _ _ _ _ => rfl
def c74s9 : SCode := (.seq (.ops c74r6) c74s8)
@[go_sem] theorem c74s9eq : U c74s9 (.seq (.ops c74r6) c74s8) := fun _ _ _ _ _ => rfl
def c74s10 : SCode := (.seq (.ops c74r5) c74s9)
@[go_sem] theorem c74s10eq : U c74s10 (.seq (.ops c74r5) c74s9) := fun _ _ _ _ _ => rfl
def c74s11 : SCode := (.seq (.ops c74r4) c74s10)
@[go_sem] theorem c74s11eq : U c74s11 (.seq (.ops c74r4) c74s10) := fun _ _ _ _ _ => rfl
def c74s12 : SCode := (.seq (.seq (.ops c74r1) (.cond S3 c74s3 .skip)) c74s11)
@[go_sem] theorem c74s12eq : U c74s12 (.seq (.seq (.ops c74r1) (.cond S3 c74s3 .skip)) c74s11) := fun _ _ _ _ _ => rfl
def c74 : Gx.Fn := ⟨19, c74k, (.seq (.ops c74r0) c74s12), [(.cell S1 (some 5))]⟩
theorem c74ok : stripFn Tryd.prog c74k Tryd.f74 = some c74 := by kernel_rfl

/- (*parser.parser).quotes -/
@[go_sem] def c77k : List Nat := [0, 2, 3, 8]
@[go_sem] def c77r0 : List GOp := [mS 1 (.c Z)]
@[go_sem] def c77r1 : List GOp := [mT S0, oT (.call 78 [T0]), oT (.bs 24 1 [(I 0), (.string ⟨⟨[]⟩⟩), (I 0), (I 0), Z] [(0, (5, T0))]), mS 2 T0]
@[go_sem] def c77r2 : List GOp := [mT S0, oS 3 (.call 42 [T0, (.c (.string ⟨⟨[44]⟩⟩))])]
def c77s3 : SCode := (.cond S3 .skip (.exit 0))
@[go_sem] theorem c77s3eq : U c77s3 (.cond S3 .skip (.exit 0)) := fun _ _ _ _ _ => rfl
@[go_sem] def c77r4 : List GOp := [mT S2, mT S0, oT (.call 78 [T0]), oT (.bs 24 1 [(I 0), (.string ⟨⟨[]⟩⟩), (I 0), (I 0), Z] [(0, (5, T0))]), oT (.ap 22 22 T3 T0), mS 2 T0]
def c77s5 : SCode := (.seq (.seq (.ops c77r2) c77s3) (.block 1 (.ops c77r4)))
@[go_sem] theorem c77s5eq : U c77s5 (.seq (.seq (.ops c77r2) c77s3) (.block 1 (.ops c77r4))) := fun _ _ _ _ _ => rfl
@[go_sem] def c77r6 : List GOp := [mT S2, mS 1 T0]
def c77s7 : SCode := (.seq (.ops c77r6) .ret)
@[go_sem] theorem c77s7eq : U c77s7 (.seq (.ops c77r6) .ret) := fun _ _ _ _ _ => rfl
def c77s8 : SCode := (.seq (.block 0 (.loop c77k c77s5)) c77s7)
@[go_sem] theorem c77s8eq : U c77s8 (.seq (.block 0 (.loop c77k c77s5)) c77s7) := fun _ _ _ _ _ => rfl
def c77s9 : SCode := (.seq (.ops c77r1) c77s8)
@[go_sem] theorem c77s9eq : U c77s9 (.seq (.ops c77r1) c77s8) := fun _ _ _ _ _ => rfl
def c77 : Gx.Fn := ⟨15, c77k, (.seq (.ops c77r0) c77s9), [(.tmp S1)]⟩
theorem c77ok : stripFn Tryd.prog c77k Tryd.f77 = some c77 := by kernel_rfl

/- (*parser.parser).quote -/
@[go_sem] def c78k : List Nat := [0, 2, 3]
@[go_sem] def c78r0 : List GOp := [oS 1 (.al 24 [(I 0), (.string ⟨⟨[]⟩⟩), (I 0), (I 0), Z])]
@[go_sem] def c78r1 : List GOp := [mT S0, oT (.call 43 [T0, (C 4)]), oS 2 (.al 39 [(I 0), (.string ⟨⟨[]⟩⟩), (I 0), (I 0)]), oN (.st 4 S2 T0)]
@[go_sem] def c78r2 : List GOp := [fT 1 S2, lT T0, fT 3 S2, lT T0, oT (.v (.bld [(I 0), (.string ⟨⟨[]⟩⟩), (I 0), (I 0), Z] [(0, (1, (C 47))), (1, (1, T2)), (3, (1, T0))])), oN (.st 5 S1 T0)]
def c78s3 : SCode := (.seq (.ops c78r2) .ret)
@[go_sem] theorem c78s3eq : U c78s3 (.seq (.ops c78r2) .ret) := fun _ _ _ _ _ => rfl
def c78s4 : SCode := (.seq (.ops c78r1) c78s3)
@[go_sem] theorem c78s4eq : U c78s4 (.seq (.ops c78r1) c78s3) := fun _ _ _ _ _ => rfl
def c78 : Gx.Fn := ⟨11, c78k, (.seq (.ops c78r0) c78s4), [(.cell S1 (some 5))]⟩
theorem c78ok : stripFn Tryd.prog c78k Tryd.f78 = some c78 := by kernel_rfl

/- (*parser.parser).comparison -/
@[go_sem] def c86k : List Nat := [0, 2, 3, 4, 5, 6, 24]
@[go_sem] def c86r0 : List GOp := [oS 1 (.al 24 [(I 0), (.string ⟨⟨[]⟩⟩), (I 0), (I 0), Z])]
@[go_sem] def c86r1 : List GOp := [mT S0, oT (.call 97 [T0]), oS 2 (.al 24 [(I 0), (.string ⟨⟨[]⟩⟩), (I 0), (I 0), Z]), oN (.st 5 S2 T0)]
@[go_sem] def c86r2 : List GOp := [oT .mm, oN (.ins T0 (.c (.string ⟨⟨[60, 61]⟩⟩)) (C 34)), oN (.ins T0 (.c (.string ⟨⟨[60]⟩⟩)) (C 35)), oN (.ins T0 (.c (.string ⟨⟨[61, 61]⟩⟩)) (C 36)), oN (.ins T0 (.c (.string ⟨⟨[105, 110]⟩⟩)) (C 37)), oN (.ins T0 (.c (.string ⟨⟨[108, 101, 113]⟩⟩)) (C 38)), mT T0, mS 3 T0]
@[go_sem] def c86r3 : List GOp := [mT S0, oT (.call 29 [T0]), oS 4 (.al 39 [(I 0), (.string ⟨⟨[]⟩⟩), (I 0), (I 0)]), oN (.st 4 S4 T0)]
@[go_sem] def c86r4 : List GOp := [mT S3, fT 1 S4, lT T0, oT (.lkp (I 0) T2 T0), mS 5 T0]
@[go_sem] def c86r5 : List GOp := [mT S5, oT (.v (.bin .neq T0 (C 0))), mT T0, (.op (some (T0, (true, true))) .t (.v (.mv S0))), (.op (some (T1, (true, false))) .t (.v (.fa 1 S4))), (.op (some (T2, (true, false))) .t (.ld none T0)), (.op (some (T3, (true, false))) .t (.call 42 [T2, T0])), oS 6 (.v (.pick T4 T0 (.c (.bool false))))]
@[go_sem] def c86d6 : DT := (rm S5 [8] (rf 3 S4 [8] (rl T0 [8] (.rd none .t (.ld (some 5) S2) [6, 8] (rm S0 [5, 6, 8] (.ef 5 none .t (.call 97 [T0]) (.ef 6 none .t (.bs 24 2 [(I 0), (.string ⟨⟨[]⟩⟩), (I 0), (I 0), Z, (I 0), (.string ⟨⟨[]⟩⟩), (I 0), (I 0), Z] [(0, (5, T2)), (5, (5, T0))]) (.rd none .t (.v (.bld [(I 0), (.string ⟨⟨[]⟩⟩), (I 0), (I 0), Z] [(0, (1, T6)), (3, (1, T4)), (4, (1, T0))])) [8] (.ef 8 none .no (.st 5 S1 T0) .done)))))))))
def c86s7 : SCode := (.cond S6 (.seq (.de c86d6) .ret) .skip)
@[go_sem] theorem c86s7eq : U c86s7 (.cond S6 (.seq (.de c86d6) .ret) .skip) := fun _ _ _ _ _ => rfl
def c86s8 : SCode := (.seq (.ops c86r5) c86s7)
@[go_sem] theorem c86s8eq : U c86s8 (.seq (.ops c86r5) c86s7) := fun _ _ _ _ _ => rfl
@[go_sem] def c86r9 : List GOp := [oT (.ld (some 5) S2), oN (.st 5 S1 T0)]
def c86s10 : SCode := (.seq (.ops c86r9) .ret)
@[go_sem] theorem c86s10eq : U c86s10 (.seq (.ops c86r9) .ret) := fun _ _ _ _ _ => rfl
def c86s11 : SCode := (.seq (.seq (.ops c86r4) c86s8) c86s10)
@[go_sem] theorem c86s11eq : U c86s11 (.seq (.seq (.ops c86r4) c86s8) c86s10) := fun _ _ _ _ _ => rfl
def c86s12 : SCode := (.seq (.ops c86r3) c86s11)
@[go_sem] theorem c86s12eq : U c86s12 (.seq (.ops c86r3) c86s11) := fun _ _ _ _ _ => rfl
def c86s13 : SCode := (.seq (.ops c86r2) c86s12)
@[go_sem] theorem c86s13eq : U c86s13 (.seq (.ops c86r2) c86s12) := fun _ _ _ _ _ => rfl
def c86s14 : SCode := (.seq (.ops c86r1) c86s13)
@[go_sem] theorem c86s14eq : U c86s14 (.seq (.ops c86r1) c86s13) := fun _ _ _ _ _ => rfl
def c86 : Gx.Fn := ⟨34, c86k, (.seq (.ops c86r0) c86s14), [(.cell S1 (some 5))]⟩
theorem c86ok : stripFn Tryd.prog c86k Tryd.f86 = some c86 := by kernel_rfl

/- (*parser.parser).joined -/
@[go_sem] def c97k : List Nat := [0, 2]
@[go_sem] def c97r0 : List GOp := [oS 1 (.al 24 [(I 0), (.string ⟨⟨[]⟩⟩), (I 0), (I 0), Z])]
@[go_sem] def c97r1 : List GOp := [mT S0, mT S0, oT (.v (.mkf 105 [T0] [])), oT .mm, oN (.ins T0 (.c (.string ⟨⟨[106, 111, 105, 110]⟩⟩)) (C 39)), mT T0, oT (.call 56 [T4, T2, T0]), oN (.st 5 S1 T0)]
def c97s2 : SCode := (.seq (.ops c97r1) .ret)
@[go_sem] theorem c97s2eq : U c97s2 (.seq (.ops c97r1) .ret) := fun _ _ _ _ _ => rfl
def c97 : Gx.Fn := ⟨9, c97k, (.seq (.ops c97r0) c97s2), [(.cell S1 (some 5))]⟩
theorem c97ok : stripFn Tryd.prog c97k Tryd.f97 = some c97 := by kernel_rfl

/- (*parser.parser).sum -/
@[go_sem] def c105k : List Nat := [0, 2]
@[go_sem] def c105r0 : List GOp := [oS 1 (.al 24 [(I 0), (.string ⟨⟨[]⟩⟩), (I 0), (I 0), Z])]
@[go_sem] def c105r1 : List GOp := [mT S0, mT S0, oT (.v (.mkf 107 [T0] [])), oT .mm, oN (.ins T0 (.c (.string ⟨⟨[43]⟩⟩)) (C 40)), oN (.ins T0 (.c (.string ⟨⟨[45]⟩⟩)) (C 41)), mT T0, oT (.call 56 [T4, T2, T0]), oN (.st 5 S1 T0)]
def c105s2 : SCode := (.seq (.ops c105r1) .ret)
@[go_sem] theorem c105s2eq : U c105s2 (.seq (.ops c105r1) .ret) := fun _ _ _ _ _ => rfl
def c105 : Gx.Fn := ⟨9, c105k, (.seq (.ops c105r0) c105s2), [(.cell S1 (some 5))]⟩
theorem c105ok : stripFn Tryd.prog c105k Tryd.f105 = some c105 := by kernel_rfl

/- (*parser.parser).postfix -/
@[go_sem] def c107k : List Nat := [0, 2, 3, 4, 11, 21]
@[go_sem] def c107r0 : List GOp := [oS 1 (.al 24 [(I 0), (.string ⟨⟨[]⟩⟩), (I 0), (I 0), Z])]
@[go_sem] def c107r1 : List GOp := [mT S0, oT (.call 108 [T0]), oS 2 (.al 24 [(I 0), (.string ⟨⟨[]⟩⟩), (I 0), (I 0), Z]), oN (.st 5 S2 T0)]
@[go_sem] def c107r2 : List GOp := [mT S0, oT (.call 29 [T0]), oT (.v (.fld1 3 T0)), mS 3 T0]
@[go_sem] def c107r3 : List GOp := [mT S0, oT (.call 42 [T0, (.c (.string ⟨⟨[46]⟩⟩))]), mS 4 T0]
@[go_sem] def c107d4 : DT := (rm S3 [7] (rm S0 [2, 7] (.rd none .t (.ld (some 5) S2) [5, 7] (.br (.ef 2 none .t (.call 43 [T1, (C 1)]) (.rd none .t (.v (.fld1 1 T0)) [7] (.ef 5 none .t (.bs 24 1 [(I 0), (.string ⟨⟨[]⟩⟩), (I 0), (I 0), Z] [(0, (5, T2))]) (.rd none .t (.v (.bld [(I 0), (.string ⟨⟨[]⟩⟩), (I 0), (I 0), Z] [(0, (1, (C 42))), (3, (1, T5)), (1, (1, T1)), (4, (1, T0))])) [7] (.ef 7 none .no (.st 5 S2 T0) .done))))) (.ef 5 none .t (.bs 24 1 [(I 0), (.string ⟨⟨[]⟩⟩), (I 0), (I 0), Z] [(0, (5, T0))]) (.ef 2 none .t (.call 43 [T2, (C 1)]) (.rd none .t (.v (.fld1 1 T0)) [7] (.rd none .t (.v (.bld [(I 0), (.string ⟨⟨[]⟩⟩), (I 0), (I 0), Z] [(0, (1, (C 42))), (3, (1, T5)), (1, (1, T0)), (4, (1, T2))])) [7] (.ef 7 none .no (.st 5 S2 T0) .done)))))))))
@[go_sem] def c107r5 : List GOp := [mT S0, oT (.call 35 [T0, (.c (.string ⟨⟨[91]⟩⟩))]), mS 5 T0]
@[go_sem] def c107r6 : List GOp := [mT S0, oT (.call 37 [T0, (.c (.string ⟨⟨[91]⟩⟩))])]
@[go_sem] def c107d7 : DT := (rm S3 [6] (.rd none .t (.ld (some 5) S2) [4, 6] (rm S0 [3, 4, 6] (.ef 3 none .t (.call 26 [T0]) (.ef 4 none .t (.bs 24 2 [(I 0), (.string ⟨⟨[]⟩⟩), (I 0), (I 0), Z, (I 0), (.string ⟨⟨[]⟩⟩), (I 0), (I 0), Z] [(0, (5, T2)), (5, (5, T0))]) (.rd none .t (.v (.bld [(I 0), (.string ⟨⟨[]⟩⟩), (I 0), (I 0), Z] [(0, (1, (C 43))), (3, (1, T4)), (4, (1, T0))])) [6] (.ef 6 none .no (.st 5 S2 T0) .done)))))))
@[go_sem] def c107r8 : List GOp := [mT S0, oT (.call 38 [T0, (.c (.string ⟨⟨[93]⟩⟩))])]
@[go_sem] def c107r9 : List GOp := [mT S0, oT (.call 39 [T0])]
def c107s10 : SCode := (.ops c107r9)
@[go_sem] theorem c107s10eq : U c107s10 (.ops c107r9) := fun _ _ _ _ _ => rfl
def c107s11 : SCode := (.seq (.ops c107r8) c107s10)
@[go_sem] theorem c107s11eq : U c107s11 (.seq (.ops c107r8) c107s10) := fun _ _ _ _ _ => rfl
def c107s12 : SCode := (.seq (.de c107d7) c107s11)
@[go_sem] theorem c107s12eq : U c107s12 (.seq (.de c107d7) c107s11) := fun _ _ _ _ _ => rfl
def c107s13 : SCode := (.seq (.ops c107r6) c107s12)
@[go_sem] theorem c107s13eq : U c107s13 (.seq (.ops c107r6) c107s12) := fun _ _ _ _ _ => rfl
@[go_sem] def c107r14 : List GOp := [oT (.ld (some 5) S2), oN (.st 5 S1 T0)]
def c107s15 : SCode := (.seq (.ops c107r14) .ret)
@[go_sem] theorem c107s15eq : U c107s15 (.seq (.ops c107r14) .ret) := fun _ _ _ _ _ => rfl
def c107s16 : SCode := (.cond S5 c107s13 c107s15)
@[go_sem] theorem c107s16eq : U c107s16 (.cond S5 c107s13 c107s15) := fun _ _ _ _ _ => rfl
def c107s17 : SCode := (.seq (.ops c107r5) c107s16)
@[go_sem] theorem c107s17eq : U c107s17 (.seq (.ops c107r5) c107s16) := fun _ _ _ _ _ => rfl
def c107s18 : SCode := (.cond S4 (.de c107d4) c107s17)
@[go_sem] theorem c107s18eq : U c107s18 (.cond S4 (.de c107d4) c107s17) := fun _ _ _ _ _ => rfl
def c107s19 : SCode := (.block 2 (.seq (.ops c107r3) c107s18))
@[go_sem] theorem c107s19eq : U c107s19 (.block 2 (.seq (.ops c107r3) c107s18)) := fun _ _ _ _ _ => rfl
def c107s20 : SCode := (.block 1 (.seq (.ops c107r2) c107s19))
@[go_sem] theorem c107s20eq : U c107s20 (.block 1 (.seq (.ops c107r2) c107s19)) := fun _ _ _ _ _ => rfl
def c107s21 : SCode := (.block 0 (.loop c107k c107s20))
@[go_sem] theorem c107s21eq : U c107s21 (.block 0 (.loop c107k c107s20)) := fun _ _ _ _ _ => rfl
def c107s22 : SCode := (.seq (.ops c107r1) c107s21)
@[go_sem] theorem c107s22eq : U c107s22 (.seq (.ops c107r1) c107s21) := fun _ _ _ _ _ => rfl
def c107 : Gx.Fn := ⟨36, c107k, (.seq (.ops c107r0) c107s22), [(.cell S1 (some 5))]⟩
theorem c107ok : stripFn Tryd.prog c107k Tryd.f107 = some c107 := by kernel_rfl

/- (*parser.parser).primary -/
@[go_sem] def c108k : List Nat := [0, 2, 3, 4, 5, 13, 23, 29, 35, 39, 43, 47, 51, 62, 87]
@[go_sem] def c108r0 : List GOp := [oS 1 (.al 24 [(I 0), (.string ⟨⟨[]⟩⟩), (I 0), (I 0), Z])]
@[go_sem] def c108r1 : List GOp := [mT S0, oT (.call 29 [T0]), oS 2 (.al 39 [(I 0), (.string ⟨⟨[]⟩⟩), (I 0), (I 0)]), oN (.st 4 S2 T0)]
@[go_sem] def c108r2 : List GOp := [fT 3 S2, lT T0, oT (.v (.bld [(I 0), (.string ⟨⟨[]⟩⟩), (I 0), (I 0), Z] [(3, (1, T0))])), oS 3 (.al 24 [(I 0), (.string ⟨⟨[]⟩⟩), (I 0), (I 0), Z]), oN (.st 5 S3 T0)]
@[go_sem] def c108r3 : List GOp := [fT 0 S2, lT T0, oT (.v (.bin .eql T0 (C 3))), mT T0, (.op (some (T0, (false, true))) .t (.v (.mv S0))), (.op (some (T1, (false, false))) .t (.call 35 [T0, (.c (.string ⟨⟨[45]⟩⟩))])), oT (.v (.pick T2 (.c (.bool true)) T0)), mS 5 T0]
@[go_sem] def c108r4 : List GOp := [mT S0, oT (.call 67 [T0]), oN (.st 5 S1 T0)]
def c108s5 : SCode := (.seq (.ops c108r4) .ret)
@[go_sem] theorem c108s5eq : U c108s5 (.seq (.ops c108r4) .ret) := fun _ _ _ _ _ => rfl
@[go_sem] def c108r6 : List GOp := [fT 0 S2, lT T0, oT (.v (.bin .eql T0 (C 4))), mS 6 T0]
@[go_sem] def c108r7 : List GOp := [mT S0, oT (.call 78 [T0]), oN (.st 5 S1 T0)]
def c108s8 : SCode := (.seq (.ops c108r7) .ret)
@[go_sem] theorem c108s8eq : U c108s8 (.seq (.ops c108r7) .ret) := fun _ _ _ _ _ => rfl
@[go_sem] def c108r9 : List GOp := [fT 0 S2, lT T0, oT (.v (.bin .eql T0 (C 1))), mS 7 T0]
@[go_sem] def c108r10 : List GOp := [mT S0, oT (.call 47 [T0, (C 48)]), oN (.st 5 S1 T0)]
def c108s11 : SCode := (.seq (.ops c108r10) .ret)
@[go_sem] theorem c108s11eq : U c108s11 (.seq (.ops c108r10) .ret) := fun _ _ _ _ _ => rfl
@[go_sem] def c108r12 : List GOp := [mT S0, oT (.call 42 [T0, (.c (.string ⟨⟨[116, 114, 117, 101]⟩⟩))]), mS 8 T0]
@[go_sem] def c108r13 : List GOp := [fT 0 S3, oN (.st 1 T0 (C 45))]
@[go_sem] def c108r14 : List GOp := [mT S0, oT (.call 42 [T0, (.c (.string ⟨⟨[102, 97, 108, 115, 101]⟩⟩))]), mS 9 T0]
@[go_sem] def c108r15 : List GOp := [fT 0 S3, oN (.st 1 T0 (C 46))]
@[go_sem] def c108r16 : List GOp := [mT S0, oT (.call 42 [T0, (.c (.string ⟨⟨[115]⟩⟩))]), mS 10 T0]
@[go_sem] def c108r17 : List GOp := [fT 0 S3, oN (.st 1 T0 (C 49))]
@[go_sem] def c108r18 : List GOp := [mT S0, oT (.call 42 [T0, (.c (.string ⟨⟨[98, 111, 116, 116, 111, 109]⟩⟩))]), mS 11 T0]
@[go_sem] def c108r19 : List GOp := [fT 0 S3, oN (.st 1 T0 (C 50))]
@[go_sem] def c108r20 : List GOp := [mT S0, oT (.call 35 [T0, (.c (.string ⟨⟨[40]⟩⟩))]), mS 12 T0]
@[go_sem] def c108r21 : List GOp := [mT S0, oT (.call 37 [T0, (.c (.string ⟨⟨[40]⟩⟩))])]
@[go_sem] def c108r22 : List GOp := [mT S0, oT (.call 26 [T0]), oN (.st 5 S3 T0)]
@[go_sem] def c108r23 : List GOp := [mT S0, oT (.call 38 [T0, (.c (.string ⟨⟨[41]⟩⟩))])]
@[go_sem] def c108r24 : List GOp := [mT S0, oT (.call 39 [T0])]
def c108s25 : SCode := (.ops c108r24)
@[go_sem] theorem c108s25eq : U c108s25 (.ops c108r24) := fun _ _ _ _ _ => rfl
def c108s26 : SCode := (.seq (.ops c108r23) c108s25)
@[go_sem] theorem c108s26eq : U c108s26 (.seq (.ops c108r23) c108s25) := fun _ _ _ _ _ => rfl
def c108s27 : SCode := (.seq (.ops c108r22) c108s26)
@[go_sem] theorem c108s27eq : U c108s27 (.seq (.ops c108r22) c108s26) := fun _ _ _ _ _ => rfl
def c108s28 : SCode := (.seq (.ops c108r21) c108s27)
@[go_sem] theorem c108s28eq : U c108s28 (.seq (.ops c108r21) c108s27) := fun _ _ _ _ _ => rfl
@[go_sem] def c108r29 : List GOp := [fT 0 S2, lT T0, oT (.v (.bin .eql T0 (C 2))), mT T0, (.op (some (T0, (true, true))) .t (.v (.fa 1 S2))), (.op (some (T1, (true, false))) .t (.ld none T0)), (.op (some (T2, (true, false))) .t (.call 109 [T0])), oT (.v (.pick T3 T0 (.c (.bool false)))), mS 13 T0]
@[go_sem] def c108r30 : List GOp := [mT S0, oT (.v (.nc T0)), fT 1 T0, lT T0, oT (.v (.bin .add T0 (C 1))), oT (.v (.nc T4)), fT 1 T0, oN (.st 1 T0 T2)]
@[go_sem] def c108d31 : DT := (rf 1 S2 [5] (rl T0 [5] (rf 0 S3 [3, 5] (.ef 3 none .no (.st 1 T0 (C 51)) (rf 1 S3 [5] (.ef 5 none .no (.st 1 T0 T2) .done))))))
@[go_sem] def c108r32 : List GOp := [mT S0, oT (.call 37 [T0, (.c (.string ⟨⟨[40]⟩⟩))])]
@[go_sem] def c108r33 : List GOp := [mT S0, oT (.call 42 [T0, (.c (.string ⟨⟨[41]⟩⟩))]), oT (.v (.un .not T0)), mS 4 T0]
@[go_sem] def c108r34 : List GOp := [mS 14 S4]
def c108s35 : SCode := (.cond S14 .skip (.exit 1))
@[go_sem] theorem c108s35eq : U c108s35 (.cond S14 .skip (.exit 1)) := fun _ _ _ _ _ => rfl
@[go_sem] def c108d36 : DT := (rf 4 S3 [7, 9] (rl T0 [7, 9] (rm S0 [5, 6, 7, 9] (rf 1 S2 [5, 6, 7, 9] (rl T0 [5, 6, 7, 9] (.ef 5 none .t (.call 110 [T2, T0]) (.ef 6 none .t (.bs 24 1 [(I 0), (.string ⟨⟨[]⟩⟩), (I 0), (I 0), Z] [(0, (5, T0))]) (.ef 7 none .t (.ap 22 22 T5 T0) (rf 4 S3 [9] (.ef 9 none .no (.st 1 T0 T1) .done))))))))))
@[go_sem] def c108r37 : List GOp := [mT S0, oT (.call 45 [T0]), mS 4 T0]
def c108s38 : SCode := (.ops c108r37)
@[go_sem] theorem c108s38eq : U c108s38 (.ops c108r37) := fun _ _ _ _ _ => rfl
def c108s39 : SCode := (.seq (.block 2 (.de c108d36)) c108s38)
@[go_sem] theorem c108s39eq : U c108s39 (.seq (.block 2 (.de c108d36)) c108s38) := fun _ _ _ _ _ => rfl
def c108s40 : SCode := (.seq (.seq (.ops c108r34) c108s35) c108s39)
@[go_sem] theorem c108s40eq : U c108s40 (.seq (.seq (.ops c108r34) c108s35) c108s39) := fun _ _ _ _ _ => rfl
def c108s41 : SCode := (.block 1 (.loop c108k c108s40))
@[go_sem] theorem c108s41eq : U c108s41 (.block 1 (.loop c108k c108s40)) := fun _ _ _ _ _ => rfl
@[go_sem] def c108r42 : List GOp := [mT S0, oT (.call 39 [T0])]
def c108s43 : SCode := (.ops c108r42)
@[go_sem] theorem c108s43eq : U c108s43 (.ops c108r42) := fun _ _ _ _ _ => rfl
def c108s44 : SCode := (.seq (.seq (.ops c108r33) c108s41) c108s43)
@[go_sem] theorem c108s44eq : U c108s44 (.seq (.seq (.ops c108r33) c108s41) c108s43) := fun _ _ _ _ _ => rfl
def c108s45 : SCode := (.seq (.ops c108r32) c108s44)
@[go_sem] theorem c108s45eq : U c108s45 (.seq (.ops c108r32) c108s44) := fun _ _ _ _ _ => rfl
def c108s46 : SCode := (.seq (.de c108d31) c108s45)
@[go_sem] theorem c108s46eq : U c108s46 (.seq (.de c108d31) c108s45) := fun _ _ _ _ _ => rfl
def c108s47 : SCode := (.seq (.ops c108r30) c108s46)
@[go_sem] theorem c108s47eq : U c108s47 (.seq (.ops c108r30) c108s46) := fun _ _ _ _ _ => rfl
@[go_sem] def c108r48 : List GOp := [mT S0, oT (.call 34 [T0, (C 2)])]
def c108s49 : SCode := (.cond S13 c108s47 (.ops c108r48))
@[go_sem] theorem c108s49eq : U c108s49 (.cond S13 c108s47 (.ops c108r48)) := fun _ _ _ _ _ => rfl
def c108s50 : SCode := (.seq (.ops c108r29) c108s49)
@[go_sem] theorem c108s50eq : U c108s50 (.seq (.ops c108r29) c108s49) := fun _ _ _ _ _ => rfl
def c108s51 : SCode := (.cond S12 c108s28 c108s50)
@[go_sem] theorem c108s51eq : U c108s51 (.cond S12 c108s28 c108s50) := fun _ _ _ _ _ => rfl
def c108s52 : SCode := (.seq (.ops c108r20) c108s51)
@[go_sem] theorem c108s52eq : U c108s52 (.seq (.ops c108r20) c108s51) := fun _ _ _ _ _ => rfl
def c108s53 : SCode := (.cond S11 (.ops c108r19) c108s52)
@[go_sem] theorem c108s53eq : U c108s53 (.cond S11 (.ops c108r19) c108s52) := fun _ _ _ _ _ => rfl
def c108s54 : SCode := (.seq (.ops c108r18) c108s53)
@[go_sem] theorem c108s54eq : U c108s54 (.seq (.ops c108r18) c108s53) := fun _ _ _ _ _ => rfl
def c108s55 : SCode := (.cond S10 (.ops c108r17) c108s54)
@[go_sem] theorem c108s55eq : U c108s55 (.cond S10 (.ops c108r17) c108s54) := fun _ _ _ _ _ => rfl
def c108s56 : SCode := (.seq (.ops c108r16) c108s55)
@[go_sem] theorem c108s56eq : U c108s56 (.seq (.ops c108r16) c108s55) := fun _ _ _ _ _ => rfl
def c108s57 : SCode := (.cond S9 (.ops c108r15) c108s56)
@[go_sem] theorem c108s57eq : U c108s57 (.cond S9 (.ops c108r15) c108s56) := fun _ _ _ _ _ => rfl
def c108s58 : SCode := (.seq (.ops c108r14) c108s57)
@[go_sem] theorem c108s58eq : U c108s58 (.seq (.ops c108r14) c108s57) := fun _ _ _ _ _ => rfl
def c108s59 : SCode := (.cond S8 (.ops c108r13) c108s58)
@[go_sem] theorem c108s59eq : U c108s59 (.cond S8 (.ops c108r13) c108s58) := fun _ _ _ _ _ => rfl
def c108s60 : SCode := (.seq (.ops c108r12) c108s59)
@[go_sem] theorem c108s60eq : U c108s60 (.seq (.ops c108r12) c108s59) := fun _ _ _ _ _ => rfl
def c108s61 : SCode := (.cond S7 c108s11 c108s60)
@[go_sem] theorem c108s61eq : U c108s61 (.cond S7 c108s11 c108s60) := fun _ _ _ _ _ => rfl
def c108s62 : SCode := (.seq (.ops c108r9) c108s61)
@[go_sem] theorem c108s62eq : U c108s62 (.seq (.ops c108r9) c108s61) := fun _ _ _ _ _ => rfl
def c108s63 : SCode := (.cond S6 c108s8 c108s62)
@[go_sem] theorem c108s63eq : U c108s63 (.cond S6 c108s8 c108s62) := fun _ _ _ _ _ => rfl
def c108s64 : SCode := (.seq (.ops c108r6) c108s63)
@[go_sem] theorem c108s64eq : U c108s64 (.seq (.ops c108r6) c108s63) := fun _ _ _ _ _ => rfl
def c108s65 : SCode := (.cond S5 c108s5 c108s64)
@[go_sem] theorem c108s65eq : U c108s65 (.cond S5 c108s5 c108s64) := fun _ _ _ _ _ => rfl
@[go_sem] def c108r66 : List GOp := [oT (.ld (some 5) S3), oN (.st 5 S1 T0)]
def c108s67 : SCode := (.seq (.ops c108r66) .ret)
@[go_sem] theorem c108s67eq : U c108s67 (.seq (.ops c108r66) .ret) := fun _ _ _ _ _ => rfl
def c108s68 : SCode := (.seq (.block 0 (.seq (.ops c108r3) c108s65)) c108s67)
@[go_sem] theorem c108s68eq : U c108s68 (.seq (.block 0 (.seq (.ops c108r3) c108s65)) c108s67) := fun _ _ _ _ _ => rfl
def c108s69 : SCode := (.seq (.ops c108r2) c108s68)
@[go_sem] theorem c108s69eq : U c108s69 (.seq (.ops c108r2) c108s68) := fun _ _ _ _ _ => rfl
def c108s70 : SCode := (.seq (.ops c108r1) c108s69)
@[go_sem] theorem c108s70eq : U c108s70 (.seq (.ops c108r1) c108s69) := fun _ _ _ _ _ => rfl
def c108 : Gx.Fn := ⟨102, c108k, (.seq (.ops c108r0) c108s70), [(.cell S1 (some 5))]⟩
theorem c108ok : stripFn Tryd.prog c108k Tryd.f108 = some c108 := by kernel_rfl

/- parser.functions -/
@[go_sem] def c109k : List Nat := [0, 2, 3, 4]
@[go_sem] def c109r0 : List GOp := [mS 1 (.c (.bool false))]
@[go_sem] def c109r1 : List GOp := [mS 2 S0]
@[go_sem] def c109r2 : List GOp := [oT (.v (.bin .eql S2 (.c (.string ⟨⟨[102, 108, 97, 103]⟩⟩)))), mS 3 T0]
@[go_sem] def c109r3 : List GOp := [oT (.v (.bin .eql S2 (.c (.string ⟨⟨[110, 117, 109]⟩⟩)))), mS 3 T0]
@[go_sem] def c109r4 : List GOp := [oT (.v (.bin .eql S2 (.c (.string ⟨⟨[115, 101, 116]⟩⟩)))), mS 3 T0]
@[go_sem] def c109r5 : List GOp := [oT (.v (.bin .eql S2 (.c (.string ⟨⟨[109, 97, 112]⟩⟩)))), mS 3 T0]
@[go_sem] def c109r6 : List GOp := [oT (.v (.bin .eql S2 (.c (.string ⟨⟨[114, 101, 99]⟩⟩)))), mS 3 T0]
@[go_sem] def c109r7 : List GOp := [oT (.v (.bin .eql S2 (.c (.string ⟨⟨[112, 97, 105, 114]⟩⟩)))), mS 3 T0]
@[go_sem] def c109r8 : List GOp := [oT (.v (.bin .eql S2 (.c (.string ⟨⟨[111, 110, 101]⟩⟩)))), mS 3 T0]
@[go_sem] def c109r9 : List GOp := [oT (.v (.bin .eql S2 (.c (.string ⟨⟨[119, 114, 105, 116, 101]⟩⟩)))), mS 3 T0]
@[go_sem] def c109r10 : List GOp := [oT (.v (.bin .eql S2 (.c (.string ⟨⟨[115, 105, 122, 101]⟩⟩)))), mS 3 T0]
@[go_sem] def c109r11 : List GOp := [oT (.v (.bin .eql S2 (.c (.string ⟨⟨[115, 117, 109]⟩⟩)))), mS 3 T0]
@[go_sem] def c109r12 : List GOp := [oT (.v (.bin .eql S2 (.c (.string ⟨⟨[110, 117, 109, 98, 101, 114]⟩⟩)))), mS 3 T0]
@[go_sem] def c109r13 : List GOp := [oT (.v (.bin .eql S2 (.c (.string ⟨⟨[111, 110]⟩⟩)))), mS 3 T0]
@[go_sem] def c109r14 : List GOp := [oT (.v (.bin .eql S2 (.c (.string ⟨⟨[107, 101, 121, 115]⟩⟩)))), mS 3 T0]
@[go_sem] def c109r15 : List GOp := [oT (.v (.bin .eql S2 (.c (.string ⟨⟨[118, 97, 108, 117, 101, 115]⟩⟩)))), mS 3 T0]
@[go_sem] def c109r16 : List GOp := [oT (.v (.bin .eql S2 (.c (.string ⟨⟨[102, 105, 114, 115, 116]⟩⟩)))), mS 3 T0]
@[go_sem] def c109r17 : List GOp := [oT (.v (.bin .eql S2 (.c (.string ⟨⟨[115, 101, 99, 111, 110, 100]⟩⟩)))), mS 3 T0]
@[go_sem] def c109r18 : List GOp := [oT (.v (.bin .eql S2 (.c (.string ⟨⟨[99, 111, 110, 102, 108, 105, 99, 116]⟩⟩)))), mS 3 T0]
def c109s19 : SCode := (.cond S3 .skip (.ops c109r18))
@[go_sem] theorem c109s19eq : U c109s19 (.cond S3 .skip (.ops c109r18)) := fun _ _ _ _ _ => rfl
def c109s20 : SCode := (.seq (.ops c109r17) c109s19)
@[go_sem] theorem c109s20eq : U c109s20 (.seq (.ops c109r17) c109s19) := fun _ _ _ _ _ => rfl
def c109s21 : SCode := (.cond S3 .skip c109s20)
@[go_sem] theorem c109s21eq : U c109s21 (.cond S3 .skip c109s20) := fun _ _ _ _ _ => rfl
def c109s22 : SCode := (.seq (.ops c109r16) c109s21)
@[go_sem] theorem c109s22eq : U c109s22 (.seq (.ops c109r16) c109s21) := fun _ _ _ _ _ => rfl
def c109s23 : SCode := (.cond S3 .skip c109s22)
@[go_sem] theorem c109s23eq : U c109s23 (.cond S3 .skip c109s22) := fun _ _ _ _ _ => rfl
def c109s24 : SCode := (.seq (.ops c109r15) c109s23)
@[go_sem] theorem c109s24eq : U c109s24 (.seq (.ops c109r15) c109s23) := fun _ _ _ _ _ => rfl
def c109s25 : SCode := (.cond S3 .skip c109s24)
@[go_sem] theorem c109s25eq : U c109s25 (.cond S3 .skip c109s24) := fun _ _ _ _ _ => rfl
def c109s26 : SCode := (.seq (.ops c109r14) c109s25)
@[go_sem] theorem c109s26eq : U c109s26 (.seq (.ops c109r14) c109s25) := fun _ _ _ _ _ => rfl
def c109s27 : SCode := (.cond S3 .skip c109s26)
@[go_sem] theorem c109s27eq : U c109s27 (.cond S3 .skip c109s26) := fun _ _ _ _ _ => rfl
def c109s28 : SCode := (.seq (.ops c109r13) c109s27)
@[go_sem] theorem c109s28eq : U c109s28 (.seq (.ops c109r13) c109s27) := fun _ _ _ _ _ => rfl
def c109s29 : SCode := (.cond S3 .skip c109s28)
@[go_sem] theorem c109s29eq : U c109s29 (.cond S3 .skip c109s28) := fun _ _ _ _ _ => rfl
def c109s30 : SCode := (.seq (.ops c109r12) c109s29)
@[go_sem] theorem c109s30eq : U c109s30 (.seq (.ops c109r12) c109s29) := fun _ _ _ _ _ => rfl
def c109s31 : SCode := (.cond S3 .skip c109s30)
@[go_sem] theorem c109s31eq : U c109s31 (.cond S3 .skip c109s30) := fun _ _ _ _ _ => rfl
def c109s32 : SCode := (.seq (.ops c109r11) c109s31)
@[go_sem] theorem c109s32eq : U c109s32 (.seq (.ops c109r11) c109s31) := fun _ _ _ _ _ => rfl
def c109s33 : SCode := (.cond S3 .skip c109s32)
@[go_sem] theorem c109s33eq : U c109s33 (.cond S3 .skip c109s32) := fun _ _ _ _ _ => rfl
def c109s34 : SCode := (.seq (.ops c109r10) c109s33)
@[go_sem] theorem c109s34eq : U c109s34 (.seq (.ops c109r10) c109s33) := fun _ _ _ _ _ => rfl
def c109s35 : SCode := (.cond S3 .skip c109s34)
@[go_sem] theorem c109s35eq : U c109s35 (.cond S3 .skip c109s34) := fun _ _ _ _ _ => rfl
def c109s36 : SCode := (.seq (.ops c109r9) c109s35)
@[go_sem] theorem c109s36eq : U c109s36 (.seq (.ops c109r9) c109s35) := fun _ _ _ _ _ => rfl
def c109s37 : SCode := (.cond S3 .skip c109s36)
@[go_sem] theorem c109s37eq : U c109s37 (.cond S3 .skip c109s36) := fun _ _ _ _ _ => rfl
def c109s38 : SCode := (.seq (.ops c109r8) c109s37)
@[go_sem] theorem c109s38eq : U c109s38 (.seq (.ops c109r8) c109s37) := fun _ _ _ _ _ => rfl
def c109s39 : SCode := (.cond S3 .skip c109s38)
@[go_sem] theorem c109s39eq : U c109s39 (.cond S3 .skip c109s38) := fun _ _ _ _ _ => rfl
def c109s40 : SCode := (.seq (.ops c109r7) c109s39)
@[go_sem] theorem c109s40eq : U c109s40 (.seq (.ops c109r7) c109s39) := fun _ _ _ _ _ => rfl
def c109s41 : SCode := (.cond S3 .skip c109s40)
@[go_sem] theorem c109s41eq : U c109s41 (.cond S3 .skip c109s40) := fun _ _ _ _ _ => rfl
def c109s42 : SCode := (.seq (.ops c109r6) c109s41)
@[go_sem] theorem c109s42eq : U c109s42 (.seq (.ops c109r6) c109s41) := fun _ _ _ _ _ => rfl
def c109s43 : SCode := (.cond S3 .skip c109s42)
@[go_sem] theorem c109s43eq : U c109s43 (.cond S3 .skip c109s42) := fun _ _ _ _ _ => rfl
def c109s44 : SCode := (.seq (.ops c109r5) c109s43)
@[go_sem] theorem c109s44eq : U c109s44 (.seq (.ops c109r5) c109s43) := fun _ _ _ _ _ => rfl
def c109s45 : SCode := (.cond S3 .skip c109s44)
@[go_sem] theorem c109s45eq : U c109s45 (.cond S3 .skip c109s44) := fun _ _ _ _ _ => rfl
def c109s46 : SCode := (.seq (.ops c109r4) c109s45)
@[go_sem] theorem c109s46eq : U c109s46 (.seq (.ops c109r4) c109s45) := fun _ _ _ _ _ => rfl
def c109s47 : SCode := (.cond S3 .skip c109s46)
@[go_sem] theorem c109s47eq : U c109s47 (.cond S3 .skip c109s46) := fun _ _ _ _ _ => rfl
def c109s48 : SCode := (.seq (.ops c109r3) c109s47)
@[go_sem] theorem c109s48eq : U c109s48 (.seq (.ops c109r3) c109s47) := fun _ _ _ _ _ => rfl
def c109s49 : SCode := (.cond S3 .skip c109s48)
@[go_sem] theorem c109s49eq : U c109s49 (.cond S3 .skip c109s48) := fun _ _ _ _ _ => rfl
@[go_sem] def c109r50 : List GOp := [mS 1 (.c (.bool true))]
def c109s51 : SCode := (.seq (.ops c109r50) .ret)
@[go_sem] theorem c109s51eq : U c109s51 (.seq (.ops c109r50) .ret) := fun _ _ _ _ _ => rfl
def c109s52 : SCode := (.cond S3 c109s51 .skip)
@[go_sem] theorem c109s52eq : U c109s52 (.cond S3 c109s51 .skip) := fun _ _ _ _ _ => rfl
def c109s53 : SCode := (.block 0 (.seq (.seq (.ops c109r2) c109s49) c109s52))
@[go_sem] theorem c109s53eq : U c109s53 (.block 0 (.seq (.seq (.ops c109r2) c109s49) c109s52)) := fun _ _ _ _ _ => rfl
@[go_sem] def c109r54 : List GOp := [mS 1 (.c (.bool false))]
def c109s55 : SCode := (.seq (.ops c109r54) .ret)
@[go_sem] theorem c109s55eq : U c109s55 (.seq (.ops c109r54) .ret) := fun _ _ _ _ _ => rfl
def c109s56 : SCode := (.seq (.seq (.ops c109r1) c109s53) c109s55)
@[go_sem] theorem c109s56eq : U c109s56 (.seq (.seq (.ops c109r1) c109s53) c109s55) := fun _ _ _ _ _ => rfl
def c109 : Gx.Fn := ⟨22, c109k, (.seq (.ops c109r0) c109s56), [(.tmp S1)]⟩
theorem c109ok : stripFn Tryd.prog c109k Tryd.f109 = some c109 := by kernel_rfl

/- (*parser.parser).argument -/
@[go_sem] def c110k : List Nat := [0, 1, 4, 5, 10, 13, 19]
@[go_sem] def c110r0 : List GOp := [oS 2 (.al 24 [(I 0), (.string ⟨⟨[]⟩⟩), (I 0), (I 0), Z])]
@[go_sem] def c110r1 : List GOp := [mT S0, oT (.call 29 [T0]), oT (.v (.fld1 3 T0)), oT (.v (.bld [(I 0), (.string ⟨⟨[]⟩⟩), (I 0), (I 0), Z] [(0, (1, (C 52))), (3, (1, T0))])), oS 3 (.al 24 [(I 0), (.string ⟨⟨[]⟩⟩), (I 0), (I 0), Z]), oN (.st 5 S3 T0)]
@[go_sem] def c110r2 : List GOp := [mS 4 S1]
@[go_sem] def c110r3 : List GOp := [oT (.v (.bin .eql S4 (.c (.string ⟨⟨[114, 101, 99]⟩⟩)))), mS 5 T0]
@[go_sem] def c110r4 : List GOp := [mT S0, oT (.call 43 [T0, (C 1)]), oT (.v (.fld1 1 T0)), fT 1 S3, oN (.st 1 T0 T1)]
@[go_sem] def c110r5 : List GOp := [oT (.v (.bin .eql S4 (.c (.string ⟨⟨[109, 97, 112]⟩⟩)))), mS 6 T0]
@[go_sem] def c110r6 : List GOp := [mT S0, oT (.call 26 [T0]), oT (.bs 24 1 [(I 0), (.string ⟨⟨[]⟩⟩), (I 0), (I 0), Z] [(0, (5, T0))]), fT 4 S3, oN (.st 1 T0 T1)]
@[go_sem] def c110r7 : List GOp := [mT S0, oT (.call 26 [T0]), oN (.st 5 S2 T0)]
def c110s8 : SCode := (.seq (.ops c110r7) .ret)
@[go_sem] theorem c110s8eq : U c110s8 (.seq (.ops c110r7) .ret) := fun _ _ _ _ _ => rfl
def c110s9 : SCode := (.cond S6 (.ops c110r6) c110s8)
@[go_sem] theorem c110s9eq : U c110s9 (.cond S6 (.ops c110r6) c110s8) := fun _ _ _ _ _ => rfl
def c110s10 : SCode := (.seq (.ops c110r5) c110s9)
@[go_sem] theorem c110s10eq : U c110s10 (.seq (.ops c110r5) c110s9) := fun _ _ _ _ _ => rfl
def c110s11 : SCode := (.cond S5 (.ops c110r4) c110s10)
@[go_sem] theorem c110s11eq : U c110s11 (.cond S5 (.ops c110r4) c110s10) := fun _ _ _ _ _ => rfl
def c110s12 : SCode := (.block 0 (.seq (.ops c110r3) c110s11))
@[go_sem] theorem c110s12eq : U c110s12 (.block 0 (.seq (.ops c110r3) c110s11)) := fun _ _ _ _ _ => rfl
@[go_sem] def c110r13 : List GOp := [mT S0, oT (.call 38 [T0, (.c (.string ⟨⟨[58]⟩⟩))])]
@[go_sem] def c110d14 : DT := (rf 4 S3 [5, 7] (rl T0 [5, 7] (rm S0 [3, 4, 5, 7] (.ef 3 none .t (.call 26 [T0]) (.ef 4 none .t (.bs 24 1 [(I 0), (.string ⟨⟨[]⟩⟩), (I 0), (I 0), Z] [(0, (5, T0))]) (.ef 5 none .t (.ap 22 22 T3 T0) (rf 4 S3 [7] (.ef 7 none .no (.st 1 T0 T1) .done))))))))
@[go_sem] def c110r15 : List GOp := [oT (.ld (some 5) S3), oN (.st 5 S2 T0)]
def c110s16 : SCode := (.seq (.ops c110r15) .ret)
@[go_sem] theorem c110s16eq : U c110s16 (.seq (.ops c110r15) .ret) := fun _ _ _ _ _ => rfl
def c110s17 : SCode := (.seq (.de c110d14) c110s16)
@[go_sem] theorem c110s17eq : U c110s17 (.seq (.de c110d14) c110s16) := fun _ _ _ _ _ => rfl
def c110s18 : SCode := (.seq (.ops c110r13) c110s17)
@[go_sem] theorem c110s18eq : U c110s18 (.seq (.ops c110r13) c110s17) := fun _ _ _ _ _ => rfl
def c110s19 : SCode := (.seq (.seq (.ops c110r2) c110s12) c110s18)
@[go_sem] theorem c110s19eq : U c110s19 (.seq (.seq (.ops c110r2) c110s12) c110s18) := fun _ _ _ _ _ => rfl
def c110s20 : SCode := (.seq (.ops c110r1) c110s19)
@[go_sem] theorem c110s20eq : U c110s20 (.seq (.ops c110r1) c110s19) := fun _ _ _ _ _ => rfl
def c110 : Gx.Fn := ⟨35, c110k, (.seq (.ops c110r0) c110s20), [(.cell S2 (some 5))]⟩
theorem c110ok : stripFn Tryd.prog c110k Tryd.f110 = some c110 := by kernel_rfl

end Go.Proofs.YtbgjgaaobnbijaaDoor
