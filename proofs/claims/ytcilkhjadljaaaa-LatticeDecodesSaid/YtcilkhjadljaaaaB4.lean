import Derived.Test.YtcilkhjadljaaaaProg
import Derived.Test.YtcilkhjadljaaaaB3
import Derived.Test.YtcilkhjadljaaaaB2
section
/- Generated: the stripped code of Go functions, each held against the loaded program. -/
namespace Go.Proofs.Ytcilkhjadljaaaa
open Gx Go
variable (P : Program) (E : Chain → Heap → Prop) (σ : Slots) (H : Heap) (Q : Post)

/- plexusref09.read -/
@[go_sem] def c48k : List Nat := [0, 1, 4, 5, 6, 7, 8, 9, 10, 11, 30, 38, 39, 48, 55, 60, 62, 67, 79, 84, 103, 115]
@[go_sem] def c48r0 : List GOp := [(.op none (.s 2) (.al 26 [(.int .i64 0), (.int .i64 0), (.int .i64 0), (.slice none 0 0), (.slice none 0 0), (.slice none 0 0)]))]
@[go_sem] def c48r1 : List GOp := [(.op none .t (.v (.bld [(.int .i64 0), (.int .i64 0), (.int .i64 0), (.slice none 0 0), (.slice none 0 0), (.slice none 0 0)] []))),
  (.op none (.s 3) (.al 26 [(.int .i64 0), (.int .i64 0), (.int .i64 0), (.slice none 0 0), (.slice none 0 0), (.slice none 0 0)])),
  (.op none .no (.st 6 (.s 3) (.t 0)))]
@[go_sem] def c48r2 : List GOp := [(.op none .t (.v (.mv (.s 0)))),
  (.op none .t (.call 70 [(.t 0)])),
  (.op none (.s 4) (.v (.mv (.t 0))))]
@[go_sem] def c48r3 : List GOp := [(.op none .t (.v (.mv (.s 0)))),
  (.op none .t (.v (.nc (.t 0)))),
  (.op none .t (.v (.fa 3 (.t 0)))),
  (.op none .t (.ld none (.t 0))),
  (.op none .t (.v (.mv (.t 0)))),
  (.sel (.t 0) false [(.op (.v (.mv (.s 1)))), (.op (.v (.bin .lss (.t 0) (.c (.int .i64 1)))))] .t (.c (.bool true)) (.t 0)),
  (.op none .t (.v (.mv (.t 0)))),
  (.sel (.t 0) false [(.op (.v (.mv (.s 4)))), (.op (.v (.bin .lss (.t 0) (.c (.int .u64 1)))))] .t (.c (.bool true)) (.t 0)),
  (.op none .t (.v (.mv (.t 0)))),
  (.sel (.t 0) false [(.op (.v (.mv (.s 4)))), (.op (.v (.bin .gtr (.t 0) (.c (.int .u64 10)))))] (.s 10) (.c (.bool true)) (.t 0))]
@[go_sem] def c48r4 : List GOp := [(.op none .t (.v (.mv (.s 0)))),
  (.op none .t (.call 71 [(.t 0)]))]
@[go_sem] def c48r5 : List GOp := [(.op none .t (.ld (some 6) (.s 3))),
  (.op none .no (.st 6 (.s 2) (.t 0)))]
def c48s6 : SCode := (.seq (.ops c48r5) .ret)
@[go_sem] theorem c48s6eq : vc P E c48s6 σ H Q = vc P E (.seq (.ops c48r5) .ret) σ H Q := rfl
def c48s7 : SCode := (.seq (.ops c48r4) c48s6)
@[go_sem] theorem c48s7eq : vc P E c48s7 σ H Q = vc P E (.seq (.ops c48r4) c48s6) σ H Q := rfl
def c48s8 : SCode := (.cond (.s 10) c48s7 .skip)
@[go_sem] theorem c48s8eq : vc P E c48s8 σ H Q = vc P E (.cond (.s 10) c48s7 .skip) σ H Q := rfl
@[go_sem] def c48r9 : List GOp := [(.op none .t (.v (.mv (.s 4)))),
  (.op none .t (.v (.cvi .i64 (.t 0)))),
  (.op none .t (.v (.fa 0 (.s 3)))),
  (.op none .no (.st 1 (.t 0) (.t 1)))]
@[go_sem] def c48r10 : List GOp := [(.op none (.s 5) (.v (.mv (.c (.int .i64 0)))))]
@[go_sem] def c48r11 : List GOp := [(.op none .t (.v (.fa 0 (.s 3)))),
  (.op none (.s 11) (.ld none (.t 0)))]
@[go_sem] def c48r12 : List GOp := [(.op none .t (.v (.bin .eql (.s 11) (.c (.int .i64 2))))),
  (.op none (.s 12) (.v (.mv (.t 0))))]
@[go_sem] def c48r13 : List GOp := [(.op none .t (.v (.bin .eql (.s 11) (.c (.int .i64 3))))),
  (.op none (.s 12) (.v (.mv (.t 0))))]
def c48s14 : SCode := (.cond (.s 12) .skip (.ops c48r13))
@[go_sem] theorem c48s14eq : vc P E c48s14 σ H Q = vc P E (.cond (.s 12) .skip (.ops c48r13)) σ H Q := rfl
@[go_sem] def c48r15 : List GOp := [(.op none .t (.v (.mv (.s 0)))),
  (.op none .t (.call 72 [(.t 0)])),
  (.op none .t (.v (.fa 1 (.s 3)))),
  (.op none .no (.st 1 (.t 0) (.t 1)))]
@[go_sem] def c48r16 : List GOp := [(.op none .t (.v (.mv (.s 0)))),
  (.op none .t (.call 72 [(.t 0)])),
  (.op none .t (.v (.fa 2 (.s 3)))),
  (.op none .no (.st 1 (.t 0) (.t 1)))]
def c48s17 : SCode := (.ops c48r16)
@[go_sem] theorem c48s17eq : vc P E c48s17 σ H Q = vc P E (.ops c48r16) σ H Q := rfl
def c48s18 : SCode := (.seq (.ops c48r15) c48s17)
@[go_sem] theorem c48s18eq : vc P E c48s18 σ H Q = vc P E (.seq (.ops c48r15) c48s17) σ H Q := rfl
@[go_sem] def c48r19 : List GOp := [(.op none .t (.v (.bin .eql (.s 11) (.c (.int .i64 4))))),
  (.op none (.s 13) (.v (.mv (.t 0))))]
@[go_sem] def c48r20 : List GOp := [(.op none .t (.v (.bin .eql (.s 11) (.c (.int .i64 8))))),
  (.op none (.s 13) (.v (.mv (.t 0))))]
@[go_sem] def c48r21 : List GOp := [(.op none .t (.v (.bin .eql (.s 11) (.c (.int .i64 10))))),
  (.op none (.s 13) (.v (.mv (.t 0))))]
def c48s22 : SCode := (.cond (.s 13) .skip (.ops c48r21))
@[go_sem] theorem c48s22eq : vc P E c48s22 σ H Q = vc P E (.cond (.s 13) .skip (.ops c48r21)) σ H Q := rfl
def c48s23 : SCode := (.seq (.ops c48r20) c48s22)
@[go_sem] theorem c48s23eq : vc P E c48s23 σ H Q = vc P E (.seq (.ops c48r20) c48s22) σ H Q := rfl
def c48s24 : SCode := (.cond (.s 13) .skip c48s23)
@[go_sem] theorem c48s24eq : vc P E c48s24 σ H Q = vc P E (.cond (.s 13) .skip c48s23) σ H Q := rfl
@[go_sem] def c48r25 : List GOp := [(.op none .t (.v (.mv (.s 0)))),
  (.op none .t (.call 73 [(.t 0)])),
  (.op none .t (.v (.fa 3 (.s 3)))),
  (.op none .no (.st 1 (.t 0) (.t 1)))]
@[go_sem] def c48r26 : List GOp := [(.op none .t (.v (.bin .eql (.s 11) (.c (.int .i64 5))))),
  (.op none (.s 14) (.v (.mv (.t 0))))]
@[go_sem] def c48r27 : List GOp := [(.op none .t (.v (.mv (.s 0)))),
  (.op none .t (.call 73 [(.t 0)])),
  (.op none .t (.v (.fa 3 (.s 3)))),
  (.op none .no (.st 1 (.t 0) (.t 1)))]
@[go_sem] def c48r28 : List GOp := [(.op none (.s 5) (.v (.mv (.c (.int .i64 1)))))]
def c48s29 : SCode := (.ops c48r28)
@[go_sem] theorem c48s29eq : vc P E c48s29 σ H Q = vc P E (.ops c48r28) σ H Q := rfl
def c48s30 : SCode := (.seq (.ops c48r27) c48s29)
@[go_sem] theorem c48s30eq : vc P E c48s30 σ H Q = vc P E (.seq (.ops c48r27) c48s29) σ H Q := rfl
@[go_sem] def c48r31 : List GOp := [(.op none .t (.v (.bin .eql (.s 11) (.c (.int .i64 7))))),
  (.op none (.s 15) (.v (.mv (.t 0))))]
@[go_sem] def c48r32 : List GOp := [(.op none (.s 5) (.v (.mv (.c (.int .i64 2)))))]
@[go_sem] def c48r33 : List GOp := [(.op none .t (.v (.bin .eql (.s 11) (.c (.int .i64 6))))),
  (.op none (.s 16) (.v (.mv (.t 0))))]
@[go_sem] def c48r34 : List GOp := [(.op none .t (.v (.mv (.s 0)))),
  (.op none .t (.call 74 [(.t 0)])),
  (.op none (.s 5) (.v (.mv (.t 0))))]
@[go_sem] def c48r35 : List GOp := [(.op none .t (.v (.mv (.s 5)))),
  (.op none (.s 17) (.v (.bin .gtr (.t 0) (.c (.int .i64 8)))))]
@[go_sem] def c48r36 : List GOp := [(.op none .t (.v (.mv (.s 0)))),
  (.op none .t (.call 71 [(.t 0)]))]
def c48s37 : SCode := (.cond (.s 17) (.ops c48r36) .skip)
@[go_sem] theorem c48s37eq : vc P E c48s37 σ H Q = vc P E (.cond (.s 17) (.ops c48r36) .skip) σ H Q := rfl
def c48s38 : SCode := (.seq (.ops c48r35) c48s37)
@[go_sem] theorem c48s38eq : vc P E c48s38 σ H Q = vc P E (.seq (.ops c48r35) c48s37) σ H Q := rfl
def c48s39 : SCode := (.seq (.ops c48r34) c48s38)
@[go_sem] theorem c48s39eq : vc P E c48s39 σ H Q = vc P E (.seq (.ops c48r34) c48s38) σ H Q := rfl
def c48s40 : SCode := (.cond (.s 16) c48s39 .skip)
@[go_sem] theorem c48s40eq : vc P E c48s40 σ H Q = vc P E (.cond (.s 16) c48s39 .skip) σ H Q := rfl
def c48s41 : SCode := (.seq (.ops c48r33) c48s40)
@[go_sem] theorem c48s41eq : vc P E c48s41 σ H Q = vc P E (.seq (.ops c48r33) c48s40) σ H Q := rfl
def c48s42 : SCode := (.cond (.s 15) (.ops c48r32) c48s41)
@[go_sem] theorem c48s42eq : vc P E c48s42 σ H Q = vc P E (.cond (.s 15) (.ops c48r32) c48s41) σ H Q := rfl
def c48s43 : SCode := (.seq (.ops c48r31) c48s42)
@[go_sem] theorem c48s43eq : vc P E c48s43 σ H Q = vc P E (.seq (.ops c48r31) c48s42) σ H Q := rfl
def c48s44 : SCode := (.cond (.s 14) c48s30 c48s43)
@[go_sem] theorem c48s44eq : vc P E c48s44 σ H Q = vc P E (.cond (.s 14) c48s30 c48s43) σ H Q := rfl
def c48s45 : SCode := (.seq (.ops c48r26) c48s44)
@[go_sem] theorem c48s45eq : vc P E c48s45 σ H Q = vc P E (.seq (.ops c48r26) c48s44) σ H Q := rfl
def c48s46 : SCode := (.cond (.s 13) (.ops c48r25) c48s45)
@[go_sem] theorem c48s46eq : vc P E c48s46 σ H Q = vc P E (.cond (.s 13) (.ops c48r25) c48s45) σ H Q := rfl
def c48s47 : SCode := (.seq (.seq (.ops c48r19) c48s24) c48s46)
@[go_sem] theorem c48s47eq : vc P E c48s47 σ H Q = vc P E (.seq (.seq (.ops c48r19) c48s24) c48s46) σ H Q := rfl
def c48s48 : SCode := (.cond (.s 12) c48s18 c48s47)
@[go_sem] theorem c48s48eq : vc P E c48s48 σ H Q = vc P E (.cond (.s 12) c48s18 c48s47) σ H Q := rfl
def c48s49 : SCode := (.block 0 (.seq (.seq (.ops c48r12) c48s14) c48s48))
theorem c48s49eq : vc P E c48s49 σ H Q = vc P E (.block 0 (.seq (.seq (.ops c48r12) c48s14) c48s48)) σ H Q := rfl
@[go_sem] def c48r50 : List GOp := [(.op none (.s 6) (.v (.mv (.c (.int .i64 0)))))]
@[go_sem] def c48r51 : List GOp := [(.op none .t (.v (.mv (.s 6)))),
  (.op none .t (.v (.mv (.s 5)))),
  (.op none .t (.v (.bin .lss (.t 1) (.t 0)))),
  (.op none .t (.v (.mv (.t 0)))),
  (.sel (.t 0) true [(.op (.v (.mv (.s 0)))), (.op (.v (.nc (.t 0)))), (.op (.v (.fa 3 (.t 0)))), (.op (.ld none (.t 0))), (.op (.v (.un .not (.t 0))))] (.s 18) (.t 0) (.c (.bool false)))]
def c48s52 : SCode := (.cond (.s 18) .skip (.exit 1))
@[go_sem] theorem c48s52eq : vc P E c48s52 σ H Q = vc P E (.cond (.s 18) .skip (.exit 1)) σ H Q := rfl
@[go_sem] def c48r53 : List GOp := [(.op none .t (.v (.fa 0 (.s 3)))),
  (.op none .t (.ld none (.t 0))),
  (.op none (.s 19) (.v (.bin .eql (.t 0) (.c (.int .i64 6)))))]
@[go_sem] def c48d54 : DT := (.rd none .t (.v (.fa 3 (.s 3))) [5, 7] (.rd none .t (.ld none (.t 0)) [5, 7] (.rd none .t (.v (.mv (.s 0))) [3, 4, 5, 7] (.ef 3 none .t (.call 75 [(.t 0)]) (.ef 4 none .t (.bs 9 1 [(.string ⟨⟨[]⟩⟩)] [(0, (1, (.t 0)))]) (.ef 5 none .t (.ap 22 22 (.t 3) (.t 0)) (.rd none .t (.v (.fa 3 (.s 3))) [7] (.ef 7 none .no (.st 1 (.t 0) (.t 1)) .done))))))))
def c48s55 : SCode := (.cond (.s 19) (.de c48d54) .skip)
@[go_sem] theorem c48s55eq : vc P E c48s55 σ H Q = vc P E (.cond (.s 19) (.de c48d54) .skip) σ H Q := rfl
@[go_sem] def c48d56 : DT := (.rd none .t (.v (.fa 4 (.s 3))) [7, 9] (.rd none .t (.ld none (.t 0)) [7, 9] (.rd none .t (.v (.mv (.s 0))) [5, 6, 7, 9] (.rd none .t (.v (.mv (.s 1))) [5, 6, 7, 9] (.rd none .t (.v (.bin .sub (.t 0) (.c (.int .i64 1)))) [5, 6, 7, 9] (.ef 5 none .t (.call 48 [(.t 2), (.t 0)]) (.ef 6 none .t (.bs 26 1 [(.int .i64 0), (.int .i64 0), (.int .i64 0), (.slice none 0 0), (.slice none 0 0), (.slice none 0 0)] [(0, (6, (.t 0)))]) (.ef 7 none .t (.ap 23 23 (.t 5) (.t 0)) (.rd none .t (.v (.fa 4 (.s 3))) [9] (.ef 9 none .no (.st 1 (.t 0) (.t 1)) .done))))))))))
def c48s57 : SCode := (.de c48d56)
@[go_sem] theorem c48s57eq : vc P E c48s57 σ H Q = vc P E (.de c48d56) σ H Q := rfl
@[go_sem] def c48r58 : List GOp := [(.op none .t (.v (.mv (.s 6)))),
  (.op none .t (.v (.bin .add (.t 0) (.c (.int .i64 1))))),
  (.op none (.s 6) (.v (.mv (.t 0))))]
def c48s59 : SCode := (.ops c48r58)
@[go_sem] theorem c48s59eq : vc P E c48s59 σ H Q = vc P E (.ops c48r58) σ H Q := rfl
def c48s60 : SCode := (.seq (.block 2 (.seq (.seq (.ops c48r53) c48s55) c48s57)) c48s59)
@[go_sem] theorem c48s60eq : vc P E c48s60 σ H Q = vc P E (.seq (.block 2 (.seq (.seq (.ops c48r53) c48s55) c48s57)) c48s59) σ H Q := rfl
def c48s61 : SCode := (.seq (.seq (.ops c48r51) c48s52) c48s60)
@[go_sem] theorem c48s61eq : vc P E c48s61 σ H Q = vc P E (.seq (.seq (.ops c48r51) c48s52) c48s60) σ H Q := rfl
def c48s62 : SCode := (.block 1 (.loop c48k c48s61))
theorem c48s62eq : vc P E c48s62 σ H Q = vc P E (.block 1 (.loop c48k c48s61)) σ H Q := rfl
@[go_sem] def c48r63 : List GOp := [(.op none .t (.v (.fa 0 (.s 3)))),
  (.op none .t (.ld none (.t 0))),
  (.op none (.s 20) (.v (.bin .eql (.t 0) (.c (.int .i64 10)))))]
@[go_sem] def c48r64 : List GOp := [(.op none .t (.v (.mv (.s 0)))),
  (.op none .t (.call 74 [(.t 0)])),
  (.op none (.s 7) (.v (.mv (.t 0))))]
@[go_sem] def c48r65 : List GOp := [(.op none (.s 8) (.v (.mv (.c (.int .i64 0)))))]
@[go_sem] def c48r66 : List GOp := [(.op none .t (.v (.mv (.s 8)))),
  (.op none .t (.v (.mv (.s 7)))),
  (.op none .t (.v (.bin .lss (.t 1) (.t 0)))),
  (.op none .t (.v (.mv (.t 0)))),
  (.sel (.t 0) true [(.op (.v (.mv (.s 0)))), (.op (.v (.nc (.t 0)))), (.op (.v (.fa 3 (.t 0)))), (.op (.ld none (.t 0))), (.op (.v (.un .not (.t 0))))] (.s 21) (.t 0) (.c (.bool false)))]
def c48s67 : SCode := (.cond (.s 21) .skip (.exit 3))
@[go_sem] theorem c48s67eq : vc P E c48s67 σ H Q = vc P E (.cond (.s 21) .skip (.exit 3)) σ H Q := rfl
@[go_sem] def c48r68 : List GOp := [(.op none .t (.v (.mv (.s 0)))),
  (.op none .t (.call 73 [(.t 0)])),
  (.op none .t (.v (.bld [(.slice none 0 0), (.string ⟨⟨[]⟩⟩)] [(0, (1, (.t 0)))]))),
  (.op none (.s 9) (.al 50 [(.slice none 0 0), (.string ⟨⟨[]⟩⟩)])),
  (.op none .no (.st 2 (.s 9) (.t 0)))]
@[go_sem] def c48r69 : List GOp := [(.op none .t (.v (.mv (.s 0)))),
  (.op none .t (.call 75 [(.t 0)])),
  (.op none .t (.v (.fa 1 (.s 9)))),
  (.op none .no (.st 1 (.t 0) (.t 1)))]
@[go_sem] def c48r70 : List GOp := [(.op none .t (.v (.fa 5 (.s 3)))),
  (.op none .t (.ld none (.t 0))),
  (.op none .t (.ld (some 2) (.s 9))),
  (.op none .t (.bs 50 1 [(.slice none 0 0), (.string ⟨⟨[]⟩⟩)] [(0, (2, (.t 0)))])),
  (.op none .t (.ap 24 24 (.t 2) (.t 0))),
  (.op none .t (.v (.fa 5 (.s 3)))),
  (.op none .no (.st 1 (.t 0) (.t 1)))]
def c48s71 : SCode := (.ops c48r70)
@[go_sem] theorem c48s71eq : vc P E c48s71 σ H Q = vc P E (.ops c48r70) σ H Q := rfl
def c48s72 : SCode := (.seq (.ops c48r69) c48s71)
@[go_sem] theorem c48s72eq : vc P E c48s72 σ H Q = vc P E (.seq (.ops c48r69) c48s71) σ H Q := rfl
@[go_sem] def c48r73 : List GOp := [(.op none .t (.v (.mv (.s 8)))),
  (.op none .t (.v (.bin .add (.t 0) (.c (.int .i64 1))))),
  (.op none (.s 8) (.v (.mv (.t 0))))]
def c48s74 : SCode := (.ops c48r73)
@[go_sem] theorem c48s74eq : vc P E c48s74 σ H Q = vc P E (.ops c48r73) σ H Q := rfl
def c48s75 : SCode := (.seq (.block 4 (.seq (.ops c48r68) c48s72)) c48s74)
@[go_sem] theorem c48s75eq : vc P E c48s75 σ H Q = vc P E (.seq (.block 4 (.seq (.ops c48r68) c48s72)) c48s74) σ H Q := rfl
def c48s76 : SCode := (.seq (.seq (.ops c48r66) c48s67) c48s75)
@[go_sem] theorem c48s76eq : vc P E c48s76 σ H Q = vc P E (.seq (.seq (.ops c48r66) c48s67) c48s75) σ H Q := rfl
def c48s77 : SCode := (.block 3 (.loop c48k c48s76))
theorem c48s77eq : vc P E c48s77 σ H Q = vc P E (.block 3 (.loop c48k c48s76)) σ H Q := rfl
def c48s78 : SCode := (.seq (.ops c48r65) c48s77)
@[go_sem] theorem c48s78eq : vc P E c48s78 σ H Q = vc P E (.seq (.ops c48r65) c48s77) σ H Q := rfl
def c48s79 : SCode := (.seq (.ops c48r64) c48s78)
@[go_sem] theorem c48s79eq : vc P E c48s79 σ H Q = vc P E (.seq (.ops c48r64) c48s78) σ H Q := rfl
def c48s80 : SCode := (.cond (.s 20) c48s79 .skip)
@[go_sem] theorem c48s80eq : vc P E c48s80 σ H Q = vc P E (.cond (.s 20) c48s79 .skip) σ H Q := rfl
@[go_sem] def c48r81 : List GOp := [(.op none .t (.ld (some 6) (.s 3))),
  (.op none .no (.st 6 (.s 2) (.t 0)))]
def c48s82 : SCode := (.seq (.ops c48r81) .ret)
@[go_sem] theorem c48s82eq : vc P E c48s82 σ H Q = vc P E (.seq (.ops c48r81) .ret) σ H Q := rfl
def c48s83 : SCode := (.seq (.seq (.ops c48r63) c48s80) c48s82)
@[go_sem] theorem c48s83eq : vc P E c48s83 σ H Q = vc P E (.seq (.seq (.ops c48r63) c48s80) c48s82) σ H Q := rfl
def c48s84 : SCode := (.seq (.seq (.ops c48r50) c48s62) c48s83)
@[go_sem] theorem c48s84eq : vc P E c48s84 σ H Q = vc P E (.seq (.seq (.ops c48r50) c48s62) c48s83) σ H Q := rfl
def c48s85 : SCode := (.seq (.seq (.ops c48r11) c48s49) c48s84)
@[go_sem] theorem c48s85eq : vc P E c48s85 σ H Q = vc P E (.seq (.seq (.ops c48r11) c48s49) c48s84) σ H Q := rfl
def c48s86 : SCode := (.seq (.ops c48r10) c48s85)
@[go_sem] theorem c48s86eq : vc P E c48s86 σ H Q = vc P E (.seq (.ops c48r10) c48s85) σ H Q := rfl
def c48s87 : SCode := (.seq (.ops c48r9) c48s86)
@[go_sem] theorem c48s87eq : vc P E c48s87 σ H Q = vc P E (.seq (.ops c48r9) c48s86) σ H Q := rfl
def c48s88 : SCode := (.seq (.seq (.ops c48r3) c48s8) c48s87)
@[go_sem] theorem c48s88eq : vc P E c48s88 σ H Q = vc P E (.seq (.seq (.ops c48r3) c48s8) c48s87) σ H Q := rfl
def c48s89 : SCode := (.seq (.ops c48r2) c48s88)
@[go_sem] theorem c48s89eq : vc P E c48s89 σ H Q = vc P E (.seq (.ops c48r2) c48s88) σ H Q := rfl
def c48s90 : SCode := (.seq (.ops c48r1) c48s89)
@[go_sem] theorem c48s90eq : vc P E c48s90 σ H Q = vc P E (.seq (.ops c48r1) c48s89) σ H Q := rfl
def c48 : Gx.Fn := ⟨131, c48k, (.seq (.ops c48r0) c48s90), [(.cell (.s 2) (some 6))]⟩
theorem c48ok : stripFn Try.prog c48k Try.f48 = some c48 := by kernel_rfl

/- (*plexusref01.In).End -/
@[go_sem] def c49k : List Nat := [0, 2]
@[go_sem] def c49r0 : List GOp := [(.op none (.s 1) (.v (.mv (.c (.bool false)))))]
@[go_sem] def c49r1 : List GOp := [(.op none .t (.v (.mv (.s 0)))),
  (.op none .t (.v (.nc (.t 0)))),
  (.op none .t (.v (.fa 3 (.t 0)))),
  (.op none .t (.ld none (.t 0))),
  (.op none .t (.v (.un .not (.t 0)))),
  (.op none .t (.v (.mv (.t 0)))),
  (.sel (.t 0) true [(.op (.v (.mv (.s 0)))), (.op (.v (.nc (.t 0)))), (.op (.v (.fa 1 (.t 0)))), (.op (.ld none (.t 0))), (.op (.v (.mv (.s 0)))), (.op (.v (.nc (.t 0)))), (.op (.v (.fa 0 (.t 0)))), (.op (.ld none (.t 0))), (.op (.v (.len (.t 0)))), (.op (.v (.bin .eql (.t 5) (.t 0))))] .t (.t 0) (.c (.bool false))),
  (.op none (.s 1) (.v (.mv (.t 0))))]
def c49 : Gx.Fn := ⟨20, c49k, (.seq (.ops c49r0) (.seq (.dq c49r1) .ret)), [(.tmp (.s 1))]⟩
theorem c49ok : stripFn Try.prog c49k Try.f49 = some c49 := by kernel_rfl

/- lattice.shape -/
@[go_sem] def c50k : List Nat := [0, 1, 2, 3, 4, 5, 6, 7, 8, 10, 11, 14, 17, 20, 22, 24, 29]
@[go_sem] def c50r0 : List GOp := [(.op none (.s 1) (.bx 26 (.s 0))),
  (.op none (.s 2) (.v (.mv (.c (.int .i64 0)))))]
@[go_sem] def c50r1 : List GOp := [(.op none (.s 3) (.v (.mv (.c (.int .i64 0))))),
  (.op none (.s 4) (.v (.mv (.c (.bool false))))),
  (.op none (.s 5) (.v (.mv (.c (.bool false))))),
  (.op none (.s 6) (.v (.mv (.c (.bool false)))))]
@[go_sem] def c50r2 : List GOp := [(.op none .t (.v (.fa 0 (.s 1)))),
  (.op none (.s 9) (.ld none (.t 0)))]
@[go_sem] def c50r3 : List GOp := [(.op none .t (.v (.bin .eql (.s 9) (.c (.int .i64 1))))),
  (.op none (.s 10) (.v (.mv (.t 0))))]
@[go_sem] def c50r4 : List GOp := [(.op none .t (.v (.bin .eql (.s 9) (.c (.int .i64 9))))),
  (.op none (.s 10) (.v (.mv (.t 0))))]
def c50s5 : SCode := (.cond (.s 10) .skip (.ops c50r4))
@[go_sem] theorem c50s5eq : vc P E c50s5 σ H Q = vc P E (.cond (.s 10) .skip (.ops c50r4)) σ H Q := rfl
@[go_sem] def c50r6 : List GOp := [(.op none .t (.v (.bin .eql (.s 9) (.c (.int .i64 2))))),
  (.op none (.s 11) (.v (.mv (.t 0))))]
@[go_sem] def c50r7 : List GOp := [(.op none .t (.v (.bin .eql (.s 9) (.c (.int .i64 3))))),
  (.op none (.s 11) (.v (.mv (.t 0))))]
def c50s8 : SCode := (.cond (.s 11) .skip (.ops c50r7))
@[go_sem] theorem c50s8eq : vc P E c50s8 σ H Q = vc P E (.cond (.s 11) .skip (.ops c50r7)) σ H Q := rfl
@[go_sem] def c50r9 : List GOp := [(.op none (.s 6) (.v (.mv (.c (.bool true)))))]
@[go_sem] def c50r10 : List GOp := [(.op none .t (.v (.bin .eql (.s 9) (.c (.int .i64 4))))),
  (.op none (.s 12) (.v (.mv (.t 0))))]
@[go_sem] def c50r11 : List GOp := [(.op none .t (.v (.bin .eql (.s 9) (.c (.int .i64 8))))),
  (.op none (.s 12) (.v (.mv (.t 0))))]
def c50s12 : SCode := (.cond (.s 12) .skip (.ops c50r11))
@[go_sem] theorem c50s12eq : vc P E c50s12 σ H Q = vc P E (.cond (.s 12) .skip (.ops c50r11)) σ H Q := rfl
@[go_sem] def c50r13 : List GOp := [(.op none (.s 4) (.v (.mv (.c (.bool true)))))]
@[go_sem] def c50r14 : List GOp := [(.op none .t (.v (.bin .eql (.s 9) (.c (.int .i64 5))))),
  (.op none (.s 13) (.v (.mv (.t 0))))]
@[go_sem] def c50r15 : List GOp := [(.op none (.s 4) (.v (.mv (.c (.bool true))))),
  (.op none (.s 3) (.v (.mv (.c (.int .i64 1)))))]
@[go_sem] def c50r16 : List GOp := [(.op none .t (.v (.bin .eql (.s 9) (.c (.int .i64 7))))),
  (.op none (.s 14) (.v (.mv (.t 0))))]
@[go_sem] def c50r17 : List GOp := [(.op none (.s 3) (.v (.mv (.c (.int .i64 2)))))]
@[go_sem] def c50r18 : List GOp := [(.op none .t (.v (.bin .eql (.s 9) (.c (.int .i64 6))))),
  (.op none (.s 15) (.v (.mv (.t 0))))]
@[go_sem] def c50r19 : List GOp := [(.op none .t (.v (.fa 3 (.s 1)))),
  (.op none .t (.ld none (.t 0))),
  (.op none .t (.v (.len (.t 0)))),
  (.op none (.s 4) (.v (.mv (.c (.bool true))))),
  (.op none (.s 3) (.v (.mv (.t 0))))]
@[go_sem] def c50r20 : List GOp := [(.op none .t (.v (.bin .eql (.s 9) (.c (.int .i64 10))))),
  (.op none (.s 16) (.v (.mv (.t 0))))]
@[go_sem] def c50r21 : List GOp := [(.op none (.s 4) (.v (.mv (.c (.bool true))))),
  (.op none (.s 5) (.v (.mv (.c (.bool true)))))]
@[go_sem] def c50r22 : List GOp := [(.op none (.s 2) (.v (.mv (.c (.int .i64 1)))))]
def c50s23 : SCode := (.seq (.ops c50r22) .ret)
@[go_sem] theorem c50s23eq : vc P E c50s23 σ H Q = vc P E (.seq (.ops c50r22) .ret) σ H Q := rfl
def c50s24 : SCode := (.cond (.s 16) (.ops c50r21) c50s23)
@[go_sem] theorem c50s24eq : vc P E c50s24 σ H Q = vc P E (.cond (.s 16) (.ops c50r21) c50s23) σ H Q := rfl
def c50s25 : SCode := (.seq (.ops c50r20) c50s24)
@[go_sem] theorem c50s25eq : vc P E c50s25 σ H Q = vc P E (.seq (.ops c50r20) c50s24) σ H Q := rfl
def c50s26 : SCode := (.cond (.s 15) (.dq c50r19) c50s25)
@[go_sem] theorem c50s26eq : vc P E c50s26 σ H Q = vc P E (.cond (.s 15) (.dq c50r19) c50s25) σ H Q := rfl
def c50s27 : SCode := (.seq (.ops c50r18) c50s26)
@[go_sem] theorem c50s27eq : vc P E c50s27 σ H Q = vc P E (.seq (.ops c50r18) c50s26) σ H Q := rfl
def c50s28 : SCode := (.cond (.s 14) (.ops c50r17) c50s27)
@[go_sem] theorem c50s28eq : vc P E c50s28 σ H Q = vc P E (.cond (.s 14) (.ops c50r17) c50s27) σ H Q := rfl
def c50s29 : SCode := (.seq (.ops c50r16) c50s28)
@[go_sem] theorem c50s29eq : vc P E c50s29 σ H Q = vc P E (.seq (.ops c50r16) c50s28) σ H Q := rfl
def c50s30 : SCode := (.cond (.s 13) (.ops c50r15) c50s29)
@[go_sem] theorem c50s30eq : vc P E c50s30 σ H Q = vc P E (.cond (.s 13) (.ops c50r15) c50s29) σ H Q := rfl
def c50s31 : SCode := (.seq (.ops c50r14) c50s30)
@[go_sem] theorem c50s31eq : vc P E c50s31 σ H Q = vc P E (.seq (.ops c50r14) c50s30) σ H Q := rfl
def c50s32 : SCode := (.cond (.s 12) (.ops c50r13) c50s31)
@[go_sem] theorem c50s32eq : vc P E c50s32 σ H Q = vc P E (.cond (.s 12) (.ops c50r13) c50s31) σ H Q := rfl
def c50s33 : SCode := (.seq (.seq (.ops c50r10) c50s12) c50s32)
@[go_sem] theorem c50s33eq : vc P E c50s33 σ H Q = vc P E (.seq (.seq (.ops c50r10) c50s12) c50s32) σ H Q := rfl
def c50s34 : SCode := (.cond (.s 11) (.ops c50r9) c50s33)
@[go_sem] theorem c50s34eq : vc P E c50s34 σ H Q = vc P E (.cond (.s 11) (.ops c50r9) c50s33) σ H Q := rfl
def c50s35 : SCode := (.seq (.seq (.ops c50r6) c50s8) c50s34)
@[go_sem] theorem c50s35eq : vc P E c50s35 σ H Q = vc P E (.seq (.seq (.ops c50r6) c50s8) c50s34) σ H Q := rfl
def c50s36 : SCode := (.cond (.s 10) .skip c50s35)
@[go_sem] theorem c50s36eq : vc P E c50s36 σ H Q = vc P E (.cond (.s 10) .skip c50s35) σ H Q := rfl
def c50s37 : SCode := (.block 0 (.seq (.seq (.ops c50r3) c50s5) c50s36))
@[go_sem] theorem c50s37eq : vc P E c50s37 σ H Q = vc P E (.block 0 (.seq (.seq (.ops c50r3) c50s5) c50s36)) σ H Q := rfl
@[go_sem] def c50r38 : List GOp := [(.op none .t (.v (.fa 4 (.s 1)))),
  (.op none .t (.ld none (.t 0))),
  (.op none .t (.v (.len (.t 0)))),
  (.op none .t (.v (.mv (.s 3)))),
  (.op none .t (.v (.bin .neq (.t 1) (.t 0)))),
  (.op none .t (.v (.mv (.t 0)))),
  (.sel (.t 0) false [(.op (.v (.mv (.s 4)))), (.op (.v (.un .not (.t 0)))), (.op (.v (.mv (.t 0)))), (.nst (.t 0) true [(.op (.v (.fa 3 (.s 1)))), (.op (.ld none (.t 0))), (.op (.v (.len (.t 0)))), (.op (.v (.bin .gtr (.t 0) (.c (.int .i64 0)))))] (.t 0) (.c (.bool false)))] .t (.c (.bool true)) (.t 0)),
  (.op none .t (.v (.mv (.t 0)))),
  (.sel (.t 0) false [(.op (.v (.mv (.s 5)))), (.op (.v (.un .not (.t 0)))), (.op (.v (.mv (.t 0)))), (.nst (.t 0) true [(.op (.v (.fa 5 (.s 1)))), (.op (.ld none (.t 0))), (.op (.v (.len (.t 0)))), (.op (.v (.bin .gtr (.t 0) (.c (.int .i64 0)))))] (.t 0) (.c (.bool false)))] .t (.c (.bool true)) (.t 0)),
  (.op none .t (.v (.mv (.t 0)))),
  (.sel (.t 0) false [(.op (.v (.mv (.s 6)))), (.op (.v (.un .not (.t 0)))), (.op (.v (.mv (.t 0)))), (.nst (.t 0) true [(.op (.v (.fa 1 (.s 1)))), (.op (.ld none (.t 0))), (.op (.v (.bin .neq (.t 0) (.c (.int .i64 0))))), (.op (.v (.mv (.t 0)))), (.nst (.t 0) false [(.op (.v (.fa 2 (.s 1)))), (.op (.ld none (.t 0))), (.op (.v (.bin .neq (.t 0) (.c (.int .i64 0)))))] (.c (.bool true)) (.t 0))] (.t 0) (.c (.bool false)))] .t (.c (.bool true)) (.t 0)),
  (.op none (.s 7) (.v (.mv (.t 0))))]
@[go_sem] def c50r39 : List GOp := [(.op none .t (.v (.fa 0 (.s 1)))),
  (.op none .t (.ld none (.t 0))),
  (.op none .t (.v (.bin .eql (.t 0) (.c (.int .i64 6))))),
  (.op none .t (.v (.mv (.t 0)))),
  (.sel (.t 0) false [(.op (.v (.fa 0 (.s 1)))), (.op (.ld none (.t 0))), (.op (.v (.bin .eql (.t 0) (.c (.int .i64 10)))))] .t (.c (.bool true)) (.t 0)),
  (.op none .t (.v (.mv (.t 0)))),
  (.sel (.t 0) true [(.op (.v (.fa 3 (.s 1)))), (.op (.ld none (.t 0))), (.op (.v (.len (.t 0)))), (.op (.v (.bin .eql (.t 0) (.c (.int .i64 0)))))] .t (.t 0) (.c (.bool false))),
  (.op none (.s 8) (.v (.mv (.t 0))))]
@[go_sem] def c50r40 : List GOp := [(.op none .t (.v (.mv (.s 7)))),
  (.op none .t (.v (.mv (.t 0)))),
  (.sel (.t 0) false [(.op (.v (.mv (.s 8))))] .t (.c (.bool true)) (.t 0)),
  (.op none .t (.call 76 [(.t 0), (.c (.int .i64 1))])),
  (.op none (.s 2) (.v (.mv (.t 0))))]
def c50s41 : SCode := (.seq (.ops c50r40) .ret)
@[go_sem] theorem c50s41eq : vc P E c50s41 σ H Q = vc P E (.seq (.ops c50r40) .ret) σ H Q := rfl
def c50s42 : SCode := (.seq (.ops c50r39) c50s41)
@[go_sem] theorem c50s42eq : vc P E c50s42 σ H Q = vc P E (.seq (.ops c50r39) c50s41) σ H Q := rfl
def c50s43 : SCode := (.seq (.ops c50r38) c50s42)
@[go_sem] theorem c50s43eq : vc P E c50s43 σ H Q = vc P E (.seq (.ops c50r38) c50s42) σ H Q := rfl
def c50s44 : SCode := (.seq (.seq (.ops c50r2) c50s37) c50s43)
@[go_sem] theorem c50s44eq : vc P E c50s44 σ H Q = vc P E (.seq (.seq (.ops c50r2) c50s37) c50s43) σ H Q := rfl
def c50s45 : SCode := (.seq (.ops c50r1) c50s44)
@[go_sem] theorem c50s45eq : vc P E c50s45 σ H Q = vc P E (.seq (.ops c50r1) c50s44) σ H Q := rfl
def c50 : Gx.Fn := ⟨89, c50k, (.seq (.ops c50r0) c50s45), [(.tmp (.s 2))]⟩
theorem c50ok : stripFn Try.prog c50k Try.f50 = some c50 := by kernel_rfl

/- cmp.Or[api.Errno] -/
@[go_sem] def c51k : List Nat := [0, 2, 3, 5, 6, 7, 8, 9, 14]
@[go_sem] def c51r0 : List GOp := [(.op none (.s 1) (.v (.mv (.c (.int .i64 0)))))]
@[go_sem] def c51r1 : List GOp := [(.op none (.s 2) (.v (.mv (.c (.int .i64 0)))))]
@[go_sem] def c51r2 : List GOp := [(.op none (.s 4) (.v (.mv (.s 0)))),
  (.op none (.s 5) (.v (.len (.s 4)))),
  (.op none (.s 6) (.v (.mv (.c (.int .i64 0)))))]
@[go_sem] def c51r3 : List GOp := [(.op none (.s 7) (.v (.bin .lss (.s 6) (.s 5))))]
@[go_sem] def c51r4 : List GOp := [(.op none .t (.v (.ix 1 (.s 4) (.s 6)))),
  (.op none .t (.ld none (.t 0))),
  (.op none (.s 3) (.v (.mv (.t 0))))]
@[go_sem] def c51r5 : List GOp := [(.op none .t (.v (.mv (.s 3)))),
  (.op none .t (.v (.mv (.s 2)))),
  (.op none (.s 8) (.v (.bin .neq (.t 1) (.t 0))))]
@[go_sem] def c51r6 : List GOp := [(.op none .t (.v (.mv (.s 3)))),
  (.op none (.s 1) (.v (.mv (.t 0))))]
def c51s7 : SCode := (.seq (.ops c51r6) .ret)
@[go_sem] theorem c51s7eq : vc P E c51s7 σ H Q = vc P E (.seq (.ops c51r6) .ret) σ H Q := rfl
def c51s8 : SCode := (.cond (.s 8) c51s7 .skip)
@[go_sem] theorem c51s8eq : vc P E c51s8 σ H Q = vc P E (.cond (.s 8) c51s7 .skip) σ H Q := rfl
def c51s9 : SCode := (.seq (.ops c51r5) c51s8)
@[go_sem] theorem c51s9eq : vc P E c51s9 σ H Q = vc P E (.seq (.ops c51r5) c51s8) σ H Q := rfl
@[go_sem] def c51r10 : List GOp := [(.op none .t (.v (.bin .add (.s 6) (.c (.int .i64 1))))),
  (.op none (.s 6) (.v (.mv (.t 0))))]
def c51s11 : SCode := (.ops c51r10)
@[go_sem] theorem c51s11eq : vc P E c51s11 σ H Q = vc P E (.ops c51r10) σ H Q := rfl
def c51s12 : SCode := (.seq (.block 1 (.seq (.ops c51r4) c51s9)) c51s11)
@[go_sem] theorem c51s12eq : vc P E c51s12 σ H Q = vc P E (.seq (.block 1 (.seq (.ops c51r4) c51s9)) c51s11) σ H Q := rfl
def c51s13 : SCode := (.seq (.cond (.s 7) .skip (.exit 0)) c51s12)
@[go_sem] theorem c51s13eq : vc P E c51s13 σ H Q = vc P E (.seq (.cond (.s 7) .skip (.exit 0)) c51s12) σ H Q := rfl
def c51s14 : SCode := (.seq (.ops c51r3) c51s13)
@[go_sem] theorem c51s14eq : vc P E c51s14 σ H Q = vc P E (.seq (.ops c51r3) c51s13) σ H Q := rfl
def c51s15 : SCode := (.block 0 (.loop c51k c51s14))
@[go_sem] theorem c51s15eq : vc P E c51s15 σ H Q = vc P E (.block 0 (.loop c51k c51s14)) σ H Q := rfl
@[go_sem] def c51r16 : List GOp := [(.op none .t (.v (.mv (.s 2)))),
  (.op none (.s 1) (.v (.mv (.t 0))))]
def c51s17 : SCode := (.seq (.ops c51r16) .ret)
@[go_sem] theorem c51s17eq : vc P E c51s17 σ H Q = vc P E (.seq (.ops c51r16) .ret) σ H Q := rfl
def c51s18 : SCode := (.seq (.seq (.ops c51r2) c51s15) c51s17)
@[go_sem] theorem c51s18eq : vc P E c51s18 σ H Q = vc P E (.seq (.seq (.ops c51r2) c51s15) c51s17) σ H Q := rfl
def c51s19 : SCode := (.seq (.ops c51r1) c51s18)
@[go_sem] theorem c51s19eq : vc P E c51s19 σ H Q = vc P E (.seq (.ops c51r1) c51s18) σ H Q := rfl
def c51 : Gx.Fn := ⟨18, c51k, (.seq (.ops c51r0) c51s19), [(.tmp (.s 1))]⟩
theorem c51ok : stripFn Try.prog c51k Try.f51 = some c51 := by kernel_rfl

/- lattice.limits -/
@[go_sem] def c52k : List Nat := [0, 1, 2, 3, 5, 6, 8]
@[go_sem] def c52r0 : List GOp := [(.op none (.s 1) (.bx 26 (.s 0))),
  (.op none (.s 2) (.v (.mv (.c (.int .i64 0)))))]
@[go_sem] def c52r1 : List GOp := [(.op none (.s 3) (.v (.mv (.c (.int .i64 32)))))]
@[go_sem] def c52r2 : List GOp := [(.op none .t (.v (.fa 0 (.s 1)))),
  (.op none (.s 4) (.ld none (.t 0)))]
@[go_sem] def c52r3 : List GOp := [(.op none .t (.v (.bin .eql (.s 4) (.c (.int .i64 6))))),
  (.op none (.s 5) (.v (.mv (.t 0))))]
@[go_sem] def c52r4 : List GOp := [(.op none (.s 3) (.v (.mv (.c (.int .i64 8)))))]
@[go_sem] def c52r5 : List GOp := [(.op none .t (.v (.bin .eql (.s 4) (.c (.int .i64 10))))),
  (.op none (.s 6) (.v (.mv (.t 0))))]
@[go_sem] def c52r6 : List GOp := [(.op none (.s 3) (.v (.mv (.c (.int .i64 12)))))]
def c52s7 : SCode := (.cond (.s 6) (.ops c52r6) .skip)
@[go_sem] theorem c52s7eq : vc P E c52s7 σ H Q = vc P E (.cond (.s 6) (.ops c52r6) .skip) σ H Q := rfl
def c52s8 : SCode := (.seq (.ops c52r5) c52s7)
@[go_sem] theorem c52s8eq : vc P E c52s8 σ H Q = vc P E (.seq (.ops c52r5) c52s7) σ H Q := rfl
def c52s9 : SCode := (.cond (.s 5) (.ops c52r4) c52s8)
@[go_sem] theorem c52s9eq : vc P E c52s9 σ H Q = vc P E (.cond (.s 5) (.ops c52r4) c52s8) σ H Q := rfl
def c52s10 : SCode := (.block 0 (.seq (.ops c52r3) c52s9))
@[go_sem] theorem c52s10eq : vc P E c52s10 σ H Q = vc P E (.block 0 (.seq (.ops c52r3) c52s9)) σ H Q := rfl
@[go_sem] def c52r11 : List GOp := [(.op none .t (.v (.fa 3 (.s 1)))),
  (.op none .t (.ld none (.t 0))),
  (.op none .t (.v (.len (.t 0)))),
  (.op none .t (.v (.mv (.s 3)))),
  (.op none .t (.v (.bin .gtr (.t 1) (.t 0)))),
  (.op none .t (.v (.mv (.t 0)))),
  (.sel (.t 0) false [(.op (.v (.fa 5 (.s 1)))), (.op (.ld none (.t 0))), (.op (.v (.len (.t 0)))), (.op (.v (.bin .gtr (.t 0) (.c (.int .i64 32)))))] .t (.c (.bool true)) (.t 0)),
  (.op none .t (.call 76 [(.t 0), (.c (.int .i64 6))])),
  (.op none (.s 2) (.v (.mv (.t 0))))]
def c52s12 : SCode := (.seq (.ops c52r11) .ret)
@[go_sem] theorem c52s12eq : vc P E c52s12 σ H Q = vc P E (.seq (.ops c52r11) .ret) σ H Q := rfl
def c52s13 : SCode := (.seq (.seq (.ops c52r2) c52s10) c52s12)
@[go_sem] theorem c52s13eq : vc P E c52s13 σ H Q = vc P E (.seq (.seq (.ops c52r2) c52s10) c52s12) σ H Q := rfl
def c52s14 : SCode := (.seq (.ops c52r1) c52s13)
@[go_sem] theorem c52s14eq : vc P E c52s14 σ H Q = vc P E (.seq (.ops c52r1) c52s13) σ H Q := rfl
def c52 : Gx.Fn := ⟨22, c52k, (.seq (.ops c52r0) c52s14), [(.tmp (.s 2))]⟩
theorem c52ok : stripFn Try.prog c52k Try.f52 = some c52 := by kernel_rfl

/- lattice.spelling -/
@[go_sem] def c53k : List Nat := [0, 1, 2, 3, 4, 6, 8, 9, 10, 11, 30, 40, 42, 43, 44, 45, 73]
@[go_sem] def c53r0 : List GOp := [(.op none (.s 1) (.bx 26 (.s 0))),
  (.op none (.s 2) (.v (.mv (.c (.int .i64 0)))))]
@[go_sem] def c53r1 : List GOp := [(.op none .t (.v (.fa 3 (.s 1)))),
  (.op none (.s 6) (.ld none (.t 0))),
  (.op none (.s 7) (.v (.len (.s 6)))),
  (.op none (.s 8) (.v (.mv (.c (.int .i64 0)))))]
@[go_sem] def c53r2 : List GOp := [(.op none (.s 9) (.v (.bin .lss (.s 8) (.s 7))))]
@[go_sem] def c53r3 : List GOp := [(.op none .t (.v (.mv (.s 8)))),
  (.op none .t (.v (.ix 1 (.s 6) (.s 8)))),
  (.op none .t (.ld none (.t 0))),
  (.op none (.s 3) (.v (.mv (.t 2)))),
  (.op none (.s 4) (.v (.mv (.t 0))))]
@[go_sem] def c53r4 : List GOp := [(.op none .t (.v (.mv (.s 4)))),
  (.op none .t (.call 77 [(.t 0)])),
  (.op none .t (.v (.un .not (.t 0)))),
  (.op none .t (.v (.mv (.t 0)))),
  (.op (some ((.t 0), (false, true))) .t (.v (.fa 0 (.s 1)))),
  (.op (some ((.t 1), (false, false))) .t (.ld none (.t 0))),
  (.op (some ((.t 2), (false, false))) .t (.v (.bin .eql (.t 0) (.c (.int .i64 6))))),
  (.op (some ((.t 3), (false, false))) .t (.v (.mv (.t 0)))),
  (.op (some ((.t 0), (true, true))) .t (.v (.fa 3 (.s 1)))),
  (.op (some ((.t 1), (true, false))) .t (.ld none (.t 0))),
  (.op (some ((.t 2), (true, false))) .t (.v (.mv (.s 3)))),
  (.op (some ((.t 3), (true, false))) .t (.v (.sl 1 (.t 1) none (some (.t 0))))),
  (.op (some ((.t 4), (true, false))) .t (.v (.mv (.s 4)))),
  (.op (some ((.t 5), (true, false))) .t (.call 78 [(.t 1), (.t 0)])),
  (.op (some ((.t 10), (false, true))) .t (.v (.pick (.t 6) (.t 0) (.c (.bool false))))),
  (.op none (.s 10) (.v (.pick (.t 11) (.c (.bool true)) (.t 0))))]
@[go_sem] def c53r5 : List GOp := [(.op none (.s 2) (.v (.mv (.c (.int .i64 3)))))]
def c53s6 : SCode := (.seq (.ops c53r5) .ret)
@[go_sem] theorem c53s6eq : vc P E c53s6 σ H Q = vc P E (.seq (.ops c53r5) .ret) σ H Q := rfl
def c53s7 : SCode := (.cond (.s 10) c53s6 .skip)
@[go_sem] theorem c53s7eq : vc P E c53s7 σ H Q = vc P E (.cond (.s 10) c53s6 .skip) σ H Q := rfl
def c53s8 : SCode := (.seq (.ops c53r4) c53s7)
@[go_sem] theorem c53s8eq : vc P E c53s8 σ H Q = vc P E (.seq (.ops c53r4) c53s7) σ H Q := rfl
@[go_sem] def c53r9 : List GOp := [(.op none .t (.v (.bin .add (.s 8) (.c (.int .i64 1))))),
  (.op none (.s 8) (.v (.mv (.t 0))))]
def c53s10 : SCode := (.ops c53r9)
@[go_sem] theorem c53s10eq : vc P E c53s10 σ H Q = vc P E (.ops c53r9) σ H Q := rfl
def c53s11 : SCode := (.seq (.block 1 (.seq (.ops c53r3) c53s8)) c53s10)
@[go_sem] theorem c53s11eq : vc P E c53s11 σ H Q = vc P E (.seq (.block 1 (.seq (.ops c53r3) c53s8)) c53s10) σ H Q := rfl
def c53s12 : SCode := (.seq (.cond (.s 9) .skip (.exit 0)) c53s11)
@[go_sem] theorem c53s12eq : vc P E c53s12 σ H Q = vc P E (.seq (.cond (.s 9) .skip (.exit 0)) c53s11) σ H Q := rfl
def c53s13 : SCode := (.seq (.ops c53r2) c53s12)
@[go_sem] theorem c53s13eq : vc P E c53s13 σ H Q = vc P E (.seq (.ops c53r2) c53s12) σ H Q := rfl
def c53s14 : SCode := (.block 0 (.loop c53k c53s13))
@[go_sem] theorem c53s14eq : vc P E c53s14 σ H Q = vc P E (.block 0 (.loop c53k c53s13)) σ H Q := rfl
@[go_sem] def c53r15 : List GOp := [(.op none .t (.v (.fa 0 (.s 1)))),
  (.op none .t (.ld none (.t 0))),
  (.op none .t (.v (.bin .neq (.t 0) (.c (.int .i64 6))))),
  (.op none .t (.v (.mv (.t 0)))),
  (.op (some ((.t 0), (true, true))) .t (.v (.fa 3 (.s 1)))),
  (.op (some ((.t 1), (true, false))) .t (.ld none (.t 0))),
  (.op (some ((.t 2), (true, false))) .t (.call 79 [(.t 0)])),
  (.op (some ((.t 3), (true, false))) .t (.v (.un .not (.t 0)))),
  (.op none (.s 11) (.v (.pick (.t 4) (.t 0) (.c (.bool false)))))]
@[go_sem] def c53r16 : List GOp := [(.op none (.s 2) (.v (.mv (.c (.int .i64 3)))))]
def c53s17 : SCode := (.seq (.ops c53r16) .ret)
@[go_sem] theorem c53s17eq : vc P E c53s17 σ H Q = vc P E (.seq (.ops c53r16) .ret) σ H Q := rfl
def c53s18 : SCode := (.cond (.s 11) c53s17 .skip)
@[go_sem] theorem c53s18eq : vc P E c53s18 σ H Q = vc P E (.cond (.s 11) c53s17 .skip) σ H Q := rfl
@[go_sem] def c53r19 : List GOp := [(.op none .t (.v (.fa 5 (.s 1)))),
  (.op none (.s 12) (.ld none (.t 0))),
  (.op none (.s 13) (.v (.len (.s 12)))),
  (.op none (.s 14) (.v (.mv (.c (.int .i64 0)))))]
@[go_sem] def c53r20 : List GOp := [(.op none (.s 15) (.v (.bin .lss (.s 14) (.s 13))))]
@[go_sem] def c53r21 : List GOp := [(.op none .t (.v (.ix 2 (.s 12) (.s 14)))),
  (.op none .t (.ld (some 2) (.t 0))),
  (.op none (.s 5) (.al 50 [(.slice none 0 0), (.string ⟨⟨[]⟩⟩)])),
  (.op none .no (.st 2 (.s 5) (.t 0)))]
@[go_sem] def c53r22 : List GOp := [(.op none .t (.v (.fa 0 (.s 5)))),
  (.op none .t (.ld none (.t 0))),
  (.op none .t (.v (.len (.t 0)))),
  (.op none .t (.v (.bin .eql (.t 0) (.c (.int .i64 0))))),
  (.op none .t (.v (.mv (.t 0)))),
  (.op (some ((.t 0), (false, true))) .t (.v (.fa 0 (.s 5)))),
  (.op (some ((.t 1), (false, false))) .t (.ld none (.t 0))),
  (.op (some ((.t 2), (false, false))) .t (.call 79 [(.t 0)])),
  (.op (some ((.t 3), (false, false))) .t (.v (.un .not (.t 0)))),
  (.op none .t (.v (.pick (.t 4) (.c (.bool true)) (.t 0)))),
  (.op none .t (.v (.mv (.t 0)))),
  (.op (some ((.t 0), (false, true))) .t (.v (.fa 0 (.s 5)))),
  (.op (some ((.t 1), (false, false))) .t (.ld none (.t 0))),
  (.op (some ((.t 2), (false, false))) .t (.v (.fa 3 (.s 1)))),
  (.op (some ((.t 3), (false, false))) .t (.ld none (.t 0))),
  (.op (some ((.t 4), (false, false))) .t (.call 80 [(.t 2), (.t 0)])),
  (.op (some ((.t 5), (false, false))) .t (.v (.un .not (.t 0)))),
  (.op none .t (.v (.pick (.t 6) (.c (.bool true)) (.t 0)))),
  (.op none .t (.v (.mv (.t 0)))),
  (.op (some ((.t 0), (false, true))) .t (.v (.fa 3 (.s 1)))),
  (.op (some ((.t 1), (false, false))) .t (.ld none (.t 0))),
  (.op (some ((.t 2), (false, false))) .t (.v (.fa 1 (.s 5)))),
  (.op (some ((.t 3), (false, false))) .t (.ld none (.t 0))),
  (.op (some ((.t 4), (false, false))) .t (.call 81 [(.t 2), (.t 0)])),
  (.op (some ((.t 5), (false, false))) .t (.v (.un .not (.t 0)))),
  (.op none (.s 16) (.v (.pick (.t 6) (.c (.bool true)) (.t 0))))]
@[go_sem] def c53r23 : List GOp := [(.op none (.s 2) (.v (.mv (.c (.int .i64 3)))))]
def c53s24 : SCode := (.seq (.ops c53r23) .ret)
@[go_sem] theorem c53s24eq : vc P E c53s24 σ H Q = vc P E (.seq (.ops c53r23) .ret) σ H Q := rfl
def c53s25 : SCode := (.cond (.s 16) c53s24 .skip)
@[go_sem] theorem c53s25eq : vc P E c53s25 σ H Q = vc P E (.cond (.s 16) c53s24 .skip) σ H Q := rfl
def c53s26 : SCode := (.seq (.ops c53r22) c53s25)
@[go_sem] theorem c53s26eq : vc P E c53s26 σ H Q = vc P E (.seq (.ops c53r22) c53s25) σ H Q := rfl
@[go_sem] def c53r27 : List GOp := [(.op none .t (.v (.bin .add (.s 14) (.c (.int .i64 1))))),
  (.op none (.s 14) (.v (.mv (.t 0))))]
def c53s28 : SCode := (.ops c53r27)
@[go_sem] theorem c53s28eq : vc P E c53s28 σ H Q = vc P E (.ops c53r27) σ H Q := rfl
def c53s29 : SCode := (.seq (.block 3 (.seq (.ops c53r21) c53s26)) c53s28)
@[go_sem] theorem c53s29eq : vc P E c53s29 σ H Q = vc P E (.seq (.block 3 (.seq (.ops c53r21) c53s26)) c53s28) σ H Q := rfl
def c53s30 : SCode := (.seq (.cond (.s 15) .skip (.exit 2)) c53s29)
@[go_sem] theorem c53s30eq : vc P E c53s30 σ H Q = vc P E (.seq (.cond (.s 15) .skip (.exit 2)) c53s29) σ H Q := rfl
def c53s31 : SCode := (.seq (.ops c53r20) c53s30)
@[go_sem] theorem c53s31eq : vc P E c53s31 σ H Q = vc P E (.seq (.ops c53r20) c53s30) σ H Q := rfl
def c53s32 : SCode := (.block 2 (.loop c53k c53s31))
@[go_sem] theorem c53s32eq : vc P E c53s32 σ H Q = vc P E (.block 2 (.loop c53k c53s31)) σ H Q := rfl
@[go_sem] def c53r33 : List GOp := [(.op none (.s 2) (.v (.mv (.c (.int .i64 0)))))]
def c53s34 : SCode := (.seq (.ops c53r33) .ret)
@[go_sem] theorem c53s34eq : vc P E c53s34 σ H Q = vc P E (.seq (.ops c53r33) .ret) σ H Q := rfl
def c53s35 : SCode := (.seq (.seq (.ops c53r19) c53s32) c53s34)
@[go_sem] theorem c53s35eq : vc P E c53s35 σ H Q = vc P E (.seq (.seq (.ops c53r19) c53s32) c53s34) σ H Q := rfl
def c53s36 : SCode := (.seq (.seq (.ops c53r15) c53s18) c53s35)
@[go_sem] theorem c53s36eq : vc P E c53s36 σ H Q = vc P E (.seq (.seq (.ops c53r15) c53s18) c53s35) σ H Q := rfl
def c53s37 : SCode := (.seq (.seq (.ops c53r1) c53s14) c53s36)
@[go_sem] theorem c53s37eq : vc P E c53s37 σ H Q = vc P E (.seq (.seq (.ops c53r1) c53s14) c53s36) σ H Q := rfl
def c53 : Gx.Fn := ⟨75, c53k, (.seq (.ops c53r0) c53s37), [(.tmp (.s 2))]⟩
theorem c53ok : stripFn Try.prog c53k Try.f53 = some c53 := by kernel_rfl

/- lattice.ranges -/
@[go_sem] def c54k : List Nat := [0, 1, 2]
@[go_sem] def c54r0 : List GOp := [(.op none (.s 1) (.bx 26 (.s 0))),
  (.op none (.s 2) (.v (.mv (.c (.int .i64 0)))))]
@[go_sem] def c54r1 : List GOp := [(.op none .t (.v (.fa 1 (.s 1)))),
  (.op none .t (.ld none (.t 0))),
  (.op none .t (.v (.fa 2 (.s 1)))),
  (.op none .t (.ld none (.t 0))),
  (.op none .t (.v (.bin .gtr (.t 2) (.t 0)))),
  (.op none .t (.v (.mv (.t 0)))),
  (.sel (.t 0) false [(.op (.v (.fa 1 (.s 1)))), (.op (.ld none (.t 0))), (.op (.v (.bin .lss (.t 0) (.c (.int .i64 (-1000000000))))))] .t (.c (.bool true)) (.t 0)),
  (.op none .t (.v (.mv (.t 0)))),
  (.sel (.t 0) false [(.op (.v (.fa 1 (.s 1)))), (.op (.ld none (.t 0))), (.op (.v (.bin .gtr (.t 0) (.c (.int .i64 1000000000)))))] .t (.c (.bool true)) (.t 0)),
  (.op none .t (.v (.mv (.t 0)))),
  (.sel (.t 0) false [(.op (.v (.fa 2 (.s 1)))), (.op (.ld none (.t 0))), (.op (.v (.bin .lss (.t 0) (.c (.int .i64 (-1000000000))))))] .t (.c (.bool true)) (.t 0)),
  (.op none .t (.v (.mv (.t 0)))),
  (.sel (.t 0) false [(.op (.v (.fa 2 (.s 1)))), (.op (.ld none (.t 0))), (.op (.v (.bin .gtr (.t 0) (.c (.int .i64 1000000000)))))] .t (.c (.bool true)) (.t 0)),
  (.op none .t (.call 76 [(.t 0), (.c (.int .i64 5))])),
  (.op none (.s 2) (.v (.mv (.t 0))))]
def c54s2 : SCode := (.seq (.ops c54r1) .ret)
@[go_sem] theorem c54s2eq : vc P E c54s2 σ H Q = vc P E (.seq (.ops c54r1) .ret) σ H Q := rfl
def c54 : Gx.Fn := ⟨29, c54k, (.seq (.ops c54r0) c54s2), [(.tmp (.s 2))]⟩
theorem c54ok : stripFn Try.prog c54k Try.f54 = some c54 := by kernel_rfl

/- lattice.chains -/
@[go_sem] def c55k : List Nat := [0, 1, 2]
@[go_sem] def c55r0 : List GOp := [(.op none (.s 1) (.bx 26 (.s 0))),
  (.op none (.s 2) (.v (.mv (.c (.int .i64 0)))))]
@[go_sem] def c55r1 : List GOp := [(.op none .t (.v (.fa 0 (.s 1)))),
  (.op none .t (.ld none (.t 0))),
  (.op none .t (.v (.bin .eql (.t 0) (.c (.int .i64 7))))),
  (.op none .t (.v (.mv (.t 0)))),
  (.op (some ((.t 0), (true, true))) .t (.v (.fa 4 (.s 1)))),
  (.op (some ((.t 1), (true, false))) .t (.ld none (.t 0))),
  (.op (some ((.t 2), (true, false))) .t (.v (.ix 6 (.t 0) (.c (.int .i64 0))))),
  (.op (some ((.t 3), (true, false))) .t (.ld (some 6) (.t 0))),
  (.op (some ((.t 4), (true, false))) .t (.call 16 [(.t 0)])),
  (.op (some ((.t 5), (true, false))) .t (.v (.un .not (.t 0)))),
  (.op none .t (.v (.pick (.t 6) (.t 0) (.c (.bool false))))),
  (.op none .t (.call 76 [(.t 0), (.c (.int .i64 4))])),
  (.op none (.s 2) (.v (.mv (.t 0))))]
def c55s2 : SCode := (.seq (.ops c55r1) .ret)
@[go_sem] theorem c55s2eq : vc P E c55s2 σ H Q = vc P E (.seq (.ops c55r1) .ret) σ H Q := rfl
def c55 : Gx.Fn := ⟨15, c55k, (.seq (.ops c55r0) c55s2), [(.tmp (.s 2))]⟩
theorem c55ok : stripFn Try.prog c55k Try.f55 = some c55 := by kernel_rfl

/- plexusref09.node -/
@[go_sem] def c56k : List Nat := [0, 1, 2, 3, 6, 7, 10, 13, 14, 21, 25, 37, 41, 57]
@[go_sem] def c56r0 : List GOp := [(.op none (.s 3) (.bx 26 (.s 0))),
  (.op none (.s 4) (.v (.mv (.c (.int .i64 0)))))]
@[go_sem] def c56r1 : List GOp := [(.op none (.s 5) (.v (.mv (.c (.int .i64 32)))))]
@[go_sem] def c56r2 : List GOp := [(.op none .t (.v (.fa 0 (.s 3)))),
  (.op none .t (.ld none (.t 0))),
  (.op none (.s 6) (.v (.bin .eql (.t 0) (.c (.int .i64 6)))))]
@[go_sem] def c56r3 : List GOp := [(.op none (.s 5) (.v (.mv (.c (.int .i64 8)))))]
def c56s4 : SCode := (.cond (.s 6) (.ops c56r3) .skip)
@[go_sem] theorem c56s4eq : vc P E c56s4 σ H Q = vc P E (.cond (.s 6) (.ops c56r3) .skip) σ H Q := rfl
@[go_sem] def c56r5 : List GOp := [(.op none .t (.v (.fa 0 (.s 3)))),
  (.op none .t (.ld none (.t 0))),
  (.op none (.s 7) (.v (.bin .eql (.t 0) (.c (.int .i64 10)))))]
@[go_sem] def c56r6 : List GOp := [(.op none (.s 5) (.v (.mv (.c (.int .i64 12)))))]
def c56s7 : SCode := (.cond (.s 7) (.ops c56r6) .skip)
@[go_sem] theorem c56s7eq : vc P E c56s7 σ H Q = vc P E (.cond (.s 7) (.ops c56r6) .skip) σ H Q := rfl
@[go_sem] def c56r8 : List GOp := [(.op none .t (.v (.mv (.s 1)))),
  (.op none .t (.v (.bin .gtr (.t 0) (.c (.int .i64 6))))),
  (.op none .t (.v (.mv (.t 0)))),
  (.sel (.t 0) false [(.op (.v (.mv (.s 2)))), (.op (.v (.bin .geq (.t 0) (.c (.int .i64 64)))))] .t (.c (.bool true)) (.t 0)),
  (.op none (.s 8) (.v (.mv (.t 0))))]
@[go_sem] def c56r9 : List GOp := [(.op none (.s 4) (.v (.mv (.c (.int .i64 6)))))]
def c56s10 : SCode := (.seq (.ops c56r9) .ret)
@[go_sem] theorem c56s10eq : vc P E c56s10 σ H Q = vc P E (.seq (.ops c56r9) .ret) σ H Q := rfl
@[go_sem] def c56r11 : List GOp := [(.op none .t (.ld (some 6) (.s 3))),
  (.op none .t (.call 82 [(.t 0)])),
  (.op none .t (.v (.un .not (.t 0)))),
  (.op none (.s 9) (.v (.mv (.t 0))))]
@[go_sem] def c56r12 : List GOp := [(.op none (.s 4) (.v (.mv (.c (.int .i64 1)))))]
def c56s13 : SCode := (.seq (.ops c56r12) .ret)
@[go_sem] theorem c56s13eq : vc P E c56s13 σ H Q = vc P E (.seq (.ops c56r12) .ret) σ H Q := rfl
@[go_sem] def c56r14 : List GOp := [(.op none .t (.v (.fa 3 (.s 3)))),
  (.op none .t (.ld none (.t 0))),
  (.op none .t (.v (.len (.t 0)))),
  (.op none .t (.v (.mv (.s 5)))),
  (.op none .t (.v (.bin .gtr (.t 1) (.t 0)))),
  (.op none .t (.v (.mv (.t 0)))),
  (.sel (.t 0) false [(.op (.v (.fa 5 (.s 3)))), (.op (.ld none (.t 0))), (.op (.v (.len (.t 0)))), (.op (.v (.bin .gtr (.t 0) (.c (.int .i64 32)))))] .t (.c (.bool true)) (.t 0)),
  (.op none (.s 10) (.v (.mv (.t 0))))]
@[go_sem] def c56r15 : List GOp := [(.op none (.s 4) (.v (.mv (.c (.int .i64 6)))))]
def c56s16 : SCode := (.seq (.ops c56r15) .ret)
@[go_sem] theorem c56s16eq : vc P E c56s16 σ H Q = vc P E (.seq (.ops c56r15) .ret) σ H Q := rfl
@[go_sem] def c56r17 : List GOp := [(.op none .t (.ld (some 6) (.s 3))),
  (.op none .t (.call 83 [(.t 0)])),
  (.op none .t (.v (.un .not (.t 0)))),
  (.op none (.s 11) (.v (.mv (.t 0))))]
@[go_sem] def c56r18 : List GOp := [(.op none (.s 4) (.v (.mv (.c (.int .i64 3)))))]
def c56s19 : SCode := (.seq (.ops c56r18) .ret)
@[go_sem] theorem c56s19eq : vc P E c56s19 σ H Q = vc P E (.seq (.ops c56r18) .ret) σ H Q := rfl
@[go_sem] def c56r20 : List GOp := [(.op none .t (.v (.fa 1 (.s 3)))),
  (.op none .t (.ld none (.t 0))),
  (.op none .t (.v (.fa 2 (.s 3)))),
  (.op none .t (.ld none (.t 0))),
  (.op none .t (.v (.bin .gtr (.t 2) (.t 0)))),
  (.op none .t (.v (.mv (.t 0)))),
  (.sel (.t 0) false [(.op (.v (.fa 1 (.s 3)))), (.op (.ld none (.t 0))), (.op (.v (.bin .lss (.t 0) (.c (.int .i64 (-1000000000))))))] .t (.c (.bool true)) (.t 0)),
  (.op none .t (.v (.mv (.t 0)))),
  (.sel (.t 0) false [(.op (.v (.fa 2 (.s 3)))), (.op (.ld none (.t 0))), (.op (.v (.bin .gtr (.t 0) (.c (.int .i64 1000000000)))))] .t (.c (.bool true)) (.t 0)),
  (.op none (.s 12) (.v (.mv (.t 0))))]
@[go_sem] def c56r21 : List GOp := [(.op none (.s 4) (.v (.mv (.c (.int .i64 5)))))]
def c56s22 : SCode := (.seq (.ops c56r21) .ret)
@[go_sem] theorem c56s22eq : vc P E c56s22 σ H Q = vc P E (.seq (.ops c56r21) .ret) σ H Q := rfl
@[go_sem] def c56r23 : List GOp := [(.op none .t (.v (.fa 0 (.s 3)))),
  (.op none .t (.ld none (.t 0))),
  (.op none .t (.v (.bin .eql (.t 0) (.c (.int .i64 7))))),
  (.op none .t (.v (.mv (.t 0)))),
  (.op (some ((.t 0), (true, true))) .t (.v (.fa 4 (.s 3)))),
  (.op (some ((.t 1), (true, false))) .t (.ld none (.t 0))),
  (.op (some ((.t 2), (true, false))) .t (.v (.ix 6 (.t 0) (.c (.int .i64 0))))),
  (.op (some ((.t 3), (true, false))) .t (.ld (some 6) (.t 0))),
  (.op (some ((.t 4), (true, false))) .t (.call 17 [(.t 0)])),
  (.op (some ((.t 5), (true, false))) .t (.v (.un .not (.t 0)))),
  (.op none .t (.v (.pick (.t 6) (.t 0) (.c (.bool false))))),
  (.op none (.s 13) (.v (.mv (.t 0))))]
@[go_sem] def c56r24 : List GOp := [(.op none (.s 4) (.v (.mv (.c (.int .i64 4)))))]
def c56s25 : SCode := (.seq (.ops c56r24) .ret)
@[go_sem] theorem c56s25eq : vc P E c56s25 σ H Q = vc P E (.seq (.ops c56r24) .ret) σ H Q := rfl
def c56s26 : SCode := (.cond (.s 13) c56s25 .skip)
@[go_sem] theorem c56s26eq : vc P E c56s26 σ H Q = vc P E (.cond (.s 13) c56s25 .skip) σ H Q := rfl
def c56s27 : SCode := (.seq (.ops c56r23) c56s26)
@[go_sem] theorem c56s27eq : vc P E c56s27 σ H Q = vc P E (.seq (.ops c56r23) c56s26) σ H Q := rfl
def c56s28 : SCode := (.cond (.s 12) c56s22 c56s27)
@[go_sem] theorem c56s28eq : vc P E c56s28 σ H Q = vc P E (.cond (.s 12) c56s22 c56s27) σ H Q := rfl
def c56s29 : SCode := (.seq (.ops c56r20) c56s28)
@[go_sem] theorem c56s29eq : vc P E c56s29 σ H Q = vc P E (.seq (.ops c56r20) c56s28) σ H Q := rfl
def c56s30 : SCode := (.cond (.s 11) c56s19 c56s29)
@[go_sem] theorem c56s30eq : vc P E c56s30 σ H Q = vc P E (.cond (.s 11) c56s19 c56s29) σ H Q := rfl
def c56s31 : SCode := (.seq (.ops c56r17) c56s30)
@[go_sem] theorem c56s31eq : vc P E c56s31 σ H Q = vc P E (.seq (.ops c56r17) c56s30) σ H Q := rfl
def c56s32 : SCode := (.cond (.s 10) c56s16 c56s31)
@[go_sem] theorem c56s32eq : vc P E c56s32 σ H Q = vc P E (.cond (.s 10) c56s16 c56s31) σ H Q := rfl
def c56s33 : SCode := (.seq (.ops c56r14) c56s32)
@[go_sem] theorem c56s33eq : vc P E c56s33 σ H Q = vc P E (.seq (.ops c56r14) c56s32) σ H Q := rfl
def c56s34 : SCode := (.cond (.s 9) c56s13 c56s33)
@[go_sem] theorem c56s34eq : vc P E c56s34 σ H Q = vc P E (.cond (.s 9) c56s13 c56s33) σ H Q := rfl
def c56s35 : SCode := (.seq (.ops c56r11) c56s34)
@[go_sem] theorem c56s35eq : vc P E c56s35 σ H Q = vc P E (.seq (.ops c56r11) c56s34) σ H Q := rfl
def c56s36 : SCode := (.cond (.s 8) c56s10 c56s35)
@[go_sem] theorem c56s36eq : vc P E c56s36 σ H Q = vc P E (.cond (.s 8) c56s10 c56s35) σ H Q := rfl
@[go_sem] def c56r37 : List GOp := [(.op none (.s 4) (.v (.mv (.c (.int .i64 0)))))]
def c56s38 : SCode := (.seq (.ops c56r37) .ret)
@[go_sem] theorem c56s38eq : vc P E c56s38 σ H Q = vc P E (.seq (.ops c56r37) .ret) σ H Q := rfl
def c56s39 : SCode := (.seq (.block 0 (.seq (.ops c56r8) c56s36)) c56s38)
@[go_sem] theorem c56s39eq : vc P E c56s39 σ H Q = vc P E (.seq (.block 0 (.seq (.ops c56r8) c56s36)) c56s38) σ H Q := rfl
def c56s40 : SCode := (.seq (.seq (.ops c56r5) c56s7) c56s39)
@[go_sem] theorem c56s40eq : vc P E c56s40 σ H Q = vc P E (.seq (.seq (.ops c56r5) c56s7) c56s39) σ H Q := rfl
def c56s41 : SCode := (.seq (.seq (.ops c56r2) c56s4) c56s40)
@[go_sem] theorem c56s41eq : vc P E c56s41 σ H Q = vc P E (.seq (.seq (.ops c56r2) c56s4) c56s40) σ H Q := rfl
def c56s42 : SCode := (.seq (.ops c56r1) c56s41)
@[go_sem] theorem c56s42eq : vc P E c56s42 σ H Q = vc P E (.seq (.ops c56r1) c56s41) σ H Q := rfl
def c56 : Gx.Fn := ⟨69, c56k, (.seq (.ops c56r0) c56s42), [(.tmp (.s 4))]⟩
theorem c56ok : stripFn Try.prog c56k Try.f56 = some c56 := by kernel_rfl

/- slices.IndexFunc[[]api.Lattice,api.Lattice] -/
@[go_sem] def c57k : List Nat := [0, 1, 4, 5, 7, 8, 9, 16]
@[go_sem] def c57r0 : List GOp := [(.op none (.s 2) (.v (.mv (.c (.int .i64 0)))))]
@[go_sem] def c57r1 : List GOp := [(.op none .t (.v (.mv (.s 0)))),
  (.op none (.s 4) (.v (.len (.t 0)))),
  (.op none (.s 5) (.v (.mv (.c (.int .i64 0)))))]
@[go_sem] def c57r2 : List GOp := [(.op none (.s 6) (.v (.bin .lss (.s 5) (.s 4))))]
@[go_sem] def c57r3 : List GOp := [(.op none .t (.v (.mv (.s 5)))),
  (.op none (.s 3) (.v (.mv (.t 0))))]
@[go_sem] def c57r4 : List GOp := [(.op none .t (.v (.mv (.s 1)))),
  (.op none .t (.v (.mv (.s 0)))),
  (.op none .t (.v (.mv (.s 3)))),
  (.op none .t (.v (.ix 6 (.t 1) (.t 0)))),
  (.op none .t (.ld (some 6) (.t 0))),
  (.op none (.s 7) (.cv (.t 4) [(.t 0)]))]
@[go_sem] def c57r5 : List GOp := [(.op none .t (.v (.mv (.s 3)))),
  (.op none (.s 2) (.v (.mv (.t 0))))]
def c57s6 : SCode := (.seq (.ops c57r5) .ret)
@[go_sem] theorem c57s6eq : vc P E c57s6 σ H Q = vc P E (.seq (.ops c57r5) .ret) σ H Q := rfl
def c57s7 : SCode := (.cond (.s 7) c57s6 .skip)
@[go_sem] theorem c57s7eq : vc P E c57s7 σ H Q = vc P E (.cond (.s 7) c57s6 .skip) σ H Q := rfl
def c57s8 : SCode := (.seq (.ops c57r4) c57s7)
@[go_sem] theorem c57s8eq : vc P E c57s8 σ H Q = vc P E (.seq (.ops c57r4) c57s7) σ H Q := rfl
@[go_sem] def c57r9 : List GOp := [(.op none .t (.v (.bin .add (.s 5) (.c (.int .i64 1))))),
  (.op none (.s 5) (.v (.mv (.t 0))))]
def c57s10 : SCode := (.ops c57r9)
@[go_sem] theorem c57s10eq : vc P E c57s10 σ H Q = vc P E (.ops c57r9) σ H Q := rfl
def c57s11 : SCode := (.seq (.block 1 (.seq (.ops c57r3) c57s8)) c57s10)
@[go_sem] theorem c57s11eq : vc P E c57s11 σ H Q = vc P E (.seq (.block 1 (.seq (.ops c57r3) c57s8)) c57s10) σ H Q := rfl
def c57s12 : SCode := (.seq (.cond (.s 6) .skip (.exit 0)) c57s11)
@[go_sem] theorem c57s12eq : vc P E c57s12 σ H Q = vc P E (.seq (.cond (.s 6) .skip (.exit 0)) c57s11) σ H Q := rfl
def c57s13 : SCode := (.seq (.ops c57r2) c57s12)
@[go_sem] theorem c57s13eq : vc P E c57s13 σ H Q = vc P E (.seq (.ops c57r2) c57s12) σ H Q := rfl
def c57s14 : SCode := (.block 0 (.loop c57k c57s13))
@[go_sem] theorem c57s14eq : vc P E c57s14 σ H Q = vc P E (.block 0 (.loop c57k c57s13)) σ H Q := rfl
@[go_sem] def c57r15 : List GOp := [(.op none (.s 2) (.v (.mv (.c (.int .i64 (-1))))))]
def c57s16 : SCode := (.seq (.ops c57r15) .ret)
@[go_sem] theorem c57s16eq : vc P E c57s16 σ H Q = vc P E (.seq (.ops c57r15) .ret) σ H Q := rfl
def c57s17 : SCode := (.seq (.seq (.ops c57r1) c57s14) c57s16)
@[go_sem] theorem c57s17eq : vc P E c57s17 σ H Q = vc P E (.seq (.seq (.ops c57r1) c57s14) c57s16) σ H Q := rfl
def c57 : Gx.Fn := ⟨19, c57k, (.seq (.ops c57r0) c57s17), [(.tmp (.s 2))]⟩
theorem c57ok : stripFn Try.prog c57k Try.f57 = some c57 := by kernel_rfl

/- (*wire.Writer).Uint -/
@[go_sem] def c58k : List Nat := [0, 1, 5]
@[go_sem] def c58r0 : List GOp := [(.op none .t (.v (.mv (.s 1)))),
  (.op none (.s 2) (.v (.bin .geq (.t 0) (.c (.int .u64 128)))))]
def c58s1 : SCode := (.cond (.s 2) .skip (.exit 0))
@[go_sem] theorem c58s1eq : vc P E c58s1 σ H Q = vc P E (.cond (.s 2) .skip (.exit 0)) σ H Q := rfl
@[go_sem] def c58r2 : List GOp := [(.op none .t (.v (.mv (.s 0)))),
  (.op none .t (.v (.mv (.s 0)))),
  (.op none .t (.v (.nc (.t 0)))),
  (.op none .t (.v (.fa 0 (.t 0)))),
  (.op none .t (.ld none (.t 0))),
  (.op none .t (.v (.mv (.s 1)))),
  (.op none .t (.v (.cvi .u8 (.t 0)))),
  (.op none .t (.v (.bin .or (.t 0) (.c (.int .u8 128))))),
  (.op none .t (.bs 5 1 [(.int .u8 0)] [(0, (1, (.t 0)))])),
  (.op none .t (.ap 36 36 (.t 4) (.t 0))),
  (.op none .t (.v (.nc (.t 9)))),
  (.op none .t (.v (.fa 0 (.t 0)))),
  (.op none .no (.st 1 (.t 0) (.t 2)))]
@[go_sem] def c58r3 : List GOp := [(.op none .t (.v (.mv (.s 1)))),
  (.op none .t (.v (.bin .shr (.t 0) (.c (.int .u64 7))))),
  (.op none (.s 1) (.v (.mv (.t 0))))]
def c58s4 : SCode := (.ops c58r3)
@[go_sem] theorem c58s4eq : vc P E c58s4 σ H Q = vc P E (.ops c58r3) σ H Q := rfl
def c58s5 : SCode := (.seq (.block 1 (.ops c58r2)) c58s4)
@[go_sem] theorem c58s5eq : vc P E c58s5 σ H Q = vc P E (.seq (.block 1 (.ops c58r2)) c58s4) σ H Q := rfl
def c58s6 : SCode := (.seq (.seq (.ops c58r0) c58s1) c58s5)
@[go_sem] theorem c58s6eq : vc P E c58s6 σ H Q = vc P E (.seq (.seq (.ops c58r0) c58s1) c58s5) σ H Q := rfl
@[go_sem] def c58r7 : List GOp := [(.op none .t (.v (.mv (.s 0)))),
  (.op none .t (.v (.mv (.s 0)))),
  (.op none .t (.v (.nc (.t 0)))),
  (.op none .t (.v (.fa 0 (.t 0)))),
  (.op none .t (.ld none (.t 0))),
  (.op none .t (.v (.mv (.s 1)))),
  (.op none .t (.v (.cvi .u8 (.t 0)))),
  (.op none .t (.bs 5 1 [(.int .u8 0)] [(0, (1, (.t 0)))])),
  (.op none .t (.ap 36 36 (.t 3) (.t 0))),
  (.op none .t (.v (.nc (.t 8)))),
  (.op none .t (.v (.fa 0 (.t 0)))),
  (.op none .no (.st 1 (.t 0) (.t 2)))]
def c58s8 : SCode := (.ops c58r7)
@[go_sem] theorem c58s8eq : vc P E c58s8 σ H Q = vc P E (.ops c58r7) σ H Q := rfl
def c58 : Gx.Fn := ⟨31, c58k, (.seq (.block 0 (.loop c58k c58s6)) c58s8), []⟩
theorem c58ok : stripFn Try.prog c58k Try.f58 = some c58 := by kernel_rfl

/- (*wire.Writer).Int -/
@[go_sem] def c59k : List Nat := [0, 1]
@[go_sem] def c59r0 : List GOp := [(.op none .t (.v (.mv (.s 0)))),
  (.op none .t (.v (.mv (.s 1)))),
  (.op none .t (.v (.cvi .u64 (.t 0)))),
  (.op none .t (.v (.bin .shl (.t 0) (.c (.int .u64 1))))),
  (.op none .t (.v (.mv (.s 1)))),
  (.op none .t (.v (.bin .shr (.t 0) (.c (.int .u64 63))))),
  (.op none .t (.v (.cvi .u64 (.t 0)))),
  (.op none .t (.v (.bin .xor (.t 3) (.t 0)))),
  (.op none .t (.call 58 [(.t 7), (.t 0)]))]
def c59 : Gx.Fn := ⟨13, c59k, (.ops c59r0), []⟩
theorem c59ok : stripFn Try.prog c59k Try.f59 = some c59 := by kernel_rfl

/- lattice.list -/
@[go_sem] def c60k : List Nat := [0, 1, 5, 11, 12, 13, 14]
@[go_sem] def c60r0 : List GOp := [(.op none .t (.v (.mv (.s 0)))),
  (.op none .t (.v (.mv (.s 1)))),
  (.op none .t (.v (.len (.t 0)))),
  (.op none .t (.v (.cvi .u64 (.t 0)))),
  (.op none .t (.call 58 [(.t 3), (.t 0)]))]
@[go_sem] def c60r1 : List GOp := [(.op none (.s 3) (.v (.mv (.s 1)))),
  (.op none (.s 4) (.v (.len (.s 3)))),
  (.op none (.s 5) (.v (.mv (.c (.int .i64 0)))))]
@[go_sem] def c60r2 : List GOp := [(.op none (.s 6) (.v (.bin .lss (.s 5) (.s 4))))]
@[go_sem] def c60r3 : List GOp := [(.op none .t (.v (.ix 1 (.s 3) (.s 5)))),
  (.op none .t (.ld none (.t 0))),
  (.op none (.s 2) (.v (.mv (.t 0))))]
@[go_sem] def c60r4 : List GOp := [(.op none .t (.v (.mv (.s 0)))),
  (.op none .t (.v (.mv (.s 2)))),
  (.op none .t (.call 61 [(.t 1), (.t 0)]))]
def c60s5 : SCode := (.ops c60r4)
@[go_sem] theorem c60s5eq : vc P E c60s5 σ H Q = vc P E (.ops c60r4) σ H Q := rfl
@[go_sem] def c60r6 : List GOp := [(.op none .t (.v (.bin .add (.s 5) (.c (.int .i64 1))))),
  (.op none (.s 5) (.v (.mv (.t 0))))]
def c60s7 : SCode := (.ops c60r6)
@[go_sem] theorem c60s7eq : vc P E c60s7 σ H Q = vc P E (.ops c60r6) σ H Q := rfl
def c60s8 : SCode := (.seq (.block 1 (.seq (.ops c60r3) c60s5)) c60s7)
@[go_sem] theorem c60s8eq : vc P E c60s8 σ H Q = vc P E (.seq (.block 1 (.seq (.ops c60r3) c60s5)) c60s7) σ H Q := rfl
def c60s9 : SCode := (.seq (.cond (.s 6) .skip (.exit 0)) c60s8)
@[go_sem] theorem c60s9eq : vc P E c60s9 σ H Q = vc P E (.seq (.cond (.s 6) .skip (.exit 0)) c60s8) σ H Q := rfl
def c60s10 : SCode := (.seq (.ops c60r2) c60s9)
@[go_sem] theorem c60s10eq : vc P E c60s10 σ H Q = vc P E (.seq (.ops c60r2) c60s9) σ H Q := rfl
def c60s11 : SCode := (.block 0 (.loop c60k c60s10))
@[go_sem] theorem c60s11eq : vc P E c60s11 σ H Q = vc P E (.block 0 (.loop c60k c60s10)) σ H Q := rfl
def c60s12 : SCode := (.seq (.ops c60r1) c60s11)
@[go_sem] theorem c60s12eq : vc P E c60s12 σ H Q = vc P E (.seq (.ops c60r1) c60s11) σ H Q := rfl
def c60 : Gx.Fn := ⟨21, c60k, (.seq (.ops c60r0) c60s12), []⟩
theorem c60ok : stripFn Try.prog c60k Try.f60 = some c60 := by kernel_rfl

/- (*wire.Writer).Text -/
@[go_sem] def c61k : List Nat := [0, 1]
@[go_sem] def c61r0 : List GOp := [(.op none .t (.v (.mv (.s 0)))),
  (.op none .t (.v (.mv (.s 1)))),
  (.op none .t (.v (.slen (.t 0)))),
  (.op none .t (.v (.cvi .u64 (.t 0)))),
  (.op none .t (.call 58 [(.t 3), (.t 0)]))]
@[go_sem] def c61r1 : List GOp := [(.op none .t (.v (.mv (.s 0)))),
  (.op none .t (.v (.mv (.s 0)))),
  (.op none .t (.v (.nc (.t 0)))),
  (.op none .t (.v (.fa 0 (.t 0)))),
  (.op none .t (.ld none (.t 0))),
  (.op none .t (.v (.mv (.s 1)))),
  (.op none .t (.ap 36 9 (.t 1) (.t 0))),
  (.op none .t (.v (.nc (.t 6)))),
  (.op none .t (.v (.fa 0 (.t 0)))),
  (.op none .no (.st 1 (.t 0) (.t 2)))]
def c61s2 : SCode := (.ops c61r1)
@[go_sem] theorem c61s2eq : vc P E c61s2 σ H Q = vc P E (.ops c61r1) σ H Q := rfl
def c61 : Gx.Fn := ⟨18, c61k, (.seq (.ops c61r0) c61s2), []⟩
theorem c61ok : stripFn Try.prog c61k Try.f61 = some c61 := by kernel_rfl

/- (*wire.Reader).Uint -/
@[go_sem] def c62k : List Nat := [0, 2, 3, 4, 5, 8, 16]
@[go_sem] def c62r0 : List GOp := [(.op none (.s 1) (.v (.mv (.c (.int .u64 0)))))]
@[go_sem] def c62r1 : List GOp := [(.op none .t (.v (.mv (.s 0)))),
  (.op none .t (.call 84 [(.t 0)])),
  (.op none (.s 5) (.v (.un .not (.t 0))))]
@[go_sem] def c62r2 : List GOp := [(.op none (.s 1) (.v (.mv (.c (.int .u64 0)))))]
def c62s3 : SCode := (.seq (.ops c62r2) .ret)
@[go_sem] theorem c62s3eq : vc P E c62s3 σ H Q = vc P E (.seq (.ops c62r2) .ret) σ H Q := rfl
def c62s4 : SCode := (.cond (.s 5) c62s3 .skip)
@[go_sem] theorem c62s4eq : vc P E c62s4 σ H Q = vc P E (.cond (.s 5) c62s3 .skip) σ H Q := rfl
@[go_sem] def c62r5 : List GOp := [(.op none .t (.v (.mv (.s 0)))),
  (.op none .t (.call 85 [(.t 0)])),
  (.op none .t (.v (.mv (.t 0)))),
  (.op none .t (.v (.ext (.t 0) 0))),
  (.op none .t (.v (.ext (.t 1) 1))),
  (.op none .t (.v (.ext (.t 2) 2))),
  (.op none (.s 2) (.v (.mv (.t 2)))),
  (.op none (.s 3) (.v (.mv (.t 1)))),
  (.op none (.s 4) (.v (.mv (.t 0))))]
@[go_sem] def c62r6 : List GOp := [(.op none .t (.v (.mv (.s 4)))),
  (.op none (.s 6) (.v (.un .not (.t 0))))]
@[go_sem] def c62r7 : List GOp := [(.op none .t (.v (.mv (.s 0)))),
  (.op none .t (.v (.nc (.t 0)))),
  (.op none .t (.v (.fa 3 (.t 0)))),
  (.op none .no (.st 1 (.t 0) (.c (.int .i64 2))))]
@[go_sem] def c62r8 : List GOp := [(.op none (.s 1) (.v (.mv (.c (.int .u64 0)))))]
def c62s9 : SCode := (.seq (.ops c62r8) .ret)
@[go_sem] theorem c62s9eq : vc P E c62s9 σ H Q = vc P E (.seq (.ops c62r8) .ret) σ H Q := rfl
def c62s10 : SCode := (.seq (.ops c62r7) c62s9)
@[go_sem] theorem c62s10eq : vc P E c62s10 σ H Q = vc P E (.seq (.ops c62r7) c62s9) σ H Q := rfl
def c62s11 : SCode := (.cond (.s 6) c62s10 .skip)
@[go_sem] theorem c62s11eq : vc P E c62s11 σ H Q = vc P E (.cond (.s 6) c62s10 .skip) σ H Q := rfl
@[go_sem] def c62r12 : List GOp := [(.op none .t (.v (.mv (.s 0)))),
  (.op none .t (.v (.mv (.s 3)))),
  (.op none .t (.v (.nc (.t 1)))),
  (.op none .t (.v (.fa 1 (.t 0)))),
  (.op none .no (.st 1 (.t 0) (.t 2)))]
@[go_sem] def c62r13 : List GOp := [(.op none .t (.v (.mv (.s 2)))),
  (.op none (.s 1) (.v (.mv (.t 0))))]
def c62s14 : SCode := (.seq (.ops c62r13) .ret)
@[go_sem] theorem c62s14eq : vc P E c62s14 σ H Q = vc P E (.seq (.ops c62r13) .ret) σ H Q := rfl
def c62s15 : SCode := (.seq (.ops c62r12) c62s14)
@[go_sem] theorem c62s15eq : vc P E c62s15 σ H Q = vc P E (.seq (.ops c62r12) c62s14) σ H Q := rfl
def c62s16 : SCode := (.seq (.seq (.ops c62r6) c62s11) c62s15)
@[go_sem] theorem c62s16eq : vc P E c62s16 σ H Q = vc P E (.seq (.seq (.ops c62r6) c62s11) c62s15) σ H Q := rfl
def c62s17 : SCode := (.seq (.ops c62r5) c62s16)
@[go_sem] theorem c62s17eq : vc P E c62s17 σ H Q = vc P E (.seq (.ops c62r5) c62s16) σ H Q := rfl
def c62s18 : SCode := (.seq (.seq (.ops c62r1) c62s4) c62s17)
@[go_sem] theorem c62s18eq : vc P E c62s18 σ H Q = vc P E (.seq (.seq (.ops c62r1) c62s4) c62s17) σ H Q := rfl
def c62 : Gx.Fn := ⟨25, c62k, (.seq (.ops c62r0) c62s18), [(.tmp (.s 1))]⟩
theorem c62ok : stripFn Try.prog c62k Try.f62 = some c62 := by kernel_rfl

/- (*wire.Reader).Fail -/
@[go_sem] def c63k : List Nat := [0, 6]
@[go_sem] def c63r0 : List GOp := [(.op none .t (.v (.mv (.s 0)))),
  (.op none .t (.v (.nc (.t 0)))),
  (.op none .t (.v (.fa 3 (.t 0)))),
  (.op none .t (.ld none (.t 0))),
  (.op none (.s 1) (.v (.bin .eql (.t 0) (.c (.int .i64 0)))))]
@[go_sem] def c63r1 : List GOp := [(.op none .t (.v (.mv (.s 0)))),
  (.op none .t (.v (.mv (.s 0)))),
  (.op none .t (.v (.mv (.s 0)))),
  (.op none .t (.v (.nc (.t 0)))),
  (.op none .t (.v (.fa 2 (.t 0)))),
  (.op none .t (.ld none (.t 0))),
  (.op none .t (.v (.nc (.t 5)))),
  (.op none .t (.v (.fa 3 (.t 0)))),
  (.op none .no (.st 1 (.t 0) (.c (.int .i64 2)))),
  (.op none .t (.v (.nc (.t 6)))),
  (.op none .t (.v (.fa 1 (.t 0)))),
  (.op none .no (.st 1 (.t 0) (.t 4)))]
def c63s2 : SCode := (.cond (.s 1) (.ops c63r1) .skip)
@[go_sem] theorem c63s2eq : vc P E c63s2 σ H Q = vc P E (.cond (.s 1) (.ops c63r1) .skip) σ H Q := rfl
def c63 : Gx.Fn := ⟨17, c63k, (.seq (.ops c63r0) c63s2), []⟩
theorem c63ok : stripFn Try.prog c63k Try.f63 = some c63 := by kernel_rfl

/- (*wire.Reader).Int -/
@[go_sem] def c64k : List Nat := [0, 2, 3]
@[go_sem] def c64r0 : List GOp := [(.op none (.s 1) (.v (.mv (.c (.int .i64 0)))))]
@[go_sem] def c64r1 : List GOp := [(.op none .t (.v (.mv (.s 0)))),
  (.op none .t (.call 62 [(.t 0)])),
  (.op none (.s 2) (.v (.mv (.t 0))))]
@[go_sem] def c64r2 : List GOp := [(.op none .t (.v (.mv (.s 2)))),
  (.op none .t (.v (.bin .shr (.t 0) (.c (.int .u64 1))))),
  (.op none .t (.v (.cvi .i64 (.t 0)))),
  (.op none .t (.v (.mv (.s 2)))),
  (.op none .t (.v (.bin .and (.t 0) (.c (.int .u64 1))))),
  (.op none .t (.v (.cvi .i64 (.t 0)))),
  (.op none .t (.v (.un .neg (.t 0)))),
  (.op none .t (.v (.bin .xor (.t 4) (.t 0)))),
  (.op none (.s 1) (.v (.mv (.t 0))))]
def c64s3 : SCode := (.seq (.ops c64r2) .ret)
@[go_sem] theorem c64s3eq : vc P E c64s3 σ H Q = vc P E (.seq (.ops c64r2) .ret) σ H Q := rfl
def c64s4 : SCode := (.seq (.ops c64r1) c64s3)
@[go_sem] theorem c64s4eq : vc P E c64s4 σ H Q = vc P E (.seq (.ops c64r1) c64s3) σ H Q := rfl
def c64 : Gx.Fn := ⟨14, c64k, (.seq (.ops c64r0) c64s4), [(.tmp (.s 1))]⟩
theorem c64ok : stripFn Try.prog c64k Try.f64 = some c64 := by kernel_rfl

/- lattice.readList -/
@[go_sem] def c65k : List Nat := [0, 2, 3, 5, 6, 7]
@[go_sem] def c65r0 : List GOp := [(.op none (.s 1) (.v (.mv (.c (.slice none 0 0)))))]
@[go_sem] def c65r1 : List GOp := [(.op none (.s 2) (.v (.mv (.c (.slice none 0 0)))))]
@[go_sem] def c65r2 : List GOp := [(.op none .t (.v (.mv (.s 0)))),
  (.op none (.s 3) (.call 66 [(.t 0)])),
  (.op none (.s 4) (.v (.mv (.c (.int .i64 0)))))]
@[go_sem] def c65r3 : List GOp := [(.op none (.s 5) (.v (.bin .lss (.s 4) (.s 3))))]
@[go_sem] def c65r4 : List GOp := [(.op none .t (.v (.mv (.s 2)))),
  (.op none .t (.v (.mv (.s 0)))),
  (.op none .t (.call 68 [(.t 0)])),
  (.op none .t (.bs 9 1 [(.string ⟨⟨[]⟩⟩)] [(0, (1, (.t 0)))])),
  (.op none .t (.ap 22 22 (.t 3) (.t 0))),
  (.op none (.s 2) (.v (.mv (.t 0))))]
@[go_sem] def c65r5 : List GOp := [(.op none .t (.v (.bin .add (.s 4) (.c (.int .i64 1))))),
  (.op none (.s 4) (.v (.mv (.t 0))))]
def c65s6 : SCode := (.ops c65r5)
@[go_sem] theorem c65s6eq : vc P E c65s6 σ H Q = vc P E (.ops c65r5) σ H Q := rfl
def c65s7 : SCode := (.seq (.block 1 (.ops c65r4)) c65s6)
@[go_sem] theorem c65s7eq : vc P E c65s7 σ H Q = vc P E (.seq (.block 1 (.ops c65r4)) c65s6) σ H Q := rfl
def c65s8 : SCode := (.seq (.cond (.s 5) .skip (.exit 0)) c65s7)
@[go_sem] theorem c65s8eq : vc P E c65s8 σ H Q = vc P E (.seq (.cond (.s 5) .skip (.exit 0)) c65s7) σ H Q := rfl
def c65s9 : SCode := (.seq (.ops c65r3) c65s8)
@[go_sem] theorem c65s9eq : vc P E c65s9 σ H Q = vc P E (.seq (.ops c65r3) c65s8) σ H Q := rfl
def c65s10 : SCode := (.block 0 (.loop c65k c65s9))
@[go_sem] theorem c65s10eq : vc P E c65s10 σ H Q = vc P E (.block 0 (.loop c65k c65s9)) σ H Q := rfl
@[go_sem] def c65r11 : List GOp := [(.op none .t (.v (.mv (.s 2)))),
  (.op none (.s 1) (.v (.mv (.t 0))))]
def c65s12 : SCode := (.seq (.ops c65r11) .ret)
@[go_sem] theorem c65s12eq : vc P E c65s12 σ H Q = vc P E (.seq (.ops c65r11) .ret) σ H Q := rfl
def c65s13 : SCode := (.seq (.seq (.ops c65r2) c65s10) c65s12)
@[go_sem] theorem c65s13eq : vc P E c65s13 σ H Q = vc P E (.seq (.seq (.ops c65r2) c65s10) c65s12) σ H Q := rfl
def c65s14 : SCode := (.seq (.ops c65r1) c65s13)
@[go_sem] theorem c65s14eq : vc P E c65s14 σ H Q = vc P E (.seq (.ops c65r1) c65s13) σ H Q := rfl
def c65 : Gx.Fn := ⟨15, c65k, (.seq (.ops c65r0) c65s14), [(.tmp (.s 1))]⟩
theorem c65ok : stripFn Try.prog c65k Try.f65 = some c65 := by kernel_rfl

/- (*wire.Reader).Count -/
@[go_sem] def c66k : List Nat := [0, 2, 3, 4, 5, 8, 28]
@[go_sem] def c66r0 : List GOp := [(.op none (.s 1) (.v (.mv (.c (.int .i64 0)))))]
@[go_sem] def c66r1 : List GOp := [(.op none .t (.v (.mv (.s 0)))),
  (.op none .t (.call 84 [(.t 0)])),
  (.op none (.s 5) (.v (.un .not (.t 0))))]
@[go_sem] def c66r2 : List GOp := [(.op none (.s 1) (.v (.mv (.c (.int .i64 0)))))]
def c66s3 : SCode := (.seq (.ops c66r2) .ret)
@[go_sem] theorem c66s3eq : vc P E c66s3 σ H Q = vc P E (.seq (.ops c66r2) .ret) σ H Q := rfl
def c66s4 : SCode := (.cond (.s 5) c66s3 .skip)
@[go_sem] theorem c66s4eq : vc P E c66s4 σ H Q = vc P E (.cond (.s 5) c66s3 .skip) σ H Q := rfl
@[go_sem] def c66r5 : List GOp := [(.op none .t (.v (.mv (.s 0)))),
  (.op none .t (.call 85 [(.t 0)])),
  (.op none .t (.v (.mv (.t 0)))),
  (.op none .t (.v (.ext (.t 0) 0))),
  (.op none .t (.v (.ext (.t 1) 1))),
  (.op none .t (.v (.ext (.t 2) 2))),
  (.op none (.s 2) (.v (.mv (.t 2)))),
  (.op none (.s 3) (.v (.mv (.t 1)))),
  (.op none (.s 4) (.v (.mv (.t 0))))]
@[go_sem] def c66r6 : List GOp := [(.op none .t (.v (.mv (.s 4)))),
  (.op none .t (.v (.un .not (.t 0)))),
  (.op none .t (.v (.mv (.t 0)))),
  (.sel (.t 0) false [(.op (.v (.mv (.s 2)))), (.op (.v (.mv (.s 0)))), (.op (.v (.nc (.t 0)))), (.op (.v (.fa 0 (.t 0)))), (.op (.ld none (.t 0))), (.op (.v (.len (.t 0)))), (.op (.v (.mv (.s 3)))), (.op (.v (.bin .sub (.t 1) (.t 0)))), (.op (.v (.cvi .u64 (.t 0)))), (.op (.v (.bin .gtr (.t 8) (.t 0))))] (.s 6) (.c (.bool true)) (.t 0))]
@[go_sem] def c66r7 : List GOp := [(.op none .t (.v (.mv (.s 0)))),
  (.op none .t (.v (.nc (.t 0)))),
  (.op none .t (.v (.fa 3 (.t 0)))),
  (.op none .no (.st 1 (.t 0) (.c (.int .i64 2))))]
@[go_sem] def c66r8 : List GOp := [(.op none (.s 1) (.v (.mv (.c (.int .i64 0)))))]
def c66s9 : SCode := (.seq (.ops c66r8) .ret)
@[go_sem] theorem c66s9eq : vc P E c66s9 σ H Q = vc P E (.seq (.ops c66r8) .ret) σ H Q := rfl
def c66s10 : SCode := (.seq (.ops c66r7) c66s9)
@[go_sem] theorem c66s10eq : vc P E c66s10 σ H Q = vc P E (.seq (.ops c66r7) c66s9) σ H Q := rfl
def c66s11 : SCode := (.cond (.s 6) c66s10 .skip)
@[go_sem] theorem c66s11eq : vc P E c66s11 σ H Q = vc P E (.cond (.s 6) c66s10 .skip) σ H Q := rfl
@[go_sem] def c66r12 : List GOp := [(.op none .t (.v (.mv (.s 0)))),
  (.op none .t (.v (.mv (.s 3)))),
  (.op none .t (.v (.nc (.t 1)))),
  (.op none .t (.v (.fa 1 (.t 0)))),
  (.op none .no (.st 1 (.t 0) (.t 2)))]
@[go_sem] def c66r13 : List GOp := [(.op none .t (.v (.mv (.s 2)))),
  (.op none .t (.v (.cvi .i64 (.t 0)))),
  (.op none (.s 1) (.v (.mv (.t 0))))]
def c66s14 : SCode := (.seq (.ops c66r13) .ret)
@[go_sem] theorem c66s14eq : vc P E c66s14 σ H Q = vc P E (.seq (.ops c66r13) .ret) σ H Q := rfl
def c66s15 : SCode := (.seq (.ops c66r12) c66s14)
@[go_sem] theorem c66s15eq : vc P E c66s15 σ H Q = vc P E (.seq (.ops c66r12) c66s14) σ H Q := rfl
def c66s16 : SCode := (.seq (.seq (.ops c66r6) c66s11) c66s15)
@[go_sem] theorem c66s16eq : vc P E c66s16 σ H Q = vc P E (.seq (.seq (.ops c66r6) c66s11) c66s15) σ H Q := rfl
def c66s17 : SCode := (.seq (.ops c66r5) c66s16)
@[go_sem] theorem c66s17eq : vc P E c66s17 σ H Q = vc P E (.seq (.ops c66r5) c66s16) σ H Q := rfl
def c66s18 : SCode := (.seq (.seq (.ops c66r1) c66s4) c66s17)
@[go_sem] theorem c66s18eq : vc P E c66s18 σ H Q = vc P E (.seq (.seq (.ops c66r1) c66s4) c66s17) σ H Q := rfl
def c66 : Gx.Fn := ⟨38, c66k, (.seq (.ops c66r0) c66s18), [(.tmp (.s 1))]⟩
theorem c66ok : stripFn Try.prog c66k Try.f66 = some c66 := by kernel_rfl

/- (*wire.Reader).Err -/
@[go_sem] def c67k : List Nat := [0, 2]
@[go_sem] def c67r0 : List GOp := [(.op none (.s 1) (.v (.mv (.c (.int .i64 0)))))]
@[go_sem] def c67r1 : List GOp := [(.op none .t (.v (.mv (.s 0)))),
  (.op none .t (.v (.nc (.t 0)))),
  (.op none .t (.v (.fa 3 (.t 0)))),
  (.op none .t (.ld none (.t 0))),
  (.op none (.s 1) (.v (.mv (.t 0))))]
def c67s2 : SCode := (.seq (.ops c67r1) .ret)
@[go_sem] theorem c67s2eq : vc P E c67s2 σ H Q = vc P E (.seq (.ops c67r1) .ret) σ H Q := rfl
def c67 : Gx.Fn := ⟨7, c67k, (.seq (.ops c67r0) c67s2), [(.tmp (.s 1))]⟩
theorem c67ok : stripFn Try.prog c67k Try.f67 = some c67 := by kernel_rfl

/- (*wire.Reader).Text -/
@[go_sem] def c68k : List Nat := [0, 2]
@[go_sem] def c68r0 : List GOp := [(.op none (.s 1) (.v (.mv (.c (.string ⟨⟨[]⟩⟩)))))]
@[go_sem] def c68r1 : List GOp := [(.op none .t (.v (.mv (.s 0)))),
  (.op none .t (.call 86 [(.t 0)])),
  (.op none .t (.b2s (.t 0))),
  (.op none (.s 1) (.v (.mv (.t 0))))]
def c68s2 : SCode := (.seq (.ops c68r1) .ret)
@[go_sem] theorem c68s2eq : vc P E c68s2 σ H Q = vc P E (.seq (.ops c68r1) .ret) σ H Q := rfl
def c68 : Gx.Fn := ⟨6, c68k, (.seq (.ops c68r0) c68s2), [(.tmp (.s 1))]⟩
theorem c68ok : stripFn Try.prog c68k Try.f68 = some c68 := by kernel_rfl

/- (*wire.Reader).Left -/
@[go_sem] def c69k : List Nat := [0, 2]
@[go_sem] def c69r0 : List GOp := [(.op none (.s 1) (.v (.mv (.c (.int .i64 0)))))]
@[go_sem] def c69r1 : List GOp := [(.op none .t (.v (.mv (.s 0)))),
  (.op none .t (.v (.nc (.t 0)))),
  (.op none .t (.v (.fa 0 (.t 0)))),
  (.op none .t (.ld none (.t 0))),
  (.op none .t (.v (.len (.t 0)))),
  (.op none .t (.v (.mv (.s 0)))),
  (.op none .t (.v (.nc (.t 0)))),
  (.op none .t (.v (.fa 1 (.t 0)))),
  (.op none .t (.ld none (.t 0))),
  (.op none .t (.v (.bin .sub (.t 4) (.t 0)))),
  (.op none (.s 1) (.v (.mv (.t 0))))]
def c69 : Gx.Fn := ⟨13, c69k, (.seq (.ops c69r0) (.seq (.dq c69r1) .ret)), [(.tmp (.s 1))]⟩
theorem c69ok : stripFn Try.prog c69k Try.f69 = some c69 := by kernel_rfl

/- (*plexusref01.In).Uint -/
@[go_sem] def c70k : List Nat := [0, 2, 3, 4, 5, 9, 31]
@[go_sem] def c70r0 : List GOp := [(.op none (.s 1) (.v (.mv (.c (.int .u64 0)))))]
@[go_sem] def c70r1 : List GOp := [(.op none .t (.v (.mv (.s 0)))),
  (.op none .t (.v (.nc (.t 0)))),
  (.op none .t (.v (.fa 3 (.t 0)))),
  (.op none (.s 5) (.ld none (.t 0)))]
@[go_sem] def c70r2 : List GOp := [(.op none (.s 1) (.v (.mv (.c (.int .u64 0)))))]
def c70s3 : SCode := (.seq (.ops c70r2) .ret)
@[go_sem] theorem c70s3eq : vc P E c70s3 σ H Q = vc P E (.seq (.ops c70r2) .ret) σ H Q := rfl
def c70s4 : SCode := (.cond (.s 5) c70s3 .skip)
@[go_sem] theorem c70s4eq : vc P E c70s4 σ H Q = vc P E (.cond (.s 5) c70s3 .skip) σ H Q := rfl
@[go_sem] def c70r5 : List GOp := [(.op none .t (.v (.mv (.s 0)))),
  (.op none .t (.v (.mv (.s 0)))),
  (.op none .t (.v (.nc (.t 0)))),
  (.op none .t (.v (.fa 1 (.t 0)))),
  (.op none .t (.ld none (.t 0))),
  (.op none .t (.v (.nc (.t 4)))),
  (.op none .t (.v (.fa 2 (.t 0)))),
  (.op none .no (.st 1 (.t 0) (.t 2)))]
@[go_sem] def c70d6 : DT := (.rd none .t (.v (.mv (.s 0))) [8] (.rd none .t (.v (.nc (.t 0))) [8] (.rd none .t (.v (.fa 0 (.t 0))) [8] (.rd none .t (.ld none (.t 0)) [8] (.rd none .t (.v (.mv (.s 0))) [8] (.rd none .t (.v (.nc (.t 0))) [8] (.rd none .t (.v (.fa 1 (.t 0))) [8] (.rd none .t (.ld none (.t 0)) [8] (.ef 8 none .t (.call 87 [(.t 4), (.t 0)]) (.rd none .t (.v (.mv (.t 0))) [] (.rd none .t (.v (.ext (.t 0) 0)) [] (.rd none .t (.v (.ext (.t 1) 1)) [] (.rd none .t (.v (.ext (.t 2) 2)) [] (.rd none (.s 2) (.v (.mv (.t 2))) [] (.rd none (.s 3) (.v (.mv (.t 1))) [] (.rd none (.s 4) (.v (.mv (.t 0))) [] .done))))))))))))))))
@[go_sem] def c70r7 : List GOp := [(.op none .t (.v (.mv (.s 4)))),
  (.op none (.s 6) (.v (.un .not (.t 0))))]
@[go_sem] def c70r8 : List GOp := [(.op none .t (.v (.mv (.s 0)))),
  (.op none .t (.v (.nc (.t 0)))),
  (.op none .t (.v (.fa 3 (.t 0)))),
  (.op none .no (.st 1 (.t 0) (.c (.bool true))))]
@[go_sem] def c70r9 : List GOp := [(.op none (.s 1) (.v (.mv (.c (.int .u64 0)))))]
def c70s10 : SCode := (.seq (.ops c70r9) .ret)
@[go_sem] theorem c70s10eq : vc P E c70s10 σ H Q = vc P E (.seq (.ops c70r9) .ret) σ H Q := rfl
def c70s11 : SCode := (.seq (.ops c70r8) c70s10)
@[go_sem] theorem c70s11eq : vc P E c70s11 σ H Q = vc P E (.seq (.ops c70r8) c70s10) σ H Q := rfl
def c70s12 : SCode := (.cond (.s 6) c70s11 .skip)
@[go_sem] theorem c70s12eq : vc P E c70s12 σ H Q = vc P E (.cond (.s 6) c70s11 .skip) σ H Q := rfl
@[go_sem] def c70r13 : List GOp := [(.op none .t (.v (.mv (.s 0)))),
  (.op none .t (.v (.mv (.s 3)))),
  (.op none .t (.v (.nc (.t 1)))),
  (.op none .t (.v (.fa 1 (.t 0)))),
  (.op none .no (.st 1 (.t 0) (.t 2)))]
@[go_sem] def c70r14 : List GOp := [(.op none .t (.v (.mv (.s 2)))),
  (.op none (.s 1) (.v (.mv (.t 0))))]
def c70s15 : SCode := (.seq (.ops c70r14) .ret)
@[go_sem] theorem c70s15eq : vc P E c70s15 σ H Q = vc P E (.seq (.ops c70r14) .ret) σ H Q := rfl
def c70s16 : SCode := (.seq (.ops c70r13) c70s15)
@[go_sem] theorem c70s16eq : vc P E c70s16 σ H Q = vc P E (.seq (.ops c70r13) c70s15) σ H Q := rfl
def c70s17 : SCode := (.seq (.seq (.ops c70r7) c70s12) c70s16)
@[go_sem] theorem c70s17eq : vc P E c70s17 σ H Q = vc P E (.seq (.seq (.ops c70r7) c70s12) c70s16) σ H Q := rfl
def c70s18 : SCode := (.seq (.de c70d6) c70s17)
@[go_sem] theorem c70s18eq : vc P E c70s18 σ H Q = vc P E (.seq (.de c70d6) c70s17) σ H Q := rfl
def c70s19 : SCode := (.seq (.ops c70r5) c70s18)
@[go_sem] theorem c70s19eq : vc P E c70s19 σ H Q = vc P E (.seq (.ops c70r5) c70s18) σ H Q := rfl
def c70s20 : SCode := (.seq (.seq (.ops c70r1) c70s4) c70s19)
@[go_sem] theorem c70s20eq : vc P E c70s20 σ H Q = vc P E (.seq (.seq (.ops c70r1) c70s4) c70s19) σ H Q := rfl
def c70 : Gx.Fn := ⟨40, c70k, (.seq (.ops c70r0) c70s20), [(.tmp (.s 1))]⟩
theorem c70ok : stripFn Try.prog c70k Try.f70 = some c70 := by kernel_rfl

/- (*plexusref01.In).Fail -/
@[go_sem] def c71k : List Nat := [0, 6]
@[go_sem] def c71r0 : List GOp := [(.op none .t (.v (.mv (.s 0)))),
  (.op none .t (.v (.nc (.t 0)))),
  (.op none .t (.v (.fa 3 (.t 0)))),
  (.op none .t (.ld none (.t 0))),
  (.op none (.s 1) (.v (.un .not (.t 0))))]
@[go_sem] def c71r1 : List GOp := [(.op none .t (.v (.mv (.s 0)))),
  (.op none .t (.v (.nc (.t 0)))),
  (.op none .t (.v (.fa 3 (.t 0)))),
  (.op none .no (.st 1 (.t 0) (.c (.bool true))))]
@[go_sem] def c71r2 : List GOp := [(.op none .t (.v (.mv (.s 0)))),
  (.op none .t (.v (.mv (.s 0)))),
  (.op none .t (.v (.nc (.t 0)))),
  (.op none .t (.v (.fa 2 (.t 0)))),
  (.op none .t (.ld none (.t 0))),
  (.op none .t (.v (.nc (.t 4)))),
  (.op none .t (.v (.fa 1 (.t 0)))),
  (.op none .no (.st 1 (.t 0) (.t 2)))]
def c71s3 : SCode := (.ops c71r2)
@[go_sem] theorem c71s3eq : vc P E c71s3 σ H Q = vc P E (.ops c71r2) σ H Q := rfl
def c71s4 : SCode := (.seq (.ops c71r1) c71s3)
@[go_sem] theorem c71s4eq : vc P E c71s4 σ H Q = vc P E (.seq (.ops c71r1) c71s3) σ H Q := rfl
def c71s5 : SCode := (.cond (.s 1) c71s4 .skip)
@[go_sem] theorem c71s5eq : vc P E c71s5 σ H Q = vc P E (.cond (.s 1) c71s4 .skip) σ H Q := rfl
def c71 : Gx.Fn := ⟨17, c71k, (.seq (.ops c71r0) c71s5), []⟩
theorem c71ok : stripFn Try.prog c71k Try.f71 = some c71 := by kernel_rfl

/- (*plexusref01.In).Int -/
@[go_sem] def c72k : List Nat := [0, 2, 3, 8]
@[go_sem] def c72r0 : List GOp := [(.op none (.s 1) (.v (.mv (.c (.int .i64 0)))))]
@[go_sem] def c72r1 : List GOp := [(.op none .t (.v (.mv (.s 0)))),
  (.op none .t (.call 70 [(.t 0)])),
  (.op none (.s 2) (.v (.mv (.t 0))))]
@[go_sem] def c72r2 : List GOp := [(.op none .t (.v (.mv (.s 2)))),
  (.op none .t (.v (.bin .rem (.t 0) (.c (.int .u64 2))))),
  (.op none (.s 3) (.v (.bin .eql (.t 0) (.c (.int .u64 0)))))]
@[go_sem] def c72r3 : List GOp := [(.op none .t (.v (.mv (.s 2)))),
  (.op none .t (.v (.bin .quo (.t 0) (.c (.int .u64 2))))),
  (.op none .t (.v (.cvi .i64 (.t 0)))),
  (.op none (.s 1) (.v (.mv (.t 0))))]
def c72s4 : SCode := (.seq (.ops c72r3) .ret)
@[go_sem] theorem c72s4eq : vc P E c72s4 σ H Q = vc P E (.seq (.ops c72r3) .ret) σ H Q := rfl
def c72s5 : SCode := (.cond (.s 3) c72s4 .skip)
@[go_sem] theorem c72s5eq : vc P E c72s5 σ H Q = vc P E (.cond (.s 3) c72s4 .skip) σ H Q := rfl
@[go_sem] def c72r6 : List GOp := [(.op none .t (.v (.mv (.s 2)))),
  (.op none .t (.v (.bin .quo (.t 0) (.c (.int .u64 2))))),
  (.op none .t (.v (.cvi .i64 (.t 0)))),
  (.op none .t (.v (.un .neg (.t 0)))),
  (.op none .t (.v (.bin .sub (.t 0) (.c (.int .i64 1))))),
  (.op none (.s 1) (.v (.mv (.t 0))))]
def c72s7 : SCode := (.seq (.ops c72r6) .ret)
@[go_sem] theorem c72s7eq : vc P E c72s7 σ H Q = vc P E (.seq (.ops c72r6) .ret) σ H Q := rfl
def c72s8 : SCode := (.seq (.seq (.ops c72r2) c72s5) c72s7)
@[go_sem] theorem c72s8eq : vc P E c72s8 σ H Q = vc P E (.seq (.seq (.ops c72r2) c72s5) c72s7) σ H Q := rfl
def c72s9 : SCode := (.seq (.ops c72r1) c72s8)
@[go_sem] theorem c72s9eq : vc P E c72s9 σ H Q = vc P E (.seq (.ops c72r1) c72s8) σ H Q := rfl
def c72 : Gx.Fn := ⟨17, c72k, (.seq (.ops c72r0) c72s9), [(.tmp (.s 1))]⟩
theorem c72ok : stripFn Try.prog c72k Try.f72 = some c72 := by kernel_rfl

/- plexusref09.list -/
@[go_sem] def c73k : List Nat := [0, 2, 3, 4, 5, 18]
@[go_sem] def c73r0 : List GOp := [(.op none (.s 1) (.v (.mv (.c (.slice none 0 0)))))]
@[go_sem] def c73r1 : List GOp := [(.op none .t (.bs 9 0 [] [])),
  (.op none (.s 2) (.v (.mv (.t 0))))]
@[go_sem] def c73r2 : List GOp := [(.op none .t (.v (.mv (.s 0)))),
  (.op none .t (.call 74 [(.t 0)])),
  (.op none (.s 3) (.v (.mv (.t 0))))]
@[go_sem] def c73r3 : List GOp := [(.op none (.s 4) (.v (.mv (.c (.int .i64 0)))))]
@[go_sem] def c73r4 : List GOp := [(.op none .t (.v (.mv (.s 4)))),
  (.op none .t (.v (.mv (.s 3)))),
  (.op none .t (.v (.bin .lss (.t 1) (.t 0)))),
  (.op none .t (.v (.mv (.t 0)))),
  (.sel (.t 0) true [(.op (.v (.mv (.s 0)))), (.op (.v (.nc (.t 0)))), (.op (.v (.fa 3 (.t 0)))), (.op (.ld none (.t 0))), (.op (.v (.un .not (.t 0))))] (.s 5) (.t 0) (.c (.bool false)))]
def c73s5 : SCode := (.cond (.s 5) .skip (.exit 0))
@[go_sem] theorem c73s5eq : vc P E c73s5 σ H Q = vc P E (.cond (.s 5) .skip (.exit 0)) σ H Q := rfl
@[go_sem] def c73r6 : List GOp := [(.op none .t (.v (.mv (.s 2)))),
  (.op none .t (.v (.mv (.s 0)))),
  (.op none .t (.call 75 [(.t 0)])),
  (.op none .t (.bs 9 1 [(.string ⟨⟨[]⟩⟩)] [(0, (1, (.t 0)))])),
  (.op none .t (.ap 22 22 (.t 3) (.t 0))),
  (.op none (.s 2) (.v (.mv (.t 0))))]
@[go_sem] def c73r7 : List GOp := [(.op none .t (.v (.mv (.s 4)))),
  (.op none .t (.v (.bin .add (.t 0) (.c (.int .i64 1))))),
  (.op none (.s 4) (.v (.mv (.t 0))))]
def c73s8 : SCode := (.ops c73r7)
@[go_sem] theorem c73s8eq : vc P E c73s8 σ H Q = vc P E (.ops c73r7) σ H Q := rfl
def c73s9 : SCode := (.seq (.block 1 (.ops c73r6)) c73s8)
@[go_sem] theorem c73s9eq : vc P E c73s9 σ H Q = vc P E (.seq (.block 1 (.ops c73r6)) c73s8) σ H Q := rfl
def c73s10 : SCode := (.seq (.seq (.ops c73r4) c73s5) c73s9)
@[go_sem] theorem c73s10eq : vc P E c73s10 σ H Q = vc P E (.seq (.seq (.ops c73r4) c73s5) c73s9) σ H Q := rfl
def c73s11 : SCode := (.block 0 (.loop c73k c73s10))
@[go_sem] theorem c73s11eq : vc P E c73s11 σ H Q = vc P E (.block 0 (.loop c73k c73s10)) σ H Q := rfl
@[go_sem] def c73r12 : List GOp := [(.op none .t (.v (.mv (.s 2)))),
  (.op none (.s 1) (.v (.mv (.t 0))))]
def c73s13 : SCode := (.seq (.ops c73r12) .ret)
@[go_sem] theorem c73s13eq : vc P E c73s13 σ H Q = vc P E (.seq (.ops c73r12) .ret) σ H Q := rfl
def c73s14 : SCode := (.seq (.seq (.ops c73r3) c73s11) c73s13)
@[go_sem] theorem c73s14eq : vc P E c73s14 σ H Q = vc P E (.seq (.seq (.ops c73r3) c73s11) c73s13) σ H Q := rfl
def c73s15 : SCode := (.seq (.ops c73r2) c73s14)
@[go_sem] theorem c73s15eq : vc P E c73s15 σ H Q = vc P E (.seq (.ops c73r2) c73s14) σ H Q := rfl
def c73s16 : SCode := (.seq (.ops c73r1) c73s15)
@[go_sem] theorem c73s16eq : vc P E c73s16 σ H Q = vc P E (.seq (.ops c73r1) c73s15) σ H Q := rfl
def c73 : Gx.Fn := ⟨27, c73k, (.seq (.ops c73r0) c73s16), [(.tmp (.s 1))]⟩
theorem c73ok : stripFn Try.prog c73k Try.f73 = some c73 := by kernel_rfl

/- (*plexusref01.In).Count -/
@[go_sem] def c74k : List Nat := [0, 2, 3, 4, 5, 9, 43]
@[go_sem] def c74r0 : List GOp := [(.op none (.s 1) (.v (.mv (.c (.int .i64 0)))))]
@[go_sem] def c74r1 : List GOp := [(.op none .t (.v (.mv (.s 0)))),
  (.op none .t (.v (.nc (.t 0)))),
  (.op none .t (.v (.fa 3 (.t 0)))),
  (.op none (.s 5) (.ld none (.t 0)))]
@[go_sem] def c74r2 : List GOp := [(.op none (.s 1) (.v (.mv (.c (.int .i64 0)))))]
def c74s3 : SCode := (.seq (.ops c74r2) .ret)
@[go_sem] theorem c74s3eq : vc P E c74s3 σ H Q = vc P E (.seq (.ops c74r2) .ret) σ H Q := rfl
def c74s4 : SCode := (.cond (.s 5) c74s3 .skip)
@[go_sem] theorem c74s4eq : vc P E c74s4 σ H Q = vc P E (.cond (.s 5) c74s3 .skip) σ H Q := rfl
@[go_sem] def c74r5 : List GOp := [(.op none .t (.v (.mv (.s 0)))),
  (.op none .t (.v (.mv (.s 0)))),
  (.op none .t (.v (.nc (.t 0)))),
  (.op none .t (.v (.fa 1 (.t 0)))),
  (.op none .t (.ld none (.t 0))),
  (.op none .t (.v (.nc (.t 4)))),
  (.op none .t (.v (.fa 2 (.t 0)))),
  (.op none .no (.st 1 (.t 0) (.t 2)))]
@[go_sem] def c74d6 : DT := (.rd none .t (.v (.mv (.s 0))) [8] (.rd none .t (.v (.nc (.t 0))) [8] (.rd none .t (.v (.fa 0 (.t 0))) [8] (.rd none .t (.ld none (.t 0)) [8] (.rd none .t (.v (.mv (.s 0))) [8] (.rd none .t (.v (.nc (.t 0))) [8] (.rd none .t (.v (.fa 1 (.t 0))) [8] (.rd none .t (.ld none (.t 0)) [8] (.ef 8 none .t (.call 87 [(.t 4), (.t 0)]) (.rd none .t (.v (.mv (.t 0))) [] (.rd none .t (.v (.ext (.t 0) 0)) [] (.rd none .t (.v (.ext (.t 1) 1)) [] (.rd none .t (.v (.ext (.t 2) 2)) [] (.rd none (.s 2) (.v (.mv (.t 2))) [] (.rd none (.s 3) (.v (.mv (.t 1))) [] (.rd none (.s 4) (.v (.mv (.t 0))) [] .done))))))))))))))))
@[go_sem] def c74r7 : List GOp := [(.op none .t (.v (.mv (.s 4)))),
  (.op none .t (.v (.un .not (.t 0)))),
  (.op none .t (.v (.mv (.t 0)))),
  (.sel (.t 0) false [(.op (.v (.mv (.s 2)))), (.op (.v (.mv (.s 0)))), (.op (.v (.nc (.t 0)))), (.op (.v (.fa 0 (.t 0)))), (.op (.ld none (.t 0))), (.op (.v (.len (.t 0)))), (.op (.v (.mv (.s 3)))), (.op (.v (.bin .sub (.t 1) (.t 0)))), (.op (.v (.cvi .u64 (.t 0)))), (.op (.v (.bin .gtr (.t 8) (.t 0))))] (.s 6) (.c (.bool true)) (.t 0))]
@[go_sem] def c74r8 : List GOp := [(.op none .t (.v (.mv (.s 0)))),
  (.op none .t (.v (.nc (.t 0)))),
  (.op none .t (.v (.fa 3 (.t 0)))),
  (.op none .no (.st 1 (.t 0) (.c (.bool true))))]
@[go_sem] def c74r9 : List GOp := [(.op none (.s 1) (.v (.mv (.c (.int .i64 0)))))]
def c74s10 : SCode := (.seq (.ops c74r9) .ret)
@[go_sem] theorem c74s10eq : vc P E c74s10 σ H Q = vc P E (.seq (.ops c74r9) .ret) σ H Q := rfl
def c74s11 : SCode := (.seq (.ops c74r8) c74s10)
@[go_sem] theorem c74s11eq : vc P E c74s11 σ H Q = vc P E (.seq (.ops c74r8) c74s10) σ H Q := rfl
def c74s12 : SCode := (.cond (.s 6) c74s11 .skip)
@[go_sem] theorem c74s12eq : vc P E c74s12 σ H Q = vc P E (.cond (.s 6) c74s11 .skip) σ H Q := rfl
@[go_sem] def c74r13 : List GOp := [(.op none .t (.v (.mv (.s 0)))),
  (.op none .t (.v (.mv (.s 3)))),
  (.op none .t (.v (.nc (.t 1)))),
  (.op none .t (.v (.fa 1 (.t 0)))),
  (.op none .no (.st 1 (.t 0) (.t 2)))]
@[go_sem] def c74r14 : List GOp := [(.op none .t (.v (.mv (.s 2)))),
  (.op none .t (.v (.cvi .i64 (.t 0)))),
  (.op none (.s 1) (.v (.mv (.t 0))))]
def c74s15 : SCode := (.seq (.ops c74r14) .ret)
@[go_sem] theorem c74s15eq : vc P E c74s15 σ H Q = vc P E (.seq (.ops c74r14) .ret) σ H Q := rfl
def c74s16 : SCode := (.seq (.ops c74r13) c74s15)
@[go_sem] theorem c74s16eq : vc P E c74s16 σ H Q = vc P E (.seq (.ops c74r13) c74s15) σ H Q := rfl
def c74s17 : SCode := (.seq (.seq (.ops c74r7) c74s12) c74s16)
@[go_sem] theorem c74s17eq : vc P E c74s17 σ H Q = vc P E (.seq (.seq (.ops c74r7) c74s12) c74s16) σ H Q := rfl
def c74s18 : SCode := (.seq (.de c74d6) c74s17)
@[go_sem] theorem c74s18eq : vc P E c74s18 σ H Q = vc P E (.seq (.de c74d6) c74s17) σ H Q := rfl
def c74s19 : SCode := (.seq (.ops c74r5) c74s18)
@[go_sem] theorem c74s19eq : vc P E c74s19 σ H Q = vc P E (.seq (.ops c74r5) c74s18) σ H Q := rfl
def c74s20 : SCode := (.seq (.seq (.ops c74r1) c74s4) c74s19)
@[go_sem] theorem c74s20eq : vc P E c74s20 σ H Q = vc P E (.seq (.seq (.ops c74r1) c74s4) c74s19) σ H Q := rfl
def c74 : Gx.Fn := ⟨53, c74k, (.seq (.ops c74r0) c74s20), [(.tmp (.s 1))]⟩
theorem c74ok : stripFn Try.prog c74k Try.f74 = some c74 := by kernel_rfl

/- (*plexusref01.In).Text -/
@[go_sem] def c75k : List Nat := [0, 2]
@[go_sem] def c75r0 : List GOp := [(.op none (.s 1) (.v (.mv (.c (.string ⟨⟨[]⟩⟩)))))]
@[go_sem] def c75r1 : List GOp := [(.op none .t (.v (.mv (.s 0)))),
  (.op none .t (.call 88 [(.t 0)])),
  (.op none .t (.b2s (.t 0))),
  (.op none (.s 1) (.v (.mv (.t 0))))]
def c75s2 : SCode := (.seq (.ops c75r1) .ret)
@[go_sem] theorem c75s2eq : vc P E c75s2 σ H Q = vc P E (.seq (.ops c75r1) .ret) σ H Q := rfl
def c75 : Gx.Fn := ⟨6, c75k, (.seq (.ops c75r0) c75s2), [(.tmp (.s 1))]⟩
theorem c75ok : stripFn Try.prog c75k Try.f75 = some c75 := by kernel_rfl

/- lattice.when -/
@[go_sem] def c76k : List Nat := [0, 1, 4, 5]
@[go_sem] def c76r0 : List GOp := [(.op none (.s 2) (.v (.mv (.c (.int .i64 0)))))]
@[go_sem] def c76r1 : List GOp := [(.op none (.s 3) (.v (.mv (.s 0))))]
@[go_sem] def c76r2 : List GOp := [(.op none .t (.v (.mv (.s 1)))),
  (.op none (.s 2) (.v (.mv (.t 0))))]
def c76s3 : SCode := (.seq (.ops c76r2) .ret)
@[go_sem] theorem c76s3eq : vc P E c76s3 σ H Q = vc P E (.seq (.ops c76r2) .ret) σ H Q := rfl
def c76s4 : SCode := (.cond (.s 3) c76s3 .skip)
@[go_sem] theorem c76s4eq : vc P E c76s4 σ H Q = vc P E (.cond (.s 3) c76s3 .skip) σ H Q := rfl
@[go_sem] def c76r5 : List GOp := [(.op none (.s 2) (.v (.mv (.c (.int .i64 0)))))]
def c76s6 : SCode := (.seq (.ops c76r5) .ret)
@[go_sem] theorem c76s6eq : vc P E c76s6 σ H Q = vc P E (.seq (.ops c76r5) .ret) σ H Q := rfl
def c76s7 : SCode := (.seq (.seq (.ops c76r1) c76s4) c76s6)
@[go_sem] theorem c76s7eq : vc P E c76s7 σ H Q = vc P E (.seq (.seq (.ops c76r1) c76s4) c76s6) σ H Q := rfl
def c76 : Gx.Fn := ⟨7, c76k, (.seq (.ops c76r0) c76s7), [(.tmp (.s 2))]⟩
theorem c76ok : stripFn Try.prog c76k Try.f76 = some c76 := by kernel_rfl

/- names.Valid -/
@[go_sem] def c77k : List Nat := [0, 2, 3, 21, 23, 24, 25, 31]
@[go_sem] def c77r0 : List GOp := [(.op none (.s 1) (.v (.mv (.c (.bool false)))))]
@[go_sem] def c77r1 : List GOp := [(.op none .t (.v (.mv (.s 0)))),
  (.op none .t (.v (.slen (.t 0)))),
  (.op none .t (.v (.bin .eql (.t 0) (.c (.int .i64 0))))),
  (.op none .t (.v (.mv (.t 0)))),
  (.sel (.t 0) false [(.op (.v (.mv (.s 0)))), (.op (.v (.slen (.t 0)))), (.op (.v (.bin .gtr (.t 0) (.c (.int .i64 16)))))] .t (.c (.bool true)) (.t 0)),
  (.op none .t (.v (.mv (.t 0)))),
  (.op (some ((.t 0), (false, true))) .t (.v (.mv (.s 0)))),
  (.op (some ((.t 1), (false, false))) .t (.v (.six (.t 0) (.c (.int .i64 0))))),
  (.op (some ((.t 2), (false, false))) .t (.v (.bin .lss (.t 0) (.c (.int .u8 97))))),
  (.op none .t (.v (.pick (.t 3) (.c (.bool true)) (.t 0)))),
  (.op none .t (.v (.mv (.t 0)))),
  (.op (some ((.t 0), (false, true))) .t (.v (.mv (.s 0)))),
  (.op (some ((.t 1), (false, false))) .t (.v (.six (.t 0) (.c (.int .i64 0))))),
  (.op (some ((.t 2), (false, false))) .t (.v (.bin .gtr (.t 0) (.c (.int .u8 122))))),
  (.op none (.s 3) (.v (.pick (.t 3) (.c (.bool true)) (.t 0))))]
@[go_sem] def c77r2 : List GOp := [(.op none (.s 1) (.v (.mv (.c (.bool false)))))]
def c77s3 : SCode := (.seq (.ops c77r2) .ret)
@[go_sem] theorem c77s3eq : vc P E c77s3 σ H Q = vc P E (.seq (.ops c77r2) .ret) σ H Q := rfl
def c77s4 : SCode := (.cond (.s 3) c77s3 .skip)
@[go_sem] theorem c77s4eq : vc P E c77s4 σ H Q = vc P E (.cond (.s 3) c77s3 .skip) σ H Q := rfl
@[go_sem] def c77r5 : List GOp := [(.op none .t (.v (.mv (.s 0)))),
  (.op none (.s 4) (.v (.slen (.t 0)))),
  (.op none (.s 5) (.v (.mv (.c (.int .i64 0)))))]
@[go_sem] def c77r6 : List GOp := [(.op none (.s 6) (.v (.bin .lss (.s 5) (.s 4))))]
@[go_sem] def c77r7 : List GOp := [(.op none .t (.v (.mv (.s 5)))),
  (.op none (.s 2) (.v (.mv (.t 0))))]
@[go_sem] def c77r8 : List GOp := [(.op none .t (.v (.mv (.s 0)))),
  (.op none .t (.v (.mv (.s 2)))),
  (.op none .t (.v (.six (.t 1) (.t 0)))),
  (.op none .t (.call 89 [(.t 0)])),
  (.op none (.s 7) (.v (.un .not (.t 0))))]
@[go_sem] def c77r9 : List GOp := [(.op none (.s 1) (.v (.mv (.c (.bool false)))))]
def c77s10 : SCode := (.seq (.ops c77r9) .ret)
@[go_sem] theorem c77s10eq : vc P E c77s10 σ H Q = vc P E (.seq (.ops c77r9) .ret) σ H Q := rfl
def c77s11 : SCode := (.cond (.s 7) c77s10 .skip)
@[go_sem] theorem c77s11eq : vc P E c77s11 σ H Q = vc P E (.cond (.s 7) c77s10 .skip) σ H Q := rfl
def c77s12 : SCode := (.seq (.ops c77r8) c77s11)
@[go_sem] theorem c77s12eq : vc P E c77s12 σ H Q = vc P E (.seq (.ops c77r8) c77s11) σ H Q := rfl
@[go_sem] def c77r13 : List GOp := [(.op none .t (.v (.bin .add (.s 5) (.c (.int .i64 1))))),
  (.op none (.s 5) (.v (.mv (.t 0))))]
def c77s14 : SCode := (.ops c77r13)
@[go_sem] theorem c77s14eq : vc P E c77s14 σ H Q = vc P E (.ops c77r13) σ H Q := rfl
def c77s15 : SCode := (.seq (.block 1 (.seq (.ops c77r7) c77s12)) c77s14)
@[go_sem] theorem c77s15eq : vc P E c77s15 σ H Q = vc P E (.seq (.block 1 (.seq (.ops c77r7) c77s12)) c77s14) σ H Q := rfl
def c77s16 : SCode := (.seq (.cond (.s 6) .skip (.exit 0)) c77s15)
@[go_sem] theorem c77s16eq : vc P E c77s16 σ H Q = vc P E (.seq (.cond (.s 6) .skip (.exit 0)) c77s15) σ H Q := rfl
def c77s17 : SCode := (.seq (.ops c77r6) c77s16)
@[go_sem] theorem c77s17eq : vc P E c77s17 σ H Q = vc P E (.seq (.ops c77r6) c77s16) σ H Q := rfl
def c77s18 : SCode := (.block 0 (.loop c77k c77s17))
@[go_sem] theorem c77s18eq : vc P E c77s18 σ H Q = vc P E (.block 0 (.loop c77k c77s17)) σ H Q := rfl
@[go_sem] def c77r19 : List GOp := [(.op none (.s 1) (.v (.mv (.c (.bool true)))))]
def c77s20 : SCode := (.seq (.ops c77r19) .ret)
@[go_sem] theorem c77s20eq : vc P E c77s20 σ H Q = vc P E (.seq (.ops c77r19) .ret) σ H Q := rfl
def c77s21 : SCode := (.seq (.seq (.ops c77r5) c77s18) c77s20)
@[go_sem] theorem c77s21eq : vc P E c77s21 σ H Q = vc P E (.seq (.seq (.ops c77r5) c77s18) c77s20) σ H Q := rfl
def c77s22 : SCode := (.seq (.seq (.ops c77r1) c77s4) c77s21)
@[go_sem] theorem c77s22eq : vc P E c77s22 σ H Q = vc P E (.seq (.seq (.ops c77r1) c77s4) c77s21) σ H Q := rfl
def c77 : Gx.Fn := ⟨33, c77k, (.seq (.ops c77r0) c77s22), [(.tmp (.s 1))]⟩
theorem c77ok : stripFn Try.prog c77k Try.f77 = some c77 := by kernel_rfl

/- slices.Contains[[]string,string] -/
@[go_sem] def c78k : List Nat := [0, 1, 4]
@[go_sem] def c78r0 : List GOp := [(.op none (.s 2) (.v (.mv (.c (.bool false)))))]
@[go_sem] def c78r1 : List GOp := [(.op none .t (.v (.mv (.s 0)))),
  (.op none .t (.v (.mv (.s 1)))),
  (.op none .t (.call 38 [(.t 1), (.t 0)])),
  (.op none .t (.v (.bin .geq (.t 0) (.c (.int .i64 0))))),
  (.op none (.s 2) (.v (.mv (.t 0))))]
def c78s2 : SCode := (.seq (.ops c78r1) .ret)
@[go_sem] theorem c78s2eq : vc P E c78s2 σ H Q = vc P E (.seq (.ops c78r1) .ret) σ H Q := rfl
def c78 : Gx.Fn := ⟨9, c78k, (.seq (.ops c78r0) c78s2), [(.tmp (.s 2))]⟩
theorem c78ok : stripFn Try.prog c78k Try.f78 = some c78 := by kernel_rfl

/- names.Sorted -/
@[go_sem] def c79k : List Nat := [0, 2, 3, 7, 19]
@[go_sem] def c79r0 : List GOp := [(.op none (.s 1) (.v (.mv (.c (.bool false)))))]
@[go_sem] def c79r1 : List GOp := [(.op none (.s 2) (.v (.mv (.c (.int .i64 1)))))]
@[go_sem] def c79r2 : List GOp := [(.op none .t (.v (.mv (.s 2)))),
  (.op none .t (.v (.mv (.s 0)))),
  (.op none .t (.v (.len (.t 0)))),
  (.op none (.s 3) (.v (.bin .lss (.t 2) (.t 0))))]
def c79s3 : SCode := (.cond (.s 3) .skip (.exit 0))
@[go_sem] theorem c79s3eq : vc P E c79s3 σ H Q = vc P E (.cond (.s 3) .skip (.exit 0)) σ H Q := rfl
@[go_sem] def c79r4 : List GOp := [(.op none .t (.v (.mv (.s 0)))),
  (.op none .t (.v (.mv (.s 2)))),
  (.op none .t (.v (.bin .sub (.t 0) (.c (.int .i64 1))))),
  (.op none .t (.v (.ix 1 (.t 2) (.t 0)))),
  (.op none .t (.ld none (.t 0))),
  (.op none .t (.v (.mv (.s 0)))),
  (.op none .t (.v (.mv (.s 2)))),
  (.op none .t (.v (.ix 1 (.t 1) (.t 0)))),
  (.op none .t (.ld none (.t 0))),
  (.op none (.s 4) (.v (.bin .geq (.t 4) (.t 0))))]
@[go_sem] def c79r5 : List GOp := [(.op none (.s 1) (.v (.mv (.c (.bool false)))))]
def c79s6 : SCode := (.seq (.ops c79r5) .ret)
@[go_sem] theorem c79s6eq : vc P E c79s6 σ H Q = vc P E (.seq (.ops c79r5) .ret) σ H Q := rfl
def c79s7 : SCode := (.cond (.s 4) c79s6 .skip)
@[go_sem] theorem c79s7eq : vc P E c79s7 σ H Q = vc P E (.cond (.s 4) c79s6 .skip) σ H Q := rfl
@[go_sem] def c79r8 : List GOp := [(.op none .t (.v (.mv (.s 2)))),
  (.op none .t (.v (.bin .add (.t 0) (.c (.int .i64 1))))),
  (.op none (.s 2) (.v (.mv (.t 0))))]
def c79s9 : SCode := (.ops c79r8)
@[go_sem] theorem c79s9eq : vc P E c79s9 σ H Q = vc P E (.ops c79r8) σ H Q := rfl
def c79s10 : SCode := (.seq (.block 1 (.seq (.dq c79r4) c79s7)) c79s9)
@[go_sem] theorem c79s10eq : vc P E c79s10 σ H Q = vc P E (.seq (.block 1 (.seq (.dq c79r4) c79s7)) c79s9) σ H Q := rfl
def c79s11 : SCode := (.seq (.seq (.ops c79r2) c79s3) c79s10)
@[go_sem] theorem c79s11eq : vc P E c79s11 σ H Q = vc P E (.seq (.seq (.ops c79r2) c79s3) c79s10) σ H Q := rfl
def c79s12 : SCode := (.block 0 (.loop c79k c79s11))
@[go_sem] theorem c79s12eq : vc P E c79s12 σ H Q = vc P E (.block 0 (.loop c79k c79s11)) σ H Q := rfl
@[go_sem] def c79r13 : List GOp := [(.op none (.s 1) (.v (.mv (.c (.bool true)))))]
def c79s14 : SCode := (.seq (.ops c79r13) .ret)
@[go_sem] theorem c79s14eq : vc P E c79s14 σ H Q = vc P E (.seq (.ops c79r13) .ret) σ H Q := rfl
def c79s15 : SCode := (.seq (.seq (.ops c79r1) c79s12) c79s14)
@[go_sem] theorem c79s15eq : vc P E c79s15 σ H Q = vc P E (.seq (.seq (.ops c79r1) c79s12) c79s14) σ H Q := rfl
def c79 : Gx.Fn := ⟨20, c79k, (.seq (.ops c79r0) c79s15), [(.tmp (.s 1))]⟩
theorem c79ok : stripFn Try.prog c79k Try.f79 = some c79 := by kernel_rfl

/- names.Subset -/
@[go_sem] def c80k : List Nat := [0, 1, 4, 6, 7, 8, 9, 10, 16]
@[go_sem] def c80r0 : List GOp := [(.op none (.s 2) (.v (.mv (.c (.bool false)))))]
@[go_sem] def c80r1 : List GOp := [(.op none (.s 4) (.v (.mv (.s 0)))),
  (.op none (.s 5) (.v (.len (.s 4)))),
  (.op none (.s 6) (.v (.mv (.c (.int .i64 0)))))]
@[go_sem] def c80r2 : List GOp := [(.op none (.s 7) (.v (.bin .lss (.s 6) (.s 5))))]
@[go_sem] def c80r3 : List GOp := [(.op none .t (.v (.ix 1 (.s 4) (.s 6)))),
  (.op none .t (.ld none (.t 0))),
  (.op none (.s 3) (.v (.mv (.t 0))))]
@[go_sem] def c80r4 : List GOp := [(.op none .t (.v (.mv (.s 1)))),
  (.op none .t (.v (.mv (.s 3)))),
  (.op none .t (.call 81 [(.t 1), (.t 0)])),
  (.op none (.s 8) (.v (.un .not (.t 0))))]
@[go_sem] def c80r5 : List GOp := [(.op none (.s 2) (.v (.mv (.c (.bool false)))))]
def c80s6 : SCode := (.seq (.ops c80r5) .ret)
@[go_sem] theorem c80s6eq : vc P E c80s6 σ H Q = vc P E (.seq (.ops c80r5) .ret) σ H Q := rfl
def c80s7 : SCode := (.cond (.s 8) c80s6 .skip)
@[go_sem] theorem c80s7eq : vc P E c80s7 σ H Q = vc P E (.cond (.s 8) c80s6 .skip) σ H Q := rfl
def c80s8 : SCode := (.seq (.ops c80r4) c80s7)
@[go_sem] theorem c80s8eq : vc P E c80s8 σ H Q = vc P E (.seq (.ops c80r4) c80s7) σ H Q := rfl
@[go_sem] def c80r9 : List GOp := [(.op none .t (.v (.bin .add (.s 6) (.c (.int .i64 1))))),
  (.op none (.s 6) (.v (.mv (.t 0))))]
def c80s10 : SCode := (.ops c80r9)
@[go_sem] theorem c80s10eq : vc P E c80s10 σ H Q = vc P E (.ops c80r9) σ H Q := rfl
def c80s11 : SCode := (.seq (.block 1 (.seq (.ops c80r3) c80s8)) c80s10)
@[go_sem] theorem c80s11eq : vc P E c80s11 σ H Q = vc P E (.seq (.block 1 (.seq (.ops c80r3) c80s8)) c80s10) σ H Q := rfl
def c80s12 : SCode := (.seq (.cond (.s 7) .skip (.exit 0)) c80s11)
@[go_sem] theorem c80s12eq : vc P E c80s12 σ H Q = vc P E (.seq (.cond (.s 7) .skip (.exit 0)) c80s11) σ H Q := rfl
def c80s13 : SCode := (.seq (.ops c80r2) c80s12)
@[go_sem] theorem c80s13eq : vc P E c80s13 σ H Q = vc P E (.seq (.ops c80r2) c80s12) σ H Q := rfl
def c80s14 : SCode := (.block 0 (.loop c80k c80s13))
@[go_sem] theorem c80s14eq : vc P E c80s14 σ H Q = vc P E (.block 0 (.loop c80k c80s13)) σ H Q := rfl
@[go_sem] def c80r15 : List GOp := [(.op none (.s 2) (.v (.mv (.c (.bool true)))))]
def c80s16 : SCode := (.seq (.ops c80r15) .ret)
@[go_sem] theorem c80s16eq : vc P E c80s16 σ H Q = vc P E (.seq (.ops c80r15) .ret) σ H Q := rfl
def c80s17 : SCode := (.seq (.seq (.ops c80r1) c80s14) c80s16)
@[go_sem] theorem c80s17eq : vc P E c80s17 σ H Q = vc P E (.seq (.seq (.ops c80r1) c80s14) c80s16) σ H Q := rfl
def c80 : Gx.Fn := ⟨18, c80k, (.seq (.ops c80r0) c80s17), [(.tmp (.s 2))]⟩
theorem c80ok : stripFn Try.prog c80k Try.f80 = some c80 := by kernel_rfl

/- names.Has -/
@[go_sem] def c81k : List Nat := [0, 1, 4]
@[go_sem] def c81r0 : List GOp := [(.op none (.s 2) (.v (.mv (.c (.bool false)))))]
@[go_sem] def c81r1 : List GOp := [(.op none .t (.v (.mv (.s 0)))),
  (.op none .t (.v (.mv (.s 1)))),
  (.op none .t (.call 78 [(.t 1), (.t 0)])),
  (.op none (.s 2) (.v (.mv (.t 0))))]
def c81s2 : SCode := (.seq (.ops c81r1) .ret)
@[go_sem] theorem c81s2eq : vc P E c81s2 σ H Q = vc P E (.seq (.ops c81r1) .ret) σ H Q := rfl
def c81 : Gx.Fn := ⟨8, c81k, (.seq (.ops c81r0) c81s2), [(.tmp (.s 2))]⟩
theorem c81ok : stripFn Try.prog c81k Try.f81 = some c81 := by kernel_rfl

/- plexusref09.shape -/
@[go_sem] def c82k : List Nat := [0, 1, 2, 3, 34, 36, 37, 52, 59, 65, 80, 92]
@[go_sem] def c82r0 : List GOp := [(.op none (.s 1) (.bx 26 (.s 0))),
  (.op none (.s 2) (.v (.mv (.c (.bool false)))))]
@[go_sem] def c82r1 : List GOp := [(.op none .t (.v (.fa 0 (.s 1)))),
  (.op none .t (.ld none (.t 0))),
  (.op none .t (.v (.bin .eql (.t 0) (.c (.int .i64 2))))),
  (.op none .t (.v (.mv (.t 0)))),
  (.sel (.t 0) false [(.op (.v (.fa 0 (.s 1)))), (.op (.ld none (.t 0))), (.op (.v (.bin .eql (.t 0) (.c (.int .i64 3)))))] .t (.c (.bool true)) (.t 0)),
  (.op none (.s 3) (.v (.mv (.t 0))))]
@[go_sem] def c82r2 : List GOp := [(.op none .t (.v (.mv (.s 3)))),
  (.op none .t (.v (.un .not (.t 0)))),
  (.op none .t (.v (.mv (.t 0)))),
  (.sel (.t 0) true [(.op (.v (.fa 1 (.s 1)))), (.op (.ld none (.t 0))), (.op (.v (.bin .neq (.t 0) (.c (.int .i64 0))))), (.op (.v (.mv (.t 0)))), (.nst (.t 0) false [(.op (.v (.fa 2 (.s 1)))), (.op (.ld none (.t 0))), (.op (.v (.bin .neq (.t 0) (.c (.int .i64 0)))))] (.c (.bool true)) (.t 0))] .t (.t 0) (.c (.bool false))),
  (.op none .t (.v (.mv (.t 0)))),
  (.sel (.t 0) false [(.op (.v (.fa 0 (.s 1)))), (.op (.ld none (.t 0))), (.op (.v (.bin .neq (.t 0) (.c (.int .i64 10))))), (.op (.v (.mv (.t 0)))), (.nst (.t 0) true [(.op (.v (.fa 5 (.s 1)))), (.op (.ld none (.t 0))), (.op (.v (.len (.t 0)))), (.op (.v (.bin .neq (.t 0) (.c (.int .i64 0)))))] (.t 0) (.c (.bool false)))] (.s 4) (.c (.bool true)) (.t 0))]
@[go_sem] def c82r3 : List GOp := [(.op none (.s 2) (.v (.mv (.c (.bool false)))))]
def c82s4 : SCode := (.seq (.ops c82r3) .ret)
@[go_sem] theorem c82s4eq : vc P E c82s4 σ H Q = vc P E (.seq (.ops c82r3) .ret) σ H Q := rfl
def c82s5 : SCode := (.cond (.s 4) c82s4 .skip)
@[go_sem] theorem c82s5eq : vc P E c82s5 σ H Q = vc P E (.cond (.s 4) c82s4 .skip) σ H Q := rfl
@[go_sem] def c82r6 : List GOp := [(.op none .t (.v (.fa 0 (.s 1)))),
  (.op none (.s 5) (.ld none (.t 0)))]
@[go_sem] def c82r7 : List GOp := [(.op none .t (.v (.bin .eql (.s 5) (.c (.int .i64 1))))),
  (.op none (.s 6) (.v (.mv (.t 0))))]
@[go_sem] def c82r8 : List GOp := [(.op none .t (.v (.bin .eql (.s 5) (.c (.int .i64 2))))),
  (.op none (.s 6) (.v (.mv (.t 0))))]
@[go_sem] def c82r9 : List GOp := [(.op none .t (.v (.bin .eql (.s 5) (.c (.int .i64 3))))),
  (.op none (.s 6) (.v (.mv (.t 0))))]
@[go_sem] def c82r10 : List GOp := [(.op none .t (.v (.bin .eql (.s 5) (.c (.int .i64 9))))),
  (.op none (.s 6) (.v (.mv (.t 0))))]
def c82s11 : SCode := (.cond (.s 6) .skip (.ops c82r10))
@[go_sem] theorem c82s11eq : vc P E c82s11 σ H Q = vc P E (.cond (.s 6) .skip (.ops c82r10)) σ H Q := rfl
def c82s12 : SCode := (.seq (.ops c82r9) c82s11)
@[go_sem] theorem c82s12eq : vc P E c82s12 σ H Q = vc P E (.seq (.ops c82r9) c82s11) σ H Q := rfl
def c82s13 : SCode := (.cond (.s 6) .skip c82s12)
@[go_sem] theorem c82s13eq : vc P E c82s13 σ H Q = vc P E (.cond (.s 6) .skip c82s12) σ H Q := rfl
def c82s14 : SCode := (.seq (.ops c82r8) c82s13)
@[go_sem] theorem c82s14eq : vc P E c82s14 σ H Q = vc P E (.seq (.ops c82r8) c82s13) σ H Q := rfl
def c82s15 : SCode := (.cond (.s 6) .skip c82s14)
@[go_sem] theorem c82s15eq : vc P E c82s15 σ H Q = vc P E (.cond (.s 6) .skip c82s14) σ H Q := rfl
@[go_sem] def c82r16 : List GOp := [(.op none .t (.v (.fa 3 (.s 1)))),
  (.op none .t (.ld none (.t 0))),
  (.op none .t (.v (.len (.t 0)))),
  (.op none .t (.v (.bin .eql (.t 0) (.c (.int .i64 0))))),
  (.op none .t (.v (.mv (.t 0)))),
  (.sel (.t 0) true [(.op (.v (.fa 4 (.s 1)))), (.op (.ld none (.t 0))), (.op (.v (.len (.t 0)))), (.op (.v (.bin .eql (.t 0) (.c (.int .i64 0)))))] .t (.t 0) (.c (.bool false))),
  (.op none (.s 2) (.v (.mv (.t 0))))]
def c82s17 : SCode := (.seq (.ops c82r16) .ret)
@[go_sem] theorem c82s17eq : vc P E c82s17 σ H Q = vc P E (.seq (.ops c82r16) .ret) σ H Q := rfl
@[go_sem] def c82r18 : List GOp := [(.op none .t (.v (.bin .eql (.s 5) (.c (.int .i64 4))))),
  (.op none (.s 7) (.v (.mv (.t 0))))]
@[go_sem] def c82r19 : List GOp := [(.op none .t (.v (.bin .eql (.s 5) (.c (.int .i64 8))))),
  (.op none (.s 7) (.v (.mv (.t 0))))]
def c82s20 : SCode := (.cond (.s 7) .skip (.ops c82r19))
@[go_sem] theorem c82s20eq : vc P E c82s20 σ H Q = vc P E (.cond (.s 7) .skip (.ops c82r19)) σ H Q := rfl
@[go_sem] def c82r21 : List GOp := [(.op none .t (.v (.fa 4 (.s 1)))),
  (.op none .t (.ld none (.t 0))),
  (.op none .t (.v (.len (.t 0)))),
  (.op none .t (.v (.bin .eql (.t 0) (.c (.int .i64 0))))),
  (.op none (.s 2) (.v (.mv (.t 0))))]
def c82s22 : SCode := (.seq (.ops c82r21) .ret)
@[go_sem] theorem c82s22eq : vc P E c82s22 σ H Q = vc P E (.seq (.ops c82r21) .ret) σ H Q := rfl
@[go_sem] def c82r23 : List GOp := [(.op none .t (.v (.bin .eql (.s 5) (.c (.int .i64 5))))),
  (.op none (.s 8) (.v (.mv (.t 0))))]
@[go_sem] def c82r24 : List GOp := [(.op none .t (.v (.fa 4 (.s 1)))),
  (.op none .t (.ld none (.t 0))),
  (.op none .t (.v (.len (.t 0)))),
  (.op none .t (.v (.bin .eql (.t 0) (.c (.int .i64 1))))),
  (.op none (.s 2) (.v (.mv (.t 0))))]
def c82s25 : SCode := (.seq (.ops c82r24) .ret)
@[go_sem] theorem c82s25eq : vc P E c82s25 σ H Q = vc P E (.seq (.ops c82r24) .ret) σ H Q := rfl
@[go_sem] def c82r26 : List GOp := [(.op none .t (.v (.bin .eql (.s 5) (.c (.int .i64 6))))),
  (.op none (.s 9) (.v (.mv (.t 0))))]
@[go_sem] def c82r27 : List GOp := [(.op none .t (.v (.fa 3 (.s 1)))),
  (.op none .t (.ld none (.t 0))),
  (.op none .t (.v (.len (.t 0)))),
  (.op none .t (.v (.bin .gtr (.t 0) (.c (.int .i64 0))))),
  (.op none .t (.v (.mv (.t 0)))),
  (.sel (.t 0) true [(.op (.v (.fa 3 (.s 1)))), (.op (.ld none (.t 0))), (.op (.v (.len (.t 0)))), (.op (.v (.fa 4 (.s 1)))), (.op (.ld none (.t 0))), (.op (.v (.len (.t 0)))), (.op (.v (.bin .eql (.t 3) (.t 0))))] .t (.t 0) (.c (.bool false))),
  (.op none (.s 2) (.v (.mv (.t 0))))]
def c82s28 : SCode := (.seq (.ops c82r27) .ret)
@[go_sem] theorem c82s28eq : vc P E c82s28 σ H Q = vc P E (.seq (.ops c82r27) .ret) σ H Q := rfl
@[go_sem] def c82r29 : List GOp := [(.op none .t (.v (.bin .eql (.s 5) (.c (.int .i64 7))))),
  (.op none (.s 10) (.v (.mv (.t 0))))]
@[go_sem] def c82r30 : List GOp := [(.op none .t (.v (.fa 3 (.s 1)))),
  (.op none .t (.ld none (.t 0))),
  (.op none .t (.v (.len (.t 0)))),
  (.op none .t (.v (.bin .eql (.t 0) (.c (.int .i64 0))))),
  (.op none .t (.v (.mv (.t 0)))),
  (.sel (.t 0) true [(.op (.v (.fa 4 (.s 1)))), (.op (.ld none (.t 0))), (.op (.v (.len (.t 0)))), (.op (.v (.bin .eql (.t 0) (.c (.int .i64 2)))))] .t (.t 0) (.c (.bool false))),
  (.op none (.s 2) (.v (.mv (.t 0))))]
def c82s31 : SCode := (.seq (.ops c82r30) .ret)
@[go_sem] theorem c82s31eq : vc P E c82s31 σ H Q = vc P E (.seq (.ops c82r30) .ret) σ H Q := rfl
@[go_sem] def c82r32 : List GOp := [(.op none .t (.v (.bin .eql (.s 5) (.c (.int .i64 10))))),
  (.op none (.s 11) (.v (.mv (.t 0))))]
@[go_sem] def c82r33 : List GOp := [(.op none .t (.v (.fa 3 (.s 1)))),
  (.op none .t (.ld none (.t 0))),
  (.op none .t (.v (.len (.t 0)))),
  (.op none .t (.v (.bin .gtr (.t 0) (.c (.int .i64 0))))),
  (.op none .t (.v (.mv (.t 0)))),
  (.sel (.t 0) true [(.op (.v (.fa 4 (.s 1)))), (.op (.ld none (.t 0))), (.op (.v (.len (.t 0)))), (.op (.v (.bin .eql (.t 0) (.c (.int .i64 0)))))] .t (.t 0) (.c (.bool false))),
  (.op none (.s 2) (.v (.mv (.t 0))))]
def c82s34 : SCode := (.seq (.ops c82r33) .ret)
@[go_sem] theorem c82s34eq : vc P E c82s34 σ H Q = vc P E (.seq (.ops c82r33) .ret) σ H Q := rfl
def c82s35 : SCode := (.cond (.s 11) c82s34 .skip)
@[go_sem] theorem c82s35eq : vc P E c82s35 σ H Q = vc P E (.cond (.s 11) c82s34 .skip) σ H Q := rfl
def c82s36 : SCode := (.seq (.ops c82r32) c82s35)
@[go_sem] theorem c82s36eq : vc P E c82s36 σ H Q = vc P E (.seq (.ops c82r32) c82s35) σ H Q := rfl
def c82s37 : SCode := (.cond (.s 10) c82s31 c82s36)
@[go_sem] theorem c82s37eq : vc P E c82s37 σ H Q = vc P E (.cond (.s 10) c82s31 c82s36) σ H Q := rfl
def c82s38 : SCode := (.seq (.ops c82r29) c82s37)
@[go_sem] theorem c82s38eq : vc P E c82s38 σ H Q = vc P E (.seq (.ops c82r29) c82s37) σ H Q := rfl
def c82s39 : SCode := (.cond (.s 9) c82s28 c82s38)
@[go_sem] theorem c82s39eq : vc P E c82s39 σ H Q = vc P E (.cond (.s 9) c82s28 c82s38) σ H Q := rfl
def c82s40 : SCode := (.seq (.ops c82r26) c82s39)
@[go_sem] theorem c82s40eq : vc P E c82s40 σ H Q = vc P E (.seq (.ops c82r26) c82s39) σ H Q := rfl
def c82s41 : SCode := (.cond (.s 8) c82s25 c82s40)
@[go_sem] theorem c82s41eq : vc P E c82s41 σ H Q = vc P E (.cond (.s 8) c82s25 c82s40) σ H Q := rfl
def c82s42 : SCode := (.seq (.ops c82r23) c82s41)
@[go_sem] theorem c82s42eq : vc P E c82s42 σ H Q = vc P E (.seq (.ops c82r23) c82s41) σ H Q := rfl
def c82s43 : SCode := (.cond (.s 7) c82s22 c82s42)
@[go_sem] theorem c82s43eq : vc P E c82s43 σ H Q = vc P E (.cond (.s 7) c82s22 c82s42) σ H Q := rfl
def c82s44 : SCode := (.seq (.seq (.ops c82r18) c82s20) c82s43)
@[go_sem] theorem c82s44eq : vc P E c82s44 σ H Q = vc P E (.seq (.seq (.ops c82r18) c82s20) c82s43) σ H Q := rfl
def c82s45 : SCode := (.cond (.s 6) c82s17 c82s44)
@[go_sem] theorem c82s45eq : vc P E c82s45 σ H Q = vc P E (.cond (.s 6) c82s17 c82s44) σ H Q := rfl
def c82s46 : SCode := (.block 0 (.seq (.seq (.ops c82r7) c82s15) c82s45))
@[go_sem] theorem c82s46eq : vc P E c82s46 σ H Q = vc P E (.block 0 (.seq (.seq (.ops c82r7) c82s15) c82s45)) σ H Q := rfl
@[go_sem] def c82r47 : List GOp := [(.op none (.s 2) (.v (.mv (.c (.bool false)))))]
def c82s48 : SCode := (.seq (.ops c82r47) .ret)
@[go_sem] theorem c82s48eq : vc P E c82s48 σ H Q = vc P E (.seq (.ops c82r47) .ret) σ H Q := rfl
def c82s49 : SCode := (.seq (.seq (.ops c82r6) c82s46) c82s48)
@[go_sem] theorem c82s49eq : vc P E c82s49 σ H Q = vc P E (.seq (.seq (.ops c82r6) c82s46) c82s48) σ H Q := rfl
def c82s50 : SCode := (.seq (.seq (.ops c82r2) c82s5) c82s49)
@[go_sem] theorem c82s50eq : vc P E c82s50 σ H Q = vc P E (.seq (.seq (.ops c82r2) c82s5) c82s49) σ H Q := rfl
def c82s51 : SCode := (.seq (.ops c82r1) c82s50)
@[go_sem] theorem c82s51eq : vc P E c82s51 σ H Q = vc P E (.seq (.ops c82r1) c82s50) σ H Q := rfl
def c82 : Gx.Fn := ⟨104, c82k, (.seq (.ops c82r0) c82s51), [(.tmp (.s 2))]⟩
theorem c82ok : stripFn Try.prog c82k Try.f82 = some c82 := by kernel_rfl

/- plexusref09.named -/
@[go_sem] def c83k : List Nat := [0, 1, 2, 3, 4, 5, 6, 9, 14, 35, 39, 44, 69, 74, 85]
@[go_sem] def c83r0 : List GOp := [(.op none (.s 1) (.bx 26 (.s 0))),
  (.op none (.s 2) (.v (.mv (.c (.bool false)))))]
@[go_sem] def c83r1 : List GOp := [(.op none .t (.v (.fa 0 (.s 1)))),
  (.op none .t (.ld none (.t 0))),
  (.op none (.s 7) (.v (.bin .eql (.t 0) (.c (.int .i64 6)))))]
@[go_sem] def c83r2 : List GOp := [(.op none (.s 3) (.v (.mv (.c (.int .i64 0)))))]
@[go_sem] def c83r3 : List GOp := [(.op none .t (.v (.mv (.s 3)))),
  (.op none .t (.v (.fa 3 (.s 1)))),
  (.op none .t (.ld none (.t 0))),
  (.op none .t (.v (.len (.t 0)))),
  (.op none (.s 8) (.v (.bin .lss (.t 3) (.t 0))))]
def c83s4 : SCode := (.cond (.s 8) .skip (.exit 0))
@[go_sem] theorem c83s4eq : vc P E c83s4 σ H Q = vc P E (.cond (.s 8) .skip (.exit 0)) σ H Q := rfl
@[go_sem] def c83d5 : DT := (.rd none .t (.v (.fa 3 (.s 1))) [5, 17] (.rd none .t (.ld none (.t 0)) [5, 17] (.rd none .t (.v (.mv (.s 3))) [5, 17] (.rd none .t (.v (.ix 1 (.t 1) (.t 0))) [5, 17] (.rd none .t (.ld none (.t 0)) [5, 17] (.ef 5 none .t (.call 90 [(.t 0)]) (.rd none .t (.v (.un .not (.t 0))) [17] (.rd none .t (.v (.mv (.t 0))) [17] (.rd (some ((.t 0), false)) .t (.v (.fa 3 (.s 1))) [17] (.rd (some ((.t 1), false)) .t (.ld none (.t 0)) [17] (.rd (some ((.t 2), false)) .t (.v (.mv (.s 3))) [17] (.rd (some ((.t 3), false)) .t (.v (.sl 1 (.t 1) none (some (.t 0)))) [17] (.rd (some ((.t 4), false)) .t (.v (.fa 3 (.s 1))) [17] (.rd (some ((.t 5), false)) .t (.ld none (.t 0)) [17] (.rd (some ((.t 6), false)) .t (.v (.mv (.s 3))) [17] (.rd (some ((.t 7), false)) .t (.v (.ix 1 (.t 1) (.t 0))) [17] (.rd (some ((.t 8), false)) .t (.ld none (.t 0)) [17] (.ef 17 (some ((.t 9), false)) .t (.call 91 [(.t 5), (.t 0)]) (.rd none (.s 9) (.v (.pick (.t 10) (.c (.bool true)) (.t 0))) [] .done)))))))))))))))))))
@[go_sem] def c83r6 : List GOp := [(.op none (.s 2) (.v (.mv (.c (.bool false)))))]
def c83s7 : SCode := (.seq (.ops c83r6) .ret)
@[go_sem] theorem c83s7eq : vc P E c83s7 σ H Q = vc P E (.seq (.ops c83r6) .ret) σ H Q := rfl
def c83s8 : SCode := (.cond (.s 9) c83s7 .skip)
@[go_sem] theorem c83s8eq : vc P E c83s8 σ H Q = vc P E (.cond (.s 9) c83s7 .skip) σ H Q := rfl
@[go_sem] def c83r9 : List GOp := [(.op none .t (.v (.mv (.s 3)))),
  (.op none .t (.v (.bin .add (.t 0) (.c (.int .i64 1))))),
  (.op none (.s 3) (.v (.mv (.t 0))))]
def c83s10 : SCode := (.ops c83r9)
@[go_sem] theorem c83s10eq : vc P E c83s10 σ H Q = vc P E (.ops c83r9) σ H Q := rfl
def c83s11 : SCode := (.seq (.block 1 (.seq (.de c83d5) c83s8)) c83s10)
@[go_sem] theorem c83s11eq : vc P E c83s11 σ H Q = vc P E (.seq (.block 1 (.seq (.de c83d5) c83s8)) c83s10) σ H Q := rfl
def c83s12 : SCode := (.seq (.seq (.ops c83r3) c83s4) c83s11)
@[go_sem] theorem c83s12eq : vc P E c83s12 σ H Q = vc P E (.seq (.seq (.ops c83r3) c83s4) c83s11) σ H Q := rfl
def c83s13 : SCode := (.block 0 (.loop c83k c83s12))
@[go_sem] theorem c83s13eq : vc P E c83s13 σ H Q = vc P E (.block 0 (.loop c83k c83s12)) σ H Q := rfl
@[go_sem] def c83r14 : List GOp := [(.op none (.s 2) (.v (.mv (.c (.bool true)))))]
def c83s15 : SCode := (.seq (.ops c83r14) .ret)
@[go_sem] theorem c83s15eq : vc P E c83s15 σ H Q = vc P E (.seq (.ops c83r14) .ret) σ H Q := rfl
def c83s16 : SCode := (.seq (.seq (.ops c83r2) c83s13) c83s15)
@[go_sem] theorem c83s16eq : vc P E c83s16 σ H Q = vc P E (.seq (.seq (.ops c83r2) c83s13) c83s15) σ H Q := rfl
def c83s17 : SCode := (.cond (.s 7) c83s16 .skip)
@[go_sem] theorem c83s17eq : vc P E c83s17 σ H Q = vc P E (.cond (.s 7) c83s16 .skip) σ H Q := rfl
@[go_sem] def c83r18 : List GOp := [(.op none .t (.v (.fa 3 (.s 1)))),
  (.op none .t (.ld none (.t 0))),
  (.op none .t (.call 92 [(.t 0)])),
  (.op none (.s 10) (.v (.un .not (.t 0))))]
@[go_sem] def c83r19 : List GOp := [(.op none (.s 2) (.v (.mv (.c (.bool false)))))]
def c83s20 : SCode := (.seq (.ops c83r19) .ret)
@[go_sem] theorem c83s20eq : vc P E c83s20 σ H Q = vc P E (.seq (.ops c83r19) .ret) σ H Q := rfl
def c83s21 : SCode := (.cond (.s 10) c83s20 .skip)
@[go_sem] theorem c83s21eq : vc P E c83s21 σ H Q = vc P E (.cond (.s 10) c83s20 .skip) σ H Q := rfl
@[go_sem] def c83r22 : List GOp := [(.op none (.s 4) (.v (.mv (.c (.int .i64 0)))))]
@[go_sem] def c83r23 : List GOp := [(.op none .t (.v (.mv (.s 4)))),
  (.op none .t (.v (.fa 5 (.s 1)))),
  (.op none .t (.ld none (.t 0))),
  (.op none .t (.v (.len (.t 0)))),
  (.op none (.s 11) (.v (.bin .lss (.t 3) (.t 0))))]
def c83s24 : SCode := (.cond (.s 11) .skip (.exit 2))
@[go_sem] theorem c83s24eq : vc P E c83s24 σ H Q = vc P E (.cond (.s 11) .skip (.exit 2)) σ H Q := rfl
@[go_sem] def c83r25 : List GOp := [(.op none .t (.v (.fa 5 (.s 1)))),
  (.op none .t (.ld none (.t 0))),
  (.op none .t (.v (.mv (.s 4)))),
  (.op none .t (.v (.ix 2 (.t 1) (.t 0)))),
  (.op none .t (.ld (some 2) (.t 0))),
  (.op none (.s 5) (.al 50 [(.slice none 0 0), (.string ⟨⟨[]⟩⟩)])),
  (.op none .no (.st 2 (.s 5) (.t 0)))]
@[go_sem] def c83r26 : List GOp := [(.op none .t (.v (.fa 0 (.s 5)))),
  (.op none .t (.ld none (.t 0))),
  (.op none .t (.v (.len (.t 0)))),
  (.op none .t (.v (.bin .eql (.t 0) (.c (.int .i64 0))))),
  (.op none .t (.v (.mv (.t 0)))),
  (.op (some ((.t 0), (false, true))) .t (.v (.fa 0 (.s 5)))),
  (.op (some ((.t 1), (false, false))) .t (.ld none (.t 0))),
  (.op (some ((.t 2), (false, false))) .t (.call 92 [(.t 0)])),
  (.op (some ((.t 3), (false, false))) .t (.v (.un .not (.t 0)))),
  (.op none .t (.v (.pick (.t 4) (.c (.bool true)) (.t 0)))),
  (.op none .t (.v (.mv (.t 0)))),
  (.op (some ((.t 0), (false, true))) .t (.v (.fa 3 (.s 1)))),
  (.op (some ((.t 1), (false, false))) .t (.ld none (.t 0))),
  (.op (some ((.t 2), (false, false))) .t (.v (.fa 1 (.s 5)))),
  (.op (some ((.t 3), (false, false))) .t (.ld none (.t 0))),
  (.op (some ((.t 4), (false, false))) .t (.call 91 [(.t 2), (.t 0)])),
  (.op (some ((.t 5), (false, false))) .t (.v (.un .not (.t 0)))),
  (.op none (.s 12) (.v (.pick (.t 6) (.c (.bool true)) (.t 0))))]
@[go_sem] def c83r27 : List GOp := [(.op none (.s 2) (.v (.mv (.c (.bool false)))))]
def c83s28 : SCode := (.seq (.ops c83r27) .ret)
@[go_sem] theorem c83s28eq : vc P E c83s28 σ H Q = vc P E (.seq (.ops c83r27) .ret) σ H Q := rfl
def c83s29 : SCode := (.cond (.s 12) c83s28 .skip)
@[go_sem] theorem c83s29eq : vc P E c83s29 σ H Q = vc P E (.cond (.s 12) c83s28 .skip) σ H Q := rfl
@[go_sem] def c83r30 : List GOp := [(.op none (.s 6) (.v (.mv (.c (.int .i64 0)))))]
@[go_sem] def c83r31 : List GOp := [(.op none .t (.v (.mv (.s 6)))),
  (.op none .t (.v (.fa 0 (.s 5)))),
  (.op none .t (.ld none (.t 0))),
  (.op none .t (.v (.len (.t 0)))),
  (.op none (.s 13) (.v (.bin .lss (.t 3) (.t 0))))]
def c83s32 : SCode := (.cond (.s 13) .skip (.exit 4))
@[go_sem] theorem c83s32eq : vc P E c83s32 σ H Q = vc P E (.cond (.s 13) .skip (.exit 4)) σ H Q := rfl
@[go_sem] def c83d33 : DT := (.rd none .t (.v (.fa 3 (.s 1))) [7] (.rd none .t (.ld none (.t 0)) [7] (.rd none .t (.v (.fa 0 (.s 5))) [7] (.rd none .t (.ld none (.t 0)) [7] (.rd none .t (.v (.mv (.s 6))) [7] (.rd none .t (.v (.ix 1 (.t 1) (.t 0))) [7] (.rd none .t (.ld none (.t 0)) [7] (.ef 7 none .t (.call 91 [(.t 5), (.t 0)]) (.rd none (.s 14) (.v (.un .not (.t 0))) [] .done)))))))))
@[go_sem] def c83r34 : List GOp := [(.op none (.s 2) (.v (.mv (.c (.bool false)))))]
def c83s35 : SCode := (.seq (.ops c83r34) .ret)
@[go_sem] theorem c83s35eq : vc P E c83s35 σ H Q = vc P E (.seq (.ops c83r34) .ret) σ H Q := rfl
def c83s36 : SCode := (.cond (.s 14) c83s35 .skip)
@[go_sem] theorem c83s36eq : vc P E c83s36 σ H Q = vc P E (.cond (.s 14) c83s35 .skip) σ H Q := rfl
@[go_sem] def c83r37 : List GOp := [(.op none .t (.v (.mv (.s 6)))),
  (.op none .t (.v (.bin .add (.t 0) (.c (.int .i64 1))))),
  (.op none (.s 6) (.v (.mv (.t 0))))]
def c83s38 : SCode := (.ops c83r37)
@[go_sem] theorem c83s38eq : vc P E c83s38 σ H Q = vc P E (.ops c83r37) σ H Q := rfl
def c83s39 : SCode := (.seq (.block 5 (.seq (.de c83d33) c83s36)) c83s38)
@[go_sem] theorem c83s39eq : vc P E c83s39 σ H Q = vc P E (.seq (.block 5 (.seq (.de c83d33) c83s36)) c83s38) σ H Q := rfl
def c83s40 : SCode := (.seq (.seq (.ops c83r31) c83s32) c83s39)
@[go_sem] theorem c83s40eq : vc P E c83s40 σ H Q = vc P E (.seq (.seq (.ops c83r31) c83s32) c83s39) σ H Q := rfl
def c83s41 : SCode := (.block 4 (.loop c83k c83s40))
@[go_sem] theorem c83s41eq : vc P E c83s41 σ H Q = vc P E (.block 4 (.loop c83k c83s40)) σ H Q := rfl
def c83s42 : SCode := (.seq (.ops c83r30) c83s41)
@[go_sem] theorem c83s42eq : vc P E c83s42 σ H Q = vc P E (.seq (.ops c83r30) c83s41) σ H Q := rfl
def c83s43 : SCode := (.seq (.seq (.ops c83r26) c83s29) c83s42)
@[go_sem] theorem c83s43eq : vc P E c83s43 σ H Q = vc P E (.seq (.seq (.ops c83r26) c83s29) c83s42) σ H Q := rfl
@[go_sem] def c83r44 : List GOp := [(.op none .t (.v (.mv (.s 4)))),
  (.op none .t (.v (.bin .add (.t 0) (.c (.int .i64 1))))),
  (.op none (.s 4) (.v (.mv (.t 0))))]
def c83s45 : SCode := (.ops c83r44)
@[go_sem] theorem c83s45eq : vc P E c83s45 σ H Q = vc P E (.ops c83r44) σ H Q := rfl
def c83s46 : SCode := (.seq (.block 3 (.seq (.ops c83r25) c83s43)) c83s45)
@[go_sem] theorem c83s46eq : vc P E c83s46 σ H Q = vc P E (.seq (.block 3 (.seq (.ops c83r25) c83s43)) c83s45) σ H Q := rfl
def c83s47 : SCode := (.seq (.seq (.ops c83r23) c83s24) c83s46)
@[go_sem] theorem c83s47eq : vc P E c83s47 σ H Q = vc P E (.seq (.seq (.ops c83r23) c83s24) c83s46) σ H Q := rfl
def c83s48 : SCode := (.block 2 (.loop c83k c83s47))
@[go_sem] theorem c83s48eq : vc P E c83s48 σ H Q = vc P E (.block 2 (.loop c83k c83s47)) σ H Q := rfl
@[go_sem] def c83r49 : List GOp := [(.op none (.s 2) (.v (.mv (.c (.bool true)))))]
def c83s50 : SCode := (.seq (.ops c83r49) .ret)
@[go_sem] theorem c83s50eq : vc P E c83s50 σ H Q = vc P E (.seq (.ops c83r49) .ret) σ H Q := rfl
def c83s51 : SCode := (.seq (.seq (.ops c83r22) c83s48) c83s50)
@[go_sem] theorem c83s51eq : vc P E c83s51 σ H Q = vc P E (.seq (.seq (.ops c83r22) c83s48) c83s50) σ H Q := rfl
def c83s52 : SCode := (.seq (.seq (.ops c83r18) c83s21) c83s51)
@[go_sem] theorem c83s52eq : vc P E c83s52 σ H Q = vc P E (.seq (.seq (.ops c83r18) c83s21) c83s51) σ H Q := rfl
def c83s53 : SCode := (.seq (.seq (.ops c83r1) c83s17) c83s52)
@[go_sem] theorem c83s53eq : vc P E c83s53 σ H Q = vc P E (.seq (.seq (.ops c83r1) c83s17) c83s52) σ H Q := rfl
def c83 : Gx.Fn := ⟨86, c83k, (.seq (.ops c83r0) c83s53), [(.tmp (.s 2))]⟩
theorem c83ok : stripFn Try.prog c83k Try.f83 = some c83 := by kernel_rfl

/- (*wire.Reader).begin -/
@[go_sem] def c84k : List Nat := [0, 2, 7]
@[go_sem] def c84r0 : List GOp := [(.op none (.s 1) (.v (.mv (.c (.bool false)))))]
@[go_sem] def c84r1 : List GOp := [(.op none .t (.v (.mv (.s 0)))),
  (.op none .t (.v (.nc (.t 0)))),
  (.op none .t (.v (.fa 3 (.t 0)))),
  (.op none .t (.ld none (.t 0))),
  (.op none (.s 2) (.v (.bin .neq (.t 0) (.c (.int .i64 0)))))]
@[go_sem] def c84r2 : List GOp := [(.op none (.s 1) (.v (.mv (.c (.bool false)))))]
def c84s3 : SCode := (.seq (.ops c84r2) .ret)
@[go_sem] theorem c84s3eq : vc P E c84s3 σ H Q = vc P E (.seq (.ops c84r2) .ret) σ H Q := rfl
def c84s4 : SCode := (.cond (.s 2) c84s3 .skip)
@[go_sem] theorem c84s4eq : vc P E c84s4 σ H Q = vc P E (.cond (.s 2) c84s3 .skip) σ H Q := rfl
@[go_sem] def c84r5 : List GOp := [(.op none .t (.v (.mv (.s 0)))),
  (.op none .t (.v (.mv (.s 0)))),
  (.op none .t (.v (.nc (.t 0)))),
  (.op none .t (.v (.fa 1 (.t 0)))),
  (.op none .t (.ld none (.t 0))),
  (.op none .t (.v (.nc (.t 4)))),
  (.op none .t (.v (.fa 2 (.t 0)))),
  (.op none .no (.st 1 (.t 0) (.t 2)))]
@[go_sem] def c84r6 : List GOp := [(.op none (.s 1) (.v (.mv (.c (.bool true)))))]
def c84s7 : SCode := (.seq (.ops c84r6) .ret)
@[go_sem] theorem c84s7eq : vc P E c84s7 σ H Q = vc P E (.seq (.ops c84r6) .ret) σ H Q := rfl
def c84s8 : SCode := (.seq (.ops c84r5) c84s7)
@[go_sem] theorem c84s8eq : vc P E c84s8 σ H Q = vc P E (.seq (.ops c84r5) c84s7) σ H Q := rfl
def c84s9 : SCode := (.seq (.seq (.ops c84r1) c84s4) c84s8)
@[go_sem] theorem c84s9eq : vc P E c84s9 σ H Q = vc P E (.seq (.seq (.ops c84r1) c84s4) c84s8) σ H Q := rfl
def c84 : Gx.Fn := ⟨15, c84k, (.seq (.ops c84r0) c84s9), [(.tmp (.s 1))]⟩
theorem c84ok : stripFn Try.prog c84k Try.f84 = some c84 := by kernel_rfl

/- (*wire.Reader).number -/
@[go_sem] def c85k : List Nat := [0, 2, 3, 4, 5, 6, 7, 8, 21, 39, 49]
@[go_sem] def c85r0 : List GOp := [(.op none (.s 1) (.v (.mv (.c (.int .u64 0))))),
  (.op none (.s 2) (.v (.mv (.c (.int .i64 0))))),
  (.op none (.s 3) (.v (.mv (.c (.bool false)))))]
@[go_sem] def c85r1 : List GOp := [(.op none (.s 6) (.v (.mv (.c (.int .i64 0)))))]
@[go_sem] def c85r2 : List GOp := [(.op none (.s 7) (.v (.bin .lss (.s 6) (.c (.int .i64 10)))))]
@[go_sem] def c85r3 : List GOp := [(.op none .t (.v (.mv (.s 6)))),
  (.op none (.s 4) (.v (.mv (.t 0))))]
@[go_sem] def c85r4 : List GOp := [(.op none .t (.v (.mv (.s 0)))),
  (.op none .t (.v (.nc (.t 0)))),
  (.op none .t (.v (.fa 1 (.t 0)))),
  (.op none .t (.ld none (.t 0))),
  (.op none .t (.v (.mv (.s 4)))),
  (.op none .t (.v (.bin .add (.t 1) (.t 0)))),
  (.op none .t (.v (.mv (.s 0)))),
  (.op none .t (.v (.nc (.t 0)))),
  (.op none .t (.v (.fa 0 (.t 0)))),
  (.op none .t (.ld none (.t 0))),
  (.op none .t (.v (.len (.t 0)))),
  (.op none (.s 8) (.v (.bin .geq (.t 5) (.t 0))))]
@[go_sem] def c85r5 : List GOp := [(.op none (.s 1) (.v (.mv (.c (.int .u64 0))))),
  (.op none (.s 2) (.v (.mv (.c (.int .i64 0))))),
  (.op none (.s 3) (.v (.mv (.c (.bool false)))))]
def c85s6 : SCode := (.seq (.ops c85r5) .ret)
@[go_sem] theorem c85s6eq : vc P E c85s6 σ H Q = vc P E (.seq (.ops c85r5) .ret) σ H Q := rfl
def c85s7 : SCode := (.cond (.s 8) c85s6 .skip)
@[go_sem] theorem c85s7eq : vc P E c85s7 σ H Q = vc P E (.cond (.s 8) c85s6 .skip) σ H Q := rfl
@[go_sem] def c85r8 : List GOp := [(.op none .t (.v (.mv (.s 0)))),
  (.op none .t (.v (.nc (.t 0)))),
  (.op none .t (.v (.fa 0 (.t 0)))),
  (.op none .t (.ld none (.t 0))),
  (.op none .t (.v (.mv (.s 0)))),
  (.op none .t (.v (.nc (.t 0)))),
  (.op none .t (.v (.fa 1 (.t 0)))),
  (.op none .t (.ld none (.t 0))),
  (.op none .t (.v (.mv (.s 4)))),
  (.op none .t (.v (.bin .add (.t 1) (.t 0)))),
  (.op none .t (.v (.ix 1 (.t 6) (.t 0)))),
  (.op none .t (.ld none (.t 0))),
  (.op none (.s 5) (.v (.mv (.t 0))))]
@[go_sem] def c85r9 : List GOp := [(.op none .t (.v (.mv (.s 4)))),
  (.op none .t (.v (.bin .eql (.t 0) (.c (.int .i64 9))))),
  (.op none .t (.v (.mv (.t 0)))),
  (.sel (.t 0) true [(.op (.v (.mv (.s 5)))), (.op (.v (.bin .gtr (.t 0) (.c (.int .u8 1)))))] (.s 9) (.t 0) (.c (.bool false)))]
@[go_sem] def c85r10 : List GOp := [(.op none (.s 1) (.v (.mv (.c (.int .u64 0))))),
  (.op none (.s 2) (.v (.mv (.c (.int .i64 0))))),
  (.op none (.s 3) (.v (.mv (.c (.bool false)))))]
def c85s11 : SCode := (.seq (.ops c85r10) .ret)
@[go_sem] theorem c85s11eq : vc P E c85s11 σ H Q = vc P E (.seq (.ops c85r10) .ret) σ H Q := rfl
def c85s12 : SCode := (.cond (.s 9) c85s11 .skip)
@[go_sem] theorem c85s12eq : vc P E c85s12 σ H Q = vc P E (.cond (.s 9) c85s11 .skip) σ H Q := rfl
@[go_sem] def c85r13 : List GOp := [(.op none .t (.v (.mv (.s 1)))),
  (.op none .t (.v (.mv (.s 5)))),
  (.op none .t (.v (.bin .and (.t 0) (.c (.int .u8 127))))),
  (.op none .t (.v (.cvi .u64 (.t 0)))),
  (.op none .t (.v (.mv (.s 4)))),
  (.op none .t (.v (.bin .mul (.c (.int .i64 7)) (.t 0)))),
  (.op none .t (.v (.bin .shl (.t 2) (.t 0)))),
  (.op none .t (.v (.bin .or (.t 6) (.t 0)))),
  (.op none (.s 1) (.v (.mv (.t 0))))]
@[go_sem] def c85r14 : List GOp := [(.op none .t (.v (.mv (.s 5)))),
  (.op none (.s 10) (.v (.bin .lss (.t 0) (.c (.int .u8 128)))))]
@[go_sem] def c85r15 : List GOp := [(.op none .t (.v (.mv (.s 1)))),
  (.op none .t (.v (.mv (.s 0)))),
  (.op none .t (.v (.nc (.t 0)))),
  (.op none .t (.v (.fa 1 (.t 0)))),
  (.op none .t (.ld none (.t 0))),
  (.op none .t (.v (.mv (.s 4)))),
  (.op none .t (.v (.bin .add (.t 1) (.t 0)))),
  (.op none .t (.v (.bin .add (.t 0) (.c (.int .i64 1))))),
  (.op none .t (.v (.mv (.s 5)))),
  (.op none .t (.v (.bin .neq (.t 0) (.c (.int .u8 0))))),
  (.op none .t (.v (.mv (.t 0)))),
  (.sel (.t 0) false [(.op (.v (.mv (.s 4)))), (.op (.v (.bin .eql (.t 0) (.c (.int .i64 0)))))] .t (.c (.bool true)) (.t 0)),
  (.op none (.s 1) (.v (.mv (.t 11)))),
  (.op none (.s 2) (.v (.mv (.t 4)))),
  (.op none (.s 3) (.v (.mv (.t 0))))]
def c85s16 : SCode := (.seq (.dq c85r15) .ret)
@[go_sem] theorem c85s16eq : vc P E c85s16 σ H Q = vc P E (.seq (.dq c85r15) .ret) σ H Q := rfl
def c85s17 : SCode := (.cond (.s 10) c85s16 .skip)
@[go_sem] theorem c85s17eq : vc P E c85s17 σ H Q = vc P E (.cond (.s 10) c85s16 .skip) σ H Q := rfl
def c85s18 : SCode := (.seq (.ops c85r14) c85s17)
@[go_sem] theorem c85s18eq : vc P E c85s18 σ H Q = vc P E (.seq (.ops c85r14) c85s17) σ H Q := rfl
def c85s19 : SCode := (.seq (.ops c85r13) c85s18)
@[go_sem] theorem c85s19eq : vc P E c85s19 σ H Q = vc P E (.seq (.ops c85r13) c85s18) σ H Q := rfl
def c85s20 : SCode := (.seq (.seq (.ops c85r9) c85s12) c85s19)
@[go_sem] theorem c85s20eq : vc P E c85s20 σ H Q = vc P E (.seq (.seq (.ops c85r9) c85s12) c85s19) σ H Q := rfl
def c85s21 : SCode := (.seq (.dq c85r8) c85s20)
@[go_sem] theorem c85s21eq : vc P E c85s21 σ H Q = vc P E (.seq (.dq c85r8) c85s20) σ H Q := rfl
def c85s22 : SCode := (.seq (.seq (.dq c85r4) c85s7) c85s21)
@[go_sem] theorem c85s22eq : vc P E c85s22 σ H Q = vc P E (.seq (.seq (.dq c85r4) c85s7) c85s21) σ H Q := rfl
@[go_sem] def c85r23 : List GOp := [(.op none .t (.v (.bin .add (.s 6) (.c (.int .i64 1))))),
  (.op none (.s 6) (.v (.mv (.t 0))))]
def c85s24 : SCode := (.ops c85r23)
@[go_sem] theorem c85s24eq : vc P E c85s24 σ H Q = vc P E (.ops c85r23) σ H Q := rfl
def c85s25 : SCode := (.seq (.block 1 (.seq (.ops c85r3) c85s22)) c85s24)
@[go_sem] theorem c85s25eq : vc P E c85s25 σ H Q = vc P E (.seq (.block 1 (.seq (.ops c85r3) c85s22)) c85s24) σ H Q := rfl
def c85s26 : SCode := (.seq (.cond (.s 7) .skip (.exit 0)) c85s25)
@[go_sem] theorem c85s26eq : vc P E c85s26 σ H Q = vc P E (.seq (.cond (.s 7) .skip (.exit 0)) c85s25) σ H Q := rfl
def c85s27 : SCode := (.seq (.ops c85r2) c85s26)
@[go_sem] theorem c85s27eq : vc P E c85s27 σ H Q = vc P E (.seq (.ops c85r2) c85s26) σ H Q := rfl
def c85s28 : SCode := (.block 0 (.loop c85k c85s27))
@[go_sem] theorem c85s28eq : vc P E c85s28 σ H Q = vc P E (.block 0 (.loop c85k c85s27)) σ H Q := rfl
@[go_sem] def c85r29 : List GOp := [(.op none (.s 1) (.v (.mv (.c (.int .u64 0))))),
  (.op none (.s 2) (.v (.mv (.c (.int .i64 0))))),
  (.op none (.s 3) (.v (.mv (.c (.bool false)))))]
def c85s30 : SCode := (.seq (.ops c85r29) .ret)
@[go_sem] theorem c85s30eq : vc P E c85s30 σ H Q = vc P E (.seq (.ops c85r29) .ret) σ H Q := rfl
def c85s31 : SCode := (.seq (.seq (.ops c85r1) c85s28) c85s30)
@[go_sem] theorem c85s31eq : vc P E c85s31 σ H Q = vc P E (.seq (.seq (.ops c85r1) c85s28) c85s30) σ H Q := rfl
def c85 : Gx.Fn := ⟨65, c85k, (.seq (.ops c85r0) c85s31), [(.tmp (.s 1)), (.tmp (.s 2)), (.tmp (.s 3))]⟩
theorem c85ok : stripFn Try.prog c85k Try.f85 = some c85 := by kernel_rfl

/- (*wire.Reader).Bytes -/
@[go_sem] def c86k : List Nat := [0, 2, 3, 4, 5, 8, 28]
@[go_sem] def c86r0 : List GOp := [(.op none (.s 1) (.v (.mv (.c (.slice none 0 0)))))]
@[go_sem] def c86r1 : List GOp := [(.op none .t (.v (.mv (.s 0)))),
  (.op none .t (.call 84 [(.t 0)])),
  (.op none (.s 5) (.v (.un .not (.t 0))))]
@[go_sem] def c86r2 : List GOp := [(.op none (.s 1) (.v (.mv (.c (.slice none 0 0)))))]
def c86s3 : SCode := (.seq (.ops c86r2) .ret)
@[go_sem] theorem c86s3eq : vc P E c86s3 σ H Q = vc P E (.seq (.ops c86r2) .ret) σ H Q := rfl
def c86s4 : SCode := (.cond (.s 5) c86s3 .skip)
@[go_sem] theorem c86s4eq : vc P E c86s4 σ H Q = vc P E (.cond (.s 5) c86s3 .skip) σ H Q := rfl
@[go_sem] def c86r5 : List GOp := [(.op none .t (.v (.mv (.s 0)))),
  (.op none .t (.call 85 [(.t 0)])),
  (.op none .t (.v (.mv (.t 0)))),
  (.op none .t (.v (.ext (.t 0) 0))),
  (.op none .t (.v (.ext (.t 1) 1))),
  (.op none .t (.v (.ext (.t 2) 2))),
  (.op none (.s 2) (.v (.mv (.t 2)))),
  (.op none (.s 3) (.v (.mv (.t 1)))),
  (.op none (.s 4) (.v (.mv (.t 0))))]
@[go_sem] def c86r6 : List GOp := [(.op none .t (.v (.mv (.s 4)))),
  (.op none .t (.v (.un .not (.t 0)))),
  (.op none .t (.v (.mv (.t 0)))),
  (.sel (.t 0) false [(.op (.v (.mv (.s 2)))), (.op (.v (.mv (.s 0)))), (.op (.v (.nc (.t 0)))), (.op (.v (.fa 0 (.t 0)))), (.op (.ld none (.t 0))), (.op (.v (.len (.t 0)))), (.op (.v (.mv (.s 3)))), (.op (.v (.bin .sub (.t 1) (.t 0)))), (.op (.v (.cvi .u64 (.t 0)))), (.op (.v (.bin .gtr (.t 8) (.t 0))))] (.s 6) (.c (.bool true)) (.t 0))]
@[go_sem] def c86r7 : List GOp := [(.op none .t (.v (.mv (.s 0)))),
  (.op none .t (.v (.nc (.t 0)))),
  (.op none .t (.v (.fa 3 (.t 0)))),
  (.op none .no (.st 1 (.t 0) (.c (.int .i64 2))))]
@[go_sem] def c86r8 : List GOp := [(.op none (.s 1) (.v (.mv (.c (.slice none 0 0)))))]
def c86s9 : SCode := (.seq (.ops c86r8) .ret)
@[go_sem] theorem c86s9eq : vc P E c86s9 σ H Q = vc P E (.seq (.ops c86r8) .ret) σ H Q := rfl
def c86s10 : SCode := (.seq (.ops c86r7) c86s9)
@[go_sem] theorem c86s10eq : vc P E c86s10 σ H Q = vc P E (.seq (.ops c86r7) c86s9) σ H Q := rfl
def c86s11 : SCode := (.cond (.s 6) c86s10 .skip)
@[go_sem] theorem c86s11eq : vc P E c86s11 σ H Q = vc P E (.cond (.s 6) c86s10 .skip) σ H Q := rfl
@[go_sem] def c86r12 : List GOp := [(.op none .t (.v (.mv (.s 0)))),
  (.op none .t (.v (.mv (.s 3)))),
  (.op none .t (.v (.mv (.s 2)))),
  (.op none .t (.v (.cvi .i64 (.t 0)))),
  (.op none .t (.v (.bin .add (.t 2) (.t 0)))),
  (.op none .t (.v (.nc (.t 4)))),
  (.op none .t (.v (.fa 1 (.t 0)))),
  (.op none .no (.st 1 (.t 0) (.t 2)))]
@[go_sem] def c86d13 : DT := (.rd none .t (.v (.mv (.s 0))) [11] (.rd none .t (.v (.nc (.t 0))) [11] (.rd none .t (.v (.fa 0 (.t 0))) [11] (.rd none .t (.ld none (.t 0)) [11] (.rd none .t (.v (.mv (.s 3))) [11] (.rd none .t (.v (.mv (.s 0))) [11] (.rd none .t (.v (.nc (.t 0))) [11] (.rd none .t (.v (.fa 1 (.t 0))) [11] (.rd none .t (.ld none (.t 0)) [11] (.rd none .t (.v (.sl 1 (.t 5) (some (.t 4)) (some (.t 0)))) [11] (.ef 0 none .t (.bs 5 0 [] []) (.ef 11 none .t (.ap 36 36 (.t 0) (.t 1)) (.rd none (.s 1) (.v (.mv (.t 0))) [] .done)))))))))))))
def c86s14 : SCode := (.seq (.de c86d13) .ret)
@[go_sem] theorem c86s14eq : vc P E c86s14 σ H Q = vc P E (.seq (.de c86d13) .ret) σ H Q := rfl
def c86s15 : SCode := (.seq (.ops c86r12) c86s14)
@[go_sem] theorem c86s15eq : vc P E c86s15 σ H Q = vc P E (.seq (.ops c86r12) c86s14) σ H Q := rfl
def c86s16 : SCode := (.seq (.seq (.ops c86r6) c86s11) c86s15)
@[go_sem] theorem c86s16eq : vc P E c86s16 σ H Q = vc P E (.seq (.seq (.ops c86r6) c86s11) c86s15) σ H Q := rfl
def c86s17 : SCode := (.seq (.ops c86r5) c86s16)
@[go_sem] theorem c86s17eq : vc P E c86s17 σ H Q = vc P E (.seq (.ops c86r5) c86s16) σ H Q := rfl
def c86s18 : SCode := (.seq (.seq (.ops c86r1) c86s4) c86s17)
@[go_sem] theorem c86s18eq : vc P E c86s18 σ H Q = vc P E (.seq (.seq (.ops c86r1) c86s4) c86s17) σ H Q := rfl
def c86 : Gx.Fn := ⟨51, c86k, (.seq (.ops c86r0) c86s18), [(.tmp (.s 1))]⟩
theorem c86ok : stripFn Try.prog c86k Try.f86 = some c86 := by kernel_rfl

/- plexusref01.raw -/
@[go_sem] def c87k : List Nat := [0, 1, 4, 5, 6, 7, 8, 18, 32, 44, 50]
@[go_sem] def c87r0 : List GOp := [(.op none (.s 2) (.v (.mv (.c (.int .u64 0))))),
  (.op none (.s 3) (.v (.mv (.c (.int .i64 0))))),
  (.op none (.s 4) (.v (.mv (.c (.bool false)))))]
@[go_sem] def c87r1 : List GOp := [(.op none (.s 5) (.v (.mv (.c (.int .i64 0)))))]
@[go_sem] def c87r2 : List GOp := [(.op none .t (.v (.mv (.s 5)))),
  (.op none .t (.v (.bin .lss (.t 0) (.c (.int .i64 10))))),
  (.op none .t (.v (.mv (.t 0)))),
  (.sel (.t 0) true [(.op (.v (.mv (.s 1)))), (.op (.v (.mv (.s 5)))), (.op (.v (.bin .add (.t 1) (.t 0)))), (.op (.v (.mv (.s 0)))), (.op (.v (.len (.t 0)))), (.op (.v (.bin .lss (.t 2) (.t 0))))] (.s 7) (.t 0) (.c (.bool false)))]
def c87s3 : SCode := (.cond (.s 7) .skip (.exit 0))
@[go_sem] theorem c87s3eq : vc P E c87s3 σ H Q = vc P E (.cond (.s 7) .skip (.exit 0)) σ H Q := rfl
@[go_sem] def c87r4 : List GOp := [(.op none .t (.v (.mv (.s 0)))),
  (.op none .t (.v (.mv (.s 1)))),
  (.op none .t (.v (.mv (.s 5)))),
  (.op none .t (.v (.bin .add (.t 1) (.t 0)))),
  (.op none .t (.v (.ix 1 (.t 3) (.t 0)))),
  (.op none .t (.ld none (.t 0))),
  (.op none (.s 6) (.v (.mv (.t 0))))]
@[go_sem] def c87r5 : List GOp := [(.op none .t (.v (.mv (.s 5)))),
  (.op none .t (.v (.bin .eql (.t 0) (.c (.int .i64 9))))),
  (.op none .t (.v (.mv (.t 0)))),
  (.sel (.t 0) true [(.op (.v (.mv (.s 6)))), (.op (.v (.bin .gtr (.t 0) (.c (.int .u8 1)))))] (.s 8) (.t 0) (.c (.bool false)))]
@[go_sem] def c87r6 : List GOp := [(.op none .t (.v (.mv (.s 1)))),
  (.op none (.s 2) (.v (.mv (.c (.int .u64 0))))),
  (.op none (.s 3) (.v (.mv (.t 0)))),
  (.op none (.s 4) (.v (.mv (.c (.bool false)))))]
def c87s7 : SCode := (.seq (.ops c87r6) .ret)
@[go_sem] theorem c87s7eq : vc P E c87s7 σ H Q = vc P E (.seq (.ops c87r6) .ret) σ H Q := rfl
def c87s8 : SCode := (.cond (.s 8) c87s7 .skip)
@[go_sem] theorem c87s8eq : vc P E c87s8 σ H Q = vc P E (.cond (.s 8) c87s7 .skip) σ H Q := rfl
@[go_sem] def c87r9 : List GOp := [(.op none .t (.v (.mv (.s 2)))),
  (.op none .t (.v (.mv (.s 6)))),
  (.op none .t (.v (.bin .rem (.t 0) (.c (.int .u8 128))))),
  (.op none .t (.v (.cvi .u64 (.t 0)))),
  (.op none .t (.v (.mv (.s 5)))),
  (.op none .t (.v (.cvi .u64 (.t 0)))),
  (.op none .t (.v (.bin .mul (.c (.int .u64 7)) (.t 0)))),
  (.op none .t (.v (.bin .shl (.t 3) (.t 0)))),
  (.op none .t (.v (.bin .add (.t 7) (.t 0)))),
  (.op none (.s 2) (.v (.mv (.t 0))))]
@[go_sem] def c87r10 : List GOp := [(.op none .t (.v (.mv (.s 6)))),
  (.op none (.s 9) (.v (.bin .lss (.t 0) (.c (.int .u8 128)))))]
@[go_sem] def c87r11 : List GOp := [(.op none .t (.v (.mv (.s 6)))),
  (.op none .t (.v (.bin .eql (.t 0) (.c (.int .u8 0))))),
  (.op none .t (.v (.mv (.t 0)))),
  (.sel (.t 0) true [(.op (.v (.mv (.s 5)))), (.op (.v (.bin .gtr (.t 0) (.c (.int .i64 0)))))] (.s 10) (.t 0) (.c (.bool false)))]
@[go_sem] def c87r12 : List GOp := [(.op none .t (.v (.mv (.s 1)))),
  (.op none (.s 2) (.v (.mv (.c (.int .u64 0))))),
  (.op none (.s 3) (.v (.mv (.t 0)))),
  (.op none (.s 4) (.v (.mv (.c (.bool false)))))]
def c87s13 : SCode := (.seq (.ops c87r12) .ret)
@[go_sem] theorem c87s13eq : vc P E c87s13 σ H Q = vc P E (.seq (.ops c87r12) .ret) σ H Q := rfl
def c87s14 : SCode := (.cond (.s 10) c87s13 .skip)
@[go_sem] theorem c87s14eq : vc P E c87s14 σ H Q = vc P E (.cond (.s 10) c87s13 .skip) σ H Q := rfl
@[go_sem] def c87r15 : List GOp := [(.op none .t (.v (.mv (.s 2)))),
  (.op none .t (.v (.mv (.s 1)))),
  (.op none .t (.v (.mv (.s 5)))),
  (.op none .t (.v (.bin .add (.t 1) (.t 0)))),
  (.op none .t (.v (.bin .add (.t 0) (.c (.int .i64 1))))),
  (.op none (.s 2) (.v (.mv (.t 4)))),
  (.op none (.s 3) (.v (.mv (.t 0)))),
  (.op none (.s 4) (.v (.mv (.c (.bool true)))))]
def c87s16 : SCode := (.seq (.ops c87r15) .ret)
@[go_sem] theorem c87s16eq : vc P E c87s16 σ H Q = vc P E (.seq (.ops c87r15) .ret) σ H Q := rfl
def c87s17 : SCode := (.seq (.seq (.ops c87r11) c87s14) c87s16)
@[go_sem] theorem c87s17eq : vc P E c87s17 σ H Q = vc P E (.seq (.seq (.ops c87r11) c87s14) c87s16) σ H Q := rfl
def c87s18 : SCode := (.cond (.s 9) c87s17 .skip)
@[go_sem] theorem c87s18eq : vc P E c87s18 σ H Q = vc P E (.cond (.s 9) c87s17 .skip) σ H Q := rfl
def c87s19 : SCode := (.seq (.ops c87r10) c87s18)
@[go_sem] theorem c87s19eq : vc P E c87s19 σ H Q = vc P E (.seq (.ops c87r10) c87s18) σ H Q := rfl
def c87s20 : SCode := (.seq (.ops c87r9) c87s19)
@[go_sem] theorem c87s20eq : vc P E c87s20 σ H Q = vc P E (.seq (.ops c87r9) c87s19) σ H Q := rfl
def c87s21 : SCode := (.seq (.seq (.ops c87r5) c87s8) c87s20)
@[go_sem] theorem c87s21eq : vc P E c87s21 σ H Q = vc P E (.seq (.seq (.ops c87r5) c87s8) c87s20) σ H Q := rfl
@[go_sem] def c87r22 : List GOp := [(.op none .t (.v (.mv (.s 5)))),
  (.op none .t (.v (.bin .add (.t 0) (.c (.int .i64 1))))),
  (.op none (.s 5) (.v (.mv (.t 0))))]
def c87s23 : SCode := (.ops c87r22)
@[go_sem] theorem c87s23eq : vc P E c87s23 σ H Q = vc P E (.ops c87r22) σ H Q := rfl
def c87s24 : SCode := (.seq (.block 1 (.seq (.ops c87r4) c87s21)) c87s23)
@[go_sem] theorem c87s24eq : vc P E c87s24 σ H Q = vc P E (.seq (.block 1 (.seq (.ops c87r4) c87s21)) c87s23) σ H Q := rfl
def c87s25 : SCode := (.seq (.seq (.ops c87r2) c87s3) c87s24)
@[go_sem] theorem c87s25eq : vc P E c87s25 σ H Q = vc P E (.seq (.seq (.ops c87r2) c87s3) c87s24) σ H Q := rfl
def c87s26 : SCode := (.block 0 (.loop c87k c87s25))
@[go_sem] theorem c87s26eq : vc P E c87s26 σ H Q = vc P E (.block 0 (.loop c87k c87s25)) σ H Q := rfl
@[go_sem] def c87r27 : List GOp := [(.op none .t (.v (.mv (.s 1)))),
  (.op none (.s 2) (.v (.mv (.c (.int .u64 0))))),
  (.op none (.s 3) (.v (.mv (.t 0)))),
  (.op none (.s 4) (.v (.mv (.c (.bool false)))))]
def c87s28 : SCode := (.seq (.ops c87r27) .ret)
@[go_sem] theorem c87s28eq : vc P E c87s28 σ H Q = vc P E (.seq (.ops c87r27) .ret) σ H Q := rfl
def c87s29 : SCode := (.seq (.seq (.ops c87r1) c87s26) c87s28)
@[go_sem] theorem c87s29eq : vc P E c87s29 σ H Q = vc P E (.seq (.seq (.ops c87r1) c87s26) c87s28) σ H Q := rfl
def c87 : Gx.Fn := ⟨58, c87k, (.seq (.ops c87r0) c87s29), [(.tmp (.s 2)), (.tmp (.s 3)), (.tmp (.s 4))]⟩
theorem c87ok : stripFn Try.prog c87k Try.f87 = some c87 := by kernel_rfl

/- (*plexusref01.In).Bytes -/
@[go_sem] def c88k : List Nat := [0, 2, 3, 4, 5, 9, 43]
@[go_sem] def c88r0 : List GOp := [(.op none (.s 1) (.v (.mv (.c (.slice none 0 0)))))]
@[go_sem] def c88r1 : List GOp := [(.op none .t (.v (.mv (.s 0)))),
  (.op none .t (.v (.nc (.t 0)))),
  (.op none .t (.v (.fa 3 (.t 0)))),
  (.op none (.s 5) (.ld none (.t 0)))]
@[go_sem] def c88r2 : List GOp := [(.op none (.s 1) (.v (.mv (.c (.slice none 0 0)))))]
def c88s3 : SCode := (.seq (.ops c88r2) .ret)
@[go_sem] theorem c88s3eq : vc P E c88s3 σ H Q = vc P E (.seq (.ops c88r2) .ret) σ H Q := rfl
def c88s4 : SCode := (.cond (.s 5) c88s3 .skip)
@[go_sem] theorem c88s4eq : vc P E c88s4 σ H Q = vc P E (.cond (.s 5) c88s3 .skip) σ H Q := rfl
@[go_sem] def c88r5 : List GOp := [(.op none .t (.v (.mv (.s 0)))),
  (.op none .t (.v (.mv (.s 0)))),
  (.op none .t (.v (.nc (.t 0)))),
  (.op none .t (.v (.fa 1 (.t 0)))),
  (.op none .t (.ld none (.t 0))),
  (.op none .t (.v (.nc (.t 4)))),
  (.op none .t (.v (.fa 2 (.t 0)))),
  (.op none .no (.st 1 (.t 0) (.t 2)))]
@[go_sem] def c88d6 : DT := (.rd none .t (.v (.mv (.s 0))) [8] (.rd none .t (.v (.nc (.t 0))) [8] (.rd none .t (.v (.fa 0 (.t 0))) [8] (.rd none .t (.ld none (.t 0)) [8] (.rd none .t (.v (.mv (.s 0))) [8] (.rd none .t (.v (.nc (.t 0))) [8] (.rd none .t (.v (.fa 1 (.t 0))) [8] (.rd none .t (.ld none (.t 0)) [8] (.ef 8 none .t (.call 87 [(.t 4), (.t 0)]) (.rd none .t (.v (.mv (.t 0))) [] (.rd none .t (.v (.ext (.t 0) 0)) [] (.rd none .t (.v (.ext (.t 1) 1)) [] (.rd none .t (.v (.ext (.t 2) 2)) [] (.rd none (.s 2) (.v (.mv (.t 2))) [] (.rd none (.s 3) (.v (.mv (.t 1))) [] (.rd none (.s 4) (.v (.mv (.t 0))) [] .done))))))))))))))))
@[go_sem] def c88r7 : List GOp := [(.op none .t (.v (.mv (.s 4)))),
  (.op none .t (.v (.un .not (.t 0)))),
  (.op none .t (.v (.mv (.t 0)))),
  (.sel (.t 0) false [(.op (.v (.mv (.s 2)))), (.op (.v (.mv (.s 0)))), (.op (.v (.nc (.t 0)))), (.op (.v (.fa 0 (.t 0)))), (.op (.ld none (.t 0))), (.op (.v (.len (.t 0)))), (.op (.v (.mv (.s 3)))), (.op (.v (.bin .sub (.t 1) (.t 0)))), (.op (.v (.cvi .u64 (.t 0)))), (.op (.v (.bin .gtr (.t 8) (.t 0))))] (.s 6) (.c (.bool true)) (.t 0))]
@[go_sem] def c88r8 : List GOp := [(.op none .t (.v (.mv (.s 0)))),
  (.op none .t (.v (.nc (.t 0)))),
  (.op none .t (.v (.fa 3 (.t 0)))),
  (.op none .no (.st 1 (.t 0) (.c (.bool true))))]
@[go_sem] def c88r9 : List GOp := [(.op none (.s 1) (.v (.mv (.c (.slice none 0 0)))))]
def c88s10 : SCode := (.seq (.ops c88r9) .ret)
@[go_sem] theorem c88s10eq : vc P E c88s10 σ H Q = vc P E (.seq (.ops c88r9) .ret) σ H Q := rfl
def c88s11 : SCode := (.seq (.ops c88r8) c88s10)
@[go_sem] theorem c88s11eq : vc P E c88s11 σ H Q = vc P E (.seq (.ops c88r8) c88s10) σ H Q := rfl
def c88s12 : SCode := (.cond (.s 6) c88s11 .skip)
@[go_sem] theorem c88s12eq : vc P E c88s12 σ H Q = vc P E (.cond (.s 6) c88s11 .skip) σ H Q := rfl
@[go_sem] def c88r13 : List GOp := [(.op none .t (.v (.mv (.s 0)))),
  (.op none .t (.v (.mv (.s 3)))),
  (.op none .t (.v (.mv (.s 2)))),
  (.op none .t (.v (.cvi .i64 (.t 0)))),
  (.op none .t (.v (.bin .add (.t 2) (.t 0)))),
  (.op none .t (.v (.nc (.t 4)))),
  (.op none .t (.v (.fa 1 (.t 0)))),
  (.op none .no (.st 1 (.t 0) (.t 2)))]
@[go_sem] def c88d14 : DT := (.rd none .t (.v (.mv (.s 0))) [11] (.rd none .t (.v (.nc (.t 0))) [11] (.rd none .t (.v (.fa 0 (.t 0))) [11] (.rd none .t (.ld none (.t 0)) [11] (.rd none .t (.v (.mv (.s 3))) [11] (.rd none .t (.v (.mv (.s 0))) [11] (.rd none .t (.v (.nc (.t 0))) [11] (.rd none .t (.v (.fa 1 (.t 0))) [11] (.rd none .t (.ld none (.t 0)) [11] (.rd none .t (.v (.sl 1 (.t 5) (some (.t 4)) (some (.t 0)))) [11] (.ef 0 none .t (.bs 5 0 [] []) (.ef 11 none .t (.ap 36 36 (.t 0) (.t 1)) (.rd none (.s 1) (.v (.mv (.t 0))) [] .done)))))))))))))
def c88s15 : SCode := (.seq (.de c88d14) .ret)
@[go_sem] theorem c88s15eq : vc P E c88s15 σ H Q = vc P E (.seq (.de c88d14) .ret) σ H Q := rfl
def c88s16 : SCode := (.seq (.ops c88r13) c88s15)
@[go_sem] theorem c88s16eq : vc P E c88s16 σ H Q = vc P E (.seq (.ops c88r13) c88s15) σ H Q := rfl
def c88s17 : SCode := (.seq (.seq (.ops c88r7) c88s12) c88s16)
@[go_sem] theorem c88s17eq : vc P E c88s17 σ H Q = vc P E (.seq (.seq (.ops c88r7) c88s12) c88s16) σ H Q := rfl
def c88s18 : SCode := (.seq (.de c88d6) c88s17)
@[go_sem] theorem c88s18eq : vc P E c88s18 σ H Q = vc P E (.seq (.de c88d6) c88s17) σ H Q := rfl
def c88s19 : SCode := (.seq (.ops c88r5) c88s18)
@[go_sem] theorem c88s19eq : vc P E c88s19 σ H Q = vc P E (.seq (.ops c88r5) c88s18) σ H Q := rfl
def c88s20 : SCode := (.seq (.seq (.ops c88r1) c88s4) c88s19)
@[go_sem] theorem c88s20eq : vc P E c88s20 σ H Q = vc P E (.seq (.seq (.ops c88r1) c88s4) c88s19) σ H Q := rfl
def c88 : Gx.Fn := ⟨66, c88k, (.seq (.ops c88r0) c88s20), [(.tmp (.s 1))]⟩
theorem c88ok : stripFn Try.prog c88k Try.f88 = some c88 := by kernel_rfl

/- names.wordByte -/
@[go_sem] def c89k : List Nat := [0, 2]
@[go_sem] def c89r0 : List GOp := [(.op none (.s 1) (.v (.mv (.c (.bool false)))))]
@[go_sem] def c89r1 : List GOp := [(.op none .t (.v (.mv (.s 0)))),
  (.op none .t (.v (.bin .leq (.c (.int .u8 97)) (.t 0)))),
  (.op none .t (.v (.mv (.t 0)))),
  (.sel (.t 0) true [(.op (.v (.mv (.s 0)))), (.op (.v (.bin .leq (.t 0) (.c (.int .u8 122)))))] .t (.t 0) (.c (.bool false))),
  (.op none .t (.v (.mv (.t 0)))),
  (.sel (.t 0) false [(.op (.v (.mv (.s 0)))), (.op (.v (.bin .leq (.c (.int .u8 48)) (.t 0)))), (.op (.v (.mv (.t 0)))), (.nst (.t 0) true [(.op (.v (.mv (.s 0)))), (.op (.v (.bin .leq (.t 0) (.c (.int .u8 57)))))] (.t 0) (.c (.bool false)))] .t (.c (.bool true)) (.t 0)),
  (.op none .t (.v (.mv (.t 0)))),
  (.sel (.t 0) false [(.op (.v (.mv (.s 0)))), (.op (.v (.bin .eql (.t 0) (.c (.int .u8 45)))))] .t (.c (.bool true)) (.t 0)),
  (.op none (.s 1) (.v (.mv (.t 0))))]
def c89s2 : SCode := (.seq (.ops c89r1) .ret)
@[go_sem] theorem c89s2eq : vc P E c89s2 σ H Q = vc P E (.seq (.ops c89r1) .ret) σ H Q := rfl
def c89 : Gx.Fn := ⟨21, c89k, (.seq (.ops c89r0) c89s2), [(.tmp (.s 1))]⟩
theorem c89ok : stripFn Try.prog c89k Try.f89 = some c89 := by kernel_rfl

/- plexusref09.Name -/
@[go_sem] def c90k : List Nat := [0, 2, 3, 21, 25, 55]
@[go_sem] def c90r0 : List GOp := [(.op none (.s 1) (.v (.mv (.c (.bool false)))))]
@[go_sem] def c90r1 : List GOp := [(.op none .t (.v (.mv (.s 0)))),
  (.op none .t (.v (.slen (.t 0)))),
  (.op none .t (.v (.bin .lss (.t 0) (.c (.int .i64 1))))),
  (.op none .t (.v (.mv (.t 0)))),
  (.sel (.t 0) false [(.op (.v (.mv (.s 0)))), (.op (.v (.slen (.t 0)))), (.op (.v (.bin .gtr (.t 0) (.c (.int .i64 16)))))] .t (.c (.bool true)) (.t 0)),
  (.op none .t (.v (.mv (.t 0)))),
  (.op (some ((.t 0), (false, true))) .t (.v (.mv (.s 0)))),
  (.op (some ((.t 1), (false, false))) .t (.v (.six (.t 0) (.c (.int .i64 0))))),
  (.op (some ((.t 2), (false, false))) .t (.v (.bin .lss (.t 0) (.c (.int .u8 97))))),
  (.op none .t (.v (.pick (.t 3) (.c (.bool true)) (.t 0)))),
  (.op none .t (.v (.mv (.t 0)))),
  (.op (some ((.t 0), (false, true))) .t (.v (.mv (.s 0)))),
  (.op (some ((.t 1), (false, false))) .t (.v (.six (.t 0) (.c (.int .i64 0))))),
  (.op (some ((.t 2), (false, false))) .t (.v (.bin .gtr (.t 0) (.c (.int .u8 122))))),
  (.op none (.s 3) (.v (.pick (.t 3) (.c (.bool true)) (.t 0))))]
@[go_sem] def c90r2 : List GOp := [(.op none (.s 1) (.v (.mv (.c (.bool false)))))]
def c90s3 : SCode := (.seq (.ops c90r2) .ret)
@[go_sem] theorem c90s3eq : vc P E c90s3 σ H Q = vc P E (.seq (.ops c90r2) .ret) σ H Q := rfl
def c90s4 : SCode := (.cond (.s 3) c90s3 .skip)
@[go_sem] theorem c90s4eq : vc P E c90s4 σ H Q = vc P E (.cond (.s 3) c90s3 .skip) σ H Q := rfl
@[go_sem] def c90r5 : List GOp := [(.op none (.s 2) (.v (.mv (.c (.int .i64 0)))))]
@[go_sem] def c90r6 : List GOp := [(.op none .t (.v (.mv (.s 2)))),
  (.op none .t (.v (.mv (.s 0)))),
  (.op none .t (.v (.slen (.t 0)))),
  (.op none (.s 4) (.v (.bin .lss (.t 2) (.t 0))))]
def c90s7 : SCode := (.cond (.s 4) .skip (.exit 0))
@[go_sem] theorem c90s7eq : vc P E c90s7 σ H Q = vc P E (.cond (.s 4) .skip (.exit 0)) σ H Q := rfl
@[go_sem] def c90r8 : List GOp := [(.op none .t (.v (.mv (.s 0)))),
  (.op none .t (.v (.mv (.s 2)))),
  (.op none .t (.v (.six (.t 1) (.t 0)))),
  (.op none .t (.v (.bin .lss (.t 0) (.c (.int .u8 97))))),
  (.op none .t (.v (.mv (.t 0)))),
  (.op (some ((.t 0), (false, true))) .t (.v (.mv (.s 0)))),
  (.op (some ((.t 1), (false, false))) .t (.v (.mv (.s 2)))),
  (.op (some ((.t 2), (false, false))) .t (.v (.six (.t 1) (.t 0)))),
  (.op (some ((.t 3), (false, false))) .t (.v (.bin .gtr (.t 0) (.c (.int .u8 122))))),
  (.op none .t (.v (.pick (.t 4) (.c (.bool true)) (.t 0)))),
  (.op none .t (.v (.mv (.t 0)))),
  (.op (some ((.t 0), (true, true))) .t (.v (.mv (.s 0)))),
  (.op (some ((.t 1), (true, false))) .t (.v (.mv (.s 2)))),
  (.op (some ((.t 2), (true, false))) .t (.v (.six (.t 1) (.t 0)))),
  (.op (some ((.t 3), (true, false))) .t (.v (.bin .lss (.t 0) (.c (.int .u8 48))))),
  (.op (some ((.t 4), (true, false))) .t (.v (.mv (.t 0)))),
  (.op (some ((.t 0), (false, true))) .t (.v (.mv (.s 0)))),
  (.op (some ((.t 1), (false, false))) .t (.v (.mv (.s 2)))),
  (.op (some ((.t 2), (false, false))) .t (.v (.six (.t 1) (.t 0)))),
  (.op (some ((.t 3), (false, false))) .t (.v (.bin .gtr (.t 0) (.c (.int .u8 57))))),
  (.op (some ((.t 9), (true, true))) .t (.v (.pick (.t 4) (.c (.bool true)) (.t 0)))),
  (.op none .t (.v (.pick (.t 10) (.t 0) (.c (.bool false))))),
  (.op none .t (.v (.mv (.t 0)))),
  (.op (some ((.t 0), (true, true))) .t (.v (.mv (.s 0)))),
  (.op (some ((.t 1), (true, false))) .t (.v (.mv (.s 2)))),
  (.op (some ((.t 2), (true, false))) .t (.v (.six (.t 1) (.t 0)))),
  (.op (some ((.t 3), (true, false))) .t (.v (.bin .neq (.t 0) (.c (.int .u8 45))))),
  (.op none (.s 5) (.v (.pick (.t 4) (.t 0) (.c (.bool false)))))]
@[go_sem] def c90r9 : List GOp := [(.op none (.s 1) (.v (.mv (.c (.bool false)))))]
def c90s10 : SCode := (.seq (.ops c90r9) .ret)
@[go_sem] theorem c90s10eq : vc P E c90s10 σ H Q = vc P E (.seq (.ops c90r9) .ret) σ H Q := rfl
def c90s11 : SCode := (.cond (.s 5) c90s10 .skip)
@[go_sem] theorem c90s11eq : vc P E c90s11 σ H Q = vc P E (.cond (.s 5) c90s10 .skip) σ H Q := rfl
@[go_sem] def c90r12 : List GOp := [(.op none .t (.v (.mv (.s 2)))),
  (.op none .t (.v (.bin .add (.t 0) (.c (.int .i64 1))))),
  (.op none (.s 2) (.v (.mv (.t 0))))]
def c90s13 : SCode := (.ops c90r12)
@[go_sem] theorem c90s13eq : vc P E c90s13 σ H Q = vc P E (.ops c90r12) σ H Q := rfl
def c90s14 : SCode := (.seq (.block 1 (.seq (.ops c90r8) c90s11)) c90s13)
@[go_sem] theorem c90s14eq : vc P E c90s14 σ H Q = vc P E (.seq (.block 1 (.seq (.ops c90r8) c90s11)) c90s13) σ H Q := rfl
def c90s15 : SCode := (.seq (.seq (.ops c90r6) c90s7) c90s14)
@[go_sem] theorem c90s15eq : vc P E c90s15 σ H Q = vc P E (.seq (.seq (.ops c90r6) c90s7) c90s14) σ H Q := rfl
def c90s16 : SCode := (.block 0 (.loop c90k c90s15))
@[go_sem] theorem c90s16eq : vc P E c90s16 σ H Q = vc P E (.block 0 (.loop c90k c90s15)) σ H Q := rfl
@[go_sem] def c90r17 : List GOp := [(.op none (.s 1) (.v (.mv (.c (.bool true)))))]
def c90s18 : SCode := (.seq (.ops c90r17) .ret)
@[go_sem] theorem c90s18eq : vc P E c90s18 σ H Q = vc P E (.seq (.ops c90r17) .ret) σ H Q := rfl
def c90s19 : SCode := (.seq (.seq (.ops c90r5) c90s16) c90s18)
@[go_sem] theorem c90s19eq : vc P E c90s19 σ H Q = vc P E (.seq (.seq (.ops c90r5) c90s16) c90s18) σ H Q := rfl
def c90s20 : SCode := (.seq (.seq (.ops c90r1) c90s4) c90s19)
@[go_sem] theorem c90s20eq : vc P E c90s20 σ H Q = vc P E (.seq (.seq (.ops c90r1) c90s4) c90s19) σ H Q := rfl
def c90 : Gx.Fn := ⟨56, c90k, (.seq (.ops c90r0) c90s20), [(.tmp (.s 1))]⟩
theorem c90ok : stripFn Try.prog c90k Try.f90 = some c90 := by kernel_rfl

/- plexusref09.In -/
@[go_sem] def c91k : List Nat := [0, 1, 4, 5, 9, 17]
@[go_sem] def c91r0 : List GOp := [(.op none (.s 2) (.v (.mv (.c (.bool false)))))]
@[go_sem] def c91r1 : List GOp := [(.op none (.s 3) (.v (.mv (.c (.int .i64 0)))))]
@[go_sem] def c91r2 : List GOp := [(.op none .t (.v (.mv (.s 3)))),
  (.op none .t (.v (.mv (.s 0)))),
  (.op none .t (.v (.len (.t 0)))),
  (.op none (.s 4) (.v (.bin .lss (.t 2) (.t 0))))]
def c91s3 : SCode := (.cond (.s 4) .skip (.exit 0))
@[go_sem] theorem c91s3eq : vc P E c91s3 σ H Q = vc P E (.cond (.s 4) .skip (.exit 0)) σ H Q := rfl
@[go_sem] def c91r4 : List GOp := [(.op none .t (.v (.mv (.s 0)))),
  (.op none .t (.v (.mv (.s 3)))),
  (.op none .t (.v (.ix 1 (.t 1) (.t 0)))),
  (.op none .t (.ld none (.t 0))),
  (.op none .t (.v (.mv (.s 1)))),
  (.op none (.s 5) (.v (.bin .eql (.t 1) (.t 0))))]
@[go_sem] def c91r5 : List GOp := [(.op none (.s 2) (.v (.mv (.c (.bool true)))))]
def c91s6 : SCode := (.seq (.ops c91r5) .ret)
@[go_sem] theorem c91s6eq : vc P E c91s6 σ H Q = vc P E (.seq (.ops c91r5) .ret) σ H Q := rfl
def c91s7 : SCode := (.cond (.s 5) c91s6 .skip)
@[go_sem] theorem c91s7eq : vc P E c91s7 σ H Q = vc P E (.cond (.s 5) c91s6 .skip) σ H Q := rfl
@[go_sem] def c91r8 : List GOp := [(.op none .t (.v (.mv (.s 3)))),
  (.op none .t (.v (.bin .add (.t 0) (.c (.int .i64 1))))),
  (.op none (.s 3) (.v (.mv (.t 0))))]
def c91s9 : SCode := (.ops c91r8)
@[go_sem] theorem c91s9eq : vc P E c91s9 σ H Q = vc P E (.ops c91r8) σ H Q := rfl
def c91s10 : SCode := (.seq (.block 1 (.seq (.ops c91r4) c91s7)) c91s9)
@[go_sem] theorem c91s10eq : vc P E c91s10 σ H Q = vc P E (.seq (.block 1 (.seq (.ops c91r4) c91s7)) c91s9) σ H Q := rfl
def c91s11 : SCode := (.seq (.seq (.ops c91r2) c91s3) c91s10)
@[go_sem] theorem c91s11eq : vc P E c91s11 σ H Q = vc P E (.seq (.seq (.ops c91r2) c91s3) c91s10) σ H Q := rfl
def c91s12 : SCode := (.block 0 (.loop c91k c91s11))
@[go_sem] theorem c91s12eq : vc P E c91s12 σ H Q = vc P E (.block 0 (.loop c91k c91s11)) σ H Q := rfl
@[go_sem] def c91r13 : List GOp := [(.op none (.s 2) (.v (.mv (.c (.bool false)))))]
def c91s14 : SCode := (.seq (.ops c91r13) .ret)
@[go_sem] theorem c91s14eq : vc P E c91s14 σ H Q = vc P E (.seq (.ops c91r13) .ret) σ H Q := rfl
def c91s15 : SCode := (.seq (.seq (.ops c91r1) c91s12) c91s14)
@[go_sem] theorem c91s15eq : vc P E c91s15 σ H Q = vc P E (.seq (.seq (.ops c91r1) c91s12) c91s14) σ H Q := rfl
def c91 : Gx.Fn := ⟨18, c91k, (.seq (.ops c91r0) c91s15), [(.tmp (.s 2))]⟩
theorem c91ok : stripFn Try.prog c91k Try.f91 = some c91 := by kernel_rfl

/- plexusref09.Rising -/
@[go_sem] def c92k : List Nat := [0, 2, 3, 7, 31]
@[go_sem] def c92r0 : List GOp := [(.op none (.s 1) (.v (.mv (.c (.bool false)))))]
@[go_sem] def c92r1 : List GOp := [(.op none (.s 2) (.v (.mv (.c (.int .i64 0)))))]
@[go_sem] def c92r2 : List GOp := [(.op none .t (.v (.mv (.s 2)))),
  (.op none .t (.v (.mv (.s 0)))),
  (.op none .t (.v (.len (.t 0)))),
  (.op none (.s 3) (.v (.bin .lss (.t 2) (.t 0))))]
def c92s3 : SCode := (.cond (.s 3) .skip (.exit 0))
@[go_sem] theorem c92s3eq : vc P E c92s3 σ H Q = vc P E (.cond (.s 3) .skip (.exit 0)) σ H Q := rfl
@[go_sem] def c92d4 : DT := (.rd none .t (.v (.mv (.s 0))) [4] (.rd none .t (.v (.mv (.s 2))) [4] (.rd none .t (.v (.ix 1 (.t 1) (.t 0))) [4] (.rd none .t (.ld none (.t 0)) [4] (.ef 4 none .t (.call 90 [(.t 0)]) (.rd none .t (.v (.un .not (.t 0))) [] (.rd none .t (.v (.mv (.t 0))) [] (.rd (some ((.t 0), false)) .t (.v (.mv (.s 2))) [] (.rd (some ((.t 1), false)) .t (.v (.bin .gtr (.t 0) (.c (.int .i64 0)))) [] (.rd (some ((.t 2), false)) .t (.v (.mv (.t 0))) [] (.rd (some ((.t 0), true)) .t (.v (.mv (.s 0))) [] (.rd (some ((.t 1), true)) .t (.v (.mv (.s 2))) [] (.rd (some ((.t 2), true)) .t (.v (.bin .sub (.t 0) (.c (.int .i64 1)))) [] (.rd (some ((.t 3), true)) .t (.v (.ix 1 (.t 2) (.t 0))) [] (.rd (some ((.t 4), true)) .t (.ld none (.t 0)) [] (.rd (some ((.t 5), true)) .t (.v (.mv (.s 0))) [] (.rd (some ((.t 6), true)) .t (.v (.mv (.s 2))) [] (.rd (some ((.t 7), true)) .t (.v (.ix 1 (.t 1) (.t 0))) [] (.rd (some ((.t 8), true)) .t (.ld none (.t 0)) [] (.rd (some ((.t 9), true)) .t (.v (.bin .geq (.t 4) (.t 0))) [] (.rd (some ((.t 13), false)) .t (.v (.pick (.t 10) (.t 0) (.c (.bool false)))) [] (.rd none (.s 4) (.v (.pick (.t 14) (.c (.bool true)) (.t 0))) [] .done))))))))))))))))))))))
@[go_sem] def c92r5 : List GOp := [(.op none (.s 1) (.v (.mv (.c (.bool false)))))]
def c92s6 : SCode := (.seq (.ops c92r5) .ret)
@[go_sem] theorem c92s6eq : vc P E c92s6 σ H Q = vc P E (.seq (.ops c92r5) .ret) σ H Q := rfl
def c92s7 : SCode := (.cond (.s 4) c92s6 .skip)
@[go_sem] theorem c92s7eq : vc P E c92s7 σ H Q = vc P E (.cond (.s 4) c92s6 .skip) σ H Q := rfl
@[go_sem] def c92r8 : List GOp := [(.op none .t (.v (.mv (.s 2)))),
  (.op none .t (.v (.bin .add (.t 0) (.c (.int .i64 1))))),
  (.op none (.s 2) (.v (.mv (.t 0))))]
def c92s9 : SCode := (.ops c92r8)
@[go_sem] theorem c92s9eq : vc P E c92s9 σ H Q = vc P E (.ops c92r8) σ H Q := rfl
def c92s10 : SCode := (.seq (.block 1 (.seq (.de c92d4) c92s7)) c92s9)
@[go_sem] theorem c92s10eq : vc P E c92s10 σ H Q = vc P E (.seq (.block 1 (.seq (.de c92d4) c92s7)) c92s9) σ H Q := rfl
def c92s11 : SCode := (.seq (.seq (.ops c92r2) c92s3) c92s10)
@[go_sem] theorem c92s11eq : vc P E c92s11 σ H Q = vc P E (.seq (.seq (.ops c92r2) c92s3) c92s10) σ H Q := rfl
def c92s12 : SCode := (.block 0 (.loop c92k c92s11))
@[go_sem] theorem c92s12eq : vc P E c92s12 σ H Q = vc P E (.block 0 (.loop c92k c92s11)) σ H Q := rfl
@[go_sem] def c92r13 : List GOp := [(.op none (.s 1) (.v (.mv (.c (.bool true)))))]
def c92s14 : SCode := (.seq (.ops c92r13) .ret)
@[go_sem] theorem c92s14eq : vc P E c92s14 σ H Q = vc P E (.seq (.ops c92r13) .ret) σ H Q := rfl
def c92s15 : SCode := (.seq (.seq (.ops c92r1) c92s12) c92s14)
@[go_sem] theorem c92s15eq : vc P E c92s15 σ H Q = vc P E (.seq (.seq (.ops c92r1) c92s12) c92s14) σ H Q := rfl
def c92 : Gx.Fn := ⟨32, c92k, (.seq (.ops c92r0) c92s15), [(.tmp (.s 1))]⟩
theorem c92ok : stripFn Try.prog c92k Try.f92 = some c92 := by kernel_rfl

end Go.Proofs.Ytcilkhjadljaaaa
end
section
/- The Writer of package wire: contracts. -/
set_option linter.unusedSimpArgs false
set_option linter.unusedVariables false
namespace Go.Proofs.Ytcilkhjadljaaaa
open Gx Go

/-- A number in groups of seven bits; the first argument is fuel. -/
def encF : Nat → Nat → List UInt8
  | 0, _ => []
  | f+1, n => if n < 128 then [UInt8.ofNat n] else UInt8.ofNat (n % 128 + 128) :: encF f (n / 128)
def enc (n : Nat) : List UInt8 := encF 10 n

theorem length_encF : ∀ f n, (encF f n).length ≤ f
  | 0, _ => by simp [encF]
  | f+1, n => by
    simp only [encF]; split
    · simp
    · have := length_encF f (n / 128); simp; omega
theorem length_enc (n : Nat) : (enc n).length ≤ 10 := length_encF 10 n

/-- A Writer at a block, which holds these bytes. -/
def Wr (H : Heap) (b : Nat) (l : List UInt8) (g : Option Nat) : Prop := ∃ a c, Blk H b 56 [.slice a l.length c] ∧ Own H 5 1 (.slice a l.length c) l.length (l.map bv) g
def WrStep (H : Heap) (b : Nat) (g : Option Nat) (H' : Heap) (l' : List UInt8) (g' : Option Nat) : Prop :=
  Wr H' b l' g' ∧ Fr (b :: g.toList) H H' ∧ (∀ k, g' = some k → g = some k ∨ H.size ≤ k)

theorem WrStep.trans {H H1 H2 : Heap} {b : Nat} {g g1 g2 : Option Nat} {l1 l2 : List UInt8} (h1 : WrStep H b g H1 l1 g1) (h2 : WrStep H1 b g1 H2 l2 g2) : WrStep H b g H2 l2 g2 := by
  refine ⟨h2.1, h1.2.1.trans' h2.2.1 ?_, fun k hk => ?_⟩
  · intro k hk
    rcases List.mem_cons.1 hk with rfl | hk
    · exact .inl (by simp)
    · rcases h1.2.2 k (by simpa using hk) with h | h
      · exact .inl (by simp [h])
      · exact .inr h
  · rcases h2.2.2 k hk with h | h
    · exact h1.2.2 k h
    · exact .inr (Nat.le_trans h1.2.1.size h)

theorem Wr.fr {M : List Nat} {H H' : Heap} {b : Nat} {l : List UInt8} {g : Option Nat} (h : Wr H b l g) (hf : Fr M H H') (hb : b ∉ M) (hg : ∀ k, g = some k → k ∉ M) : Wr H' b l g := by
  obtain ⟨a, c, h1, h2⟩ := h
  exact ⟨a, c, h1.fr hf hb, h2.fr hf hg⟩
theorem Wr.lt {H : Heap} {b : Nat} {l : List UInt8} {g : Option Nat} (h : Wr H b l g) : b < H.size := by
  obtain ⟨a, c, h1, h2⟩ := h; exact h1.lt

theorem EB : ElemOk Try.prog 36 5 1 1 (.int .u8 0) := ⟨Try.underlying36, by kernel_rfl, rfl, by decide⟩

theorem wrap_u8_lt (m : Nat) (h : m < 128) : IntKind.u8.wrap ↑m = ((UInt8.ofNat m).toNat : Int) := by
  rw [wrap_u8_id _ (by omega) (by omega), u8_of m (by omega)]
theorem or128 : ∀ x : Fin 256, bits .or .u8 (x.val : Int) 128 = ((x.val % 128 + 128 : Nat) : Int) := by decide +kernel
theorem wrap_u8_or (m : Nat) : bits .or .u8 (IntKind.u8.wrap ↑m) 128 = ((UInt8.ofNat (m % 128 + 128)).toNat : Int) := by
  have e : IntKind.u8.wrap (m : Int) = ((m % 256 : Nat) : Int) := by rw [IntKind.wrap_u8]; omega
  have e3 := or128 ⟨m % 256, Nat.mod_lt _ (by decide)⟩
  simp only at e3
  rw [e, e3, u8_of _ (by omega)]
  omega

/-- Some bytes more: behind an append and the store of the slice. -/
theorem WrStep.app {H H1 H2 H3 : Heap} {b : Nat} {g g' g2 : Option Nat} {l x : List UInt8} {a : Option Addr} {c : Nat} (hfr : Fr (b :: g.toList) H H1) (hg : ∀ k, g' = some k → g = some k ∨ H.size ≤ k)
    (hf2 : Fr g'.toList H1 H2) (hg2 : ∀ k, g2 = some k → g' = some k ∨ H1.size ≤ k) (ho : Own H2 5 1 (.slice a (l.length + x.length) c) (l.length + x.length) (l.map bv ++ x.map bv) g2)
    (hb : Blk H3 b 56 [.slice a (l.length + x.length) c]) (hf3 : Fr [b] H2 H3) (hne : b ∉ g2.toList) : WrStep H b g H3 (l ++ x) g2 := by
  refine ⟨⟨a, c, by simpa using hb, ?_⟩, ?_, ?_⟩
  · have := ho.fr hf3 (fun k hk => by simp; rintro rfl; exact hne (by simp [hk]))
    simpa using this
  · refine (hfr.trans' hf2 ?_).trans' hf3 (by simp)
    intro k hk
    rcases hg k (by simpa using hk) with h | h
    · left; simp [h]
    · exact .inr h
  · intro k hk
    rcases hg2 k hk with h | h
    · exact hg k h
    · exact .inr (Nat.le_trans hfr.size h)

theorem uint_ok (n : Nat) (hn : n < 2^64) {H : Heap} {b : Nat} {l : List UInt8} {g : Option Nat} (h : Wr H b l g) (hl : l.length < 2^40) :
    HCalls Try.prog 58 #[.pointer (some ⟨b, 0, none⟩), .int .u64 n] H fun v H' => v = .tuple #[] ∧ ∃ g', WrStep H b g H' (l ++ enc n) g' := by
  refine calls_of_vc (args := [_, _]) Try.func58 c58ok (Nat.le_of_ble_eq_true rfl) ?_
  simp (implicitDefEqProofs := false) only [go_sem, c58]
  refine vc_loop (fun ((m, f, p, g') : Nat × Nat × List UInt8 × Option Nat) H' => m < 2^64 ∧ m < 128^f ∧ 1 ≤ f ∧ p.length + f ≤ 10 ∧ p ++ encF f m = encF 10 n ∧ WrStep H b g H' (l ++ p) g')
    (fun (m, _, _, _) => [(0, .pointer (some ⟨b, 0, none⟩)), (1, .int .u64 m)]) (fun (m, _, _, _) => m) (n, 10, [], g) ?_ ?_ ?_
  · refine ⟨hn, Nat.lt_of_lt_of_le hn (by decide), by decide, by simp, by simp, ?_⟩
    exact ⟨by simpa using h, Fr.refl _ _, fun k hk => .inl hk⟩
  · simp (implicitDefEqProofs := false) only [go_sem]
  · rintro ⟨m, f, p, g'⟩ H' ⟨h1, h2, h3, h4, h5, ⟨a, c, hb, ho⟩, hfr, hg⟩
    have hc := hb.cell
    have hlen : (l ++ p).length < 2^41 := by simp; omega
    simp (implicitDefEqProofs := false) only [go_sem, hc]
    refine ⟨fun ht => ?_, fun ht => ?_⟩
    · refine NewS_intro fun H1 hn1 hf1 hs1 => ?_
      have hb1 := hb.ext hf1
      have hc1 := hb1.cell
      simp (implicitDefEqProofs := false) only [go_sem, hc1]
      rw [wrap_u8_or] at hn1
      refine App_own EB (ho.fr hf1 (by simp)) (SrcH.blk Try.underlying36 hn1 (by simp) (by simp [Value.oneCell'])) (by unfold maxLen; omega) (by omega) fun a2 c2 H2 g2 ho2 hf2 hg2 => ?_
      have hb2 := hb1.fr hf2 (ho.ne hb (by decide))
      simp (implicitDefEqProofs := false) only [go_sem]
      refine Sto_one hb2 (by simp) rfl fun H3 hb3 hf3 hs3 => ?_
      have hm : 128 ≤ m := by omega
      have hf : f = (f - 1) + 1 := by omega
      have hst := WrStep.app (l := l ++ p) (x := [UInt8.ofNat (m % 128 + 128)]) (hfr.trans' hf1 (by simp)) hg hf2 hg2 ho2 hb3 hf3 (ho2.ne hb2 (by decide))
      simp (implicitDefEqProofs := false) only [go_sem]
      refine loopK_intro (m / 128, f - 1, p ++ [UInt8.ofNat (m % 128 + 128)], g2) (by show m / 128 < m; omega) ?_ ?_
      · simp (implicitDefEqProofs := false) only [go_sem]
        rw [show shrI .u64 (m : Int) 7 = ((m / 128 : Nat) : Int) from shrI_nat m 7 (by decide)]
      · refine ⟨by show m / 128 < _; omega, ?_, ?_, ?_, ?_, by simpa using hst⟩
        · show m / 128 < 128 ^ (f - 1)
          rw [hf, Nat.pow_succ] at h2; omega
        · show 1 ≤ f - 1
          rcases Nat.lt_or_ge 1 f with h | h
          · omega
          · have : f = 1 := by omega
            rw [this] at h2; omega
        · simp; omega
        · show (p ++ [UInt8.ofNat (m % 128 + 128)]) ++ encF (f - 1) (m / 128) = _
          rw [← h5, hf]
          simp [encF, show ¬ m < 128 by omega]
    · refine NewS_intro fun H1 hn1 hf1 hs1 => ?_
      have hb1 := hb.ext hf1
      have hc1 := hb1.cell
      simp (implicitDefEqProofs := false) only [go_sem, hc1]
      rw [wrap_u8_lt m (by omega)] at hn1
      refine App_own EB (ho.fr hf1 (by simp)) (SrcH.blk Try.underlying36 hn1 (by simp) (by simp [Value.oneCell'])) (by unfold maxLen; omega) (by omega) fun a2 c2 H2 g2 ho2 hf2 hg2 => ?_
      have hb2 := hb1.fr hf2 (ho.ne hb (by decide))
      simp (implicitDefEqProofs := false) only [go_sem]
      refine Sto_one hb2 (by simp) rfl fun H3 hb3 hf3 hs3 => ?_
      simp (implicitDefEqProofs := false) only [go_sem]
      refine ⟨g2, ?_⟩
      have hst := WrStep.app (l := l ++ p) (x := [UInt8.ofNat m]) (hfr.trans' hf1 (by simp)) hg hf2 hg2 ho2 hb3 hf3 (ho2.ne hb2 (by decide))
      have hf : f = (f - 1) + 1 := by omega
      rw [enc, ← h5, hf]
      simpa [encF, show m < 128 by omega] using hst



theorem text_ok (x : List UInt8) {H : Heap} {b : Nat} {l : List UInt8} {g : Option Nat} (h : Wr H b l g) (hl : l.length + x.length < 2^39) :
    HCalls Try.prog 61 #[.pointer (some ⟨b, 0, none⟩), .string ⟨⟨x⟩⟩] H fun v H' => v = .tuple #[] ∧ ∃ g', WrStep H b g H' (l ++ (enc x.length ++ x)) g' := by
  refine calls_of_vc (args := [_, _]) Try.func61 c61ok (Nat.le_of_ble_eq_true rfl) ?_
  have hsz : ByteArray.size ⟨⟨x⟩⟩ = x.length := rfl
  simp (implicitDefEqProofs := false) only [go_sem, c61, hsz]
  rw [wrap_u64_id _ (by omega) (by omega)]
  refine (uint_ok x.length (by omega) h (by omega)).mono ?_
  rintro v H1 ⟨rfl, g1, ⟨a, c, hb, ho⟩, hf1, hg1⟩
  have hc := hb.cell
  have he := length_enc x.length
  simp (implicitDefEqProofs := false) only [go_sem, hc]
  refine App_own EB ho (SrcH.str Try.underlying9 x) (by unfold maxLen; simp; omega) (by simp; omega) fun a2 c2 H2 g2 ho2 hf2 hg2 => ?_
  have hb2 := hb.fr hf2 (ho.ne hb (by decide))
  simp (implicitDefEqProofs := false) only [go_sem]
  refine Sto_one hb2 (by simp) rfl fun H3 hb3 hf3 hs3 => ?_
  simp (implicitDefEqProofs := false) only [go_sem]
  refine ⟨g2, ?_⟩
  have := WrStep.app (l := l ++ enc x.length) (x := x) hf1 hg1 hf2 hg2 ho2 hb3 hf3 (ho2.ne hb2 (by decide))
  simpa using this

/-- The zig and zag of a number with sign. -/
def zig (n : Int) : Nat := if 0 ≤ n then (2 * n).toNat else (-2 * n - 1).toNat

theorem zig_lt (n : Int) (h : -2^63 ≤ n) (h' : n < 2^63) : zig n < 2^64 := by unfold zig; split <;> omega

theorem xor_zero_u64 (x : Int) (h : 0 ≤ x) (h' : x < 18446744073709551616) : bits .xor .u64 x 0 = x := by
  have e : (BitVec.ofInt 64 x ^^^ BitVec.ofInt 64 0).toNat = x.toNat := by
    rw [show BitVec.ofInt 64 0 = 0#64 from rfl, BitVec.xor_zero, BitVec.toNat_ofInt]
    omega
  show IntKind.u64.wrap ((BitVec.ofInt 64 x ^^^ BitVec.ofInt 64 0).toNat : Int) = x
  rw [e, wrap_u64_id _ (by omega) (by omega)]; omega
theorem xor_ones_u64 (x : Int) (h : 0 ≤ x) (h' : x < 18446744073709551616) : bits .xor .u64 x 18446744073709551615 = 18446744073709551615 - x := by
  have e : (BitVec.ofInt 64 x ^^^ BitVec.ofInt 64 18446744073709551615).toNat = 18446744073709551615 - x.toNat := by
    rw [show BitVec.ofInt 64 18446744073709551615 = BitVec.allOnes 64 from rfl, BitVec.xor_allOnes, BitVec.toNat_not, BitVec.toNat_ofInt]
    have : (x % (2 ^ 64 : Nat)).toNat = x.toNat := by omega
    rw [this]
  show IntKind.u64.wrap ((BitVec.ofInt 64 x ^^^ BitVec.ofInt 64 18446744073709551615).toNat : Int) = _
  rw [e, wrap_u64_id _ (by omega) (by omega)]; omega

theorem zig_bits (n : Int) (h : -2^63 ≤ n) (h' : n < 2^63) : bits .xor .u64 (shlI .u64 (IntKind.u64.wrap n) 1) (IntKind.u64.wrap (shrI .i64 n 63)) = (zig n : Int) := by
  have e1 : shlI .u64 (IntKind.u64.wrap n) 1 = IntKind.u64.wrap (IntKind.u64.wrap n * 2) := shlI_eq (k := .u64) _ 1 (by decide)
  have e2 : shrI .i64 n 63 = if 0 ≤ n then 0 else -1 := by
    show n.fdiv (2 ^ 63) = _
    rw [Int.fdiv_eq_ediv_of_nonneg _ (by decide)]
    split <;> omega
  rw [e1, e2]
  unfold zig
  split
  · rw [show IntKind.u64.wrap 0 = 0 from rfl, wrap_u64_id n (by omega) (by omega), wrap_u64_id (n * 2) (by omega) (by omega), xor_zero_u64 _ (by omega) (by omega)]
    omega
  · have e3 : IntKind.u64.wrap n = n + 18446744073709551616 := by rw [IntKind.wrap_u64]; omega
    have e4 : IntKind.u64.wrap ((n + 18446744073709551616) * 2) = 2 * n + 18446744073709551616 := by rw [IntKind.wrap_u64]; omega
    rw [show IntKind.u64.wrap (-1) = 18446744073709551615 from rfl, e3, e4, xor_ones_u64 _ (by omega) (by omega)]
    omega

theorem int_ok (n : Int) (hn : -2^63 ≤ n) (hn' : n < 2^63) {H : Heap} {b : Nat} {l : List UInt8} {g : Option Nat} (h : Wr H b l g) (hl : l.length < 2^40) :
    HCalls Try.prog 59 #[.pointer (some ⟨b, 0, none⟩), .int .i64 n] H fun v H' => v = .tuple #[] ∧ ∃ g', WrStep H b g H' (l ++ enc (zig n)) g' := by
  refine calls_of_vc (args := [_, _]) Try.func59 c59ok (Nat.le_of_ble_eq_true rfl) ?_
  simp (implicitDefEqProofs := false) only [go_sem, c59]
  rw [zig_bits n hn hn']
  refine (uint_ok (zig n) (zig_lt n hn hn') h hl).mono ?_
  rintro v H1 ⟨rfl, hg⟩
  simp (implicitDefEqProofs := false) only [go_sem]
  exact hg

theorem data_ok {H : Heap} {b : Nat} {l : List UInt8} {g : Option Nat} (h : Wr H b l g) (hl : l.length < 2^40) :
    HCalls Try.prog 40 #[.pointer (some ⟨b, 0, none⟩)] H fun v H' => ∃ a c g', v = .slice a l.length c ∧ Own H' 5 1 v l.length (l.map bv) g' ∧ (∀ k, g' = some k → H.size ≤ k) ∧ Fr [] H H' := by
  obtain ⟨a, c, hb, ho⟩ := h
  refine calls_of_vc (args := [_]) Try.func40 c40ok (Nat.le_of_ble_eq_true rfl) ?_
  simp (implicitDefEqProofs := false) only [go_sem, c40]
  refine NewS_intro fun H1 hn1 hf1 hs1 => ?_
  have hb1 := hb.ext hf1
  have hc1 := hb1.cell
  simp (implicitDefEqProofs := false) only [go_sem, hc1]
  refine App_own EB (Own.of_blk hn1 (by simp) (by decide)) ((ho.bsR.ext hf1).src Try.underlying36) (by unfold maxLen; omega) (by omega) fun a2 c2 H2 g2 ho2 hf2 hg2 => ?_
  simp (implicitDefEqProofs := false) only [go_sem]
  refine ⟨a2, c2, g2, rfl, by simpa using ho2, ?_, hf1.trans' hf2 (by simp)⟩
  intro k hk
  rcases hg2 k hk with h | h
  · simp at h; omega
  · omega

end Go.Proofs.Ytcilkhjadljaaaa
end
section
/- The Reader of package wire: contracts. -/
set_option linter.unusedSimpArgs false
set_option linter.unusedVariables false
set_option maxRecDepth 8000
namespace Go.Proofs.Ytcilkhjadljaaaa
open Gx Go

/-- The number at the head of these bytes, and how many bytes it takes; `i` groups have been read, of the value `n`. -/
def numG : Nat → Nat → List UInt8 → Option (Nat × Nat)
  | _, _, [] => none
  | i, n, b :: r =>
    if 10 ≤ i then none
    else if i = 9 ∧ 1 < b.toNat then none
    else if b.toNat < 128 then (if b.toNat ≠ 0 ∨ i = 0 then some (n + (b.toNat % 128) * 2^(7*i), i + 1) else none)
    else numG (i + 1) (n + (b.toNat % 128) * 2^(7*i)) r
def num (l : List UInt8) : Option (Nat × Nat) := numG 0 0 l

theorem numG_bound : ∀ (l : List UInt8) (i n : Nat) {v k : Nat}, numG i n l = some (v, k) → n < 2^(7*i) → i ≤ 9 → v < 2^64 ∧ i < k ∧ k ≤ i + l.length ∧ k ≤ 10
  | [], i, n, v, k, h, _, _ => by simp [numG] at h
  | b :: r, i, n, v, k, h, hn, hi => by
    simp only [numG] at h
    rw [if_neg (by omega)] at h
    split at h
    · cases h
    · rename_i h9
      have hb : b.toNat % 128 < 128 := Nat.mod_lt _ (by decide)
      have hpow : n + (b.toNat % 128) * 2^(7*i) < 2^(7*(i+1)) := by
        have e : 2^(7*(i+1)) = 128 * 2^(7*i) := by rw [Nat.mul_add, Nat.pow_add, Nat.mul_comm]
        rw [e]
        have : (b.toNat % 128) * 2^(7*i) ≤ 127 * 2^(7*i) := Nat.mul_le_mul_right _ (by omega)
        omega
      split at h
      · split at h
        · simp at h; obtain ⟨rfl, rfl⟩ := h
          refine ⟨?_, by omega, by simp, by omega⟩
          rcases Nat.lt_or_ge i 9 with h' | h'
          · exact Nat.lt_of_lt_of_le hpow (Nat.pow_le_pow_right (by decide) (by omega))
          · have : i = 9 := by omega
            subst this
            have hb1 : b.toNat ≤ 1 := by
              rcases Nat.lt_or_ge 1 b.toNat with h | h
              · exact absurd ⟨rfl, h⟩ h9
              · exact h
            have : b.toNat % 128 ≤ 1 := by omega
            have : (b.toNat % 128) * 2^(7*9) ≤ 1 * 2^(7*9) := Nat.mul_le_mul_right _ this
            have e2 : (2:Nat)^(7*9) + 2^(7*9) = 2^64 := by decide
            omega
        · cases h
      · have hlt : i < 9 := by
          rcases Nat.lt_or_ge i 9 with h' | h'
          · exact h'
          · have : i = 9 := by omega
            subst this
            exact absurd ⟨rfl, by omega⟩ h9
        obtain ⟨h1, h2, h3, h4⟩ := numG_bound r (i + 1) _ h hpow (by omega)
        exact ⟨h1, by omega, by simp; omega, h4⟩

theorem num_bound {l : List UInt8} {v k : Nat} (h : num l = some (v, k)) : v < 2^64 ∧ 0 < k ∧ k ≤ l.length ∧ k ≤ 10 := by
  obtain ⟨h1, h2, h3, h4⟩ := numG_bound l 0 0 h (by decide) (by decide)
  exact ⟨h1, h2, by rw [Nat.zero_add] at h3; exact h3, h4⟩

theorem bits_or_u64 (x y : Nat) (hx : x < 2^64) (hy : y < 2^64) : bits .or .u64 (x : Int) (y : Int) = ((x ||| y : Nat) : Int) := by
  have hx' : (BitVec.ofInt 64 (x : Int)).toNat = x := by rw [BitVec.toNat_ofInt]; omega
  have hy' : (BitVec.ofInt 64 (y : Int)).toNat = y := by rw [BitVec.toNat_ofInt]; omega
  have e : (BitVec.ofInt 64 (x : Int) ||| BitVec.ofInt 64 (y : Int)).toNat = x ||| y := by rw [BitVec.toNat_or, hx', hy']
  have hlt : x ||| y < 2^64 := Nat.or_lt_two_pow hx hy
  show IntKind.u64.wrap ((BitVec.ofInt 64 (x : Int) ||| BitVec.ofInt 64 (y : Int)).toNat : Int) = _
  rw [e, wrap_u64_id _ (by omega) (by omega)]

theorem and127 : ∀ x : Fin 256, bits .and .u8 (x.val : Int) 127 = ((x.val % 128 : Nat) : Int) := by decide +kernel

/-- One group more. -/
theorem group_step (n i : Nat) (b : UInt8) (hi : i ≤ 9) (hn : n < 2^(7*i)) (h9 : i = 9 → b.toNat ≤ 1) :
    bits .or .u64 (n : Int) (shlI .u64 (IntKind.u64.wrap (bits .and .u8 (b.toNat : Int) 127)) (IntKind.i64.wrap (7 * (i : Int)))) = ((n + (b.toNat % 128) * 2^(7*i) : Nat) : Int) := by
  have e1 := and127 ⟨b.toNat, b.toNat_lt⟩
  simp only at e1
  have hb : b.toNat % 128 < 128 := Nat.mod_lt _ (by decide)
  have hlt : (b.toNat % 128) * 2^(7*i) < 2^64 := by
    rcases Nat.lt_or_ge i 9 with h' | h'
    · have : (b.toNat % 128) * 2^(7*i) < 128 * 2^(7*i) := Nat.mul_lt_mul_of_pos_right hb (Nat.pow_pos (by decide))
      have e : 2^(7*(i+1)) = 128 * 2^(7*i) := by rw [Nat.mul_add, Nat.pow_add, Nat.mul_comm]
      have : 2^(7*(i+1)) ≤ 2^64 := Nat.pow_le_pow_right (by decide) (by omega)
      omega
    · have : i = 9 := by omega
      subst this
      have := h9 rfl
      have : (b.toNat % 128) * 2^(7*9) ≤ 1 * 2^(7*9) := Nat.mul_le_mul_right _ (by omega)
      have e2 : (1:Nat) * 2^(7*9) < 2^64 := by decide
      exact Nat.lt_of_le_of_lt this e2
  rw [e1, wrap_u64_id _ (by omega) (by omega), wrap_i64_id _ (by omega) (by omega)]
  have e2 : shlI .u64 ((b.toNat % 128 : Nat) : Int) (7 * (i : Int)) = (((b.toNat % 128) * 2^(7*i) : Nat) : Int) := by
    rw [show (7 * (i : Int)) = ((7 * i : Nat) : Int) by omega, shlI_eq _ _ (by show 7 * i ≤ 64; omega)]
    rw [show ((b.toNat % 128 : Nat) : Int) * 2 ^ (7 * i) = (((b.toNat % 128) * 2^(7*i) : Nat) : Int) by simp]
    exact wrap_u64_id _ (by omega) (by omega)
  rw [e2, bits_or_u64 _ _ (Nat.lt_of_lt_of_le hn (Nat.pow_le_pow_right (by decide) (by omega))) hlt, Nat.or_comm, ← Nat.shiftLeft_eq, ← Nat.shiftLeft_add_eq_or_of_lt hn, Nat.add_comm]

/-- A Reader at a block. -/
def RdB (H : Heap) (b : Nat) (l : List UInt8) (at_ item err : Nat) (g : Option Nat) : Prop :=
  ∃ a c, Blk H b 82 [.slice a l.length c, .int .i64 at_, .int .i64 item, .int .i64 err] ∧ Own H 5 1 (.slice a l.length c) l.length (l.map bv) g ∧ at_ ≤ l.length ∧ item ≤ at_ ∧ l.length < 2^40
def Rd (H : Heap) (b : Nat) (l : List UInt8) (at_ err : Nat) (g : Option Nat) : Prop := ∃ item, RdB H b l at_ item err g

theorem RdB.upd {H H' : Heap} {b : Nat} {l : List UInt8} {at_ item err : Nat} {g : Option Nat} {a : Option Addr} {c : Nat} {x : List Value} (hb : Blk H b 82 x) (ho : Own H 5 1 (.slice a l.length c) l.length (l.map bv) g)
    (hb3 : Blk H' b 82 [.slice a l.length c, .int .i64 at_, .int .i64 item, .int .i64 err]) (hf : Fr [b] H H') (h1 : at_ ≤ l.length) (h2 : item ≤ at_) (h3 : l.length < 2^40) : RdB H' b l at_ item err g :=
  ⟨a, c, hb3, ho.fr hf (fun k hk hm => ho.ne hb (by decide) (by simp at hm; subst hm; simp [hk])), h1, h2, h3⟩

theorem Rd.fr {M : List Nat} {H H' : Heap} {b : Nat} {l : List UInt8} {at_ err : Nat} {g : Option Nat} (h : Rd H b l at_ err g) (hf : Fr M H H') (hb : b ∉ M) (hg : ∀ k, g = some k → k ∉ M) : Rd H' b l at_ err g := by
  obtain ⟨item, a, c, h1, h2, h3⟩ := h
  exact ⟨item, a, c, h1.fr hf hb, h2.fr hf hg, h3⟩
theorem Rd.lt {H : Heap} {b : Nat} {l : List UInt8} {at_ err : Nat} {g : Option Nat} (h : Rd H b l at_ err g) : b < H.size := by
  obtain ⟨item, a, c, h1, h2, h3⟩ := h
  exact h1.lt
theorem Rd.ltg {H : Heap} {b : Nat} {l : List UInt8} {at_ err : Nat} {g : Option Nat} (h : Rd H b l at_ err g) {k : Nat} (hk : g = some k) : k < H.size := by
  obtain ⟨item, a, c, h1, h2, h3⟩ := h
  exact h2.lt hk

theorem number_ok {H : Heap} {b : Nat} {l : List UInt8} {at_ item err : Nat} {g : Option Nat} (h : RdB H b l at_ item err g) :
    HCalls Try.prog 85 #[.pointer (some ⟨b, 0, none⟩)] H fun v H' => H' = H ∧ ∃ n next : Nat, ∃ ok, v = .tuple #[.int .u64 n, .int .i64 next, .bool ok] ∧
      (ok = (num (l.drop at_)).isSome) ∧ (∀ m k, num (l.drop at_) = some (m, k) → n = m ∧ next = at_ + k) := by
  obtain ⟨a, c, hb, ho, hat, hit, hl⟩ := h
  have hc := hb.cell
  refine calls_of_vc (args := [_]) Try.func85 c85ok (Nat.le_of_ble_eq_true rfl) ?_
  simp (implicitDefEqProofs := false) only [go_sem, c85]
  refine vc_loop (fun ((n, i) : Nat × Nat) H' => H' = H ∧ i ≤ 10 ∧ n < 2^(7*i) ∧ at_ + i ≤ l.length ∧ numG i n (l.drop (at_ + i)) = num (l.drop at_))
    (fun (n, i) => [(0, .pointer (some ⟨b, 0, none⟩)), (2, .int .u64 n), (7, .int .i64 i)]) (fun (_, i) => 10 - i) (0, 0) ?_ ?_ ?_
  · exact ⟨rfl, by decide, by decide, by omega, rfl⟩
  · simp (implicitDefEqProofs := false) only [go_sem]
    try exact ⟨rfl, rfl⟩
  · rintro ⟨n, i⟩ H' ⟨rfl, hi, hn, hai, hnum⟩
    rcases Nat.lt_or_ge i 10 with hlt | hge
    · have hlt' : (i : Int) < 10 := by omega
      have hw : IntKind.i64.wrap ((at_ : Int) + (i : Int)) = ((at_ + i : Nat) : Int) := by rw [wrap_i64_id _ (by omega) (by omega)]; omega
      have hw1 : IntKind.i64.wrap ((i : Int) + 1) = ((i + 1 : Nat) : Int) := by rw [wrap_i64_id _ (by omega) (by omega)]; omega
      have hw2 : IntKind.i64.wrap (((at_ + i : Nat) : Int) + 1) = ((at_ + (i + 1) : Nat) : Int) := by rw [wrap_i64_id _ (by omega) (by omega)]; omega
      rcases Nat.lt_or_ge (at_ + i) l.length with hin | hout
      · obtain ⟨b', o, rfl, hcl⟩ := ho.bsR.resolve_left (by rintro rfl; simp at hin)
        have hin' : ¬ (l.length : Int) ≤ ((at_ + i : Nat) : Int) := by omega
        have hcj := hcl (at_ + i) hin
        have hdrop : l.drop (at_ + i) = l[at_ + i] :: l.drop (at_ + (i + 1)) := by rw [List.drop_eq_getElem_cons hin]; rfl
        rw [hdrop, numG, if_neg (by omega)] at hnum
        generalize l[at_ + i] = x at *
        have h9q : ((bif decide ((i : Int) = 9) then decide (1 < (x.toNat : Int)) else false) = true) ↔ (i = 9 ∧ 1 < x.toNat) := by
          by_cases h : i = 9
          · subst h; simp; omega
          · have : ¬ ((i : Int) = 9) := by omega
            simp [h, this]
        simp (implicitDefEqProofs := false) only [go_sem, hc, hlt', hw, hw1, hw2, hin', hcj, bv]
        refine ⟨by omega, fun h => ?_, fun h => ⟨?_, fun hs => ?_, fun hs => ?_⟩⟩
        · rw [if_pos (h9q.mp h)] at hnum
          refine ⟨0, 0, _, rfl, by rw [← hnum]; rfl, by rw [← hnum]; intro _ _ h; cases h⟩
        · rw [wrap_i64_id _ (by omega) (by omega)]; omega
        · have hn9 : ¬ (i = 9 ∧ 1 < x.toNat) := fun q => by rw [h9q.mpr q] at h; cases h
          rw [if_neg hn9, if_pos (by omega)] at hnum
          rw [group_step n i x (by omega) hn (fun q => by rcases Nat.lt_or_ge 1 x.toNat with h | h; exact absurd ⟨q, h⟩ hn9; exact h)]
          refine ⟨_, _, _, rfl, ?_, ?_⟩
          · rw [← hnum]
            by_cases q : x.toNat ≠ 0 ∨ i = 0
            · rw [if_pos q]
              rcases Nat.eq_zero_or_pos x.toNat with hx | hx
              · have : i = 0 := by omega
                simp [hx, this]
              · simp; omega
            · rw [if_neg q]
              have h1 : x.toNat = 0 := by omega
              have h2 : ¬ i = 0 := by omega
              simp [h1, h2]
          · intro m k hm
            rw [← hnum] at hm
            split at hm
            · simp at hm; exact ⟨hm.1, by omega⟩
            · cases hm
        · have hn9 : ¬ (i = 9 ∧ 1 < x.toNat) := fun q => by rw [h9q.mpr q] at h; cases h
          rw [if_neg hn9, if_neg (by omega)] at hnum
          have h9' : i = 9 → x.toNat ≤ 1 := fun q => by rcases Nat.lt_or_ge 1 x.toNat with h | h; exact absurd ⟨q, h⟩ hn9; exact h
          rw [group_step n i x (by omega) hn h9']
          have hb' : x.toNat % 128 < 128 := Nat.mod_lt _ (by decide)
          have hpow : n + (x.toNat % 128) * 2^(7*i) < 2^(7*(i+1)) := by
            have e : 2^(7*(i+1)) = 128 * 2^(7*i) := by rw [Nat.mul_add, Nat.pow_add, Nat.mul_comm]
            rw [e]
            have : (x.toNat % 128) * 2^(7*i) ≤ 127 * 2^(7*i) := Nat.mul_le_mul_right _ (by omega)
            omega
          refine loopK_intro (n + (x.toNat % 128) * 2^(7*i), i + 1) ?_ ?_ ?_
          · show 10 - (i + 1) < 10 - i
            omega
          · simp (implicitDefEqProofs := false) only [go_sem]
          · exact ⟨rfl, by show i + 1 ≤ 10; omega, hpow, by show at_ + (i + 1) ≤ _; omega, hnum⟩
      · have hout' : (l.length : Int) ≤ ((at_ + i : Nat) : Int) := by omega
        rw [List.drop_eq_nil_of_le hout, numG] at hnum
        simp (implicitDefEqProofs := false) only [go_sem, hc, hlt', hw, hout']
        exact ⟨0, 0, _, rfl, by rw [← hnum]; rfl, by rw [← hnum]; intro _ _ h; cases h⟩
    · have hge' : ¬ (i : Int) < 10 := by omega
      have : i = 10 := by omega
      subst this
      have hnn : num (l.drop at_) = none := by
        rw [← hnum]; cases l.drop (at_ + 10) <;> simp [numG]
      simp (implicitDefEqProofs := false) only [go_sem, hc, hge', hnn]
      exact ⟨0, 0, false, rfl, rfl⟩

theorem begin_ok {H : Heap} {b : Nat} {l : List UInt8} {at_ item err : Nat} {g : Option Nat} (h : RdB H b l at_ item err g) :
    HCalls Try.prog 84 #[.pointer (some ⟨b, 0, none⟩)] H fun v H' => v = .bool (decide (err = 0)) ∧ RdB H' b l at_ (if err = 0 then at_ else item) err g ∧ Fr [b] H H' := by
  obtain ⟨a, c, hb, ho, hat, hit, hl⟩ := h
  have hc := hb.cell
  refine calls_of_vc (args := [_]) Try.func84 c84ok (Nat.le_of_ble_eq_true rfl) ?_
  by_cases he : err = 0
  · subst he
    have e0 : ((0 : Nat) : Int) = 0 := rfl
    simp (implicitDefEqProofs := false) only [go_sem, c84, hc, e0]
    refine Sto_one hb (by simp) rfl fun H3 hb3 hf3 hs3 => ?_
    simp (implicitDefEqProofs := false) only [go_sem]
    exact ⟨RdB.upd hb ho hb3 hf3 hat (Nat.le_refl _) hl, hf3⟩
  · have he' : ¬ (err : Int) = 0 := by omega
    simp (implicitDefEqProofs := false) only [go_sem, c84, hc, he', he]
    exact ⟨⟨a, c, hb, ho, hat, hit, hl⟩, Fr.refl _ _⟩

/-- What Uint does. -/
def uintR (l : List UInt8) (at_ err : Nat) : Nat × Nat × Nat :=
  if err = 0 then match num (l.drop at_) with
    | some (n, k) => (n, at_ + k, 0)
    | none => (0, at_, 2)
  else (0, at_, err)

theorem ruint_ok {H : Heap} {b : Nat} {l : List UInt8} {at_ err : Nat} {g : Option Nat} (h : Rd H b l at_ err g) :
    HCalls Try.prog 62 #[.pointer (some ⟨b, 0, none⟩)] H fun v H' => v = .int .u64 (uintR l at_ err).1 ∧ Rd H' b l (uintR l at_ err).2.1 (uintR l at_ err).2.2 g ∧ Fr [b] H H' := by
  obtain ⟨item, h⟩ := h
  refine calls_of_vc (args := [_]) Try.func62 c62ok (Nat.le_of_ble_eq_true rfl) ?_
  simp (implicitDefEqProofs := false) only [go_sem, c62]
  refine (begin_ok h).mono ?_
  rintro v H1 ⟨rfl, h1, hf1⟩
  by_cases he : err = 0
  · subst he
    simp (implicitDefEqProofs := false) only [go_sem]
    refine (number_ok h1).mono ?_
    rintro v H2 ⟨rfl, n, next, ok, rfl, hok, hn⟩
    rw [if_pos rfl] at h1
    obtain ⟨a, c, hb, ho, hat, hit, hl⟩ := h1
    have hc := hb.cell
    rcases hnum : num (l.drop at_) with _ | ⟨m, k⟩
    · rw [hnum] at hok
      cases hok
      simp (implicitDefEqProofs := false) only [go_sem, hc]
      refine Sto_one hb (by simp) rfl fun H3 hb3 hf3 hs3 => ?_
      simp (implicitDefEqProofs := false) only [go_sem, uintR, hnum]
      first | exact ⟨rfl, ⟨at_, RdB.upd hb ho hb3 hf3 hat (Nat.le_refl _) hl⟩, hf1.trans hf3⟩ | exact ⟨⟨at_, RdB.upd hb ho hb3 hf3 hat (Nat.le_refl _) hl⟩, hf1.trans hf3⟩
    · rw [hnum] at hok
      cases hok
      obtain ⟨rfl, rfl⟩ := hn _ _ hnum
      have hbd := num_bound hnum
      simp only [List.length_drop] at hbd
      simp (implicitDefEqProofs := false) only [go_sem, hc]
      refine Sto_one hb (by simp) rfl fun H3 hb3 hf3 hs3 => ?_
      simp (implicitDefEqProofs := false) only [go_sem, uintR, hnum]
      exact ⟨⟨at_, RdB.upd hb ho hb3 hf3 (by omega) (by omega) hl⟩, hf1.trans hf3⟩
  · rw [if_neg he] at h1
    simp (implicitDefEqProofs := false) only [go_sem, he, uintR]
    first | exact ⟨rfl, ⟨item, h1⟩, hf1⟩ | exact ⟨⟨item, h1⟩, hf1⟩

/-- Back from the zig and zag. -/
def zag (n : Nat) : Int := if n % 2 = 0 then (n / 2 : Nat) else -(n / 2 : Nat) - 1

theorem xor_zero_i64 (x : Int) (h : -9223372036854775808 ≤ x) (h' : x < 9223372036854775808) : bits .xor .i64 x 0 = x := by
  have e : (BitVec.ofInt 64 x ^^^ BitVec.ofInt 64 0).toNat = (x % 18446744073709551616).toNat := by
    rw [show BitVec.ofInt 64 0 = 0#64 from rfl, BitVec.xor_zero, BitVec.toNat_ofInt]
    rfl
  show IntKind.i64.wrap ((BitVec.ofInt 64 x ^^^ BitVec.ofInt 64 0).toNat : Int) = x
  rw [e, IntKind.wrap_i64]; omega
theorem xor_ones_i64 (x : Int) (h : 0 ≤ x) (h' : x < 9223372036854775808) : bits .xor .i64 x (-1) = -x - 1 := by
  have e : (BitVec.ofInt 64 x ^^^ BitVec.ofInt 64 (-1)).toNat = 18446744073709551615 - x.toNat := by
    rw [show BitVec.ofInt 64 (-1) = BitVec.allOnes 64 from rfl, BitVec.xor_allOnes, BitVec.toNat_not, BitVec.toNat_ofInt]
    have : (x % (2 ^ 64 : Nat)).toNat = x.toNat := by omega
    rw [this]
  show IntKind.i64.wrap ((BitVec.ofInt 64 x ^^^ BitVec.ofInt 64 (-1)).toNat : Int) = _
  rw [e, IntKind.wrap_i64]; omega
theorem and_one_u64 (n : Nat) (h : n < 2^64) : bits .and .u64 (n : Int) 1 = ((n % 2 : Nat) : Int) := by
  have e : (BitVec.ofInt 64 (n : Int) &&& BitVec.ofInt 64 1).toNat = n % 2 := by
    have hx' : (BitVec.ofInt 64 (n : Int)).toNat = n := by rw [BitVec.toNat_ofInt]; omega
    rw [BitVec.toNat_and, hx', show (BitVec.ofInt 64 1).toNat = 1 from rfl, Nat.and_one_is_mod]
  show IntKind.u64.wrap ((BitVec.ofInt 64 (n : Int) &&& BitVec.ofInt 64 1).toNat : Int) = _
  rw [e, wrap_u64_id _ (by omega) (by omega)]

theorem zag_bits (n : Nat) (h : n < 2^64) : bits .xor .i64 (IntKind.i64.wrap (shrI .u64 (n : Int) 1)) (IntKind.i64.wrap (0 - IntKind.i64.wrap (bits .and .u64 (n : Int) 1))) = zag n := by
  have e1 : shrI .u64 (n : Int) 1 = ((n / 2 : Nat) : Int) := shrI_nat n 1 (by decide)
  rw [e1, and_one_u64 n h, wrap_i64_id ((n / 2 : Nat) : Int) (by omega) (by omega), wrap_i64_id ((n % 2 : Nat) : Int) (by omega) (by omega), wrap_i64_id (0 - _) (by omega) (by omega)]
  unfold zag
  rcases Nat.mod_two_eq_zero_or_one n with hm | hm
  · rw [hm]
    exact xor_zero_i64 _ (by omega) (by omega)
  · rw [hm]
    have := xor_ones_i64 ((n / 2 : Nat) : Int) (by omega) (by omega)
    simpa using this

theorem uintR_lt (l : List UInt8) (at_ err : Nat) : (uintR l at_ err).1 < 2^64 := by
  unfold uintR
  split
  · split
    · rename_i h; exact (num_bound h).1
    · exact Nat.two_pow_pos 64
  · exact Nat.two_pow_pos 64

theorem rint_ok {H : Heap} {b : Nat} {l : List UInt8} {at_ err : Nat} {g : Option Nat} (h : Rd H b l at_ err g) :
    HCalls Try.prog 64 #[.pointer (some ⟨b, 0, none⟩)] H fun v H' => v = .int .i64 (zag (uintR l at_ err).1) ∧ Rd H' b l (uintR l at_ err).2.1 (uintR l at_ err).2.2 g ∧ Fr [b] H H' := by
  refine calls_of_vc (args := [_]) Try.func64 c64ok (Nat.le_of_ble_eq_true rfl) ?_
  simp (implicitDefEqProofs := false) only [go_sem, c64]
  refine (ruint_ok h).mono ?_
  rintro v H1 ⟨rfl, h1, hf1⟩
  simp (implicitDefEqProofs := false) only [go_sem]
  rw [zag_bits _ (uintR_lt _ _ _)]
  exact ⟨rfl, h1, hf1⟩

/-- What Bool does. -/
def boolR (l : List UInt8) (at_ err : Nat) : Bool × Nat × Nat :=
  if err = 0 then match l.drop at_ with
    | [] => (false, at_, 2)
    | x :: _ => if 1 < x.toNat then (false, at_, 2) else (x.toNat == 1, at_ + 1, 0)
  else (false, at_, err)


/-- What Bytes does. -/
def bytesR (l : List UInt8) (at_ err : Nat) : List UInt8 × Nat × Nat :=
  if err = 0 then match num (l.drop at_) with
    | some (n, k) => if at_ + k + n ≤ l.length then ((l.drop (at_ + k)).take n, at_ + k + n, 0) else ([], at_, 2)
    | none => ([], at_, 2)
  else ([], at_, err)

theorem count_num {n k at_ : Nat} {l : List UInt8} (hl : l.length < 2^40) (h1 : n < 2^64) (h2 : at_ + k ≤ l.length) :
    (IntKind.u64.wrap (IntKind.i64.wrap ((l.length : Int) - ((at_ + k : Nat) : Int))) < (n : Int)) ↔ ¬ at_ + k + n ≤ l.length := by
  rw [wrap_i64_id _ (by omega) (by omega), wrap_u64_id _ (by omega) (by omega)]; omega

theorem rbytes_ok {H : Heap} {b : Nat} {l : List UInt8} {at_ err : Nat} {g : Option Nat} (h : Rd H b l at_ err g) :
    HCalls Try.prog 86 #[.pointer (some ⟨b, 0, none⟩)] H fun v H' => ∃ a c g', v = .slice a (bytesR l at_ err).1.length c ∧ Own H' 5 1 v (bytesR l at_ err).1.length ((bytesR l at_ err).1.map bv) g' ∧ (∀ k, g' = some k → H.size ≤ k) ∧ Rd H' b l (bytesR l at_ err).2.1 (bytesR l at_ err).2.2 g ∧ Fr [b] H H' := by
  obtain ⟨item, h⟩ := h
  refine calls_of_vc (args := [_]) Try.func86 c86ok (Nat.le_of_ble_eq_true rfl) ?_
  simp (implicitDefEqProofs := false) only [go_sem, c86]
  refine (begin_ok h).mono ?_
  rintro v H1 ⟨rfl, h1, hf1⟩
  by_cases he : err = 0
  · subst he
    rw [if_pos rfl] at h1
    simp (implicitDefEqProofs := false) only [go_sem]
    refine (number_ok h1).mono ?_
    rintro v H2 ⟨rfl, n, next, ok, rfl, hok, hn⟩
    obtain ⟨a, c, hb, ho, hat, hit, hl⟩ := h1
    have hc := hb.cell
    rcases hnum : num (l.drop at_) with _ | ⟨m, k⟩
    · rw [hnum] at hok
      cases hok
      simp (implicitDefEqProofs := false) only [go_sem, hc]
      refine Sto_one hb (by simp) rfl fun H3 hb3 hf3 hs3 => ?_
      simp (implicitDefEqProofs := false) only [go_sem, bytesR, hnum]
      exact ⟨none, 0, none, rfl, Own.nil _ _ _, by simp, ⟨at_, RdB.upd hb ho hb3 hf3 hat (Nat.le_refl _) hl⟩, hf1.trans hf3⟩
    · rw [hnum] at hok
      cases hok
      obtain ⟨rfl, rfl⟩ := hn _ _ hnum
      have hbd := num_bound hnum
      simp only [List.length_drop] at hbd
      have hcn := count_num (n := n) (k := k) (at_ := at_) hl hbd.1 (by omega)
      by_cases hle : at_ + k + n ≤ l.length
      · have hcn' : ¬ (IntKind.u64.wrap (IntKind.i64.wrap ((l.length : Int) - ((at_ + k : Nat) : Int))) < (n : Int)) := by rw [hcn]; exact not_not_intro hle
        have hw : IntKind.i64.wrap (n : Int) = (n : Int) := wrap_i64_id _ (by omega) (by omega)
        have hw2 : IntKind.i64.wrap (((at_ + k : Nat) : Int) + (n : Int)) = ((at_ + k + n : Nat) : Int) := by rw [wrap_i64_id _ (by omega) (by omega)]; omega
        simp (implicitDefEqProofs := false) only [go_sem, hc, hcn', hw, hw2]
        refine Sto_one hb (by simp) rfl fun H3 hb3 hf3 hs3 => ?_
        have hr3 := RdB.upd hb ho hb3 hf3 hle (by omega) hl
        obtain ⟨a4, c4, hb4, ho4, _⟩ := hr3
        have hc4 := hb4.cell
        have hcap := ho4.cap_le
        simp (implicitDefEqProofs := false) only [go_sem, hc4]
        refine ⟨by omega, ?_⟩
        refine NewS_intro fun H5 hn5 hf5 hs5 => ?_
        have hb5 := hb4.ext hf5
        have hc5 := hb5.cell
        simp (implicitDefEqProofs := false) only [go_sem, hc5]
        have hlen : at_ + k + n - (at_ + k) = ((l.drop (at_ + k)).take n).length := by simp; omega
        have hsub : BsR H5 (if c4 = at_ + k then a4 else Option.map (fun x => x.add (at_ + k)) a4) ((l.drop (at_ + k)).take n) := by
          have := (ho4.bsR.ext hf5).sub c4 (lo := at_ + k) (hi := at_ + k + n) (by omega)
          rwa [show at_ + k + n - (at_ + k) = n by omega] at this
        rw [hlen]
        refine App_own EB (Own.of_blk hn5 (by simp) (by decide)) (hsub.src Try.underlying36) (by unfold maxLen; omega) (by omega) fun a2 c2 H6 g2 ho6 hf6 hg6 => ?_
        have hfr : Fr [] H3 H6 := hf5.trans' hf6 (by simp)
        simp (implicitDefEqProofs := false) only [go_sem, bytesR, hnum, hle]
        refine ⟨a2, c2, g2, by simp, by simpa using ho6, ?_, ?_, (hf1.trans hf3).trans (hfr.mono (by simp))⟩
        · intro j hj
          have h3 := hf1.size
          have h4 := hf3.size
          rcases hg6 j hj with h | h
          · simp at h; omega
          · have := hf5.size; omega
        · exact Rd.fr ⟨at_, a4, c4, hb4, ho4, hle, by omega, hl⟩ hfr (by simp) (by simp)
      · have hle' := hle
        rw [← hcn] at hle
        simp (implicitDefEqProofs := false) only [go_sem, hc, hle]
        refine Sto_one hb (by simp) rfl fun H3 hb3 hf3 hs3 => ?_
        simp (implicitDefEqProofs := false) only [go_sem, bytesR, hnum, hle']
        exact ⟨none, 0, none, rfl, Own.nil _ _ _, by simp, ⟨at_, RdB.upd hb ho hb3 hf3 hat (Nat.le_refl _) hl⟩, hf1.trans hf3⟩
  · rw [if_neg he] at h1
    simp (implicitDefEqProofs := false) only [go_sem, he, bytesR]
    exact ⟨none, 0, none, rfl, Own.nil _ _ _, by simp, ⟨item, h1⟩, hf1⟩

/-- What Text does. -/
theorem rtext_ok {H : Heap} {b : Nat} {l : List UInt8} {at_ err : Nat} {g : Option Nat} (h : Rd H b l at_ err g) :
    HCalls Try.prog 68 #[.pointer (some ⟨b, 0, none⟩)] H fun v H' => v = .string ⟨⟨(bytesR l at_ err).1⟩⟩ ∧ Rd H' b l (bytesR l at_ err).2.1 (bytesR l at_ err).2.2 g ∧ Fr [b] H H' := by
  refine calls_of_vc (args := [_]) Try.func68 c68ok (Nat.le_of_ble_eq_true rfl) ?_
  simp (implicitDefEqProofs := false) only [go_sem, c68]
  refine (rbytes_ok h).mono ?_
  rintro v H1 ⟨a, c, g', rfl, ho, hg, h1, hf1⟩
  simp (implicitDefEqProofs := false) only [go_sem, ho.bsR.b2s c]
  exact ⟨h1, hf1⟩

/-- What Count does. -/
def countR (l : List UInt8) (at_ err : Nat) : Nat × Nat × Nat :=
  if err = 0 then match num (l.drop at_) with
    | some (n, k) => if at_ + k + n ≤ l.length then (n, at_ + k, 0) else (0, at_, 2)
    | none => (0, at_, 2)
  else (0, at_, err)

theorem rcount_ok {H : Heap} {b : Nat} {l : List UInt8} {at_ err : Nat} {g : Option Nat} (h : Rd H b l at_ err g) :
    HCalls Try.prog 66 #[.pointer (some ⟨b, 0, none⟩)] H fun v H' => v = .int .i64 (countR l at_ err).1 ∧ Rd H' b l (countR l at_ err).2.1 (countR l at_ err).2.2 g ∧ Fr [b] H H' := by
  obtain ⟨item, h⟩ := h
  refine calls_of_vc (args := [_]) Try.func66 c66ok (Nat.le_of_ble_eq_true rfl) ?_
  simp (implicitDefEqProofs := false) only [go_sem, c66]
  refine (begin_ok h).mono ?_
  rintro v H1 ⟨rfl, h1, hf1⟩
  by_cases he : err = 0
  · subst he
    rw [if_pos rfl] at h1
    simp (implicitDefEqProofs := false) only [go_sem]
    refine (number_ok h1).mono ?_
    rintro v H2 ⟨rfl, n, next, ok, rfl, hok, hn⟩
    obtain ⟨a, c, hb, ho, hat, hit, hl⟩ := h1
    have hc := hb.cell
    rcases hnum : num (l.drop at_) with _ | ⟨m, k⟩
    · rw [hnum] at hok
      cases hok
      simp (implicitDefEqProofs := false) only [go_sem, hc]
      refine Sto_one hb (by simp) rfl fun H3 hb3 hf3 hs3 => ?_
      simp (implicitDefEqProofs := false) only [go_sem, countR, hnum]
      first | exact ⟨rfl, ⟨at_, RdB.upd hb ho hb3 hf3 hat (Nat.le_refl _) hl⟩, hf1.trans hf3⟩ | exact ⟨⟨at_, RdB.upd hb ho hb3 hf3 hat (Nat.le_refl _) hl⟩, hf1.trans hf3⟩
    · rw [hnum] at hok
      cases hok
      obtain ⟨rfl, rfl⟩ := hn _ _ hnum
      have hbd := num_bound hnum
      simp only [List.length_drop] at hbd
      have hcn := count_num (n := n) (k := k) (at_ := at_) hl hbd.1 (by omega)
      by_cases hle : at_ + k + n ≤ l.length
      · have hcn' : ¬ (IntKind.u64.wrap (IntKind.i64.wrap ((l.length : Int) - ((at_ + k : Nat) : Int))) < (n : Int)) := by rw [hcn]; exact not_not_intro hle
        have hw : IntKind.i64.wrap (n : Int) = (n : Int) := wrap_i64_id _ (by omega) (by omega)
        simp (implicitDefEqProofs := false) only [go_sem, hc, hcn', hw]
        refine Sto_one hb (by simp) rfl fun H3 hb3 hf3 hs3 => ?_
        simp (implicitDefEqProofs := false) only [go_sem, countR, hnum, hle]
        exact ⟨by rw [hw], ⟨_, RdB.upd hb ho hb3 hf3 (by omega) (by omega) hl⟩, hf1.trans hf3⟩
      · have hle' := hle
        rw [← hcn] at hle
        simp (implicitDefEqProofs := false) only [go_sem, hc, hle]
        refine Sto_one hb (by simp) rfl fun H3 hb3 hf3 hs3 => ?_
        simp (implicitDefEqProofs := false) only [go_sem, countR, hnum, hle']
        first | exact ⟨rfl, ⟨at_, RdB.upd hb ho hb3 hf3 hat (Nat.le_refl _) hl⟩, hf1.trans hf3⟩ | exact ⟨⟨at_, RdB.upd hb ho hb3 hf3 hat (Nat.le_refl _) hl⟩, hf1.trans hf3⟩
  · rw [if_neg he] at h1
    simp (implicitDefEqProofs := false) only [go_sem, he, countR]
    first | exact ⟨rfl, ⟨item, h1⟩, hf1⟩ | exact ⟨⟨item, h1⟩, hf1⟩

theorem rerr_ok {H : Heap} {b : Nat} {l : List UInt8} {at_ err : Nat} {g : Option Nat} (h : Rd H b l at_ err g) :
    HCalls Try.prog 67 #[.pointer (some ⟨b, 0, none⟩)] H fun v H' => v = .int .i64 err ∧ H' = H := by
  obtain ⟨item, a, c, hb, ho, hat, hit, hl⟩ := h
  have hc := hb.cell
  refine calls_of_vc (args := [_]) Try.func67 c67ok (Nat.le_of_ble_eq_true rfl) ?_
  simp (implicitDefEqProofs := false) only [go_sem, c67, hc]


theorem rleft_ok {H : Heap} {b : Nat} {l : List UInt8} {at_ err : Nat} {g : Option Nat} (h : Rd H b l at_ err g) :
    HCalls Try.prog 69 #[.pointer (some ⟨b, 0, none⟩)] H fun v H' => v = .int .i64 ((l.length - at_ : Nat) : Int) ∧ H' = H := by
  obtain ⟨item, a, c, hb, ho, hat, hit, hl⟩ := h
  have hc := hb.cell
  have hw : IntKind.i64.wrap ((l.length : Int) - (at_ : Int)) = ((l.length - at_ : Nat) : Int) := by rw [wrap_i64_id _ (by omega) (by omega)]; omega
  refine calls_of_vc (args := [_]) Try.func69 c69ok (Nat.le_of_ble_eq_true rfl) ?_
  simp (implicitDefEqProofs := false) only [go_sem, c69, hc, hw]

theorem rend_ok {H : Heap} {b : Nat} {l : List UInt8} {at_ err : Nat} {g : Option Nat} (h : Rd H b l at_ err g) :
    HCalls Try.prog 43 #[.pointer (some ⟨b, 0, none⟩)] H fun v H' => v = .int .i64 (if err = 0 ∧ at_ < l.length then 2 else err) ∧ H' = H := by
  refine calls_of_vc (args := [_]) Try.func43 c43ok (Nat.le_of_ble_eq_true rfl) ?_
  have h' := h
  obtain ⟨item, a, c, hb, ho, hat, hit, hl⟩ := h
  have hc := hb.cell
  by_cases he : err = 0
  · subst he
    have e0 : ((0 : Nat) : Int) = 0 := rfl
    simp (implicitDefEqProofs := false) only [go_sem, c43, hc, e0]
    refine (rleft_ok h').mono ?_
    rintro v H1 ⟨rfl, rfl⟩
    by_cases hlt : at_ < l.length
    · have h2 : (0 : Int) < ((l.length - at_ : Nat) : Int) := by omega
      simp (implicitDefEqProofs := false) only [go_sem, h2, hlt, hc]
    · have h2 : ¬ (0 : Int) < ((l.length - at_ : Nat) : Int) := by omega
      simp (implicitDefEqProofs := false) only [go_sem, h2, hlt, hc, and_false, e0]
  · have he' : ¬ (err : Int) = 0 := by omega
    simp (implicitDefEqProofs := false) only [go_sem, c43, hc, he', he, false_and]

theorem new_ok {H : Heap} {l : List UInt8} {a : Option Addr} {c : Nat} (hx : BsR H a l) (hl : l.length < 2^38) :
    HCalls Try.prog 41 #[.slice a l.length c] H fun v H' => ∃ b g, v = .pointer (some ⟨b, 0, none⟩) ∧ Rd H' b l 0 0 g ∧ Fr [] H H' ∧ H.size ≤ b ∧ (∀ k, g = some k → H.size ≤ k) := by
  refine calls_of_vc (args := [_]) Try.func41 c41ok (Nat.le_of_ble_eq_true rfl) ?_
  simp (implicitDefEqProofs := false) only [go_sem, c41]
  refine NewS_intro fun H1 hn1 hf1 hs1 => ?_
  simp (implicitDefEqProofs := false) only [go_sem]
  refine App_own EB (Own.of_blk hn1 (by simp) (by decide)) ((hx.ext hf1).src Try.underlying36) (by unfold maxLen; omega) (by omega) fun a2 c2 H2 g2 ho2 hf2 hg2 => ?_
  simp (implicitDefEqProofs := false) only [go_sem]
  refine NewP_intro fun H3 hb3 hf3 hs3 => ?_
  simp (implicitDefEqProofs := false) only [go_sem]
  have h3 := hf1.size
  have h4 := hf2.size
  have hg3 : ∀ k, g2 = some k → H.size ≤ k := by
    intro j hj
    rcases hg2 j hj with h | h
    · simp at h; omega
    · omega
  refine ⟨H2.size, g2, rfl, ⟨0, a2, c2, by simpa using hb3, by simpa using (ho2.fr hf3 (by simp)), by omega, by omega, by omega⟩, (hf1.trans' hf2 (by simp)).trans' hf3 (by simp), by omega, hg3⟩

end Go.Proofs.Ytcilkhjadljaaaa
end
section
/- Numbers in groups of seven bits: plain facts. -/
set_option linter.unusedSimpArgs false
set_option linter.unusedVariables false
set_option maxRecDepth 8000
namespace Go.Proofs.Ytcilkhjadljaaaa
open Gx Go

theorem encF_mono : ∀ (f n m : Nat), n ≤ m → (encF f n).length ≤ (encF f m).length
  | 0, _, _, _ => by simp [encF]
  | f+1, n, m, h => by
    simp only [encF]
    split
    · split <;> simp
    · rw [if_neg (by omega)]
      simp only [List.length_cons]
      exact Nat.succ_le_succ (encF_mono f _ _ (Nat.div_le_div_right h))

theorem numG_enc (r : List UInt8) : ∀ (f m i acc : Nat), m < 128^f → f + i = 10 → (i = 0 ∨ 0 < m) → m * 2^(7*i) < 2^64 → numG i acc (encF f m ++ r) = some (acc + m * 2^(7*i), i + (encF f m).length)
  | 0, m, i, acc, h, hf, hi, hm => by
    exfalso; simp at h; omega
  | f+1, m, i, acc, h, hf, hi, hm => by
    have hi9 : i ≤ 9 := by omega
    have h9 : i = 9 → m ≤ 1 := fun e => by
      subst e
      have : 2 * 2^(7*9) ≤ m * 2^(7*9) ∨ m < 2 := by
        rcases Nat.lt_or_ge m 2 with h | h
        · exact .inr h
        · exact .inl (Nat.mul_le_mul_right _ h)
      rcases this with h | h
      · exact absurd (Nat.lt_of_le_of_lt h hm) (by decide)
      · omega
    simp only [encF]
    split
    · rename_i hlt
      have e : (UInt8.ofNat m).toNat = m := by rw [UInt8.toNat_ofNat']; omega
      simp only [List.cons_append, List.nil_append, numG, e]
      rw [if_neg (by omega), if_neg (by omega), if_pos hlt, if_pos (by omega), Nat.mod_eq_of_lt hlt]
      rfl
    · rename_i hge
      have e : (UInt8.ofNat (m % 128 + 128)).toNat = m % 128 + 128 := by rw [UInt8.toNat_ofNat']; omega
      simp only [List.cons_append, numG, e]
      rw [if_neg (by omega), if_neg (by omega), if_neg (by omega)]
      have e2 : 2^(7*(i+1)) = 128 * 2^(7*i) := by rw [Nat.mul_add, Nat.pow_add, Nat.mul_comm]
      have e3 : m / 128 * 2^(7*(i+1)) = 128 * (m / 128) * 2^(7*i) := by rw [e2, ← Nat.mul_assoc, Nat.mul_comm (m / 128) 128]
      have e4 : m * 2^(7*i) = 128 * (m / 128) * 2^(7*i) + m % 128 * 2^(7*i) := by
        rw [← Nat.add_mul]; congr 1; omega
      rw [numG_enc r f (m / 128) (i + 1) _ (by rw [Nat.pow_succ] at h; omega) (by omega) (.inr (by omega)) (by rw [e3]; omega)]
      have e5 : (m % 128 + 128) % 128 = m % 128 := by omega
      rw [e5, e3, e4]
      simp only [List.length_cons, Option.some.injEq, Prod.mk.injEq]
      omega

theorem num_enc (n : Nat) (h : n < 2^64) (r : List UInt8) : num (enc n ++ r) = some (n, (enc n).length) := by
  have := numG_enc r 10 n 0 0 (Nat.lt_of_lt_of_le h (by decide)) rfl (.inl rfl) (by simpa using h)
  simpa [num, enc] using this

theorem uintR_at (pre r : List UInt8) (n : Nat) (h : n < 2^64) : uintR (pre ++ (enc n ++ r)) pre.length 0 = (n, pre.length + (enc n).length, 0) := by
  simp [uintR, num_enc n h]

theorem zag_zig (n : Int) : zag (zig n) = n := by
  unfold zig zag
  split <;> split <;> omega

theorem zig_zag (n : Nat) : zig (zag n) = n := by
  unfold zig zag
  split <;> split <;> omega

theorem numG_cut (r : List UInt8) : ∀ (f m i acc k : Nat), k < (encF f m).length → f + i ≤ 10 → (i = 0 ∨ 0 < m) → numG i acc ((encF f m).take k) = none
  | 0, m, i, acc, k, h, _, _ => by simp [encF] at h
  | f+1, m, i, acc, 0, _, _, _ => by simp [numG]
  | f+1, m, i, acc, k+1, h, hf, hi => by
    simp only [encF] at h ⊢
    split at h
    · simp at h
    · rename_i hge
      rw [if_neg hge]
      have e : (UInt8.ofNat (m % 128 + 128)).toNat = m % 128 + 128 := by rw [UInt8.toNat_ofNat']; omega
      simp only [List.length_cons] at h
      simp only [List.take_succ_cons, numG, e]
      split
      · rfl
      · split
        · rfl
        · rw [if_neg (by omega)]
          exact numG_cut r f (m / 128) (i + 1) _ k (by omega) (by omega) (.inr (by omega))

theorem num_cut (n k : Nat) (h : k < (enc n).length) : num ((enc n).take k) = none := numG_cut [] 10 n 0 0 k h (by omega) (.inl rfl)

/-- A number that was read stands there in its own form. -/
theorem numG_canon : ∀ (l : List UInt8) (i acc v k : Nat), numG i acc l = some (v, k) → acc < 2^(7*i) → ∃ m, v = acc + m * 2^(7*i) ∧ (i = 0 ∨ 0 < m) ∧ m < 128^(k - i) ∧ i < k ∧ k ≤ 10 ∧ ∀ f, k ≤ i + f → l.take (k - i) = encF f m
  | [], i, acc, v, k, h, _ => by simp [numG] at h
  | b :: r, i, acc, v, k, h, hacc => by
    have hpow : acc + (b.toNat % 128) * 2^(7*i) < 2^(7*(i+1)) := by
      have e : 2^(7*(i+1)) = 128 * 2^(7*i) := by rw [Nat.mul_add, Nat.pow_add, Nat.mul_comm]
      have hb : b.toNat % 128 < 128 := Nat.mod_lt _ (by decide)
      rw [e]
      have : (b.toNat % 128) * 2^(7*i) ≤ 127 * 2^(7*i) := Nat.mul_le_mul_right _ (by omega)
      omega
    simp only [numG] at h
    split at h
    · cases h
    rename_i hi10
    split at h
    · cases h
    split at h
    · rename_i hlt
      split at h
      · rename_i hnz
        simp only [Option.some.injEq, Prod.mk.injEq] at h
        obtain ⟨rfl, rfl⟩ := h
        refine ⟨b.toNat, by rw [Nat.mod_eq_of_lt hlt], by omega, by rw [show i + 1 - i = 1 by omega]; simpa using hlt, by omega, by omega, fun f hf => ?_⟩
        obtain ⟨f', rfl⟩ : ∃ f', f = f' + 1 := ⟨f - 1, by omega⟩
        rw [show i + 1 - i = 1 by omega]
        simp only [encF, if_pos hlt, List.take_succ_cons, List.take_zero]
        congr 1
        exact (UInt8.ofNat_toNat).symm
      · cases h
    · rename_i hge
      obtain ⟨m, rfl, hm, hmk, hik, hk10, hf⟩ := numG_canon r (i + 1) _ v k h hpow
      have hm0 : 0 < m := by omega
      have e2 : 2^(7*(i+1)) = 128 * 2^(7*i) := by rw [Nat.mul_add, Nat.pow_add, Nat.mul_comm]
      refine ⟨b.toNat % 128 + 128 * m, ?_, by omega, ?_, by omega, hk10, fun f hfk => ?_⟩
      · rw [e2, Nat.add_mul, ← Nat.mul_assoc, Nat.mul_comm m 128]; omega
      · rw [show k - i = (k - (i + 1)) + 1 by omega, Nat.pow_succ]
        have hb : b.toNat % 128 < 128 := Nat.mod_lt _ (by decide)
        omega
      · obtain ⟨f', rfl⟩ : ∃ f', f = f' + 1 := ⟨f - 1, by omega⟩
        rw [show k - i = (k - (i + 1)) + 1 by omega]
        simp only [encF, if_neg (show ¬ b.toNat % 128 + 128 * m < 128 by omega), List.take_succ_cons]
        rw [show (b.toNat % 128 + 128 * m) / 128 = m by omega, hf f' (by omega)]
        congr 1
        have hb := b.toNat_lt
        rw [show (b.toNat % 128 + 128 * m) % 128 + 128 = b.toNat by omega]
        exact (UInt8.ofNat_toNat).symm

theorem num_canon {l : List UInt8} {v k : Nat} (h : num l = some (v, k)) : l.take k = enc v := by
  obtain ⟨m, e, _, _, _, hk, hf⟩ := numG_canon l 0 0 v k h (by decide)
  have : v = m := by simpa using e
  subst this
  exact hf 10 (by omega)


theorem len_encF : ∀ (g f n : Nat), n < 128^f → 1 ≤ f → (encF g n).length ≤ f
  | 0, f, n, _, h => by simp [encF]
  | g+1, f, n, hn, h => by
    simp only [encF]
    split
    · simpa using h
    · rename_i hge
      obtain ⟨f', rfl⟩ : ∃ f', f = f' + 1 := ⟨f - 1, by omega⟩
      rw [Nat.pow_succ] at hn
      have h1 : 1 ≤ f' := by
        rcases Nat.eq_zero_or_pos f' with h0 | h0
        · subst h0; simp at hn; omega
        · exact h0
      have := len_encF g f' (n / 128) (by omega) h1
      simp; omega
theorem len_enc {n f : Nat} (h : n < 128^f) (h1 : 1 ≤ f) : (enc n).length ≤ f := len_encF 10 f n h h1
theorem len_enc_pos (n : Nat) : 1 ≤ (enc n).length := by
  unfold enc encF; split <;> simp
end Go.Proofs.Ytcilkhjadljaaaa
end
section
/- The Reader, said with an optional place: none once a read has failed. -/
set_option linter.unusedSimpArgs false
set_option linter.unusedVariables false
set_option maxRecDepth 8000
namespace Go.Proofs.Ytcilkhjadljaaaa
open Gx Go

abbrev Pl := Option Nat
def RdO (H : Heap) (b : Nat) (L : List UInt8) (s : Pl) (g : Option Nat) : Prop :=
  match s with
  | some p => Rd H b L p 0 g
  | none => ∃ p, Rd H b L p 2 g

theorem RdO.fr {M : List Nat} {H H' : Heap} {b : Nat} {L : List UInt8} {s : Pl} {g : Option Nat} (h : RdO H b L s g) (hf : Fr M H H') (hb : b ∉ M) (hg : ∀ k, g = some k → k ∉ M) : RdO H' b L s g := by
  cases s with
  | some p => exact Rd.fr h hf hb hg
  | none => obtain ⟨p, h⟩ := h; exact ⟨p, Rd.fr h hf hb hg⟩
theorem RdO.ext {H H' : Heap} {b : Nat} {L : List UInt8} {s : Pl} {g : Option Nat} (h : RdO H b L s g) (hf : Fr [] H H') : RdO H' b L s g := h.fr hf (by simp) (by simp)
theorem RdO.lt {H : Heap} {b : Nat} {L : List UInt8} {s : Pl} {g : Option Nat} (h : RdO H b L s g) : b < H.size := by
  cases s with
  | some p => exact Rd.lt h
  | none => obtain ⟨p, h⟩ := h; exact h.lt
theorem RdO.ltg {H : Heap} {b : Nat} {L : List UInt8} {s : Pl} {g : Option Nat} (h : RdO H b L s g) {k : Nat} (hk : g = some k) : k < H.size := by
  cases s with
  | some p => exact Rd.ltg h hk
  | none => obtain ⟨p, h⟩ := h; exact h.ltg hk
theorem RdO.len {H : Heap} {b : Nat} {L : List UInt8} {s : Pl} {g : Option Nat} (h : RdO H b L s g) : L.length < 2^40 := by
  cases s with
  | some p => obtain ⟨i, a, c, _, _, _, _, h5⟩ := h; exact h5
  | none => obtain ⟨p, i, a, c, _, _, _, _, h5⟩ := h; exact h5
theorem RdO.place {H : Heap} {b : Nat} {L : List UInt8} {p : Nat} {g : Option Nat} (h : RdO H b L (some p) g) : p ≤ L.length := by
  obtain ⟨i, a, c, _, _, h3, _, _⟩ := h; exact h3

def uintO (L : List UInt8) : Pl → Nat × Pl
  | some p => match num (L.drop p) with
    | some (n, k) => (n, some (p + k))
    | none => (0, none)
  | none => (0, none)
def boolO (L : List UInt8) : Pl → Bool × Pl
  | some p => match L.drop p with
    | x :: _ => if 1 < x.toNat then (false, none) else (x.toNat == 1, some (p + 1))
    | [] => (false, none)
  | none => (false, none)
def bytesO (L : List UInt8) : Pl → List UInt8 × Pl
  | some p => match num (L.drop p) with
    | some (n, k) => if p + k + n ≤ L.length then ((L.drop (p + k)).take n, some (p + k + n)) else ([], none)
    | none => ([], none)
  | none => ([], none)
def countO (L : List UInt8) : Pl → Nat × Pl
  | some p => match num (L.drop p) with
    | some (n, k) => if p + k + n ≤ L.length then (n, some (p + k)) else (0, none)
    | none => (0, none)
  | none => (0, none)

theorem uintO_lt (L : List UInt8) (s : Pl) : (uintO L s).1 < 2^64 := by
  unfold uintO
  split
  · split
    · rename_i h; exact (num_bound h).1
    · exact Nat.two_pow_pos 64
  · exact Nat.two_pow_pos 64
theorem countO_le (L : List UInt8) (s : Pl) : (countO L s).1 ≤ L.length := by
  unfold countO
  split
  · split
    · split
      · show _ ≤ _; omega
      · exact Nat.zero_le _
    · exact Nat.zero_le _
  · exact Nat.zero_le _

section
variable {H : Heap} {b : Nat} {L : List UInt8} {s : Pl} {g : Option Nat}
theorem ruint_o (h : RdO H b L s g) : HCalls Try.prog 62 #[.pointer (some ⟨b, 0, none⟩)] H fun v H' => v = .int .u64 (uintO L s).1 ∧ RdO H' b L (uintO L s).2 g ∧ Fr [b] H H' := by
  cases s with
  | some p =>
    refine (ruint_ok h).mono ?_
    rintro v H' ⟨rfl, h1, hf⟩
    unfold uintO
    simp only [uintR, if_true] at h1 ⊢
    cases hn : num (L.drop p) with
    | none => rw [hn] at h1; exact ⟨rfl, ⟨p, h1⟩, hf⟩
    | some x => rw [hn] at h1; exact ⟨rfl, h1, hf⟩
  | none =>
    obtain ⟨p, h⟩ := h
    refine (ruint_ok h).mono ?_
    rintro v H' ⟨rfl, h1, hf⟩
    exact ⟨rfl, ⟨p, h1⟩, hf⟩
theorem rint_o (h : RdO H b L s g) : HCalls Try.prog 64 #[.pointer (some ⟨b, 0, none⟩)] H fun v H' => v = .int .i64 (zag (uintO L s).1) ∧ RdO H' b L (uintO L s).2 g ∧ Fr [b] H H' := by
  cases s with
  | some p =>
    refine (rint_ok h).mono ?_
    rintro v H' ⟨rfl, h1, hf⟩
    unfold uintO
    simp only [uintR, if_true] at h1 ⊢
    cases hn : num (L.drop p) with
    | none => rw [hn] at h1; exact ⟨rfl, ⟨p, h1⟩, hf⟩
    | some x => rw [hn] at h1; exact ⟨rfl, h1, hf⟩
  | none =>
    obtain ⟨p, h⟩ := h
    refine (rint_ok h).mono ?_
    rintro v H' ⟨rfl, h1, hf⟩
    exact ⟨rfl, ⟨p, h1⟩, hf⟩
theorem rbytes_o (h : RdO H b L s g) : HCalls Try.prog 86 #[.pointer (some ⟨b, 0, none⟩)] H fun v H' => ∃ a c g', v = .slice a (bytesO L s).1.length c ∧ Own H' 5 1 v (bytesO L s).1.length ((bytesO L s).1.map bv) g' ∧ (∀ k, g' = some k → H.size ≤ k) ∧ RdO H' b L (bytesO L s).2 g ∧ Fr [b] H H' := by
  cases s with
  | some p =>
    refine (rbytes_ok h).mono ?_
    rintro v H' ⟨a, c, g', e, ho, hg, h1, hf⟩
    unfold bytesO
    simp only [bytesR, if_true] at e ho h1 ⊢
    cases hn : num (L.drop p) with
    | none => rw [hn] at e ho h1; exact ⟨a, c, g', e, ho, hg, ⟨p, h1⟩, hf⟩
    | some x =>
      rw [hn] at e ho h1
      simp only at e ho h1 ⊢
      by_cases hx : p + x.2 + x.1 ≤ L.length
      · simp only [if_pos hx] at e ho h1 ⊢; exact ⟨a, c, g', e, ho, hg, h1, hf⟩
      · simp only [if_neg hx] at e ho h1 ⊢; exact ⟨a, c, g', e, ho, hg, ⟨p, h1⟩, hf⟩
  | none =>
    obtain ⟨p, h⟩ := h
    refine (rbytes_ok h).mono ?_
    rintro v H' ⟨a, c, g', e, ho, hg, h1, hf⟩
    exact ⟨a, c, g', e, ho, hg, ⟨p, h1⟩, hf⟩
theorem rtext_o (h : RdO H b L s g) : HCalls Try.prog 68 #[.pointer (some ⟨b, 0, none⟩)] H fun v H' => v = .string ⟨⟨(bytesO L s).1⟩⟩ ∧ RdO H' b L (bytesO L s).2 g ∧ Fr [b] H H' := by
  cases s with
  | some p =>
    refine (rtext_ok h).mono ?_
    rintro v H' ⟨rfl, h1, hf⟩
    unfold bytesO
    simp only [bytesR, if_true] at h1 ⊢
    cases hn : num (L.drop p) with
    | none => rw [hn] at h1; exact ⟨rfl, ⟨p, h1⟩, hf⟩
    | some x =>
      rw [hn] at h1
      simp only at h1 ⊢
      by_cases hx : p + x.2 + x.1 ≤ L.length
      · simp only [if_pos hx] at h1 ⊢; exact ⟨trivial, h1, hf⟩
      · simp only [if_neg hx] at h1 ⊢; exact ⟨trivial, ⟨p, h1⟩, hf⟩
  | none =>
    obtain ⟨p, h⟩ := h
    refine (rtext_ok h).mono ?_
    rintro v H' ⟨rfl, h1, hf⟩
    exact ⟨rfl, ⟨p, h1⟩, hf⟩
theorem rcount_o (h : RdO H b L s g) : HCalls Try.prog 66 #[.pointer (some ⟨b, 0, none⟩)] H fun v H' => v = .int .i64 (countO L s).1 ∧ RdO H' b L (countO L s).2 g ∧ Fr [b] H H' := by
  cases s with
  | some p =>
    refine (rcount_ok h).mono ?_
    rintro v H' ⟨rfl, h1, hf⟩
    unfold countO
    simp only [countR, if_true] at h1 ⊢
    cases hn : num (L.drop p) with
    | none => rw [hn] at h1; exact ⟨rfl, ⟨p, h1⟩, hf⟩
    | some x =>
      rw [hn] at h1
      simp only at h1 ⊢
      by_cases hx : p + x.2 + x.1 ≤ L.length
      · simp only [if_pos hx] at h1 ⊢; exact ⟨trivial, h1, hf⟩
      · simp only [if_neg hx] at h1 ⊢; exact ⟨trivial, ⟨p, h1⟩, hf⟩
  | none =>
    obtain ⟨p, h⟩ := h
    refine (rcount_ok h).mono ?_
    rintro v H' ⟨rfl, h1, hf⟩
    exact ⟨rfl, ⟨p, h1⟩, hf⟩
theorem rerr_o (h : RdO H b L s g) : HCalls Try.prog 67 #[.pointer (some ⟨b, 0, none⟩)] H fun v H' => v = .int .i64 (if s.isSome then 0 else 2) ∧ H' = H := by
  cases s with
  | some p => exact rerr_ok h
  | none => obtain ⟨p, h⟩ := h; exact rerr_ok h
theorem rend_o (h : RdO H b L s g) : HCalls Try.prog 43 #[.pointer (some ⟨b, 0, none⟩)] H fun v H' => v = .int .i64 (if s = some L.length then 0 else 2) ∧ H' = H := by
  cases s with
  | some p =>
    have hp := RdO.place h
    refine (rend_ok h).mono ?_
    rintro v H' ⟨rfl, he⟩
    refine ⟨?_, he⟩
    by_cases e : p = L.length
    · subst e
      rw [if_neg (by omega), if_pos rfl]; rfl
    · rw [if_pos ⟨rfl, by omega⟩, if_neg (by simpa using e)]
  | none =>
    obtain ⟨p, h⟩ := h
    refine (rend_ok h).mono ?_
    rintro v H' ⟨rfl, he⟩
    exact ⟨by simp, he⟩

theorem rfail_o (h : RdO H b L s g) : HCalls Try.prog 63 #[.pointer (some ⟨b, 0, none⟩)] H fun v H' => v = .tuple #[] ∧ RdO H' b L none g ∧ Fr [b] H H' := by
  refine calls_of_vc (args := [_]) Try.func63 c63ok (Nat.le_of_ble_eq_true rfl) ?_
  cases s with
  | some p =>
    obtain ⟨item, a, c, hb, ho, hat, hit, hl⟩ := h
    have hc := hb.cell
    have e0 : ((0 : Nat) : Int) = 0 := rfl
    simp (implicitDefEqProofs := false) only [go_sem, c63, hc, e0]
    refine Sto_one hb (by simp) rfl fun H3 hb3 hf3 hs3 => ?_
    have hr3 := RdB.upd hb ho hb3 hf3 hat hit hl
    have hc3 := hb3.cell
    simp (implicitDefEqProofs := false) only [go_sem, hc3]
    refine Sto_one hb3 (by simp) rfl fun H4 hb4 hf4 hs4 => ?_
    obtain ⟨a3, c3, hb3', ho3, _⟩ := hr3
    have e := (hb3'.cell 0).symm.trans (hb3.cell 0)
    simp at e
    obtain ⟨rfl, rfl⟩ := e
    simp (implicitDefEqProofs := false) only [go_sem]
    exact ⟨⟨item, item, RdB.upd hb3 ho3 hb4 hf4 (by omega) (Nat.le_refl _) hl⟩, hf3.trans hf4⟩
  | none =>
    obtain ⟨p, item, a, c, hb, ho, hat, hit, hl⟩ := h
    have hc := hb.cell
    have e0 : ((2 : Nat) : Int) = 2 := rfl
    simp (implicitDefEqProofs := false) only [go_sem, c63, hc, e0]
    exact ⟨⟨p, item, a, c, hb, ho, hat, hit, hl⟩, Fr.refl _ _⟩
end
end Go.Proofs.Ytcilkhjadljaaaa
end
section
/- Descriptions of lattices as data, and how they lie in memory. -/
set_option linter.unusedSimpArgs false
set_option linter.unusedVariables false
set_option maxRecDepth 8000
namespace Go.Proofs.Ytcilkhjadljaaaa
open Gx Go

abbrev Bs := List UInt8
def sv (s : Bs) : Value := .string ⟨⟨s⟩⟩
theorem ba_eq (a b : Bs) : ((⟨⟨a⟩⟩ : ByteArray) = ⟨⟨b⟩⟩) = (a = b) := by
  apply propext
  constructor
  · intro h
    have := congrArg (fun x => x.data.toList) h
    simpa using this
  · rintro rfl; rfl
theorem ba_size (a : Bs) : ByteArray.size ⟨⟨a⟩⟩ = a.length := rfl

structure Rl where
  ifs : List Bs
  thn : Bs
  deriving DecidableEq

inductive Lt where
  | mk (kind lo hi : Int) (names : List Bs) (parts : List Lt) (rules : List Rl)
namespace Lt
def kind : Lt → Int | .mk k _ _ _ _ _ => k
def lo : Lt → Int | .mk _ x _ _ _ _ => x
def hi : Lt → Int | .mk _ _ x _ _ _ => x
def names : Lt → List Bs | .mk _ _ _ x _ _ => x
def parts : Lt → List Lt | .mk _ _ _ _ x _ => x
def rules : Lt → List Rl | .mk _ _ _ _ _ x => x
end Lt

def strC (s : Bs) : List Value := [sv s]
def strD (s : Bs) : Dat := .v (sv s)
def strsD (l : List Bs) : Dat := .list 1 (l.map strD)
def ruleD (r : Rl) : Dat := .agg [strsD r.ifs, strD r.thn]
def rulesD (l : List Rl) : Dat := .list 2 (l.map ruleD)
mutual
def Lt.dat : Lt → Dat
  | .mk k lo hi ns ps rs => .agg [.v (.int .i64 k), .v (.int .i64 lo), .v (.int .i64 hi), strsD ns, .list 6 (Lt.dats ps), rulesD rs]
def Lt.dats : List Lt → List Dat
  | [] => []
  | p :: ps => p.dat :: Lt.dats ps
end
theorem Lt.dats_eq : ∀ l : List Lt, Lt.dats l = l.map Lt.dat
  | [] => by simp [Lt.dats]
  | p :: l => by simp [Lt.dats, Lt.dats_eq l]
def partsD (l : List Lt) : Dat := .list 6 (l.map Lt.dat)

mutual
def Lt.sz : Lt → Nat
  | .mk _ _ _ _ ps _ => 1 + Lt.szs ps
def Lt.szs : List Lt → Nat
  | [] => 0
  | p :: ps => p.sz + Lt.szs ps
end
theorem Lt.sz_get : ∀ (ps : List Lt) (j : Nat) (h : j < ps.length), ps[j].sz ≤ Lt.szs ps
  | p :: ps, 0, _ => by simp [Lt.szs]
  | p :: ps, j + 1, h => by
    have := Lt.sz_get ps j (by simpa using h)
    simp [Lt.szs]; omega
theorem Lt.sz_part (l : Lt) (j : Nat) (h : j < l.parts.length) : l.parts[j].sz < l.sz := by
  obtain ⟨k, lo, hi, ns, ps, rs⟩ := l
  have := Lt.sz_get ps j h
  simp only [Lt.parts, Lt.sz]; omega

section
variable {H H' : Heap} {M : List Nat}
abbrev LtA (H : Heap) (M : List Nat) (l : Lt) (cs : List Value) : Prop := Rep H M l.dat cs
abbrev StrsA (H : Heap) (M : List Nat) (l : List Bs) (v : Value) : Prop := Rep H M (strsD l) [v]
abbrev PartsA (H : Heap) (M : List Nat) (l : List Lt) (v : Value) : Prop := Rep H M (partsD l) [v]
abbrev RulesA (H : Heap) (M : List Nat) (l : List Rl) (v : Value) : Prop := Rep H M (rulesD l) [v]

theorem rep_v {x : Value} {cs : List Value} (h : Rep H M (.v x) cs) : cs = [x] := by simpa [Rep] using h
theorem rep_list1 {m : Nat} {l : List Dat} {cs : List Value} (h : Rep H M (.list m l) cs) : ∃ v, cs = [v] ∧ Rep H M (.list m l) [v] := by
  have h' := h
  simp only [Rep] at h
  obtain ⟨a, c, css, h1, _⟩ := h
  subst h1
  exact ⟨_, rfl, h'⟩
theorem reps_cons {d : Dat} {ds : List Dat} {css : List (List Value)} (h : Reps H M (d :: ds) css) : ∃ x xs, css = x :: xs ∧ Rep H M d x ∧ Reps H M ds xs := by simpa [Reps] using h
theorem reps_nil {css : List (List Value)} (h : Reps H M [] css) : css = [] := by simpa [Reps] using h

theorem rep_v' (x : Value) : Rep H M (.v x) [x] := by simp [Rep]
theorem reps_mk {d : Dat} {ds : List Dat} {x : List Value} {xs : List (List Value)} (h : Rep H M d x) (hs : Reps H M ds xs) : Reps H M (d :: ds) (x :: xs) := by
  simp only [Reps]; exact ⟨x, xs, rfl, h, hs⟩
theorem reps_nil' : Reps H M [] [] := by simp [Reps]
theorem rep_agg {l : List Dat} {css : List (List Value)} {cs : List Value} (h : Reps H M l css) (hc : css.flatten = cs) : Rep H M (.agg l) cs := by
  simp only [Rep]; exact ⟨css, hc.symm, h⟩

theorem LtA.open {l : Lt} {cs : List Value} (h : LtA H M l cs) : ∃ vn vp vr, cs = [.int .i64 l.kind, .int .i64 l.lo, .int .i64 l.hi, vn, vp, vr] ∧ StrsA H M l.names vn ∧ PartsA H M l.parts vp ∧ RulesA H M l.rules vr := by
  obtain ⟨k, lo, hi, ns, ps, rs⟩ := l
  unfold LtA at h
  simp only [Lt.dat, Rep] at h
  obtain ⟨css, rfl, h⟩ := h
  obtain ⟨x0, s0, rfl, h0, h⟩ := reps_cons h
  obtain ⟨x1, s1, rfl, h1, h⟩ := reps_cons h
  obtain ⟨x2, s2, rfl, h2, h⟩ := reps_cons h
  obtain ⟨x3, s3, rfl, h3, h⟩ := reps_cons h
  obtain ⟨x4, s4, rfl, h4, h⟩ := reps_cons h
  obtain ⟨x5, s5, rfl, h5, h⟩ := reps_cons h
  cases reps_nil h
  cases rep_v h0; cases rep_v h1; cases rep_v h2
  obtain ⟨v3, rfl, h3⟩ := rep_list1 h3
  rw [Lt.dats_eq] at h4
  obtain ⟨v4, rfl, h4⟩ := rep_list1 h4
  obtain ⟨v5, rfl, h5⟩ := rep_list1 h5
  exact ⟨v3, v4, v5, rfl, h3, h4, h5⟩
theorem LtA.mk {l : Lt} {vn vp vr : Value} (h3 : StrsA H M l.names vn) (h4 : PartsA H M l.parts vp) (h5 : RulesA H M l.rules vr) : LtA H M l [.int .i64 l.kind, .int .i64 l.lo, .int .i64 l.hi, vn, vp, vr] := by
  obtain ⟨k, lo, hi, ns, ps, rs⟩ := l
  unfold LtA
  simp only [Lt.dat, Lt.dats_eq]
  exact rep_agg (reps_mk (rep_v' _) (reps_mk (rep_v' _) (reps_mk (rep_v' _) (reps_mk h3 (reps_mk h4 (reps_mk h5 reps_nil')))))) rfl
theorem RlA.open {r : Rl} {cs : List Value} (h : Rep H M (ruleD r) cs) : ∃ vi, cs = [vi, sv r.thn] ∧ StrsA H M r.ifs vi := by
  simp only [ruleD, Rep] at h
  obtain ⟨css, rfl, h⟩ := h
  obtain ⟨x0, s0, rfl, h0, h⟩ := reps_cons h
  obtain ⟨x1, s1, rfl, h1, h⟩ := reps_cons h
  cases reps_nil h
  cases rep_v h1
  obtain ⟨v0, rfl, h0⟩ := rep_list1 h0
  exact ⟨v0, rfl, h0⟩
theorem RlA.mk {r : Rl} {vi : Value} (h : StrsA H M r.ifs vi) : Rep H M (ruleD r) [vi, sv r.thn] := by
  exact rep_agg (reps_mk h (reps_mk (rep_v' _) reps_nil')) rfl

theorem strD_row (x : Bs) (cs : List Value) (h : Rep H M (strD x) cs) : cs = strC x := rep_v h
/-- A list of strings as a row. -/
theorem StrsA.row {l : List Bs} {v : Value} (h : StrsA H M l v) : ∃ a c, v = .slice a l.length c ∧ l.length ≤ c ∧ c ≤ maxLen ∧ RowR strC H a l := Rep.row strD_row h
theorem strC_len (x : Bs) : (strC x).length = 1 := rfl

theorem PartsA.slice {l : List Lt} {v : Value} (h : PartsA H M l v) : ∃ a c, v = .slice a l.length c ∧ l.length ≤ c ∧ c ≤ maxLen := by
  obtain ⟨a, c, h1, h2, h3⟩ := Rep.slice h
  simp only [List.length_map] at h1 h2
  exact ⟨a, c, h1, h2, h3⟩
theorem RulesA.slice {l : List Rl} {v : Value} (h : RulesA H M l v) : ∃ a c, v = .slice a l.length c ∧ l.length ≤ c ∧ c ≤ maxLen := by
  obtain ⟨a, c, h1, h2, h3⟩ := Rep.slice h
  simp only [List.length_map] at h1 h2
  exact ⟨a, c, h1, h2, h3⟩
theorem StrsA.slice {l : List Bs} {v : Value} (h : StrsA H M l v) : ∃ a c, v = .slice a l.length c ∧ l.length ≤ c ∧ c ≤ maxLen := by
  obtain ⟨a, c, h1, h2, h3⟩ := Rep.slice h
  simp only [List.length_map] at h1 h2
  exact ⟨a, c, h1, h2, h3⟩

/-- A part, where it lies. -/
theorem PartsA.at {l : List Lt} {v : Value} (h : PartsA H M l v) (j : Nat) (hj : j < l.length) : ∃ b o c vn vp vr, v = .slice (some ⟨b, o, none⟩) l.length c ∧
    cellB H b (o + j * 6) = some (.int .i64 l[j].kind) ∧ cellB H b (o + j * 6 + 1) = some (.int .i64 l[j].lo) ∧ cellB H b (o + j * 6 + 2) = some (.int .i64 l[j].hi) ∧
    cellB H b (o + j * 6 + 3) = some vn ∧ cellB H b (o + j * 6 + 4) = some vp ∧ cellB H b (o + j * 6 + 5) = some vr ∧ LtA H M l[j] [.int .i64 l[j].kind, .int .i64 l[j].lo, .int .i64 l[j].hi, vn, vp, vr] := by
  obtain ⟨b, o, c, x, h1, h2, h3, h4, h5⟩ := Rep.at h j (by simpa using hj) (by decide)
  simp only [List.length_map, List.getElem_map] at h1 h5
  obtain ⟨vn, vp, vr, rfl, _⟩ := LtA.open h5
  exact ⟨b, o, c, vn, vp, vr, h1, h4 0 (by decide), h4 1 (by decide), h4 2 (by decide), h4 3 (by decide), h4 4 (by decide), h4 5 (by decide), h5⟩
theorem RulesA.at {l : List Rl} {v : Value} (h : RulesA H M l v) (j : Nat) (hj : j < l.length) : ∃ b o c vi, v = .slice (some ⟨b, o, none⟩) l.length c ∧
    cellB H b (o + j * 2) = some vi ∧ cellB H b (o + j * 2 + 1) = some (sv l[j].thn) ∧ StrsA H M l[j].ifs vi := by
  obtain ⟨b, o, c, x, h1, h2, h3, h4, h5⟩ := Rep.at h j (by simpa using hj) (by decide)
  simp only [List.length_map, List.getElem_map] at h1 h5
  obtain ⟨vi, rfl, h6⟩ := RlA.open h5
  exact ⟨b, o, c, vi, h1, h4 0 (by decide), h4 1 (by decide), h6⟩
theorem StrsA.at {l : List Bs} {v : Value} (h : StrsA H M l v) (j : Nat) (hj : j < l.length) : ∃ b o c, v = .slice (some ⟨b, o, none⟩) l.length c ∧ cellB H b (o + j) = some (.string ⟨⟨l[j]⟩⟩) := by
  obtain ⟨b, o, c, x, h1, h2, h3, h4, h5⟩ := Rep.at h j (by simpa using hj) (by decide)
  simp only [List.length_map, List.getElem_map] at h1 h5
  have := h4 0 (by decide)
  rw [strD_row _ _ h5] at this
  exact ⟨b, o, c, h1, by simpa [strC, sv] using this⟩
end

theorem Rep.one1 {H : Heap} {M : List Nat} {m : Nat} {l : List Dat} {v : Value} (h : Rep H M (.list m l) [v]) : v.oneCell' = true := by
  obtain ⟨a, c, rfl, _⟩ := Rep.slice h; rfl
theorem one2 {a b : Value} (h1 : a.oneCell' = true) (h2 : b.oneCell' = true) : ∀ v ∈ [a, b], v.oneCell' = true := by simp [h1, h2]
theorem one6 {k lo hi : Int} {a b c : Value} (h1 : a.oneCell' = true) (h2 : b.oneCell' = true) (h3 : c.oneCell' = true) : ∀ v ∈ [Value.int .i64 k, .int .i64 lo, .int .i64 hi, a, b, c], v.oneCell' = true := by
  intro v hv
  simp only [List.mem_cons, List.not_mem_nil, or_false] at hv
  rcases hv with rfl | rfl | rfl | rfl | rfl | rfl
  all_goals first | rfl | assumption
theorem LtA.one6 {H : Heap} {M : List Nat} {l : Lt} {vn vp vr : Value} (h : Rep H M l.dat [.int .i64 l.kind, .int .i64 l.lo, .int .i64 l.hi, vn, vp, vr]) : ∀ v ∈ [Value.int .i64 l.kind, .int .i64 l.lo, .int .i64 l.hi, vn, vp, vr], v.oneCell' = true := by
  obtain ⟨vn', vp', vr', e, h1, h2, h3⟩ := LtA.open h
  simp only [List.cons.injEq, true_and, and_true] at e
  obtain ⟨rfl, rfl, rfl⟩ := e
  exact Go.Proofs.Ytcilkhjadljaaaa.one6 (Rep.one1 h1) (Rep.one1 h2) (Rep.one1 h3)
theorem new_fr {H H1 H2 : Heap} (hf1 : Fr [] H H1) (hf2 : Fr [H.size] H1 H2) : Fr [] H H2 := hf1.trans' hf2 (by simp)

theorem succ_i64 (i n : Nat) (h : i < n) (hn : n ≤ maxLen) : IntKind.i64.wrap ((i : Int) + 1) = ((i + 1 : Nat) : Int) := by
  unfold maxLen at hn
  rw [wrap_i64_id _ (by omega) (by omega)]; omega
theorem z0 : ((0 : Nat) : Int) = 0 := rfl
theorem n1 : ((1 : Nat) : Int) = 1 := rfl
theorem n2 : ((2 : Nat) : Int) = 2 := rfl

/-! ### the same -/
def all2 {α : Type} (E : α → α → Bool) : List α → List α → Bool
  | [], [] => true
  | x :: xs, y :: ys => E x y && all2 E xs ys
  | _, _ => false
theorem all2_len {α : Type} {E : α → α → Bool} : ∀ {a b : List α}, all2 E a b = true → a.length = b.length
  | [], [], _ => rfl
  | x :: xs, y :: ys, h => by
    simp only [all2, Bool.and_eq_true] at h
    simp [all2_len h.2]
  | [], _ :: _, h => by simp [all2] at h
  | _ :: _, [], h => by simp [all2] at h
theorem all2_ne {α : Type} {E : α → α → Bool} {a b : List α} (h : a.length ≠ b.length) : all2 E a b = false := by
  cases h2 : all2 E a b with
  | false => rfl
  | true => exact absurd (all2_len h2) h
theorem all2_drop {α : Type} {E : α → α → Bool} {a b : List α} {i : Nat} (ha : i < a.length) (hb : i < b.length) : all2 E (a.drop i) (b.drop i) = (E a[i] b[i] && all2 E (a.drop (i + 1)) (b.drop (i + 1))) := by
  rw [List.drop_eq_getElem_cons ha, List.drop_eq_getElem_cons hb]; rfl
theorem all2_eq {α : Type} [DecidableEq α] : ∀ (a b : List α), all2 (fun x y => decide (x = y)) a b = decide (a = b)
  | [], [] => rfl
  | x :: xs, y :: ys => by
    simp only [all2, all2_eq xs ys, List.cons.injEq, Bool.decide_and]
  | [], _ :: _ => by simp [all2]
  | _ :: _, [] => by simp [all2]

mutual
def eqT : Lt → Lt → Bool
  | .mk k lo hi ns ps rs, .mk k' lo' hi' ns' ps' rs' => decide (k = k') && (decide (lo = lo') && (decide (hi = hi') && (decide (ns = ns') && (decide (rs = rs') && eqTs ps ps'))))
def eqTs : List Lt → List Lt → Bool
  | [], [] => true
  | x :: xs, y :: ys => eqT x y && eqTs xs ys
  | [], _ :: _ => false
  | _ :: _, [] => false
end
theorem eqTs_all2 : ∀ (a b : List Lt), eqTs a b = all2 eqT a b
  | [], [] => by simp [eqTs, all2]
  | x :: xs, y :: ys => by simp [eqTs, all2, eqTs_all2 xs ys]
  | [], _ :: _ => by simp [eqTs, all2]
  | _ :: _, [] => by simp [eqTs, all2]
theorem eqT_open (a b : Lt) : eqT a b = (decide (a.kind = b.kind) && (decide (a.lo = b.lo) && (decide (a.hi = b.hi) && (decide (a.names = b.names) && (decide (a.rules = b.rules) && all2 eqT a.parts b.parts))))) := by
  obtain ⟨k, lo, hi, ns, ps, rs⟩ := a
  obtain ⟨k', lo', hi', ns', ps', rs'⟩ := b
  simp only [eqT, eqTs_all2]
  rfl
mutual
theorem eqT_iff : ∀ (a b : Lt), eqT a b = true ↔ a = b
  | .mk k lo hi ns ps rs, .mk k' lo' hi' ns' ps' rs' => by
    simp only [eqT, Bool.and_eq_true, decide_eq_true_eq, eqTs_iff ps ps', Lt.mk.injEq]
    constructor
    · rintro ⟨h1, h2, h3, h4, h5, h6⟩; exact ⟨h1, h2, h3, h4, h6, h5⟩
    · rintro ⟨h1, h2, h3, h4, h5, h6⟩; exact ⟨h1, h2, h3, h4, h6, h5⟩
theorem eqTs_iff : ∀ (a b : List Lt), eqTs a b = true ↔ a = b
  | [], [] => by simp [eqTs]
  | x :: xs, y :: ys => by simp only [eqTs, Bool.and_eq_true, eqT_iff x y, eqTs_iff xs ys, List.cons.injEq]
  | [], _ :: _ => by simp [eqTs]
  | _ :: _, [] => by simp [eqTs]
end
theorem eqT_refl (a : Lt) : eqT a a = true := (eqT_iff a a).2 rfl
theorem eqT_comm (a b : Lt) : eqT a b = eqT b a := by
  rw [Bool.eq_iff_iff, eqT_iff, eqT_iff]
  exact ⟨Eq.symm, Eq.symm⟩
end Go.Proofs.Ytcilkhjadljaaaa
end
