/- Generated: the stripped code of Go functions, each held against the loaded program. -/
import Derived.Test.YtpoimkhfofpafaaProg
import Derived.Test.YtpoimkhfofpafaaGx13
namespace Go.Proofs.Ytpoimkhfofpafaa
open Gx Go

/- plexuslaw07.ClockIncs -/
@[go_sem] def c3k : List Nat := [0, 1, 4, 5, 6, 7, 8, 10, 12]
@[go_sem] def c3r0 : List GOp := [(.op none (some 4) (.v (.mv (.const (.bool false)))))]
@[go_sem] def c3r1 : List GOp := [(.op none (some 9) (.call 12 [])),
  (.op none (some 10) (.v (.un .not (.tmp 9))))]
@[go_sem] def c3r2 : List GOp := [(.op none (some 4) (.v (.mv (.const (.bool false)))))]
def c3s3 : SCode := (.seq (.ops c3r2 c3k) .ret)
@[go_sem] theorem c3s3eq (P : Program) (ρ : Env) (H : Heap) (Q : Post) : vc P c3s3 ρ H Q = vc P (.seq (.ops c3r2 c3k) .ret) ρ H Q := rfl
def c3s4 : SCode := (.cond (.tmp 10) c3s3 .skip)
@[go_sem] theorem c3s4eq (P : Program) (ρ : Env) (H : Heap) (Q : Post) : vc P c3s4 ρ H Q = vc P (.cond (.tmp 10) c3s3 .skip) ρ H Q := rfl
@[go_sem] def c3r5 : List GOp := [(.op none (some 11) (.v (.mv (.tmp 0)))),
  (.op none (some 12) (.call 13 [(.tmp 11)]))]
@[go_sem] def c3r6 : List GOp := [(.op none (some 4) (.v (.mv (.const (.bool true)))))]
def c3s7 : SCode := (.seq (.ops c3r6 c3k) .ret)
@[go_sem] theorem c3s7eq (P : Program) (ρ : Env) (H : Heap) (Q : Post) : vc P c3s7 ρ H Q = vc P (.seq (.ops c3r6 c3k) .ret) ρ H Q := rfl
def c3s8 : SCode := (.cond (.tmp 12) c3s7 .skip)
@[go_sem] theorem c3s8eq (P : Program) (ρ : Env) (H : Heap) (Q : Post) : vc P c3s8 ρ H Q = vc P (.cond (.tmp 12) c3s7 .skip) ρ H Q := rfl
@[go_sem] def c3r9 : List GOp := [(.op none (some 14) (.v (.mv (.tmp 0)))),
  (.op none (some 15) (.v (.mv (.tmp 1)))),
  (.op none (some 16) (.call 14 [(.tmp 14), (.tmp 15)])),
  (.op none (some 13) (.v (.mv (.tmp 16)))),
  (.op none (some 17) (.v (.ext (.tmp 13) 0))),
  (.op none (some 18) (.v (.ext (.tmp 13) 1))),
  (.op none (some 5) (.v (.mv (.tmp 17)))),
  (.op none (some 6) (.v (.mv (.tmp 18))))]
@[go_sem] def c3r10 : List GOp := [(.op none (some 20) (.v (.mv (.tmp 0)))),
  (.op none (some 21) (.v (.mv (.tmp 1)))),
  (.op none (some 22) (.call 15 [(.tmp 20), (.tmp 21)])),
  (.op none (some 19) (.v (.mv (.tmp 22)))),
  (.op none (some 23) (.v (.ext (.tmp 19) 0))),
  (.op none (some 24) (.v (.ext (.tmp 19) 1))),
  (.op none (some 7) (.v (.mv (.tmp 23)))),
  (.op none (some 8) (.v (.mv (.tmp 24))))]
@[go_sem] def c3r11 : List GOp := [(.op none (some 25) (.v (.mv (.tmp 0)))),
  (.op none (some 26) (.call 16 [(.tmp 25)])),
  (.op none (some 27) (.v (.mv (.tmp 0)))),
  (.op none (some 28) (.call 17 [(.tmp 27)])),
  (.op none (some 29) (.v (.beq false (.tmp 26) (.tmp 28)))),
  (.op none (some 30) (.v (.mv (.tmp 29)))),
  (.op (some (30, true)) (some 31) (.v (.mv (.tmp 0)))),
  (.op (some (30, true)) (some 32) (.v (.mv (.tmp 1)))),
  (.op (some (30, true)) (some 33) (.call 18 [(.tmp 31), (.tmp 32)])),
  (.op (some (30, true)) (some 34) (.v (.mv (.tmp 0)))),
  (.op (some (30, true)) (some 35) (.v (.mv (.tmp 1)))),
  (.op (some (30, true)) (some 36) (.call 19 [(.tmp 34), (.tmp 35)])),
  (.sel 30 true [(37, (.v (.bin .eql (.tmp 33) (.tmp 36))))] 38 (.tmp 37) (.const (.bool false))),
  (.op none (some 39) (.v (.mv (.tmp 38)))),
  (.sel 39 true [(40, (.v (.mv (.tmp 6)))), (41, (.v (.mv (.tmp 8)))), (42, (.v (.bin .eql (.tmp 40) (.tmp 41))))] 43 (.tmp 42) (.const (.bool false))),
  (.op none (some 44) (.v (.mv (.tmp 43)))),
  (.op (some (44, true)) (some 45) (.v (.mv (.tmp 5)))),
  (.op (some (44, true)) (some 46) (.v (.mv (.tmp 7)))),
  (.op (some (44, true)) (some 47) (.call 20 [(.tmp 45), (.tmp 46)])),
  (.op none (some 48) (.v (.pick (.tmp 44) (.tmp 47) (.const (.bool false))))),
  (.op none (some 4) (.v (.mv (.tmp 48))))]
def c3s12 : SCode := (.seq (.ops c3r11 c3k) .ret)
@[go_sem] theorem c3s12eq (P : Program) (ρ : Env) (H : Heap) (Q : Post) : vc P c3s12 ρ H Q = vc P (.seq (.ops c3r11 c3k) .ret) ρ H Q := rfl
def c3s13 : SCode := (.seq (.ops c3r10 c3k) c3s12)
@[go_sem] theorem c3s13eq (P : Program) (ρ : Env) (H : Heap) (Q : Post) : vc P c3s13 ρ H Q = vc P (.seq (.ops c3r10 c3k) c3s12) ρ H Q := rfl
def c3s14 : SCode := (.seq (.ops c3r9 c3k) c3s13)
@[go_sem] theorem c3s14eq (P : Program) (ρ : Env) (H : Heap) (Q : Post) : vc P c3s14 ρ H Q = vc P (.seq (.ops c3r9 c3k) c3s13) ρ H Q := rfl
def c3s15 : SCode := (.seq (.seq (.ops c3r5 c3k) c3s8) c3s14)
@[go_sem] theorem c3s15eq (P : Program) (ρ : Env) (H : Heap) (Q : Post) : vc P c3s15 ρ H Q = vc P (.seq (.seq (.ops c3r5 c3k) c3s8) c3s14) ρ H Q := rfl
def c3s16 : SCode := (.seq (.seq (.ops c3r1 c3k) c3s4) c3s15)
@[go_sem] theorem c3s16eq (P : Program) (ρ : Env) (H : Heap) (Q : Post) : vc P c3s16 ρ H Q = vc P (.seq (.seq (.ops c3r1 c3k) c3s4) c3s15) ρ H Q := rfl
def c3 : Gx.Fn := ⟨49, c3k, (.seq (.ops c3r0 c3k) c3s16), [(.tmp 4)]⟩
theorem c3ok : stripFn Try.prog c3k Try.f3 = some c3 := by kernel_rfl

/- plexuslaw07.ClockSteps -/
@[go_sem] def c4k : List Nat := [0, 1, 2, 6, 7, 8, 10, 12, 20, 42]
@[go_sem] def c4r0 : List GOp := [(.op none (some 6) (.v (.mv (.const (.bool false)))))]
@[go_sem] def c4r1 : List GOp := [(.op none (some 9) (.call 12 [])),
  (.op none (some 10) (.v (.un .not (.tmp 9))))]
@[go_sem] def c4r2 : List GOp := [(.op none (some 6) (.v (.mv (.const (.bool false)))))]
def c4s3 : SCode := (.seq (.ops c4r2 c4k) .ret)
@[go_sem] theorem c4s3eq (P : Program) (ρ : Env) (H : Heap) (Q : Post) : vc P c4s3 ρ H Q = vc P (.seq (.ops c4r2 c4k) .ret) ρ H Q := rfl
def c4s4 : SCode := (.cond (.tmp 10) c4s3 .skip)
@[go_sem] theorem c4s4eq (P : Program) (ρ : Env) (H : Heap) (Q : Post) : vc P c4s4 ρ H Q = vc P (.cond (.tmp 10) c4s3 .skip) ρ H Q := rfl
@[go_sem] def c4r5 : List GOp := [(.op none (some 11) (.v (.mv (.tmp 0)))),
  (.op none (some 12) (.call 13 [(.tmp 11)]))]
@[go_sem] def c4r6 : List GOp := [(.op none (some 6) (.v (.mv (.const (.bool true)))))]
def c4s7 : SCode := (.seq (.ops c4r6 c4k) .ret)
@[go_sem] theorem c4s7eq (P : Program) (ρ : Env) (H : Heap) (Q : Post) : vc P c4s7 ρ H Q = vc P (.seq (.ops c4r6 c4k) .ret) ρ H Q := rfl
def c4s8 : SCode := (.cond (.tmp 12) c4s7 .skip)
@[go_sem] theorem c4s8eq (P : Program) (ρ : Env) (H : Heap) (Q : Post) : vc P c4s8 ρ H Q = vc P (.cond (.tmp 12) c4s7 .skip) ρ H Q := rfl
@[go_sem] def c4r9 : List GOp := [(.op none (some 14) (.v (.mv (.tmp 0)))),
  (.op none (some 15) (.v (.mv (.tmp 1)))),
  (.op none (some 16) (.call 14 [(.tmp 14), (.tmp 15)])),
  (.op none (some 13) (.v (.mv (.tmp 16)))),
  (.op none (some 17) (.v (.ext (.tmp 13) 0))),
  (.op none (some 18) (.v (.ext (.tmp 13) 1))),
  (.op none (some 7) (.v (.mv (.tmp 17)))),
  (.op none (some 8) (.v (.mv (.tmp 18))))]
@[go_sem] def c4r10 : List GOp := [(.op none (some 19) (.v (.mv (.tmp 8)))),
  (.op none (some 20) (.v (.bin .neq (.tmp 19) (.const (.int .i64 0)))))]
@[go_sem] def c4r11 : List GOp := [(.op none (some 21) (.v (.mv (.tmp 7)))),
  (.op none (some 22) (.v (.len (.tmp 21)))),
  (.op none (some 23) (.v (.bin .eql (.tmp 22) (.const (.int .i64 0))))),
  (.op none (some 6) (.v (.mv (.tmp 23))))]
def c4s12 : SCode := (.seq (.ops c4r11 c4k) .ret)
@[go_sem] theorem c4s12eq (P : Program) (ρ : Env) (H : Heap) (Q : Post) : vc P c4s12 ρ H Q = vc P (.seq (.ops c4r11 c4k) .ret) ρ H Q := rfl
def c4s13 : SCode := (.cond (.tmp 20) c4s12 .skip)
@[go_sem] theorem c4s13eq (P : Program) (ρ : Env) (H : Heap) (Q : Post) : vc P c4s13 ρ H Q = vc P (.cond (.tmp 20) c4s12 .skip) ρ H Q := rfl
@[go_sem] def c4r14 : List GOp := [(.op none (some 24) (.v (.mv (.tmp 7)))),
  (.op none (some 25) (.call 16 [(.tmp 24)])),
  (.op none (some 26) (.v (.un .not (.tmp 25)))),
  (.op none (some 27) (.v (.mv (.tmp 26)))),
  (.op (some (27, false)) (some 28) (.v (.mv (.tmp 0)))),
  (.op (some (27, false)) (some 29) (.v (.mv (.tmp 7)))),
  (.op (some (27, false)) (some 30) (.call 21 [(.tmp 28), (.tmp 29)])),
  (.sel 27 false [(31, (.v (.bin .neq (.tmp 30) (.const (.int .i64 1)))))] 32 (.const (.bool true)) (.tmp 31)),
  (.op none (some 33) (.v (.mv (.tmp 32)))),
  (.op (some (33, false)) (some 34) (.v (.mv (.tmp 7)))),
  (.op (some (33, false)) (some 35) (.v (.mv (.tmp 1)))),
  (.op (some (33, false)) (some 36) (.call 18 [(.tmp 34), (.tmp 35)])),
  (.op (some (33, false)) (some 37) (.v (.bin .sub (.tmp 36) (.const (.int .i64 1))))),
  (.op (some (33, false)) (some 38) (.v (.mv (.tmp 0)))),
  (.op (some (33, false)) (some 39) (.v (.mv (.tmp 1)))),
  (.op (some (33, false)) (some 40) (.call 18 [(.tmp 38), (.tmp 39)])),
  (.sel 33 false [(41, (.v (.bin .neq (.tmp 37) (.tmp 40))))] 42 (.const (.bool true)) (.tmp 41))]
@[go_sem] def c4r15 : List GOp := [(.op none (some 6) (.v (.mv (.const (.bool false)))))]
def c4s16 : SCode := (.seq (.ops c4r15 c4k) .ret)
@[go_sem] theorem c4s16eq (P : Program) (ρ : Env) (H : Heap) (Q : Post) : vc P c4s16 ρ H Q = vc P (.seq (.ops c4r15 c4k) .ret) ρ H Q := rfl
def c4s17 : SCode := (.cond (.tmp 42) c4s16 .skip)
@[go_sem] theorem c4s17eq (P : Program) (ρ : Env) (H : Heap) (Q : Post) : vc P c4s17 ρ H Q = vc P (.cond (.tmp 42) c4s16 .skip) ρ H Q := rfl
@[go_sem] def c4r18 : List GOp := [(.op none (some 43) (.v (.mv (.tmp 1)))),
  (.op none (some 44) (.v (.mv (.tmp 2)))),
  (.op none (some 45) (.v (.bin .eql (.tmp 43) (.tmp 44)))),
  (.op none (some 46) (.v (.mv (.tmp 45)))),
  (.op (some (46, false)) (some 47) (.v (.mv (.tmp 7)))),
  (.op (some (46, false)) (some 48) (.v (.mv (.tmp 2)))),
  (.op (some (46, false)) (some 49) (.call 18 [(.tmp 47), (.tmp 48)])),
  (.op (some (46, false)) (some 50) (.v (.mv (.tmp 0)))),
  (.op (some (46, false)) (some 51) (.v (.mv (.tmp 2)))),
  (.op (some (46, false)) (some 52) (.call 18 [(.tmp 50), (.tmp 51)])),
  (.sel 46 false [(53, (.v (.bin .eql (.tmp 49) (.tmp 52))))] 54 (.const (.bool true)) (.tmp 53)),
  (.op none (some 6) (.v (.mv (.tmp 54))))]
def c4s19 : SCode := (.seq (.ops c4r18 c4k) .ret)
@[go_sem] theorem c4s19eq (P : Program) (ρ : Env) (H : Heap) (Q : Post) : vc P c4s19 ρ H Q = vc P (.seq (.ops c4r18 c4k) .ret) ρ H Q := rfl
def c4s20 : SCode := (.seq (.seq (.ops c4r14 c4k) c4s17) c4s19)
@[go_sem] theorem c4s20eq (P : Program) (ρ : Env) (H : Heap) (Q : Post) : vc P c4s20 ρ H Q = vc P (.seq (.seq (.ops c4r14 c4k) c4s17) c4s19) ρ H Q := rfl
def c4s21 : SCode := (.seq (.seq (.ops c4r10 c4k) c4s13) c4s20)
@[go_sem] theorem c4s21eq (P : Program) (ρ : Env) (H : Heap) (Q : Post) : vc P c4s21 ρ H Q = vc P (.seq (.seq (.ops c4r10 c4k) c4s13) c4s20) ρ H Q := rfl
def c4s22 : SCode := (.seq (.ops c4r9 c4k) c4s21)
@[go_sem] theorem c4s22eq (P : Program) (ρ : Env) (H : Heap) (Q : Post) : vc P c4s22 ρ H Q = vc P (.seq (.ops c4r9 c4k) c4s21) ρ H Q := rfl
def c4s23 : SCode := (.seq (.seq (.ops c4r5 c4k) c4s8) c4s22)
@[go_sem] theorem c4s23eq (P : Program) (ρ : Env) (H : Heap) (Q : Post) : vc P c4s23 ρ H Q = vc P (.seq (.seq (.ops c4r5 c4k) c4s8) c4s22) ρ H Q := rfl
def c4s24 : SCode := (.seq (.seq (.ops c4r1 c4k) c4s4) c4s23)
@[go_sem] theorem c4s24eq (P : Program) (ρ : Env) (H : Heap) (Q : Post) : vc P c4s24 ρ H Q = vc P (.seq (.seq (.ops c4r1 c4k) c4s4) c4s23) ρ H Q := rfl
def c4 : Gx.Fn := ⟨55, c4k, (.seq (.ops c4r0 c4k) c4s24), [(.tmp 6)]⟩
theorem c4ok : stripFn Try.prog c4k Try.f4 = some c4 := by kernel_rfl

/- plexuslaw07.ClockCombines -/
@[go_sem] def c5k : List Nat := [0, 1, 4, 6, 12]
@[go_sem] def c5r0 : List GOp := [(.op none (some 4) (.v (.mv (.const (.bool false)))))]
@[go_sem] def c5r1 : List GOp := [(.op none (some 5) (.call 12 [])),
  (.op none (some 6) (.v (.un .not (.tmp 5))))]
@[go_sem] def c5r2 : List GOp := [(.op none (some 4) (.v (.mv (.const (.bool false)))))]
def c5s3 : SCode := (.seq (.ops c5r2 c5k) .ret)
@[go_sem] theorem c5s3eq (P : Program) (ρ : Env) (H : Heap) (Q : Post) : vc P c5s3 ρ H Q = vc P (.seq (.ops c5r2 c5k) .ret) ρ H Q := rfl
def c5s4 : SCode := (.cond (.tmp 6) c5s3 .skip)
@[go_sem] theorem c5s4eq (P : Program) (ρ : Env) (H : Heap) (Q : Post) : vc P c5s4 ρ H Q = vc P (.cond (.tmp 6) c5s3 .skip) ρ H Q := rfl
@[go_sem] def c5r5 : List GOp := [(.op none (some 7) (.v (.mv (.tmp 0)))),
  (.op none (some 8) (.call 13 [(.tmp 7)])),
  (.op none (some 9) (.v (.mv (.tmp 8)))),
  (.op (some (9, false)) (some 10) (.v (.mv (.tmp 1)))),
  (.op (some (9, false)) (some 11) (.call 13 [(.tmp 10)])),
  (.op none (some 12) (.v (.pick (.tmp 9) (.const (.bool true)) (.tmp 11))))]
@[go_sem] def c5r6 : List GOp := [(.op none (some 4) (.v (.mv (.const (.bool true)))))]
def c5s7 : SCode := (.seq (.ops c5r6 c5k) .ret)
@[go_sem] theorem c5s7eq (P : Program) (ρ : Env) (H : Heap) (Q : Post) : vc P c5s7 ρ H Q = vc P (.seq (.ops c5r6 c5k) .ret) ρ H Q := rfl
def c5s8 : SCode := (.cond (.tmp 12) c5s7 .skip)
@[go_sem] theorem c5s8eq (P : Program) (ρ : Env) (H : Heap) (Q : Post) : vc P c5s8 ρ H Q = vc P (.cond (.tmp 12) c5s7 .skip) ρ H Q := rfl
@[go_sem] def c5r9 : List GOp := [(.op none (some 13) (.v (.mv (.tmp 0)))),
  (.op none (some 14) (.v (.mv (.tmp 1)))),
  (.op none (some 15) (.call 22 [(.tmp 13), (.tmp 14)])),
  (.op none (some 16) (.v (.mv (.tmp 0)))),
  (.op none (some 17) (.v (.mv (.tmp 1)))),
  (.op none (some 18) (.call 23 [(.tmp 16), (.tmp 17)])),
  (.op none (some 19) (.call 20 [(.tmp 15), (.tmp 18)])),
  (.op none (some 20) (.v (.mv (.tmp 19)))),
  (.op (some (20, true)) (some 21) (.v (.mv (.tmp 0)))),
  (.op (some (20, true)) (some 22) (.v (.mv (.tmp 1)))),
  (.op (some (20, true)) (some 23) (.call 24 [(.tmp 21), (.tmp 22)])),
  (.op (some (20, true)) (some 24) (.v (.mv (.tmp 0)))),
  (.op (some (20, true)) (some 25) (.v (.mv (.tmp 1)))),
  (.op (some (20, true)) (some 26) (.call 25 [(.tmp 24), (.tmp 25)])),
  (.op (some (20, true)) (some 27) (.call 20 [(.tmp 23), (.tmp 26)])),
  (.op none (some 28) (.v (.pick (.tmp 20) (.tmp 27) (.const (.bool false))))),
  (.op none (some 29) (.v (.mv (.tmp 28)))),
  (.op (some (29, true)) (some 30) (.v (.mv (.tmp 0)))),
  (.op (some (29, true)) (some 31) (.v (.mv (.tmp 1)))),
  (.op (some (29, true)) (some 32) (.call 26 [(.tmp 30), (.tmp 31)])),
  (.op (some (29, true)) (some 33) (.v (.mv (.tmp 0)))),
  (.op (some (29, true)) (some 34) (.v (.mv (.tmp 1)))),
  (.op (some (29, true)) (some 35) (.call 27 [(.tmp 33), (.tmp 34)])),
  (.op (some (29, true)) (some 36) (.call 20 [(.tmp 32), (.tmp 35)])),
  (.op none (some 37) (.v (.pick (.tmp 29) (.tmp 36) (.const (.bool false))))),
  (.op none (some 38) (.v (.mv (.tmp 37)))),
  (.op (some (38, true)) (some 39) (.v (.mv (.tmp 0)))),
  (.op (some (38, true)) (some 40) (.v (.mv (.tmp 1)))),
  (.op (some (38, true)) (some 41) (.call 21 [(.tmp 39), (.tmp 40)])),
  (.op (some (38, true)) (some 42) (.v (.mv (.tmp 0)))),
  (.op (some (38, true)) (some 43) (.v (.mv (.tmp 1)))),
  (.op (some (38, true)) (some 44) (.call 28 [(.tmp 42), (.tmp 43)])),
  (.sel 38 true [(45, (.v (.bin .eql (.tmp 41) (.tmp 44))))] 46 (.tmp 45) (.const (.bool false))),
  (.op none (some 4) (.v (.mv (.tmp 46))))]
def c5s10 : SCode := (.seq (.ops c5r9 c5k) .ret)
@[go_sem] theorem c5s10eq (P : Program) (ρ : Env) (H : Heap) (Q : Post) : vc P c5s10 ρ H Q = vc P (.seq (.ops c5r9 c5k) .ret) ρ H Q := rfl
def c5s11 : SCode := (.seq (.seq (.ops c5r5 c5k) c5s8) c5s10)
@[go_sem] theorem c5s11eq (P : Program) (ρ : Env) (H : Heap) (Q : Post) : vc P c5s11 ρ H Q = vc P (.seq (.seq (.ops c5r5 c5k) c5s8) c5s10) ρ H Q := rfl
def c5s12 : SCode := (.seq (.seq (.ops c5r1 c5k) c5s4) c5s11)
@[go_sem] theorem c5s12eq (P : Program) (ρ : Env) (H : Heap) (Q : Post) : vc P c5s12 ρ H Q = vc P (.seq (.seq (.ops c5r1 c5k) c5s4) c5s11) ρ H Q := rfl
def c5 : Gx.Fn := ⟨47, c5k, (.seq (.ops c5r0 c5k) c5s12), [(.tmp 4)]⟩
theorem c5ok : stripFn Try.prog c5k Try.f5 = some c5 := by kernel_rfl

/- plexuslaw07.ClockLattice -/
@[go_sem] def c6k : List Nat := [0, 1, 2, 6, 7, 8, 10, 35]
@[go_sem] def c6r0 : List GOp := [(.op none (some 6) (.v (.mv (.const (.bool false)))))]
@[go_sem] def c6r1 : List GOp := [(.op none (some 9) (.call 12 [])),
  (.op none (some 10) (.v (.un .not (.tmp 9))))]
@[go_sem] def c6r2 : List GOp := [(.op none (some 6) (.v (.mv (.const (.bool false)))))]
def c6s3 : SCode := (.seq (.ops c6r2 c6k) .ret)
@[go_sem] theorem c6s3eq (P : Program) (ρ : Env) (H : Heap) (Q : Post) : vc P c6s3 ρ H Q = vc P (.seq (.ops c6r2 c6k) .ret) ρ H Q := rfl
def c6s4 : SCode := (.cond (.tmp 10) c6s3 .skip)
@[go_sem] theorem c6s4eq (P : Program) (ρ : Env) (H : Heap) (Q : Post) : vc P c6s4 ρ H Q = vc P (.cond (.tmp 10) c6s3 .skip) ρ H Q := rfl
@[go_sem] def c6r5 : List GOp := [(.op none (some 11) (.v (.mv (.tmp 0)))),
  (.op none (some 12) (.call 13 [(.tmp 11)])),
  (.op none (some 13) (.v (.mv (.tmp 12)))),
  (.op (some (13, false)) (some 14) (.v (.mv (.tmp 1)))),
  (.op (some (13, false)) (some 15) (.call 13 [(.tmp 14)])),
  (.op none (some 16) (.v (.pick (.tmp 13) (.const (.bool true)) (.tmp 15)))),
  (.op none (some 17) (.v (.mv (.tmp 16)))),
  (.op (some (17, false)) (some 18) (.v (.mv (.tmp 2)))),
  (.op (some (17, false)) (some 19) (.call 13 [(.tmp 18)])),
  (.op none (some 20) (.v (.pick (.tmp 17) (.const (.bool true)) (.tmp 19)))),
  (.op none (some 21) (.v (.mv (.tmp 20)))),
  (.op (some (21, false)) (some 22) (.v (.mv (.tmp 0)))),
  (.op (some (21, false)) (some 23) (.call 16 [(.tmp 22)])),
  (.sel 21 false [(24, (.v (.un .not (.tmp 23))))] 25 (.const (.bool true)) (.tmp 24)),
  (.op none (some 26) (.v (.mv (.tmp 25)))),
  (.op (some (26, false)) (some 27) (.v (.mv (.tmp 1)))),
  (.op (some (26, false)) (some 28) (.call 16 [(.tmp 27)])),
  (.sel 26 false [(29, (.v (.un .not (.tmp 28))))] 30 (.const (.bool true)) (.tmp 29)),
  (.op none (some 31) (.v (.mv (.tmp 30)))),
  (.op (some (31, false)) (some 32) (.v (.mv (.tmp 2)))),
  (.op (some (31, false)) (some 33) (.call 16 [(.tmp 32)])),
  (.sel 31 false [(34, (.v (.un .not (.tmp 33))))] 35 (.const (.bool true)) (.tmp 34))]
@[go_sem] def c6r6 : List GOp := [(.op none (some 6) (.v (.mv (.const (.bool true)))))]
def c6s7 : SCode := (.seq (.ops c6r6 c6k) .ret)
@[go_sem] theorem c6s7eq (P : Program) (ρ : Env) (H : Heap) (Q : Post) : vc P c6s7 ρ H Q = vc P (.seq (.ops c6r6 c6k) .ret) ρ H Q := rfl
def c6s8 : SCode := (.cond (.tmp 35) c6s7 .skip)
@[go_sem] theorem c6s8eq (P : Program) (ρ : Env) (H : Heap) (Q : Post) : vc P c6s8 ρ H Q = vc P (.cond (.tmp 35) c6s7 .skip) ρ H Q := rfl
@[go_sem] def c6r9 : List GOp := [(.op none (some 36) (.v (.mv (.tmp 0)))),
  (.op none (some 37) (.v (.mv (.tmp 1)))),
  (.op none (some 38) (.call 22 [(.tmp 36), (.tmp 37)])),
  (.op none (some 39) (.v (.mv (.tmp 0)))),
  (.op none (some 40) (.v (.mv (.tmp 1)))),
  (.op none (some 41) (.call 24 [(.tmp 39), (.tmp 40)])),
  (.op none (some 7) (.v (.mv (.tmp 38)))),
  (.op none (some 8) (.v (.mv (.tmp 41))))]
@[go_sem] def c6r10 : List GOp := [(.op none (some 42) (.v (.mv (.tmp 7)))),
  (.op none (some 43) (.v (.mv (.tmp 1)))),
  (.op none (some 44) (.v (.mv (.tmp 0)))),
  (.op none (some 45) (.call 22 [(.tmp 43), (.tmp 44)])),
  (.op none (some 46) (.call 20 [(.tmp 42), (.tmp 45)])),
  (.op none (some 47) (.v (.mv (.tmp 46)))),
  (.op (some (47, true)) (some 48) (.v (.mv (.tmp 8)))),
  (.op (some (47, true)) (some 49) (.v (.mv (.tmp 1)))),
  (.op (some (47, true)) (some 50) (.v (.mv (.tmp 0)))),
  (.op (some (47, true)) (some 51) (.call 24 [(.tmp 49), (.tmp 50)])),
  (.op (some (47, true)) (some 52) (.call 20 [(.tmp 48), (.tmp 51)])),
  (.op none (some 53) (.v (.pick (.tmp 47) (.tmp 52) (.const (.bool false))))),
  (.op none (some 54) (.v (.mv (.tmp 53)))),
  (.op (some (54, true)) (some 55) (.v (.mv (.tmp 0)))),
  (.op (some (54, true)) (some 56) (.v (.mv (.tmp 0)))),
  (.op (some (54, true)) (some 57) (.call 22 [(.tmp 55), (.tmp 56)])),
  (.op (some (54, true)) (some 58) (.v (.mv (.tmp 0)))),
  (.op (some (54, true)) (some 59) (.call 20 [(.tmp 57), (.tmp 58)])),
  (.op none (some 60) (.v (.pick (.tmp 54) (.tmp 59) (.const (.bool false))))),
  (.op none (some 61) (.v (.mv (.tmp 60)))),
  (.op (some (61, true)) (some 62) (.v (.mv (.tmp 0)))),
  (.op (some (61, true)) (some 63) (.v (.mv (.tmp 0)))),
  (.op (some (61, true)) (some 64) (.call 24 [(.tmp 62), (.tmp 63)])),
  (.op (some (61, true)) (some 65) (.v (.mv (.tmp 0)))),
  (.op (some (61, true)) (some 66) (.call 20 [(.tmp 64), (.tmp 65)])),
  (.op none (some 67) (.v (.pick (.tmp 61) (.tmp 66) (.const (.bool false))))),
  (.op none (some 68) (.v (.mv (.tmp 67)))),
  (.op (some (68, true)) (some 69) (.v (.mv (.tmp 7)))),
  (.op (some (68, true)) (some 70) (.v (.mv (.tmp 2)))),
  (.op (some (68, true)) (some 71) (.call 22 [(.tmp 69), (.tmp 70)])),
  (.op (some (68, true)) (some 72) (.v (.mv (.tmp 0)))),
  (.op (some (68, true)) (some 73) (.v (.mv (.tmp 1)))),
  (.op (some (68, true)) (some 74) (.v (.mv (.tmp 2)))),
  (.op (some (68, true)) (some 75) (.call 22 [(.tmp 73), (.tmp 74)])),
  (.op (some (68, true)) (some 76) (.call 22 [(.tmp 72), (.tmp 75)])),
  (.op (some (68, true)) (some 77) (.call 20 [(.tmp 71), (.tmp 76)])),
  (.op none (some 78) (.v (.pick (.tmp 68) (.tmp 77) (.const (.bool false))))),
  (.op none (some 79) (.v (.mv (.tmp 78)))),
  (.op (some (79, true)) (some 80) (.v (.mv (.tmp 8)))),
  (.op (some (79, true)) (some 81) (.v (.mv (.tmp 2)))),
  (.op (some (79, true)) (some 82) (.call 24 [(.tmp 80), (.tmp 81)])),
  (.op (some (79, true)) (some 83) (.v (.mv (.tmp 0)))),
  (.op (some (79, true)) (some 84) (.v (.mv (.tmp 1)))),
  (.op (some (79, true)) (some 85) (.v (.mv (.tmp 2)))),
  (.op (some (79, true)) (some 86) (.call 24 [(.tmp 84), (.tmp 85)])),
  (.op (some (79, true)) (some 87) (.call 24 [(.tmp 83), (.tmp 86)])),
  (.op (some (79, true)) (some 88) (.call 20 [(.tmp 82), (.tmp 87)])),
  (.op none (some 89) (.v (.pick (.tmp 79) (.tmp 88) (.const (.bool false))))),
  (.op none (some 90) (.v (.mv (.tmp 89)))),
  (.op (some (90, true)) (some 91) (.v (.mv (.tmp 0)))),
  (.op (some (90, true)) (some 92) (.v (.mv (.tmp 8)))),
  (.op (some (90, true)) (some 93) (.call 22 [(.tmp 91), (.tmp 92)])),
  (.op (some (90, true)) (some 94) (.v (.mv (.tmp 0)))),
  (.op (some (90, true)) (some 95) (.call 20 [(.tmp 93), (.tmp 94)])),
  (.op none (some 96) (.v (.pick (.tmp 90) (.tmp 95) (.const (.bool false))))),
  (.op none (some 97) (.v (.mv (.tmp 96)))),
  (.op (some (97, true)) (some 98) (.v (.mv (.tmp 0)))),
  (.op (some (97, true)) (some 99) (.v (.mv (.tmp 7)))),
  (.op (some (97, true)) (some 100) (.call 24 [(.tmp 98), (.tmp 99)])),
  (.op (some (97, true)) (some 101) (.v (.mv (.tmp 0)))),
  (.op (some (97, true)) (some 102) (.call 20 [(.tmp 100), (.tmp 101)])),
  (.op none (some 103) (.v (.pick (.tmp 97) (.tmp 102) (.const (.bool false))))),
  (.op none (some 104) (.v (.mv (.tmp 103)))),
  (.op (some (104, true)) (some 105) (.v (.mv (.tmp 7)))),
  (.op (some (104, true)) (some 106) (.v (.mv (.tmp 2)))),
  (.op (some (104, true)) (some 107) (.call 24 [(.tmp 105), (.tmp 106)])),
  (.op (some (104, true)) (some 108) (.v (.mv (.tmp 0)))),
  (.op (some (104, true)) (some 109) (.v (.mv (.tmp 2)))),
  (.op (some (104, true)) (some 110) (.call 24 [(.tmp 108), (.tmp 109)])),
  (.op (some (104, true)) (some 111) (.v (.mv (.tmp 1)))),
  (.op (some (104, true)) (some 112) (.v (.mv (.tmp 2)))),
  (.op (some (104, true)) (some 113) (.call 24 [(.tmp 111), (.tmp 112)])),
  (.op (some (104, true)) (some 114) (.call 22 [(.tmp 110), (.tmp 113)])),
  (.op (some (104, true)) (some 115) (.call 20 [(.tmp 107), (.tmp 114)])),
  (.op none (some 116) (.v (.pick (.tmp 104) (.tmp 115) (.const (.bool false))))),
  (.op none (some 6) (.v (.mv (.tmp 116))))]
def c6s11 : SCode := (.seq (.ops c6r10 c6k) .ret)
@[go_sem] theorem c6s11eq (P : Program) (ρ : Env) (H : Heap) (Q : Post) : vc P c6s11 ρ H Q = vc P (.seq (.ops c6r10 c6k) .ret) ρ H Q := rfl
def c6s12 : SCode := (.seq (.ops c6r9 c6k) c6s11)
@[go_sem] theorem c6s12eq (P : Program) (ρ : Env) (H : Heap) (Q : Post) : vc P c6s12 ρ H Q = vc P (.seq (.ops c6r9 c6k) c6s11) ρ H Q := rfl
def c6s13 : SCode := (.seq (.seq (.ops c6r5 c6k) c6s8) c6s12)
@[go_sem] theorem c6s13eq (P : Program) (ρ : Env) (H : Heap) (Q : Post) : vc P c6s13 ρ H Q = vc P (.seq (.seq (.ops c6r5 c6k) c6s8) c6s12) ρ H Q := rfl
def c6s14 : SCode := (.seq (.seq (.ops c6r1 c6k) c6s4) c6s13)
@[go_sem] theorem c6s14eq (P : Program) (ρ : Env) (H : Heap) (Q : Post) : vc P c6s14 ρ H Q = vc P (.seq (.seq (.ops c6r1 c6k) c6s4) c6s13) ρ H Q := rfl
def c6 : Gx.Fn := ⟨117, c6k, (.seq (.ops c6r0 c6k) c6s14), [(.tmp 6)]⟩
theorem c6ok : stripFn Try.prog c6k Try.f6 = some c6 := by kernel_rfl

/- plexuslaw07.ClockOrders -/
@[go_sem] def c7k : List Nat := [0, 1, 4, 5, 6, 7, 8, 10, 26, 54]
@[go_sem] def c7r0 : List GOp := [(.op none (some 4) (.v (.mv (.const (.bool false)))))]
@[go_sem] def c7r1 : List GOp := [(.op none (some 9) (.call 12 [])),
  (.op none (some 10) (.v (.un .not (.tmp 9))))]
@[go_sem] def c7r2 : List GOp := [(.op none (some 4) (.v (.mv (.const (.bool false)))))]
def c7s3 : SCode := (.seq (.ops c7r2 c7k) .ret)
@[go_sem] theorem c7s3eq (P : Program) (ρ : Env) (H : Heap) (Q : Post) : vc P c7s3 ρ H Q = vc P (.seq (.ops c7r2 c7k) .ret) ρ H Q := rfl
def c7s4 : SCode := (.cond (.tmp 10) c7s3 .skip)
@[go_sem] theorem c7s4eq (P : Program) (ρ : Env) (H : Heap) (Q : Post) : vc P c7s4 ρ H Q = vc P (.cond (.tmp 10) c7s3 .skip) ρ H Q := rfl
@[go_sem] def c7r5 : List GOp := [(.op none (some 11) (.v (.mv (.tmp 0)))),
  (.op none (some 12) (.call 13 [(.tmp 11)])),
  (.op none (some 13) (.v (.mv (.tmp 12)))),
  (.op (some (13, false)) (some 14) (.v (.mv (.tmp 1)))),
  (.op (some (13, false)) (some 15) (.call 13 [(.tmp 14)])),
  (.op none (some 16) (.v (.pick (.tmp 13) (.const (.bool true)) (.tmp 15)))),
  (.op none (some 17) (.v (.mv (.tmp 16)))),
  (.op (some (17, false)) (some 18) (.v (.mv (.tmp 0)))),
  (.op (some (17, false)) (some 19) (.call 16 [(.tmp 18)])),
  (.sel 17 false [(20, (.v (.un .not (.tmp 19))))] 21 (.const (.bool true)) (.tmp 20)),
  (.op none (some 22) (.v (.mv (.tmp 21)))),
  (.op (some (22, false)) (some 23) (.v (.mv (.tmp 1)))),
  (.op (some (22, false)) (some 24) (.call 16 [(.tmp 23)])),
  (.sel 22 false [(25, (.v (.un .not (.tmp 24))))] 26 (.const (.bool true)) (.tmp 25))]
@[go_sem] def c7r6 : List GOp := [(.op none (some 4) (.v (.mv (.const (.bool true)))))]
def c7s7 : SCode := (.seq (.ops c7r6 c7k) .ret)
@[go_sem] theorem c7s7eq (P : Program) (ρ : Env) (H : Heap) (Q : Post) : vc P c7s7 ρ H Q = vc P (.seq (.ops c7r6 c7k) .ret) ρ H Q := rfl
def c7s8 : SCode := (.cond (.tmp 26) c7s7 .skip)
@[go_sem] theorem c7s8eq (P : Program) (ρ : Env) (H : Heap) (Q : Post) : vc P c7s8 ρ H Q = vc P (.cond (.tmp 26) c7s7 .skip) ρ H Q := rfl
@[go_sem] def c7r9 : List GOp := [(.op none (some 27) (.v (.mv (.tmp 0)))),
  (.op none (some 28) (.v (.mv (.tmp 1)))),
  (.op none (some 29) (.call 21 [(.tmp 27), (.tmp 28)])),
  (.op none (some 30) (.v (.mv (.tmp 1)))),
  (.op none (some 31) (.v (.mv (.tmp 0)))),
  (.op none (some 32) (.call 21 [(.tmp 30), (.tmp 31)])),
  (.op none (some 5) (.v (.mv (.tmp 29)))),
  (.op none (some 6) (.v (.mv (.tmp 32))))]
@[go_sem] def c7r10 : List GOp := [(.op none (some 33) (.v (.mv (.tmp 0)))),
  (.op none (some 34) (.v (.mv (.tmp 1)))),
  (.op none (some 35) (.call 20 [(.tmp 33), (.tmp 34)])),
  (.op none (some 36) (.v (.mv (.tmp 0)))),
  (.op none (some 37) (.v (.mv (.tmp 1)))),
  (.op none (some 38) (.call 22 [(.tmp 36), (.tmp 37)])),
  (.op none (some 39) (.v (.mv (.tmp 1)))),
  (.op none (some 40) (.call 20 [(.tmp 38), (.tmp 39)])),
  (.op none (some 7) (.v (.mv (.tmp 35)))),
  (.op none (some 8) (.v (.mv (.tmp 40))))]
@[go_sem] def c7r11 : List GOp := [(.op none (some 41) (.v (.mv (.tmp 5)))),
  (.op none (some 42) (.v (.bin .eql (.tmp 41) (.const (.int .i64 0))))),
  (.op none (some 43) (.v (.mv (.tmp 7)))),
  (.op none (some 44) (.v (.beq true (.tmp 42) (.tmp 43)))),
  (.op none (some 45) (.v (.mv (.tmp 44)))),
  (.op (some (45, false)) (some 46) (.v (.mv (.tmp 5)))),
  (.op (some (45, false)) (some 47) (.v (.bin .eql (.tmp 46) (.const (.int .i64 1))))),
  (.op (some (45, false)) (some 48) (.v (.mv (.tmp 8)))),
  (.op (some (45, false)) (some 49) (.v (.mv (.tmp 48)))),
  (.op (some (49, true)) (some 50) (.v (.mv (.tmp 7)))),
  (.op (some (49, true)) (some 51) (.v (.un .not (.tmp 50)))),
  (.op (some (45, false)) (some 52) (.v (.pick (.tmp 49) (.tmp 51) (.const (.bool false))))),
  (.sel 45 false [(53, (.v (.beq true (.tmp 47) (.tmp 52))))] 54 (.const (.bool true)) (.tmp 53))]
@[go_sem] def c7r12 : List GOp := [(.op none (some 4) (.v (.mv (.const (.bool false)))))]
def c7s13 : SCode := (.seq (.ops c7r12 c7k) .ret)
@[go_sem] theorem c7s13eq (P : Program) (ρ : Env) (H : Heap) (Q : Post) : vc P c7s13 ρ H Q = vc P (.seq (.ops c7r12 c7k) .ret) ρ H Q := rfl
def c7s14 : SCode := (.cond (.tmp 54) c7s13 .skip)
@[go_sem] theorem c7s14eq (P : Program) (ρ : Env) (H : Heap) (Q : Post) : vc P c7s14 ρ H Q = vc P (.cond (.tmp 54) c7s13 .skip) ρ H Q := rfl
@[go_sem] def c7r15 : List GOp := [(.op none (some 55) (.v (.mv (.tmp 5)))),
  (.op none (some 56) (.v (.bin .eql (.tmp 55) (.const (.int .i64 2))))),
  (.op none (some 57) (.v (.mv (.tmp 6)))),
  (.op none (some 58) (.v (.bin .eql (.tmp 57) (.const (.int .i64 1))))),
  (.op none (some 59) (.v (.beq false (.tmp 56) (.tmp 58)))),
  (.op none (some 60) (.v (.mv (.tmp 59)))),
  (.sel 60 true [(61, (.v (.mv (.tmp 5)))), (62, (.v (.bin .eql (.tmp 61) (.const (.int .i64 3))))), (63, (.v (.mv (.tmp 6)))), (64, (.v (.bin .eql (.tmp 63) (.const (.int .i64 3))))), (65, (.v (.beq false (.tmp 62) (.tmp 64))))] 66 (.tmp 65) (.const (.bool false))),
  (.op none (some 4) (.v (.mv (.tmp 66))))]
def c7s16 : SCode := (.seq (.ops c7r15 c7k) .ret)
@[go_sem] theorem c7s16eq (P : Program) (ρ : Env) (H : Heap) (Q : Post) : vc P c7s16 ρ H Q = vc P (.seq (.ops c7r15 c7k) .ret) ρ H Q := rfl
def c7s17 : SCode := (.seq (.seq (.ops c7r11 c7k) c7s14) c7s16)
@[go_sem] theorem c7s17eq (P : Program) (ρ : Env) (H : Heap) (Q : Post) : vc P c7s17 ρ H Q = vc P (.seq (.seq (.ops c7r11 c7k) c7s14) c7s16) ρ H Q := rfl
def c7s18 : SCode := (.seq (.ops c7r10 c7k) c7s17)
@[go_sem] theorem c7s18eq (P : Program) (ρ : Env) (H : Heap) (Q : Post) : vc P c7s18 ρ H Q = vc P (.seq (.ops c7r10 c7k) c7s17) ρ H Q := rfl
def c7s19 : SCode := (.seq (.ops c7r9 c7k) c7s18)
@[go_sem] theorem c7s19eq (P : Program) (ρ : Env) (H : Heap) (Q : Post) : vc P c7s19 ρ H Q = vc P (.seq (.ops c7r9 c7k) c7s18) ρ H Q := rfl
def c7s20 : SCode := (.seq (.seq (.ops c7r5 c7k) c7s8) c7s19)
@[go_sem] theorem c7s20eq (P : Program) (ρ : Env) (H : Heap) (Q : Post) : vc P c7s20 ρ H Q = vc P (.seq (.seq (.ops c7r5 c7k) c7s8) c7s19) ρ H Q := rfl
def c7s21 : SCode := (.seq (.seq (.ops c7r1 c7k) c7s4) c7s20)
@[go_sem] theorem c7s21eq (P : Program) (ρ : Env) (H : Heap) (Q : Post) : vc P c7s21 ρ H Q = vc P (.seq (.seq (.ops c7r1 c7k) c7s4) c7s20) ρ H Q := rfl
def c7 : Gx.Fn := ⟨67, c7k, (.seq (.ops c7r0 c7k) c7s21), [(.tmp 4)]⟩
theorem c7ok : stripFn Try.prog c7k Try.f7 = some c7 := by kernel_rfl

/- plexuslaw07.ClockTransitive -/
@[go_sem] def c8k : List Nat := [0, 1, 2, 6, 7, 8, 9, 11, 21, 44, 50]
@[go_sem] def c8r0 : List GOp := [(.op none (some 6) (.v (.mv (.const (.bool false)))))]
@[go_sem] def c8r1 : List GOp := [(.op none (some 10) (.call 12 [])),
  (.op none (some 11) (.v (.un .not (.tmp 10))))]
@[go_sem] def c8r2 : List GOp := [(.op none (some 6) (.v (.mv (.const (.bool false)))))]
def c8s3 : SCode := (.seq (.ops c8r2 c8k) .ret)
@[go_sem] theorem c8s3eq (P : Program) (ρ : Env) (H : Heap) (Q : Post) : vc P c8s3 ρ H Q = vc P (.seq (.ops c8r2 c8k) .ret) ρ H Q := rfl
def c8s4 : SCode := (.cond (.tmp 11) c8s3 .skip)
@[go_sem] theorem c8s4eq (P : Program) (ρ : Env) (H : Heap) (Q : Post) : vc P c8s4 ρ H Q = vc P (.cond (.tmp 11) c8s3 .skip) ρ H Q := rfl
@[go_sem] def c8r5 : List GOp := [(.op none (some 12) (.v (.mv (.tmp 0)))),
  (.op none (some 13) (.call 13 [(.tmp 12)])),
  (.op none (some 14) (.v (.mv (.tmp 13)))),
  (.op (some (14, false)) (some 15) (.v (.mv (.tmp 1)))),
  (.op (some (14, false)) (some 16) (.call 13 [(.tmp 15)])),
  (.op none (some 17) (.v (.pick (.tmp 14) (.const (.bool true)) (.tmp 16)))),
  (.op none (some 18) (.v (.mv (.tmp 17)))),
  (.op (some (18, false)) (some 19) (.v (.mv (.tmp 2)))),
  (.op (some (18, false)) (some 20) (.call 13 [(.tmp 19)])),
  (.op none (some 21) (.v (.pick (.tmp 18) (.const (.bool true)) (.tmp 20))))]
@[go_sem] def c8r6 : List GOp := [(.op none (some 6) (.v (.mv (.const (.bool true)))))]
def c8s7 : SCode := (.seq (.ops c8r6 c8k) .ret)
@[go_sem] theorem c8s7eq (P : Program) (ρ : Env) (H : Heap) (Q : Post) : vc P c8s7 ρ H Q = vc P (.seq (.ops c8r6 c8k) .ret) ρ H Q := rfl
def c8s8 : SCode := (.cond (.tmp 21) c8s7 .skip)
@[go_sem] theorem c8s8eq (P : Program) (ρ : Env) (H : Heap) (Q : Post) : vc P c8s8 ρ H Q = vc P (.cond (.tmp 21) c8s7 .skip) ρ H Q := rfl
@[go_sem] def c8r9 : List GOp := [(.op none (some 22) (.v (.mv (.tmp 0)))),
  (.op none (some 23) (.v (.mv (.tmp 1)))),
  (.op none (some 24) (.call 21 [(.tmp 22), (.tmp 23)])),
  (.op none (some 25) (.v (.mv (.tmp 1)))),
  (.op none (some 26) (.v (.mv (.tmp 2)))),
  (.op none (some 27) (.call 21 [(.tmp 25), (.tmp 26)])),
  (.op none (some 28) (.v (.mv (.tmp 0)))),
  (.op none (some 29) (.v (.mv (.tmp 2)))),
  (.op none (some 30) (.call 21 [(.tmp 28), (.tmp 29)])),
  (.op none (some 7) (.v (.mv (.tmp 24)))),
  (.op none (some 8) (.v (.mv (.tmp 27)))),
  (.op none (some 9) (.v (.mv (.tmp 30))))]
@[go_sem] def c8r10 : List GOp := [(.op none (some 31) (.v (.mv (.tmp 7)))),
  (.op none (some 32) (.v (.bin .neq (.tmp 31) (.const (.int .i64 1))))),
  (.op none (some 33) (.v (.mv (.tmp 32)))),
  (.sel 33 true [(34, (.v (.mv (.tmp 7)))), (35, (.v (.bin .neq (.tmp 34) (.const (.int .i64 0)))))] 36 (.tmp 35) (.const (.bool false))),
  (.op none (some 37) (.v (.mv (.tmp 36)))),
  (.op (some (37, false)) (some 38) (.v (.mv (.tmp 8)))),
  (.op (some (37, false)) (some 39) (.v (.bin .neq (.tmp 38) (.const (.int .i64 1))))),
  (.op (some (37, false)) (some 40) (.v (.mv (.tmp 39)))),
  (.op (some (40, true)) (some 41) (.v (.mv (.tmp 8)))),
  (.op (some (40, true)) (some 42) (.v (.bin .neq (.tmp 41) (.const (.int .i64 0))))),
  (.op (some (37, false)) (some 43) (.v (.pick (.tmp 40) (.tmp 42) (.const (.bool false))))),
  (.op none (some 44) (.v (.pick (.tmp 37) (.const (.bool true)) (.tmp 43))))]
@[go_sem] def c8r11 : List GOp := [(.op none (some 6) (.v (.mv (.const (.bool true)))))]
def c8s12 : SCode := (.seq (.ops c8r11 c8k) .ret)
@[go_sem] theorem c8s12eq (P : Program) (ρ : Env) (H : Heap) (Q : Post) : vc P c8s12 ρ H Q = vc P (.seq (.ops c8r11 c8k) .ret) ρ H Q := rfl
def c8s13 : SCode := (.cond (.tmp 44) c8s12 .skip)
@[go_sem] theorem c8s13eq (P : Program) (ρ : Env) (H : Heap) (Q : Post) : vc P c8s13 ρ H Q = vc P (.cond (.tmp 44) c8s12 .skip) ρ H Q := rfl
@[go_sem] def c8r14 : List GOp := [(.op none (some 45) (.v (.mv (.tmp 7)))),
  (.op none (some 46) (.v (.bin .eql (.tmp 45) (.const (.int .i64 0))))),
  (.op none (some 47) (.v (.mv (.tmp 46)))),
  (.sel 47 true [(48, (.v (.mv (.tmp 8)))), (49, (.v (.bin .eql (.tmp 48) (.const (.int .i64 0)))))] 50 (.tmp 49) (.const (.bool false)))]
@[go_sem] def c8r15 : List GOp := [(.op none (some 51) (.v (.mv (.tmp 9)))),
  (.op none (some 52) (.v (.bin .eql (.tmp 51) (.const (.int .i64 0))))),
  (.op none (some 6) (.v (.mv (.tmp 52))))]
def c8s16 : SCode := (.seq (.ops c8r15 c8k) .ret)
@[go_sem] theorem c8s16eq (P : Program) (ρ : Env) (H : Heap) (Q : Post) : vc P c8s16 ρ H Q = vc P (.seq (.ops c8r15 c8k) .ret) ρ H Q := rfl
def c8s17 : SCode := (.cond (.tmp 50) c8s16 .skip)
@[go_sem] theorem c8s17eq (P : Program) (ρ : Env) (H : Heap) (Q : Post) : vc P c8s17 ρ H Q = vc P (.cond (.tmp 50) c8s16 .skip) ρ H Q := rfl
@[go_sem] def c8r18 : List GOp := [(.op none (some 53) (.v (.mv (.tmp 9)))),
  (.op none (some 54) (.v (.bin .eql (.tmp 53) (.const (.int .i64 1))))),
  (.op none (some 6) (.v (.mv (.tmp 54))))]
def c8s19 : SCode := (.seq (.ops c8r18 c8k) .ret)
@[go_sem] theorem c8s19eq (P : Program) (ρ : Env) (H : Heap) (Q : Post) : vc P c8s19 ρ H Q = vc P (.seq (.ops c8r18 c8k) .ret) ρ H Q := rfl
def c8s20 : SCode := (.seq (.seq (.ops c8r14 c8k) c8s17) c8s19)
@[go_sem] theorem c8s20eq (P : Program) (ρ : Env) (H : Heap) (Q : Post) : vc P c8s20 ρ H Q = vc P (.seq (.seq (.ops c8r14 c8k) c8s17) c8s19) ρ H Q := rfl
def c8s21 : SCode := (.seq (.seq (.ops c8r10 c8k) c8s13) c8s20)
@[go_sem] theorem c8s21eq (P : Program) (ρ : Env) (H : Heap) (Q : Post) : vc P c8s21 ρ H Q = vc P (.seq (.seq (.ops c8r10 c8k) c8s13) c8s20) ρ H Q := rfl
def c8s22 : SCode := (.seq (.ops c8r9 c8k) c8s21)
@[go_sem] theorem c8s22eq (P : Program) (ρ : Env) (H : Heap) (Q : Post) : vc P c8s22 ρ H Q = vc P (.seq (.ops c8r9 c8k) c8s21) ρ H Q := rfl
def c8s23 : SCode := (.seq (.seq (.ops c8r5 c8k) c8s8) c8s22)
@[go_sem] theorem c8s23eq (P : Program) (ρ : Env) (H : Heap) (Q : Post) : vc P c8s23 ρ H Q = vc P (.seq (.seq (.ops c8r5 c8k) c8s8) c8s22) ρ H Q := rfl
def c8s24 : SCode := (.seq (.seq (.ops c8r1 c8k) c8s4) c8s23)
@[go_sem] theorem c8s24eq (P : Program) (ρ : Env) (H : Heap) (Q : Post) : vc P c8s24 ρ H Q = vc P (.seq (.seq (.ops c8r1 c8k) c8s4) c8s23) ρ H Q := rfl
def c8 : Gx.Fn := ⟨55, c8k, (.seq (.ops c8r0 c8k) c8s24), [(.tmp 6)]⟩
theorem c8ok : stripFn Try.prog c8k Try.f8 = some c8 := by kernel_rfl

/- plexuslaw07.ClockMinus -/
@[go_sem] def c9k : List Nat := [0, 1, 2, 6, 7, 8, 10, 35, 47, 53]
@[go_sem] def c9r0 : List GOp := [(.op none (some 6) (.v (.mv (.const (.bool false)))))]
@[go_sem] def c9r1 : List GOp := [(.op none (some 9) (.call 12 [])),
  (.op none (some 10) (.v (.un .not (.tmp 9))))]
@[go_sem] def c9r2 : List GOp := [(.op none (some 6) (.v (.mv (.const (.bool false)))))]
def c9s3 : SCode := (.seq (.ops c9r2 c9k) .ret)
@[go_sem] theorem c9s3eq (P : Program) (ρ : Env) (H : Heap) (Q : Post) : vc P c9s3 ρ H Q = vc P (.seq (.ops c9r2 c9k) .ret) ρ H Q := rfl
def c9s4 : SCode := (.cond (.tmp 10) c9s3 .skip)
@[go_sem] theorem c9s4eq (P : Program) (ρ : Env) (H : Heap) (Q : Post) : vc P c9s4 ρ H Q = vc P (.cond (.tmp 10) c9s3 .skip) ρ H Q := rfl
@[go_sem] def c9r5 : List GOp := [(.op none (some 11) (.v (.mv (.tmp 0)))),
  (.op none (some 12) (.call 13 [(.tmp 11)])),
  (.op none (some 13) (.v (.mv (.tmp 12)))),
  (.op (some (13, false)) (some 14) (.v (.mv (.tmp 1)))),
  (.op (some (13, false)) (some 15) (.call 13 [(.tmp 14)])),
  (.op none (some 16) (.v (.pick (.tmp 13) (.const (.bool true)) (.tmp 15)))),
  (.op none (some 17) (.v (.mv (.tmp 16)))),
  (.op (some (17, false)) (some 18) (.v (.mv (.tmp 2)))),
  (.op (some (17, false)) (some 19) (.call 13 [(.tmp 18)])),
  (.op none (some 20) (.v (.pick (.tmp 17) (.const (.bool true)) (.tmp 19)))),
  (.op none (some 21) (.v (.mv (.tmp 20)))),
  (.op (some (21, false)) (some 22) (.v (.mv (.tmp 0)))),
  (.op (some (21, false)) (some 23) (.call 16 [(.tmp 22)])),
  (.sel 21 false [(24, (.v (.un .not (.tmp 23))))] 25 (.const (.bool true)) (.tmp 24)),
  (.op none (some 26) (.v (.mv (.tmp 25)))),
  (.op (some (26, false)) (some 27) (.v (.mv (.tmp 1)))),
  (.op (some (26, false)) (some 28) (.call 16 [(.tmp 27)])),
  (.sel 26 false [(29, (.v (.un .not (.tmp 28))))] 30 (.const (.bool true)) (.tmp 29)),
  (.op none (some 31) (.v (.mv (.tmp 30)))),
  (.op (some (31, false)) (some 32) (.v (.mv (.tmp 2)))),
  (.op (some (31, false)) (some 33) (.call 16 [(.tmp 32)])),
  (.sel 31 false [(34, (.v (.un .not (.tmp 33))))] 35 (.const (.bool true)) (.tmp 34))]
@[go_sem] def c9r6 : List GOp := [(.op none (some 6) (.v (.mv (.const (.bool true)))))]
def c9s7 : SCode := (.seq (.ops c9r6 c9k) .ret)
@[go_sem] theorem c9s7eq (P : Program) (ρ : Env) (H : Heap) (Q : Post) : vc P c9s7 ρ H Q = vc P (.seq (.ops c9r6 c9k) .ret) ρ H Q := rfl
def c9s8 : SCode := (.cond (.tmp 35) c9s7 .skip)
@[go_sem] theorem c9s8eq (P : Program) (ρ : Env) (H : Heap) (Q : Post) : vc P c9s8 ρ H Q = vc P (.cond (.tmp 35) c9s7 .skip) ρ H Q := rfl
@[go_sem] def c9r9 : List GOp := [(.op none (some 36) (.v (.mv (.tmp 0)))),
  (.op none (some 37) (.v (.mv (.tmp 1)))),
  (.op none (some 38) (.call 26 [(.tmp 36), (.tmp 37)])),
  (.op none (some 39) (.v (.mv (.tmp 0)))),
  (.op none (some 40) (.v (.mv (.tmp 1)))),
  (.op none (some 41) (.call 22 [(.tmp 39), (.tmp 40)])),
  (.op none (some 7) (.v (.mv (.tmp 38)))),
  (.op none (some 8) (.v (.mv (.tmp 41))))]
@[go_sem] def c9r10 : List GOp := [(.op none (some 42) (.v (.mv (.tmp 1)))),
  (.op none (some 43) (.v (.mv (.tmp 7)))),
  (.op none (some 44) (.call 22 [(.tmp 42), (.tmp 43)])),
  (.op none (some 45) (.v (.mv (.tmp 8)))),
  (.op none (some 46) (.call 20 [(.tmp 44), (.tmp 45)])),
  (.op none (some 47) (.v (.un .not (.tmp 46))))]
@[go_sem] def c9r11 : List GOp := [(.op none (some 6) (.v (.mv (.const (.bool false)))))]
def c9s12 : SCode := (.seq (.ops c9r11 c9k) .ret)
@[go_sem] theorem c9s12eq (P : Program) (ρ : Env) (H : Heap) (Q : Post) : vc P c9s12 ρ H Q = vc P (.seq (.ops c9r11 c9k) .ret) ρ H Q := rfl
def c9s13 : SCode := (.cond (.tmp 47) c9s12 .skip)
@[go_sem] theorem c9s13eq (P : Program) (ρ : Env) (H : Heap) (Q : Post) : vc P c9s13 ρ H Q = vc P (.cond (.tmp 47) c9s12 .skip) ρ H Q := rfl
@[go_sem] def c9r14 : List GOp := [(.op none (some 48) (.v (.mv (.tmp 1)))),
  (.op none (some 49) (.v (.mv (.tmp 2)))),
  (.op none (some 50) (.call 22 [(.tmp 48), (.tmp 49)])),
  (.op none (some 51) (.v (.mv (.tmp 8)))),
  (.op none (some 52) (.call 20 [(.tmp 50), (.tmp 51)])),
  (.op none (some 53) (.v (.un .not (.tmp 52))))]
@[go_sem] def c9r15 : List GOp := [(.op none (some 6) (.v (.mv (.const (.bool true)))))]
def c9s16 : SCode := (.seq (.ops c9r15 c9k) .ret)
@[go_sem] theorem c9s16eq (P : Program) (ρ : Env) (H : Heap) (Q : Post) : vc P c9s16 ρ H Q = vc P (.seq (.ops c9r15 c9k) .ret) ρ H Q := rfl
def c9s17 : SCode := (.cond (.tmp 53) c9s16 .skip)
@[go_sem] theorem c9s17eq (P : Program) (ρ : Env) (H : Heap) (Q : Post) : vc P c9s17 ρ H Q = vc P (.cond (.tmp 53) c9s16 .skip) ρ H Q := rfl
@[go_sem] def c9r18 : List GOp := [(.op none (some 54) (.v (.mv (.tmp 7)))),
  (.op none (some 55) (.v (.mv (.tmp 2)))),
  (.op none (some 56) (.call 22 [(.tmp 54), (.tmp 55)])),
  (.op none (some 57) (.v (.mv (.tmp 2)))),
  (.op none (some 58) (.call 20 [(.tmp 56), (.tmp 57)])),
  (.op none (some 6) (.v (.mv (.tmp 58))))]
def c9s19 : SCode := (.seq (.ops c9r18 c9k) .ret)
@[go_sem] theorem c9s19eq (P : Program) (ρ : Env) (H : Heap) (Q : Post) : vc P c9s19 ρ H Q = vc P (.seq (.ops c9r18 c9k) .ret) ρ H Q := rfl
def c9s20 : SCode := (.seq (.seq (.ops c9r14 c9k) c9s17) c9s19)
@[go_sem] theorem c9s20eq (P : Program) (ρ : Env) (H : Heap) (Q : Post) : vc P c9s20 ρ H Q = vc P (.seq (.seq (.ops c9r14 c9k) c9s17) c9s19) ρ H Q := rfl
def c9s21 : SCode := (.seq (.seq (.ops c9r10 c9k) c9s13) c9s20)
@[go_sem] theorem c9s21eq (P : Program) (ρ : Env) (H : Heap) (Q : Post) : vc P c9s21 ρ H Q = vc P (.seq (.seq (.ops c9r10 c9k) c9s13) c9s20) ρ H Q := rfl
def c9s22 : SCode := (.seq (.ops c9r9 c9k) c9s21)
@[go_sem] theorem c9s22eq (P : Program) (ρ : Env) (H : Heap) (Q : Post) : vc P c9s22 ρ H Q = vc P (.seq (.ops c9r9 c9k) c9s21) ρ H Q := rfl
def c9s23 : SCode := (.seq (.seq (.ops c9r5 c9k) c9s8) c9s22)
@[go_sem] theorem c9s23eq (P : Program) (ρ : Env) (H : Heap) (Q : Post) : vc P c9s23 ρ H Q = vc P (.seq (.seq (.ops c9r5 c9k) c9s8) c9s22) ρ H Q := rfl
def c9s24 : SCode := (.seq (.seq (.ops c9r1 c9k) c9s4) c9s23)
@[go_sem] theorem c9s24eq (P : Program) (ρ : Env) (H : Heap) (Q : Post) : vc P c9s24 ρ H Q = vc P (.seq (.seq (.ops c9r1 c9k) c9s4) c9s23) ρ H Q := rfl
def c9 : Gx.Fn := ⟨59, c9k, (.seq (.ops c9r0 c9k) c9s24), [(.tmp 6)]⟩
theorem c9ok : stripFn Try.prog c9k Try.f9 = some c9 := by kernel_rfl

/- plexuslaw07.ClockEncodes -/
@[go_sem] def c10k : List Nat := [0, 1, 2, 6, 7, 8, 9, 10, 12, 14, 16, 28, 43, 46, 58, 66]
@[go_sem] def c10r0 : List GOp := [(.op none (some 6) (.v (.mv (.const (.bool false)))))]
@[go_sem] def c10r1 : List GOp := [(.op none (some 15) (.call 12 [])),
  (.op none (some 16) (.v (.un .not (.tmp 15))))]
@[go_sem] def c10r2 : List GOp := [(.op none (some 6) (.v (.mv (.const (.bool false)))))]
def c10s3 : SCode := (.seq (.ops c10r2 c10k) .ret)
@[go_sem] theorem c10s3eq (P : Program) (ρ : Env) (H : Heap) (Q : Post) : vc P c10s3 ρ H Q = vc P (.seq (.ops c10r2 c10k) .ret) ρ H Q := rfl
def c10s4 : SCode := (.cond (.tmp 16) c10s3 .skip)
@[go_sem] theorem c10s4eq (P : Program) (ρ : Env) (H : Heap) (Q : Post) : vc P c10s4 ρ H Q = vc P (.cond (.tmp 16) c10s3 .skip) ρ H Q := rfl
@[go_sem] def c10r5 : List GOp := [(.op none (some 17) (.v (.mv (.tmp 0)))),
  (.op none (some 18) (.call 13 [(.tmp 17)])),
  (.op none (some 19) (.v (.mv (.tmp 18)))),
  (.op (some (19, false)) (some 20) (.v (.mv (.tmp 0)))),
  (.op (some (19, false)) (some 21) (.call 16 [(.tmp 20)])),
  (.sel 19 false [(22, (.v (.un .not (.tmp 21))))] 23 (.const (.bool true)) (.tmp 22)),
  (.op none (some 24) (.v (.mv (.tmp 23)))),
  (.sel 24 false [(25, (.v (.mv (.tmp 1)))), (26, (.v (.len (.tmp 25)))), (27, (.v (.bin .gtr (.tmp 26) (.const (.int .i64 1000)))))] 28 (.const (.bool true)) (.tmp 27))]
@[go_sem] def c10r6 : List GOp := [(.op none (some 6) (.v (.mv (.const (.bool true)))))]
def c10s7 : SCode := (.seq (.ops c10r6 c10k) .ret)
@[go_sem] theorem c10s7eq (P : Program) (ρ : Env) (H : Heap) (Q : Post) : vc P c10s7 ρ H Q = vc P (.seq (.ops c10r6 c10k) .ret) ρ H Q := rfl
def c10s8 : SCode := (.cond (.tmp 28) c10s7 .skip)
@[go_sem] theorem c10s8eq (P : Program) (ρ : Env) (H : Heap) (Q : Post) : vc P c10s8 ρ H Q = vc P (.cond (.tmp 28) c10s7 .skip) ρ H Q := rfl
@[go_sem] def c10r9 : List GOp := [(.op none (some 29) (.v (.mv (.tmp 0)))),
  (.op none (some 30) (.call 29 [(.tmp 29)])),
  (.op none (some 7) (.v (.mv (.tmp 30))))]
@[go_sem] def c10r10 : List GOp := [(.op none (some 32) (.v (.mv (.tmp 7)))),
  (.op none (some 33) (.call 30 [(.tmp 32)])),
  (.op none (some 31) (.v (.mv (.tmp 33)))),
  (.op none (some 34) (.v (.ext (.tmp 31) 0))),
  (.op none (some 35) (.v (.ext (.tmp 31) 1))),
  (.op none (some 8) (.v (.mv (.tmp 34)))),
  (.op none (some 9) (.v (.mv (.tmp 35))))]
@[go_sem] def c10r11 : List GOp := [(.op none (some 36) (.v (.mv (.tmp 9)))),
  (.op none (some 37) (.v (.bin .neq (.tmp 36) (.const (.int .i64 0))))),
  (.op none (some 38) (.v (.mv (.tmp 37)))),
  (.op (some (38, false)) (some 39) (.v (.mv (.tmp 8)))),
  (.op (some (38, false)) (some 40) (.v (.mv (.tmp 0)))),
  (.op (some (38, false)) (some 41) (.call 20 [(.tmp 39), (.tmp 40)])),
  (.sel 38 false [(42, (.v (.un .not (.tmp 41))))] 43 (.const (.bool true)) (.tmp 42))]
@[go_sem] def c10r12 : List GOp := [(.op none (some 6) (.v (.mv (.const (.bool false)))))]
def c10s13 : SCode := (.seq (.ops c10r12 c10k) .ret)
@[go_sem] theorem c10s13eq (P : Program) (ρ : Env) (H : Heap) (Q : Post) : vc P c10s13 ρ H Q = vc P (.seq (.ops c10r12 c10k) .ret) ρ H Q := rfl
def c10s14 : SCode := (.cond (.tmp 43) c10s13 .skip)
@[go_sem] theorem c10s14eq (P : Program) (ρ : Env) (H : Heap) (Q : Post) : vc P c10s14 ρ H Q = vc P (.cond (.tmp 43) c10s13 .skip) ρ H Q := rfl
@[go_sem] def c10r15 : List GOp := [(.op none (some 44) (.v (.mv (.tmp 1)))),
  (.op none (some 45) (.v (.len (.tmp 44)))),
  (.op none (some 46) (.v (.bin .gtr (.tmp 45) (.const (.int .i64 0)))))]
@[go_sem] def c10r16 : List GOp := [(.op none (some 47) (.bs 5 0 [] [])),
  (.op none (some 48) (.v (.mv (.tmp 7)))),
  (.op none (some 49) (.ap 35 35 (.tmp 47) (.tmp 48))),
  (.op none (some 50) (.v (.mv (.tmp 1)))),
  (.op none (some 51) (.ap 35 35 (.tmp 49) (.tmp 50))),
  (.op none (some 10) (.v (.mv (.tmp 51))))]
@[go_sem] def c10r17 : List GOp := [(.op none (some 53) (.v (.mv (.tmp 10)))),
  (.op none (some 54) (.call 30 [(.tmp 53)])),
  (.op none (some 52) (.v (.mv (.tmp 54)))),
  (.op none (some 55) (.v (.ext (.tmp 52) 0))),
  (.op none (some 56) (.v (.ext (.tmp 52) 1))),
  (.op none (some 11) (.v (.mv (.tmp 55)))),
  (.op none (some 12) (.v (.mv (.tmp 56))))]
@[go_sem] def c10r18 : List GOp := [(.op none (some 57) (.v (.mv (.tmp 12)))),
  (.op none (some 58) (.v (.bin .neq (.tmp 57) (.const (.int .i64 2)))))]
@[go_sem] def c10r19 : List GOp := [(.op none (some 6) (.v (.mv (.const (.bool false)))))]
def c10s20 : SCode := (.seq (.ops c10r19 c10k) .ret)
@[go_sem] theorem c10s20eq (P : Program) (ρ : Env) (H : Heap) (Q : Post) : vc P c10s20 ρ H Q = vc P (.seq (.ops c10r19 c10k) .ret) ρ H Q := rfl
def c10s21 : SCode := (.cond (.tmp 58) c10s20 .skip)
@[go_sem] theorem c10s21eq (P : Program) (ρ : Env) (H : Heap) (Q : Post) : vc P c10s21 ρ H Q = vc P (.cond (.tmp 58) c10s20 .skip) ρ H Q := rfl
def c10s22 : SCode := (.seq (.ops c10r18 c10k) c10s21)
@[go_sem] theorem c10s22eq (P : Program) (ρ : Env) (H : Heap) (Q : Post) : vc P c10s22 ρ H Q = vc P (.seq (.ops c10r18 c10k) c10s21) ρ H Q := rfl
def c10s23 : SCode := (.seq (.ops c10r17 c10k) c10s22)
@[go_sem] theorem c10s23eq (P : Program) (ρ : Env) (H : Heap) (Q : Post) : vc P c10s23 ρ H Q = vc P (.seq (.ops c10r17 c10k) c10s22) ρ H Q := rfl
def c10s24 : SCode := (.seq (.ops c10r16 c10k) c10s23)
@[go_sem] theorem c10s24eq (P : Program) (ρ : Env) (H : Heap) (Q : Post) : vc P c10s24 ρ H Q = vc P (.seq (.ops c10r16 c10k) c10s23) ρ H Q := rfl
def c10s25 : SCode := (.cond (.tmp 46) c10s24 .skip)
@[go_sem] theorem c10s25eq (P : Program) (ρ : Env) (H : Heap) (Q : Post) : vc P c10s25 ρ H Q = vc P (.cond (.tmp 46) c10s24 .skip) ρ H Q := rfl
@[go_sem] def c10r26 : List GOp := [(.op none (some 59) (.v (.mv (.tmp 2)))),
  (.op none (some 60) (.v (.bin .lss (.tmp 59) (.const (.int .i64 0))))),
  (.op none (some 61) (.v (.mv (.tmp 60)))),
  (.sel 61 false [(62, (.v (.mv (.tmp 2)))), (63, (.v (.mv (.tmp 7)))), (64, (.v (.len (.tmp 63)))), (65, (.v (.bin .geq (.tmp 62) (.tmp 64))))] 66 (.const (.bool true)) (.tmp 65))]
@[go_sem] def c10r27 : List GOp := [(.op none (some 6) (.v (.mv (.const (.bool true)))))]
def c10s28 : SCode := (.seq (.ops c10r27 c10k) .ret)
@[go_sem] theorem c10s28eq (P : Program) (ρ : Env) (H : Heap) (Q : Post) : vc P c10s28 ρ H Q = vc P (.seq (.ops c10r27 c10k) .ret) ρ H Q := rfl
def c10s29 : SCode := (.cond (.tmp 66) c10s28 .skip)
@[go_sem] theorem c10s29eq (P : Program) (ρ : Env) (H : Heap) (Q : Post) : vc P c10s29 ρ H Q = vc P (.cond (.tmp 66) c10s28 .skip) ρ H Q := rfl
@[go_sem] def c10r30 : List GOp := [(.op none (some 68) (.v (.mv (.tmp 7)))),
  (.op none (some 69) (.v (.mv (.tmp 2)))),
  (.op none (some 70) (.v (.sl 1 (.tmp 68) none (some (.tmp 69))))),
  (.op none (some 71) (.call 30 [(.tmp 70)])),
  (.op none (some 67) (.v (.mv (.tmp 71)))),
  (.op none (some 72) (.v (.ext (.tmp 67) 0))),
  (.op none (some 73) (.v (.ext (.tmp 67) 1))),
  (.op none (some 13) (.v (.mv (.tmp 72)))),
  (.op none (some 14) (.v (.mv (.tmp 73))))]
@[go_sem] def c10r31 : List GOp := [(.op none (some 74) (.v (.mv (.tmp 14)))),
  (.op none (some 75) (.v (.bin .eql (.tmp 74) (.const (.int .i64 2))))),
  (.op none (some 6) (.v (.mv (.tmp 75))))]
def c10s32 : SCode := (.seq (.ops c10r31 c10k) .ret)
@[go_sem] theorem c10s32eq (P : Program) (ρ : Env) (H : Heap) (Q : Post) : vc P c10s32 ρ H Q = vc P (.seq (.ops c10r31 c10k) .ret) ρ H Q := rfl
def c10s33 : SCode := (.seq (.ops c10r30 c10k) c10s32)
@[go_sem] theorem c10s33eq (P : Program) (ρ : Env) (H : Heap) (Q : Post) : vc P c10s33 ρ H Q = vc P (.seq (.ops c10r30 c10k) c10s32) ρ H Q := rfl
def c10s34 : SCode := (.seq (.seq (.ops c10r26 c10k) c10s29) c10s33)
@[go_sem] theorem c10s34eq (P : Program) (ρ : Env) (H : Heap) (Q : Post) : vc P c10s34 ρ H Q = vc P (.seq (.seq (.ops c10r26 c10k) c10s29) c10s33) ρ H Q := rfl
def c10s35 : SCode := (.seq (.seq (.ops c10r15 c10k) c10s25) c10s34)
@[go_sem] theorem c10s35eq (P : Program) (ρ : Env) (H : Heap) (Q : Post) : vc P c10s35 ρ H Q = vc P (.seq (.seq (.ops c10r15 c10k) c10s25) c10s34) ρ H Q := rfl
def c10s36 : SCode := (.seq (.seq (.ops c10r11 c10k) c10s14) c10s35)
@[go_sem] theorem c10s36eq (P : Program) (ρ : Env) (H : Heap) (Q : Post) : vc P c10s36 ρ H Q = vc P (.seq (.seq (.ops c10r11 c10k) c10s14) c10s35) ρ H Q := rfl
def c10s37 : SCode := (.seq (.ops c10r10 c10k) c10s36)
@[go_sem] theorem c10s37eq (P : Program) (ρ : Env) (H : Heap) (Q : Post) : vc P c10s37 ρ H Q = vc P (.seq (.ops c10r10 c10k) c10s36) ρ H Q := rfl
def c10s38 : SCode := (.seq (.ops c10r9 c10k) c10s37)
@[go_sem] theorem c10s38eq (P : Program) (ρ : Env) (H : Heap) (Q : Post) : vc P c10s38 ρ H Q = vc P (.seq (.ops c10r9 c10k) c10s37) ρ H Q := rfl
def c10s39 : SCode := (.seq (.seq (.ops c10r5 c10k) c10s8) c10s38)
@[go_sem] theorem c10s39eq (P : Program) (ρ : Env) (H : Heap) (Q : Post) : vc P c10s39 ρ H Q = vc P (.seq (.seq (.ops c10r5 c10k) c10s8) c10s38) ρ H Q := rfl
def c10s40 : SCode := (.seq (.seq (.ops c10r1 c10k) c10s4) c10s39)
@[go_sem] theorem c10s40eq (P : Program) (ρ : Env) (H : Heap) (Q : Post) : vc P c10s40 ρ H Q = vc P (.seq (.seq (.ops c10r1 c10k) c10s4) c10s39) ρ H Q := rfl
def c10 : Gx.Fn := ⟨76, c10k, (.seq (.ops c10r0 c10k) c10s40), [(.tmp 6)]⟩
theorem c10ok : stripFn Try.prog c10k Try.f10 = some c10 := by kernel_rfl

/- plexuslaw07.ClockDecodes -/
@[go_sem] def c11k : List Nat := [0, 1, 4, 5, 6, 7, 8, 10, 17]
@[go_sem] def c11r0 : List GOp := [(.op none (some 4) (.v (.mv (.const (.bool false)))))]
@[go_sem] def c11r1 : List GOp := [(.op none (some 9) (.call 12 [])),
  (.op none (some 10) (.v (.un .not (.tmp 9))))]
@[go_sem] def c11r2 : List GOp := [(.op none (some 4) (.v (.mv (.const (.bool false)))))]
def c11s3 : SCode := (.seq (.ops c11r2 c11k) .ret)
@[go_sem] theorem c11s3eq (P : Program) (ρ : Env) (H : Heap) (Q : Post) : vc P c11s3 ρ H Q = vc P (.seq (.ops c11r2 c11k) .ret) ρ H Q := rfl
def c11s4 : SCode := (.cond (.tmp 10) c11s3 .skip)
@[go_sem] theorem c11s4eq (P : Program) (ρ : Env) (H : Heap) (Q : Post) : vc P c11s4 ρ H Q = vc P (.cond (.tmp 10) c11s3 .skip) ρ H Q := rfl
@[go_sem] def c11r5 : List GOp := [(.op none (some 11) (.v (.mv (.tmp 0)))),
  (.op none (some 12) (.call 13 [(.tmp 11)])),
  (.op none (some 13) (.v (.mv (.tmp 12)))),
  (.sel 13 false [(14, (.v (.mv (.tmp 1)))), (15, (.v (.len (.tmp 14)))), (16, (.v (.bin .gtr (.tmp 15) (.const (.int .i64 1000)))))] 17 (.const (.bool true)) (.tmp 16))]
@[go_sem] def c11r6 : List GOp := [(.op none (some 4) (.v (.mv (.const (.bool true)))))]
def c11s7 : SCode := (.seq (.ops c11r6 c11k) .ret)
@[go_sem] theorem c11s7eq (P : Program) (ρ : Env) (H : Heap) (Q : Post) : vc P c11s7 ρ H Q = vc P (.seq (.ops c11r6 c11k) .ret) ρ H Q := rfl
def c11s8 : SCode := (.cond (.tmp 17) c11s7 .skip)
@[go_sem] theorem c11s8eq (P : Program) (ρ : Env) (H : Heap) (Q : Post) : vc P c11s8 ρ H Q = vc P (.cond (.tmp 17) c11s7 .skip) ρ H Q := rfl
@[go_sem] def c11r9 : List GOp := [(.op none (some 19) (.v (.mv (.tmp 1)))),
  (.op none (some 20) (.call 30 [(.tmp 19)])),
  (.op none (some 18) (.v (.mv (.tmp 20)))),
  (.op none (some 21) (.v (.ext (.tmp 18) 0))),
  (.op none (some 22) (.v (.ext (.tmp 18) 1))),
  (.op none (some 5) (.v (.mv (.tmp 21)))),
  (.op none (some 6) (.v (.mv (.tmp 22))))]
@[go_sem] def c11r10 : List GOp := [(.op none (some 24) (.v (.mv (.tmp 1)))),
  (.op none (some 25) (.call 31 [(.tmp 24)])),
  (.op none (some 23) (.v (.mv (.tmp 25)))),
  (.op none (some 26) (.v (.ext (.tmp 23) 0))),
  (.op none (some 27) (.v (.ext (.tmp 23) 1))),
  (.op none (some 7) (.v (.mv (.tmp 26)))),
  (.op none (some 8) (.v (.mv (.tmp 27))))]
@[go_sem] def c11d11 : DT := (.rd none (some 28) (.v (.mv (.tmp 0))) [1, 4, 15] (.rd none (some 31) (.v (.mv (.tmp 0))) [4, 15] (.ef 1 none (some 29) (.call 29 [(.tmp 28)]) (.rd none (some 30) (.b2s (.tmp 29)) [15] (.ef 4 none (some 32) (.call 32 [(.tmp 31)]) (.rd none (some 33) (.b2s (.tmp 32)) [15] (.rd none (some 34) (.v (.bin .eql (.tmp 30) (.tmp 33))) [15] (.rd none (some 35) (.v (.mv (.tmp 34))) [15] (.rd (some (35, true)) (some 36) (.v (.mv (.tmp 6))) [15] (.rd (some (35, true)) (some 37) (.v (.mv (.tmp 8))) [15] (.rd (some (35, true)) (some 38) (.v (.bin .eql (.tmp 36) (.tmp 37))) [15] (.rd none (some 39) (.v (.pick (.tmp 35) (.tmp 38) (.const (.bool false)))) [15] (.rd none (some 40) (.v (.mv (.tmp 39))) [15] (.rd (some (40, true)) (some 41) (.v (.mv (.tmp 5))) [15] (.rd (some (40, true)) (some 42) (.v (.mv (.tmp 7))) [15] (.ef 15 (some (40, true)) (some 43) (.call 20 [(.tmp 41), (.tmp 42)]) (.rd none (some 44) (.v (.pick (.tmp 40) (.tmp 43) (.const (.bool false)))) [] (.rd none (some 4) (.v (.mv (.tmp 44))) [] .done))))))))))))))))))
def c11s12 : SCode := (.seq (.de c11d11 c11k) .ret)
@[go_sem] theorem c11s12eq (P : Program) (ρ : Env) (H : Heap) (Q : Post) : vc P c11s12 ρ H Q = vc P (.seq (.de c11d11 c11k) .ret) ρ H Q := rfl
def c11s13 : SCode := (.seq (.ops c11r10 c11k) c11s12)
@[go_sem] theorem c11s13eq (P : Program) (ρ : Env) (H : Heap) (Q : Post) : vc P c11s13 ρ H Q = vc P (.seq (.ops c11r10 c11k) c11s12) ρ H Q := rfl
def c11s14 : SCode := (.seq (.ops c11r9 c11k) c11s13)
@[go_sem] theorem c11s14eq (P : Program) (ρ : Env) (H : Heap) (Q : Post) : vc P c11s14 ρ H Q = vc P (.seq (.ops c11r9 c11k) c11s13) ρ H Q := rfl
def c11s15 : SCode := (.seq (.seq (.ops c11r5 c11k) c11s8) c11s14)
@[go_sem] theorem c11s15eq (P : Program) (ρ : Env) (H : Heap) (Q : Post) : vc P c11s15 ρ H Q = vc P (.seq (.seq (.ops c11r5 c11k) c11s8) c11s14) ρ H Q := rfl
def c11s16 : SCode := (.seq (.seq (.ops c11r1 c11k) c11s4) c11s15)
@[go_sem] theorem c11s16eq (P : Program) (ρ : Env) (H : Heap) (Q : Post) : vc P c11s16 ρ H Q = vc P (.seq (.seq (.ops c11r1 c11k) c11s4) c11s15) ρ H Q := rfl
def c11 : Gx.Fn := ⟨45, c11k, (.seq (.ops c11r0 c11k) c11s16), [(.tmp 4)]⟩
theorem c11ok : stripFn Try.prog c11k Try.f11 = some c11 := by kernel_rfl

/- plexuslaw07.awake -/
@[go_sem] def c12k : List Nat := [0, 1, 2, 3, 4, 5, 6]
@[go_sem] def c12r0 : List GOp := [(.op none (some 0) (.v (.mv (.const (.bool false)))))]
@[go_sem] def c12r1 : List GOp := [(.op none (some 7) (.v (.bld [(.int .i64 0), (.int .i64 0)] [(0, (1, (.const (.int .i64 0)))), (1, (1, (.const (.int .i64 3))))]))),
  (.op none (some 8) (.v (.bld [(.int .i64 0), (.int .i64 0)] [(0, (1, (.const (.int .i64 2)))), (1, (1, (.const (.int .i64 1))))]))),
  (.op none (some 9) (.bs 41 2 [(.int .i64 0), (.int .i64 0), (.int .i64 0), (.int .i64 0)] [(0, (2, (.tmp 7))), (2, (2, (.tmp 8)))])),
  (.op none (some 1) (.v (.mv (.tmp 9))))]
@[go_sem] def c12r2 : List GOp := [(.op none (some 10) (.v (.bld [(.int .i64 0), (.int .i64 0)] [(0, (1, (.const (.int .i64 0)))), (1, (1, (.const (.int .i64 1))))]))),
  (.op none (some 11) (.v (.bld [(.int .i64 0), (.int .i64 0)] [(0, (1, (.const (.int .i64 5)))), (1, (1, (.const (.int .i64 4))))]))),
  (.op none (some 12) (.bs 41 2 [(.int .i64 0), (.int .i64 0), (.int .i64 0), (.int .i64 0)] [(0, (2, (.tmp 10))), (2, (2, (.tmp 11)))])),
  (.op none (some 2) (.v (.mv (.tmp 12))))]
@[go_sem] def c12r3 : List GOp := [(.op none (some 14) (.v (.bld [(.int .i64 0), (.int .i64 0)] [(0, (1, (.const (.int .i64 2)))), (1, (1, (.const (.int .i64 1))))]))),
  (.op none (some 15) (.bs 41 1 [(.int .i64 0), (.int .i64 0)] [(0, (2, (.tmp 14)))])),
  (.op none (some 16) (.call 14 [(.tmp 15), (.const (.int .i64 0))])),
  (.op none (some 13) (.v (.mv (.tmp 16)))),
  (.op none (some 17) (.v (.ext (.tmp 13) 0))),
  (.op none (some 18) (.v (.ext (.tmp 13) 1))),
  (.op none (some 3) (.v (.mv (.tmp 17)))),
  (.op none (some 4) (.v (.mv (.tmp 18))))]
@[go_sem] def c12r4 : List GOp := [(.op none (some 20) (.bs 5 6 [(.int .u8 0), (.int .u8 0), (.int .u8 0), (.int .u8 0), (.int .u8 0), (.int .u8 0)] [(0, (1, (.const (.int .u8 2)))), (1, (1, (.const (.int .u8 0)))), (2, (1, (.const (.int .u8 3)))), (3, (1, (.const (.int .u8 2)))), (4, (1, (.const (.int .u8 200)))), (5, (1, (.const (.int .u8 1))))])),
  (.op none (some 21) (.call 30 [(.tmp 20)])),
  (.op none (some 19) (.v (.mv (.tmp 21)))),
  (.op none (some 22) (.v (.ext (.tmp 19) 0))),
  (.op none (some 23) (.v (.ext (.tmp 19) 1))),
  (.op none (some 5) (.v (.mv (.tmp 22)))),
  (.op none (some 6) (.v (.mv (.tmp 23))))]
@[go_sem] def c12r5 : List GOp := [(.op none (some 24) (.v (.mv (.tmp 1)))),
  (.op none (some 25) (.call 16 [(.tmp 24)])),
  (.op none (some 26) (.v (.mv (.tmp 25)))),
  (.op (some (26, true)) (some 27) (.v (.mv (.tmp 2)))),
  (.op (some (26, true)) (some 28) (.call 18 [(.tmp 27), (.const (.int .i64 5))])),
  (.sel 26 true [(29, (.v (.bin .eql (.tmp 28) (.const (.int .i64 4)))))] 30 (.tmp 29) (.const (.bool false))),
  (.op none (some 31) (.v (.mv (.tmp 30)))),
  (.sel 31 true [(32, (.v (.mv (.tmp 4)))), (33, (.v (.bin .eql (.tmp 32) (.const (.int .i64 0)))))] 34 (.tmp 33) (.const (.bool false))),
  (.op none (some 35) (.v (.mv (.tmp 34)))),
  (.op (some (35, true)) (some 36) (.v (.mv (.tmp 3)))),
  (.op (some (35, true)) (some 37) (.v (.bld [(.int .i64 0), (.int .i64 0)] [(0, (1, (.const (.int .i64 0)))), (1, (1, (.const (.int .i64 1))))]))),
  (.op (some (35, true)) (some 38) (.v (.bld [(.int .i64 0), (.int .i64 0)] [(0, (1, (.const (.int .i64 2)))), (1, (1, (.const (.int .i64 1))))]))),
  (.op (some (35, true)) (some 39) (.bs 41 2 [(.int .i64 0), (.int .i64 0), (.int .i64 0), (.int .i64 0)] [(0, (2, (.tmp 37))), (2, (2, (.tmp 38)))])),
  (.op (some (35, true)) (some 40) (.call 20 [(.tmp 36), (.tmp 39)])),
  (.op none (some 41) (.v (.pick (.tmp 35) (.tmp 40) (.const (.bool false))))),
  (.op none (some 42) (.v (.mv (.tmp 41)))),
  (.op (some (42, true)) (some 43) (.v (.mv (.tmp 1)))),
  (.op (some (42, true)) (some 44) (.v (.mv (.tmp 2)))),
  (.op (some (42, true)) (some 45) (.call 22 [(.tmp 43), (.tmp 44)])),
  (.sel 42 true [(46, (.v (.len (.tmp 45)))), (47, (.v (.bin .eql (.tmp 46) (.const (.int .i64 3)))))] 48 (.tmp 47) (.const (.bool false))),
  (.op none (some 49) (.v (.mv (.tmp 48)))),
  (.op (some (49, true)) (some 50) (.v (.mv (.tmp 1)))),
  (.op (some (49, true)) (some 51) (.v (.mv (.tmp 2)))),
  (.op (some (49, true)) (some 52) (.call 24 [(.tmp 50), (.tmp 51)])),
  (.sel 49 true [(53, (.v (.len (.tmp 52)))), (54, (.v (.bin .eql (.tmp 53) (.const (.int .i64 1)))))] 55 (.tmp 54) (.const (.bool false))),
  (.op none (some 56) (.v (.mv (.tmp 55)))),
  (.op (some (56, true)) (some 57) (.v (.mv (.tmp 1)))),
  (.op (some (56, true)) (some 58) (.v (.mv (.tmp 2)))),
  (.op (some (56, true)) (some 59) (.call 26 [(.tmp 57), (.tmp 58)])),
  (.op (some (56, true)) (some 60) (.v (.mv (.tmp 1)))),
  (.op (some (56, true)) (some 61) (.call 20 [(.tmp 59), (.tmp 60)])),
  (.op none (some 62) (.v (.pick (.tmp 56) (.tmp 61) (.const (.bool false))))),
  (.op none (some 63) (.v (.mv (.tmp 62)))),
  (.op (some (63, true)) (some 64) (.v (.mv (.tmp 1)))),
  (.op (some (63, true)) (some 65) (.v (.mv (.tmp 2)))),
  (.op (some (63, true)) (some 66) (.call 21 [(.tmp 64), (.tmp 65)])),
  (.sel 63 true [(67, (.v (.bin .eql (.tmp 66) (.const (.int .i64 3)))))] 68 (.tmp 67) (.const (.bool false))),
  (.op none (some 69) (.v (.mv (.tmp 68)))),
  (.op (some (69, true)) (some 70) (.v (.mv (.tmp 1)))),
  (.op (some (69, true)) (some 71) (.call 29 [(.tmp 70)])),
  (.sel 69 true [(72, (.v (.len (.tmp 71)))), (73, (.v (.bin .eql (.tmp 72) (.const (.int .i64 5)))))] 74 (.tmp 73) (.const (.bool false))),
  (.op none (some 75) (.v (.mv (.tmp 74)))),
  (.sel 75 true [(76, (.v (.mv (.tmp 6)))), (77, (.v (.bin .eql (.tmp 76) (.const (.int .i64 0)))))] 78 (.tmp 77) (.const (.bool false))),
  (.op none (some 79) (.v (.mv (.tmp 78)))),
  (.sel 79 true [(80, (.v (.mv (.tmp 5)))), (81, (.v (.len (.tmp 80)))), (82, (.v (.bin .eql (.tmp 81) (.const (.int .i64 2)))))] 83 (.tmp 82) (.const (.bool false))),
  (.op none (some 0) (.v (.mv (.tmp 83))))]
def c12s6 : SCode := (.seq (.ops c12r5 c12k) .ret)
@[go_sem] theorem c12s6eq (P : Program) (ρ : Env) (H : Heap) (Q : Post) : vc P c12s6 ρ H Q = vc P (.seq (.ops c12r5 c12k) .ret) ρ H Q := rfl
def c12s7 : SCode := (.seq (.ops c12r4 c12k) c12s6)
@[go_sem] theorem c12s7eq (P : Program) (ρ : Env) (H : Heap) (Q : Post) : vc P c12s7 ρ H Q = vc P (.seq (.ops c12r4 c12k) c12s6) ρ H Q := rfl
def c12s8 : SCode := (.seq (.ops c12r3 c12k) c12s7)
@[go_sem] theorem c12s8eq (P : Program) (ρ : Env) (H : Heap) (Q : Post) : vc P c12s8 ρ H Q = vc P (.seq (.ops c12r3 c12k) c12s7) ρ H Q := rfl
def c12s9 : SCode := (.seq (.ops c12r2 c12k) c12s8)
@[go_sem] theorem c12s9eq (P : Program) (ρ : Env) (H : Heap) (Q : Post) : vc P c12s9 ρ H Q = vc P (.seq (.ops c12r2 c12k) c12s8) ρ H Q := rfl
def c12s10 : SCode := (.seq (.ops c12r1 c12k) c12s9)
@[go_sem] theorem c12s10eq (P : Program) (ρ : Env) (H : Heap) (Q : Post) : vc P c12s10 ρ H Q = vc P (.seq (.ops c12r1 c12k) c12s9) ρ H Q := rfl
def c12 : Gx.Fn := ⟨84, c12k, (.seq (.ops c12r0 c12k) c12s10), [(.tmp 0)]⟩
theorem c12ok : stripFn Try.prog c12k Try.f12 = some c12 := by kernel_rfl

/- plexuslaw07.long -/
@[go_sem] def c13k : List Nat := [0, 2]
@[go_sem] def c13r0 : List GOp := [(.op none (some 2) (.v (.mv (.const (.bool false)))))]
@[go_sem] def c13r1 : List GOp := [(.op none (some 3) (.v (.mv (.tmp 0)))),
  (.op none (some 4) (.v (.len (.tmp 3)))),
  (.op none (some 5) (.v (.bin .gtr (.tmp 4) (.const (.int .i64 200))))),
  (.op none (some 2) (.v (.mv (.tmp 5))))]
def c13s2 : SCode := (.seq (.ops c13r1 c13k) .ret)
@[go_sem] theorem c13s2eq (P : Program) (ρ : Env) (H : Heap) (Q : Post) : vc P c13s2 ρ H Q = vc P (.seq (.ops c13r1 c13k) .ret) ρ H Q := rfl
def c13 : Gx.Fn := ⟨6, c13k, (.seq (.ops c13r0 c13k) c13s2), [(.tmp 2)]⟩
theorem c13ok : stripFn Try.prog c13k Try.f13 = some c13 := by kernel_rfl

/- clock.Inc -/
@[go_sem] def c14k : List Nat := [0, 1, 4, 5, 6, 17, 22]
@[go_sem] def c14r0 : List GOp := [(.op none (some 4) (.v (.mv (.const (.slice none 0 0))))),
  (.op none (some 5) (.v (.mv (.const (.int .i64 0)))))]
@[go_sem] def c14r1 : List GOp := [(.op none (some 7) (.v (.mv (.tmp 0)))),
  (.op none (some 8) (.call 16 [(.tmp 7)])),
  (.op none (some 9) (.v (.un .not (.tmp 8)))),
  (.op none (some 10) (.v (.mv (.tmp 9)))),
  (.sel 10 false [(11, (.v (.mv (.tmp 1)))), (12, (.v (.bin .lss (.tmp 11) (.const (.int .i64 0)))))] 13 (.const (.bool true)) (.tmp 12)),
  (.op none (some 14) (.v (.mv (.tmp 13)))),
  (.sel 14 false [(15, (.v (.mv (.tmp 1)))), (16, (.v (.bin .gtr (.tmp 15) (.const (.int .i64 63)))))] 17 (.const (.bool true)) (.tmp 16))]
@[go_sem] def c14r2 : List GOp := [(.op none (some 4) (.v (.mv (.const (.slice none 0 0))))),
  (.op none (some 5) (.v (.mv (.const (.int .i64 1)))))]
def c14s3 : SCode := (.seq (.ops c14r2 c14k) .ret)
@[go_sem] theorem c14s3eq (P : Program) (ρ : Env) (H : Heap) (Q : Post) : vc P c14s3 ρ H Q = vc P (.seq (.ops c14r2 c14k) .ret) ρ H Q := rfl
def c14s4 : SCode := (.cond (.tmp 17) c14s3 .skip)
@[go_sem] theorem c14s4eq (P : Program) (ρ : Env) (H : Heap) (Q : Post) : vc P c14s4 ρ H Q = vc P (.cond (.tmp 17) c14s3 .skip) ρ H Q := rfl
@[go_sem] def c14r5 : List GOp := [(.op none (some 18) (.v (.mv (.tmp 0)))),
  (.op none (some 19) (.v (.mv (.tmp 1)))),
  (.op none (some 20) (.call 18 [(.tmp 18), (.tmp 19)])),
  (.op none (some 6) (.v (.mv (.tmp 20))))]
@[go_sem] def c14r6 : List GOp := [(.op none (some 21) (.v (.mv (.tmp 6)))),
  (.op none (some 22) (.v (.bin .eql (.tmp 21) (.const (.int .i64 1000000000000000)))))]
@[go_sem] def c14r7 : List GOp := [(.op none (some 4) (.v (.mv (.const (.slice none 0 0))))),
  (.op none (some 5) (.v (.mv (.const (.int .i64 6)))))]
def c14s8 : SCode := (.seq (.ops c14r7 c14k) .ret)
@[go_sem] theorem c14s8eq (P : Program) (ρ : Env) (H : Heap) (Q : Post) : vc P c14s8 ρ H Q = vc P (.seq (.ops c14r7 c14k) .ret) ρ H Q := rfl
def c14s9 : SCode := (.cond (.tmp 22) c14s8 .skip)
@[go_sem] theorem c14s9eq (P : Program) (ρ : Env) (H : Heap) (Q : Post) : vc P c14s9 ρ H Q = vc P (.cond (.tmp 22) c14s8 .skip) ρ H Q := rfl
@[go_sem] def c14r10 : List GOp := [(.op none (some 23) (.v (.mv (.tmp 0)))),
  (.op none (some 24) (.v (.mv (.tmp 1)))),
  (.op none (some 25) (.v (.mv (.tmp 6)))),
  (.op none (some 26) (.v (.bin .add (.tmp 25) (.const (.int .i64 1))))),
  (.op none (some 27) (.v (.bld [(.int .i64 0), (.int .i64 0)] [(0, (1, (.tmp 24))), (1, (1, (.tmp 26)))]))),
  (.op none (some 28) (.bs 41 1 [(.int .i64 0), (.int .i64 0)] [(0, (2, (.tmp 27)))])),
  (.op none (some 29) (.call 22 [(.tmp 23), (.tmp 28)])),
  (.op none (some 4) (.v (.mv (.tmp 29)))),
  (.op none (some 5) (.v (.mv (.const (.int .i64 0)))))]
def c14s11 : SCode := (.seq (.ops c14r10 c14k) .ret)
@[go_sem] theorem c14s11eq (P : Program) (ρ : Env) (H : Heap) (Q : Post) : vc P c14s11 ρ H Q = vc P (.seq (.ops c14r10 c14k) .ret) ρ H Q := rfl
def c14s12 : SCode := (.seq (.seq (.ops c14r6 c14k) c14s9) c14s11)
@[go_sem] theorem c14s12eq (P : Program) (ρ : Env) (H : Heap) (Q : Post) : vc P c14s12 ρ H Q = vc P (.seq (.seq (.ops c14r6 c14k) c14s9) c14s11) ρ H Q := rfl
def c14s13 : SCode := (.seq (.ops c14r5 c14k) c14s12)
@[go_sem] theorem c14s13eq (P : Program) (ρ : Env) (H : Heap) (Q : Post) : vc P c14s13 ρ H Q = vc P (.seq (.ops c14r5 c14k) c14s12) ρ H Q := rfl
def c14s14 : SCode := (.seq (.seq (.ops c14r1 c14k) c14s4) c14s13)
@[go_sem] theorem c14s14eq (P : Program) (ρ : Env) (H : Heap) (Q : Post) : vc P c14s14 ρ H Q = vc P (.seq (.seq (.ops c14r1 c14k) c14s4) c14s13) ρ H Q := rfl
def c14 : Gx.Fn := ⟨30, c14k, (.seq (.ops c14r0 c14k) c14s14), [(.tmp 4), (.tmp 5)]⟩
theorem c14ok : stripFn Try.prog c14k Try.f14 = some c14 := by kernel_rfl

/- plexusref07.Inc -/
@[go_sem] def c15k : List Nat := [0, 1, 4, 5, 6, 17, 24]
@[go_sem] def c15r0 : List GOp := [(.op none (some 4) (.v (.mv (.const (.slice none 0 0))))),
  (.op none (some 5) (.v (.mv (.const (.int .i64 0)))))]
@[go_sem] def c15r1 : List GOp := [(.op none (some 7) (.v (.mv (.tmp 0)))),
  (.op none (some 8) (.call 17 [(.tmp 7)])),
  (.op none (some 9) (.v (.un .not (.tmp 8)))),
  (.op none (some 10) (.v (.mv (.tmp 9)))),
  (.sel 10 false [(11, (.v (.mv (.tmp 1)))), (12, (.v (.bin .lss (.tmp 11) (.const (.int .i64 0)))))] 13 (.const (.bool true)) (.tmp 12)),
  (.op none (some 14) (.v (.mv (.tmp 13)))),
  (.sel 14 false [(15, (.v (.mv (.tmp 1)))), (16, (.v (.bin .gtr (.tmp 15) (.const (.int .i64 63)))))] 17 (.const (.bool true)) (.tmp 16))]
@[go_sem] def c15r2 : List GOp := [(.op none (some 4) (.v (.mv (.const (.slice none 0 0))))),
  (.op none (some 5) (.v (.mv (.const (.int .i64 1)))))]
def c15s3 : SCode := (.seq (.ops c15r2 c15k) .ret)
@[go_sem] theorem c15s3eq (P : Program) (ρ : Env) (H : Heap) (Q : Post) : vc P c15s3 ρ H Q = vc P (.seq (.ops c15r2 c15k) .ret) ρ H Q := rfl
def c15s4 : SCode := (.cond (.tmp 17) c15s3 .skip)
@[go_sem] theorem c15s4eq (P : Program) (ρ : Env) (H : Heap) (Q : Post) : vc P c15s4 ρ H Q = vc P (.cond (.tmp 17) c15s3 .skip) ρ H Q := rfl
@[go_sem] def c15r5 : List GOp := [(.op none (some 18) (.v (.mv (.tmp 0)))),
  (.op none (some 19) (.call 33 [(.tmp 18)])),
  (.op none (some 6) (.v (.mv (.tmp 19))))]
@[go_sem] def c15r6 : List GOp := [(.op none (some 20) (.v (.mv (.tmp 6)))),
  (.op none (some 21) (.v (.mv (.tmp 1)))),
  (.op none (some 22) (.v (.ix 1 (.tmp 20) (.tmp 21)))),
  (.op none (some 23) (.ld none (.tmp 22))),
  (.op none (some 24) (.v (.bin .eql (.tmp 23) (.const (.int .i64 1000000000000000)))))]
@[go_sem] def c15r7 : List GOp := [(.op none (some 4) (.v (.mv (.const (.slice none 0 0))))),
  (.op none (some 5) (.v (.mv (.const (.int .i64 6)))))]
def c15s8 : SCode := (.seq (.ops c15r7 c15k) .ret)
@[go_sem] theorem c15s8eq (P : Program) (ρ : Env) (H : Heap) (Q : Post) : vc P c15s8 ρ H Q = vc P (.seq (.ops c15r7 c15k) .ret) ρ H Q := rfl
def c15s9 : SCode := (.cond (.tmp 24) c15s8 .skip)
@[go_sem] theorem c15s9eq (P : Program) (ρ : Env) (H : Heap) (Q : Post) : vc P c15s9 ρ H Q = vc P (.cond (.tmp 24) c15s8 .skip) ρ H Q := rfl
@[go_sem] def c15r10 : List GOp := [(.op none (some 25) (.v (.mv (.tmp 6)))),
  (.op none (some 26) (.v (.mv (.tmp 1)))),
  (.op none (some 27) (.v (.ix 1 (.tmp 25) (.tmp 26)))),
  (.op none (some 28) (.ld none (.tmp 27))),
  (.op none (some 29) (.v (.bin .add (.tmp 28) (.const (.int .i64 1))))),
  (.op none (some 30) (.v (.ix 1 (.tmp 25) (.tmp 26)))),
  (.op none none (.st 1 (.tmp 30) (.tmp 29)))]
@[go_sem] def c15r11 : List GOp := [(.op none (some 31) (.v (.mv (.tmp 6)))),
  (.op none (some 32) (.call 34 [(.tmp 31)])),
  (.op none (some 4) (.v (.mv (.tmp 32)))),
  (.op none (some 5) (.v (.mv (.const (.int .i64 0)))))]
def c15s12 : SCode := (.seq (.ops c15r11 c15k) .ret)
@[go_sem] theorem c15s12eq (P : Program) (ρ : Env) (H : Heap) (Q : Post) : vc P c15s12 ρ H Q = vc P (.seq (.ops c15r11 c15k) .ret) ρ H Q := rfl
def c15s13 : SCode := (.seq (.ops c15r10 c15k) c15s12)
@[go_sem] theorem c15s13eq (P : Program) (ρ : Env) (H : Heap) (Q : Post) : vc P c15s13 ρ H Q = vc P (.seq (.ops c15r10 c15k) c15s12) ρ H Q := rfl
def c15s14 : SCode := (.seq (.seq (.ops c15r6 c15k) c15s9) c15s13)
@[go_sem] theorem c15s14eq (P : Program) (ρ : Env) (H : Heap) (Q : Post) : vc P c15s14 ρ H Q = vc P (.seq (.seq (.ops c15r6 c15k) c15s9) c15s13) ρ H Q := rfl
def c15s15 : SCode := (.seq (.ops c15r5 c15k) c15s14)
@[go_sem] theorem c15s15eq (P : Program) (ρ : Env) (H : Heap) (Q : Post) : vc P c15s15 ρ H Q = vc P (.seq (.ops c15r5 c15k) c15s14) ρ H Q := rfl
def c15s16 : SCode := (.seq (.seq (.ops c15r1 c15k) c15s4) c15s15)
@[go_sem] theorem c15s16eq (P : Program) (ρ : Env) (H : Heap) (Q : Post) : vc P c15s16 ρ H Q = vc P (.seq (.seq (.ops c15r1 c15k) c15s4) c15s15) ρ H Q := rfl
def c15 : Gx.Fn := ⟨33, c15k, (.seq (.ops c15r0 c15k) c15s16), [(.tmp 4), (.tmp 5)]⟩
theorem c15ok : stripFn Try.prog c15k Try.f15 = some c15 := by kernel_rfl

/- clock.Valid -/
@[go_sem] def c16k : List Nat := [0, 2, 3, 5, 6, 7, 8, 9, 30]
@[go_sem] def c16r0 : List GOp := [(.op none (some 2) (.v (.mv (.const (.bool false)))))]
@[go_sem] def c16r1 : List GOp := [(.op none (some 3) (.v (.mv (.const (.int .i64 (-1))))))]
@[go_sem] def c16r2 : List GOp := [(.op none (some 6) (.v (.mv (.tmp 0)))),
  (.op none (some 7) (.v (.len (.tmp 6)))),
  (.op none (some 8) (.v (.mv (.const (.int .i64 0)))))]
@[go_sem] def c16r3 : List GOp := [(.op none (some 9) (.v (.bin .lss (.tmp 8) (.tmp 7))))]
@[go_sem] def c16r4 : List GOp := [(.op none (some 10) (.v (.ix 2 (.tmp 6) (.tmp 8)))),
  (.op none (some 11) (.ld (some 2) (.tmp 10))),
  (.op none (some 5) (.al 41 [(.int .i64 0), (.int .i64 0)])),
  (.op none none (.st 2 (.tmp 5) (.tmp 11)))]
@[go_sem] def c16r5 : List GOp := [(.op none (some 12) (.v (.fa 0 (.tmp 5)))),
  (.op none (some 13) (.ld none (.tmp 12))),
  (.op none (some 14) (.v (.mv (.tmp 3)))),
  (.op none (some 15) (.v (.bin .leq (.tmp 13) (.tmp 14)))),
  (.op none (some 16) (.v (.mv (.tmp 15)))),
  (.sel 16 false [(17, (.v (.fa 0 (.tmp 5)))), (18, (.ld none (.tmp 17))), (19, (.v (.bin .gtr (.tmp 18) (.const (.int .i64 63)))))] 20 (.const (.bool true)) (.tmp 19)),
  (.op none (some 21) (.v (.mv (.tmp 20)))),
  (.sel 21 false [(22, (.v (.fa 1 (.tmp 5)))), (23, (.ld none (.tmp 22))), (24, (.v (.bin .lss (.tmp 23) (.const (.int .i64 1)))))] 25 (.const (.bool true)) (.tmp 24)),
  (.op none (some 26) (.v (.mv (.tmp 25)))),
  (.sel 26 false [(27, (.v (.fa 1 (.tmp 5)))), (28, (.ld none (.tmp 27))), (29, (.v (.bin .gtr (.tmp 28) (.const (.int .i64 1000000000000000)))))] 30 (.const (.bool true)) (.tmp 29))]
@[go_sem] def c16r6 : List GOp := [(.op none (some 2) (.v (.mv (.const (.bool false)))))]
def c16s7 : SCode := (.seq (.ops c16r6 c16k) .ret)
@[go_sem] theorem c16s7eq (P : Program) (ρ : Env) (H : Heap) (Q : Post) : vc P c16s7 ρ H Q = vc P (.seq (.ops c16r6 c16k) .ret) ρ H Q := rfl
def c16s8 : SCode := (.cond (.tmp 30) c16s7 .skip)
@[go_sem] theorem c16s8eq (P : Program) (ρ : Env) (H : Heap) (Q : Post) : vc P c16s8 ρ H Q = vc P (.cond (.tmp 30) c16s7 .skip) ρ H Q := rfl
@[go_sem] def c16r9 : List GOp := [(.op none (some 31) (.v (.fa 0 (.tmp 5)))),
  (.op none (some 32) (.ld none (.tmp 31))),
  (.op none (some 3) (.v (.mv (.tmp 32))))]
def c16s10 : SCode := (.ops c16r9 c16k)
@[go_sem] theorem c16s10eq (P : Program) (ρ : Env) (H : Heap) (Q : Post) : vc P c16s10 ρ H Q = vc P (.ops c16r9 c16k) ρ H Q := rfl
def c16s11 : SCode := (.seq (.seq (.ops c16r5 c16k) c16s8) c16s10)
@[go_sem] theorem c16s11eq (P : Program) (ρ : Env) (H : Heap) (Q : Post) : vc P c16s11 ρ H Q = vc P (.seq (.seq (.ops c16r5 c16k) c16s8) c16s10) ρ H Q := rfl
@[go_sem] def c16r12 : List GOp := [(.op none (some 33) (.v (.bin .add (.tmp 8) (.const (.int .i64 1))))),
  (.op none (some 8) (.v (.mv (.tmp 33))))]
def c16s13 : SCode := (.ops c16r12 c16k)
@[go_sem] theorem c16s13eq (P : Program) (ρ : Env) (H : Heap) (Q : Post) : vc P c16s13 ρ H Q = vc P (.ops c16r12 c16k) ρ H Q := rfl
def c16s14 : SCode := (.seq (.block 1 (.seq (.ops c16r4 c16k) c16s11)) c16s13)
@[go_sem] theorem c16s14eq (P : Program) (ρ : Env) (H : Heap) (Q : Post) : vc P c16s14 ρ H Q = vc P (.seq (.block 1 (.seq (.ops c16r4 c16k) c16s11)) c16s13) ρ H Q := rfl
def c16s15 : SCode := (.seq (.cond (.tmp 9) .skip (.exit 0)) c16s14)
@[go_sem] theorem c16s15eq (P : Program) (ρ : Env) (H : Heap) (Q : Post) : vc P c16s15 ρ H Q = vc P (.seq (.cond (.tmp 9) .skip (.exit 0)) c16s14) ρ H Q := rfl
def c16s16 : SCode := (.seq (.ops c16r3 c16k) c16s15)
@[go_sem] theorem c16s16eq (P : Program) (ρ : Env) (H : Heap) (Q : Post) : vc P c16s16 ρ H Q = vc P (.seq (.ops c16r3 c16k) c16s15) ρ H Q := rfl
def c16s17 : SCode := (.block 0 (.loop c16s16))
@[go_sem] theorem c16s17eq (P : Program) (ρ : Env) (H : Heap) (Q : Post) : vc P c16s17 ρ H Q = vc P (.block 0 (.loop c16s16)) ρ H Q := rfl
@[go_sem] def c16r18 : List GOp := [(.op none (some 2) (.v (.mv (.const (.bool true)))))]
def c16s19 : SCode := (.seq (.ops c16r18 c16k) .ret)
@[go_sem] theorem c16s19eq (P : Program) (ρ : Env) (H : Heap) (Q : Post) : vc P c16s19 ρ H Q = vc P (.seq (.ops c16r18 c16k) .ret) ρ H Q := rfl
def c16s20 : SCode := (.seq (.seq (.ops c16r2 c16k) c16s17) c16s19)
@[go_sem] theorem c16s20eq (P : Program) (ρ : Env) (H : Heap) (Q : Post) : vc P c16s20 ρ H Q = vc P (.seq (.seq (.ops c16r2 c16k) c16s17) c16s19) ρ H Q := rfl
def c16s21 : SCode := (.seq (.ops c16r1 c16k) c16s20)
@[go_sem] theorem c16s21eq (P : Program) (ρ : Env) (H : Heap) (Q : Post) : vc P c16s21 ρ H Q = vc P (.seq (.ops c16r1 c16k) c16s20) ρ H Q := rfl
def c16 : Gx.Fn := ⟨34, c16k, (.seq (.ops c16r0 c16k) c16s21), [(.tmp 2)]⟩
theorem c16ok : stripFn Try.prog c16k Try.f16 = some c16 := by kernel_rfl

/- plexusref07.Valid -/
@[go_sem] def c17k : List Nat := [0, 2, 3, 7, 39, 55]
@[go_sem] def c17r0 : List GOp := [(.op none (some 2) (.v (.mv (.const (.bool false)))))]
@[go_sem] def c17r1 : List GOp := [(.op none (some 3) (.v (.mv (.const (.int .i64 0)))))]
@[go_sem] def c17r2 : List GOp := [(.op none (some 4) (.v (.mv (.tmp 3)))),
  (.op none (some 5) (.v (.mv (.tmp 0)))),
  (.op none (some 6) (.v (.len (.tmp 5)))),
  (.op none (some 7) (.v (.bin .lss (.tmp 4) (.tmp 6))))]
def c17s3 : SCode := (.cond (.tmp 7) .skip (.exit 0))
@[go_sem] theorem c17s3eq (P : Program) (ρ : Env) (H : Heap) (Q : Post) : vc P c17s3 ρ H Q = vc P (.cond (.tmp 7) .skip (.exit 0)) ρ H Q := rfl
@[go_sem] def c17r4 : List GOp := [(.op none (some 10) (.v (.mv (.tmp 0)))),
  (.op none (some 11) (.v (.mv (.tmp 3)))),
  (.op none (some 12) (.v (.ix 2 (.tmp 10) (.tmp 11)))),
  (.op none (some 13) (.v (.fa 0 (.tmp 12)))),
  (.op none (some 14) (.ld none (.tmp 13))),
  (.op none (some 15) (.v (.bin .lss (.tmp 14) (.const (.int .i64 0))))),
  (.op none (some 16) (.v (.mv (.tmp 15)))),
  (.op (some (16, false)) (some 17) (.v (.mv (.tmp 0)))),
  (.op (some (16, false)) (some 18) (.v (.mv (.tmp 3)))),
  (.op (some (16, false)) (some 19) (.v (.ix 2 (.tmp 17) (.tmp 18)))),
  (.sel 16 false [(20, (.v (.fa 0 (.tmp 19)))), (21, (.ld none (.tmp 20))), (22, (.v (.bin .gtr (.tmp 21) (.const (.int .i64 63)))))] 23 (.const (.bool true)) (.tmp 22)),
  (.op none (some 24) (.v (.mv (.tmp 23)))),
  (.op (some (24, false)) (some 25) (.v (.mv (.tmp 0)))),
  (.op (some (24, false)) (some 26) (.v (.mv (.tmp 3)))),
  (.op (some (24, false)) (some 27) (.v (.ix 2 (.tmp 25) (.tmp 26)))),
  (.sel 24 false [(28, (.v (.fa 1 (.tmp 27)))), (29, (.ld none (.tmp 28))), (30, (.v (.bin .lss (.tmp 29) (.const (.int .i64 1)))))] 31 (.const (.bool true)) (.tmp 30)),
  (.op none (some 32) (.v (.mv (.tmp 31)))),
  (.op (some (32, false)) (some 33) (.v (.mv (.tmp 0)))),
  (.op (some (32, false)) (some 34) (.v (.mv (.tmp 3)))),
  (.op (some (32, false)) (some 35) (.v (.ix 2 (.tmp 33) (.tmp 34)))),
  (.sel 32 false [(36, (.v (.fa 1 (.tmp 35)))), (37, (.ld none (.tmp 36))), (38, (.v (.bin .gtr (.tmp 37) (.const (.int .i64 1000000000000000)))))] 39 (.const (.bool true)) (.tmp 38))]
@[go_sem] def c17r5 : List GOp := [(.op none (some 2) (.v (.mv (.const (.bool false)))))]
def c17s6 : SCode := (.seq (.ops c17r5 c17k) .ret)
@[go_sem] theorem c17s6eq (P : Program) (ρ : Env) (H : Heap) (Q : Post) : vc P c17s6 ρ H Q = vc P (.seq (.ops c17r5 c17k) .ret) ρ H Q := rfl
def c17s7 : SCode := (.cond (.tmp 39) c17s6 .skip)
@[go_sem] theorem c17s7eq (P : Program) (ρ : Env) (H : Heap) (Q : Post) : vc P c17s7 ρ H Q = vc P (.cond (.tmp 39) c17s6 .skip) ρ H Q := rfl
@[go_sem] def c17r8 : List GOp := [(.op none (some 40) (.v (.mv (.tmp 3)))),
  (.op none (some 41) (.v (.bin .gtr (.tmp 40) (.const (.int .i64 0))))),
  (.op none (some 42) (.v (.mv (.tmp 41)))),
  (.op (some (42, true)) (some 43) (.v (.mv (.tmp 0)))),
  (.op (some (42, true)) (some 44) (.v (.mv (.tmp 3)))),
  (.op (some (42, true)) (some 45) (.v (.ix 2 (.tmp 43) (.tmp 44)))),
  (.op (some (42, true)) (some 46) (.v (.fa 0 (.tmp 45)))),
  (.op (some (42, true)) (some 47) (.ld none (.tmp 46))),
  (.op (some (42, true)) (some 48) (.v (.mv (.tmp 0)))),
  (.op (some (42, true)) (some 49) (.v (.mv (.tmp 3)))),
  (.op (some (42, true)) (some 50) (.v (.bin .sub (.tmp 49) (.const (.int .i64 1))))),
  (.op (some (42, true)) (some 51) (.v (.ix 2 (.tmp 48) (.tmp 50)))),
  (.sel 42 true [(52, (.v (.fa 0 (.tmp 51)))), (53, (.ld none (.tmp 52))), (54, (.v (.bin .leq (.tmp 47) (.tmp 53))))] 55 (.tmp 54) (.const (.bool false)))]
@[go_sem] def c17r9 : List GOp := [(.op none (some 2) (.v (.mv (.const (.bool false)))))]
def c17s10 : SCode := (.seq (.ops c17r9 c17k) .ret)
@[go_sem] theorem c17s10eq (P : Program) (ρ : Env) (H : Heap) (Q : Post) : vc P c17s10 ρ H Q = vc P (.seq (.ops c17r9 c17k) .ret) ρ H Q := rfl
def c17s11 : SCode := (.cond (.tmp 55) c17s10 .skip)
@[go_sem] theorem c17s11eq (P : Program) (ρ : Env) (H : Heap) (Q : Post) : vc P c17s11 ρ H Q = vc P (.cond (.tmp 55) c17s10 .skip) ρ H Q := rfl
def c17s12 : SCode := (.seq (.dq c17r8 c17k) c17s11)
@[go_sem] theorem c17s12eq (P : Program) (ρ : Env) (H : Heap) (Q : Post) : vc P c17s12 ρ H Q = vc P (.seq (.dq c17r8 c17k) c17s11) ρ H Q := rfl
@[go_sem] def c17r13 : List GOp := [(.op none (some 8) (.v (.mv (.tmp 3)))),
  (.op none (some 9) (.v (.bin .add (.tmp 8) (.const (.int .i64 1))))),
  (.op none (some 3) (.v (.mv (.tmp 9))))]
def c17s14 : SCode := (.ops c17r13 c17k)
@[go_sem] theorem c17s14eq (P : Program) (ρ : Env) (H : Heap) (Q : Post) : vc P c17s14 ρ H Q = vc P (.ops c17r13 c17k) ρ H Q := rfl
def c17s15 : SCode := (.seq (.block 1 (.seq (.seq (.ops c17r4 c17k) c17s7) c17s12)) c17s14)
@[go_sem] theorem c17s15eq (P : Program) (ρ : Env) (H : Heap) (Q : Post) : vc P c17s15 ρ H Q = vc P (.seq (.block 1 (.seq (.seq (.ops c17r4 c17k) c17s7) c17s12)) c17s14) ρ H Q := rfl
def c17s16 : SCode := (.seq (.seq (.ops c17r2 c17k) c17s3) c17s15)
@[go_sem] theorem c17s16eq (P : Program) (ρ : Env) (H : Heap) (Q : Post) : vc P c17s16 ρ H Q = vc P (.seq (.seq (.ops c17r2 c17k) c17s3) c17s15) ρ H Q := rfl
def c17s17 : SCode := (.block 0 (.loop c17s16))
@[go_sem] theorem c17s17eq (P : Program) (ρ : Env) (H : Heap) (Q : Post) : vc P c17s17 ρ H Q = vc P (.block 0 (.loop c17s16)) ρ H Q := rfl
@[go_sem] def c17r18 : List GOp := [(.op none (some 2) (.v (.mv (.const (.bool true)))))]
def c17s19 : SCode := (.seq (.ops c17r18 c17k) .ret)
@[go_sem] theorem c17s19eq (P : Program) (ρ : Env) (H : Heap) (Q : Post) : vc P c17s19 ρ H Q = vc P (.seq (.ops c17r18 c17k) .ret) ρ H Q := rfl
def c17s20 : SCode := (.seq (.seq (.ops c17r1 c17k) c17s17) c17s19)
@[go_sem] theorem c17s20eq (P : Program) (ρ : Env) (H : Heap) (Q : Post) : vc P c17s20 ρ H Q = vc P (.seq (.seq (.ops c17r1 c17k) c17s17) c17s19) ρ H Q := rfl
def c17 : Gx.Fn := ⟨56, c17k, (.seq (.ops c17r0 c17k) c17s20), [(.tmp 2)]⟩
theorem c17ok : stripFn Try.prog c17k Try.f17 = some c17 := by kernel_rfl

/- clock.Get -/
@[go_sem] def c18k : List Nat := [0, 1, 4, 6, 9, 10, 11, 12, 13, 19]
@[go_sem] def c18r0 : List GOp := [(.op none (some 4) (.v (.mv (.const (.int .i64 0)))))]
@[go_sem] def c18r1 : List GOp := [(.op none (some 7) (.v (.mv (.tmp 0)))),
  (.op none (some 8) (.call 16 [(.tmp 7)])),
  (.op none (some 9) (.v (.un .not (.tmp 8))))]
@[go_sem] def c18r2 : List GOp := [(.op none (some 4) (.v (.mv (.const (.int .i64 0)))))]
def c18s3 : SCode := (.seq (.ops c18r2 c18k) .ret)
@[go_sem] theorem c18s3eq (P : Program) (ρ : Env) (H : Heap) (Q : Post) : vc P c18s3 ρ H Q = vc P (.seq (.ops c18r2 c18k) .ret) ρ H Q := rfl
def c18s4 : SCode := (.cond (.tmp 9) c18s3 .skip)
@[go_sem] theorem c18s4eq (P : Program) (ρ : Env) (H : Heap) (Q : Post) : vc P c18s4 ρ H Q = vc P (.cond (.tmp 9) c18s3 .skip) ρ H Q := rfl
@[go_sem] def c18r5 : List GOp := [(.op none (some 10) (.v (.mv (.tmp 0)))),
  (.op none (some 11) (.v (.len (.tmp 10)))),
  (.op none (some 12) (.v (.mv (.const (.int .i64 0)))))]
@[go_sem] def c18r6 : List GOp := [(.op none (some 13) (.v (.bin .lss (.tmp 12) (.tmp 11))))]
@[go_sem] def c18r7 : List GOp := [(.op none (some 14) (.v (.ix 2 (.tmp 10) (.tmp 12)))),
  (.op none (some 15) (.ld (some 2) (.tmp 14))),
  (.op none (some 6) (.al 41 [(.int .i64 0), (.int .i64 0)])),
  (.op none none (.st 2 (.tmp 6) (.tmp 15)))]
@[go_sem] def c18r8 : List GOp := [(.op none (some 16) (.v (.fa 0 (.tmp 6)))),
  (.op none (some 17) (.ld none (.tmp 16))),
  (.op none (some 18) (.v (.mv (.tmp 1)))),
  (.op none (some 19) (.v (.bin .eql (.tmp 17) (.tmp 18))))]
@[go_sem] def c18r9 : List GOp := [(.op none (some 20) (.v (.fa 1 (.tmp 6)))),
  (.op none (some 21) (.ld none (.tmp 20))),
  (.op none (some 4) (.v (.mv (.tmp 21))))]
def c18s10 : SCode := (.seq (.ops c18r9 c18k) .ret)
@[go_sem] theorem c18s10eq (P : Program) (ρ : Env) (H : Heap) (Q : Post) : vc P c18s10 ρ H Q = vc P (.seq (.ops c18r9 c18k) .ret) ρ H Q := rfl
def c18s11 : SCode := (.cond (.tmp 19) c18s10 .skip)
@[go_sem] theorem c18s11eq (P : Program) (ρ : Env) (H : Heap) (Q : Post) : vc P c18s11 ρ H Q = vc P (.cond (.tmp 19) c18s10 .skip) ρ H Q := rfl
def c18s12 : SCode := (.seq (.ops c18r8 c18k) c18s11)
@[go_sem] theorem c18s12eq (P : Program) (ρ : Env) (H : Heap) (Q : Post) : vc P c18s12 ρ H Q = vc P (.seq (.ops c18r8 c18k) c18s11) ρ H Q := rfl
@[go_sem] def c18r13 : List GOp := [(.op none (some 22) (.v (.bin .add (.tmp 12) (.const (.int .i64 1))))),
  (.op none (some 12) (.v (.mv (.tmp 22))))]
def c18s14 : SCode := (.ops c18r13 c18k)
@[go_sem] theorem c18s14eq (P : Program) (ρ : Env) (H : Heap) (Q : Post) : vc P c18s14 ρ H Q = vc P (.ops c18r13 c18k) ρ H Q := rfl
def c18s15 : SCode := (.seq (.block 1 (.seq (.ops c18r7 c18k) c18s12)) c18s14)
@[go_sem] theorem c18s15eq (P : Program) (ρ : Env) (H : Heap) (Q : Post) : vc P c18s15 ρ H Q = vc P (.seq (.block 1 (.seq (.ops c18r7 c18k) c18s12)) c18s14) ρ H Q := rfl
def c18s16 : SCode := (.seq (.cond (.tmp 13) .skip (.exit 0)) c18s15)
@[go_sem] theorem c18s16eq (P : Program) (ρ : Env) (H : Heap) (Q : Post) : vc P c18s16 ρ H Q = vc P (.seq (.cond (.tmp 13) .skip (.exit 0)) c18s15) ρ H Q := rfl
def c18s17 : SCode := (.seq (.ops c18r6 c18k) c18s16)
@[go_sem] theorem c18s17eq (P : Program) (ρ : Env) (H : Heap) (Q : Post) : vc P c18s17 ρ H Q = vc P (.seq (.ops c18r6 c18k) c18s16) ρ H Q := rfl
def c18s18 : SCode := (.block 0 (.loop c18s17))
@[go_sem] theorem c18s18eq (P : Program) (ρ : Env) (H : Heap) (Q : Post) : vc P c18s18 ρ H Q = vc P (.block 0 (.loop c18s17)) ρ H Q := rfl
@[go_sem] def c18r19 : List GOp := [(.op none (some 4) (.v (.mv (.const (.int .i64 0)))))]
def c18s20 : SCode := (.seq (.ops c18r19 c18k) .ret)
@[go_sem] theorem c18s20eq (P : Program) (ρ : Env) (H : Heap) (Q : Post) : vc P c18s20 ρ H Q = vc P (.seq (.ops c18r19 c18k) .ret) ρ H Q := rfl
def c18s21 : SCode := (.seq (.seq (.ops c18r5 c18k) c18s18) c18s20)
@[go_sem] theorem c18s21eq (P : Program) (ρ : Env) (H : Heap) (Q : Post) : vc P c18s21 ρ H Q = vc P (.seq (.seq (.ops c18r5 c18k) c18s18) c18s20) ρ H Q := rfl
def c18s22 : SCode := (.seq (.seq (.ops c18r1 c18k) c18s4) c18s21)
@[go_sem] theorem c18s22eq (P : Program) (ρ : Env) (H : Heap) (Q : Post) : vc P c18s22 ρ H Q = vc P (.seq (.seq (.ops c18r1 c18k) c18s4) c18s21) ρ H Q := rfl
def c18 : Gx.Fn := ⟨23, c18k, (.seq (.ops c18r0 c18k) c18s22), [(.tmp 4)]⟩
theorem c18ok : stripFn Try.prog c18k Try.f18 = some c18 := by kernel_rfl

/- plexusref07.Get -/
@[go_sem] def c19k : List Nat := [0, 1, 4, 5, 8, 12, 21]
@[go_sem] def c19r0 : List GOp := [(.op none (some 4) (.v (.mv (.const (.int .i64 0)))))]
@[go_sem] def c19r1 : List GOp := [(.op none (some 6) (.v (.mv (.tmp 0)))),
  (.op none (some 7) (.call 17 [(.tmp 6)])),
  (.op none (some 8) (.v (.un .not (.tmp 7))))]
@[go_sem] def c19r2 : List GOp := [(.op none (some 4) (.v (.mv (.const (.int .i64 0)))))]
def c19s3 : SCode := (.seq (.ops c19r2 c19k) .ret)
@[go_sem] theorem c19s3eq (P : Program) (ρ : Env) (H : Heap) (Q : Post) : vc P c19s3 ρ H Q = vc P (.seq (.ops c19r2 c19k) .ret) ρ H Q := rfl
def c19s4 : SCode := (.cond (.tmp 8) c19s3 .skip)
@[go_sem] theorem c19s4eq (P : Program) (ρ : Env) (H : Heap) (Q : Post) : vc P c19s4 ρ H Q = vc P (.cond (.tmp 8) c19s3 .skip) ρ H Q := rfl
@[go_sem] def c19r5 : List GOp := [(.op none (some 5) (.v (.mv (.const (.int .i64 0)))))]
@[go_sem] def c19r6 : List GOp := [(.op none (some 9) (.v (.mv (.tmp 5)))),
  (.op none (some 10) (.v (.mv (.tmp 0)))),
  (.op none (some 11) (.v (.len (.tmp 10)))),
  (.op none (some 12) (.v (.bin .lss (.tmp 9) (.tmp 11))))]
def c19s7 : SCode := (.cond (.tmp 12) .skip (.exit 0))
@[go_sem] theorem c19s7eq (P : Program) (ρ : Env) (H : Heap) (Q : Post) : vc P c19s7 ρ H Q = vc P (.cond (.tmp 12) .skip (.exit 0)) ρ H Q := rfl
@[go_sem] def c19r8 : List GOp := [(.op none (some 15) (.v (.mv (.tmp 0)))),
  (.op none (some 16) (.v (.mv (.tmp 5)))),
  (.op none (some 17) (.v (.ix 2 (.tmp 15) (.tmp 16)))),
  (.op none (some 18) (.v (.fa 0 (.tmp 17)))),
  (.op none (some 19) (.ld none (.tmp 18))),
  (.op none (some 20) (.v (.mv (.tmp 1)))),
  (.op none (some 21) (.v (.bin .eql (.tmp 19) (.tmp 20))))]
@[go_sem] def c19r9 : List GOp := [(.op none (some 22) (.v (.mv (.tmp 0)))),
  (.op none (some 23) (.v (.mv (.tmp 5)))),
  (.op none (some 24) (.v (.ix 2 (.tmp 22) (.tmp 23)))),
  (.op none (some 25) (.v (.fa 1 (.tmp 24)))),
  (.op none (some 26) (.ld none (.tmp 25))),
  (.op none (some 4) (.v (.mv (.tmp 26))))]
def c19s10 : SCode := (.seq (.ops c19r9 c19k) .ret)
@[go_sem] theorem c19s10eq (P : Program) (ρ : Env) (H : Heap) (Q : Post) : vc P c19s10 ρ H Q = vc P (.seq (.ops c19r9 c19k) .ret) ρ H Q := rfl
def c19s11 : SCode := (.cond (.tmp 21) c19s10 .skip)
@[go_sem] theorem c19s11eq (P : Program) (ρ : Env) (H : Heap) (Q : Post) : vc P c19s11 ρ H Q = vc P (.cond (.tmp 21) c19s10 .skip) ρ H Q := rfl
@[go_sem] def c19r12 : List GOp := [(.op none (some 13) (.v (.mv (.tmp 5)))),
  (.op none (some 14) (.v (.bin .add (.tmp 13) (.const (.int .i64 1))))),
  (.op none (some 5) (.v (.mv (.tmp 14))))]
def c19s13 : SCode := (.ops c19r12 c19k)
@[go_sem] theorem c19s13eq (P : Program) (ρ : Env) (H : Heap) (Q : Post) : vc P c19s13 ρ H Q = vc P (.ops c19r12 c19k) ρ H Q := rfl
def c19s14 : SCode := (.seq (.block 1 (.seq (.ops c19r8 c19k) c19s11)) c19s13)
@[go_sem] theorem c19s14eq (P : Program) (ρ : Env) (H : Heap) (Q : Post) : vc P c19s14 ρ H Q = vc P (.seq (.block 1 (.seq (.ops c19r8 c19k) c19s11)) c19s13) ρ H Q := rfl
def c19s15 : SCode := (.seq (.seq (.ops c19r6 c19k) c19s7) c19s14)
@[go_sem] theorem c19s15eq (P : Program) (ρ : Env) (H : Heap) (Q : Post) : vc P c19s15 ρ H Q = vc P (.seq (.seq (.ops c19r6 c19k) c19s7) c19s14) ρ H Q := rfl
def c19s16 : SCode := (.block 0 (.loop c19s15))
@[go_sem] theorem c19s16eq (P : Program) (ρ : Env) (H : Heap) (Q : Post) : vc P c19s16 ρ H Q = vc P (.block 0 (.loop c19s15)) ρ H Q := rfl
@[go_sem] def c19r17 : List GOp := [(.op none (some 4) (.v (.mv (.const (.int .i64 0)))))]
def c19s18 : SCode := (.seq (.ops c19r17 c19k) .ret)
@[go_sem] theorem c19s18eq (P : Program) (ρ : Env) (H : Heap) (Q : Post) : vc P c19s18 ρ H Q = vc P (.seq (.ops c19r17 c19k) .ret) ρ H Q := rfl
def c19s19 : SCode := (.seq (.seq (.ops c19r5 c19k) c19s16) c19s18)
@[go_sem] theorem c19s19eq (P : Program) (ρ : Env) (H : Heap) (Q : Post) : vc P c19s19 ρ H Q = vc P (.seq (.seq (.ops c19r5 c19k) c19s16) c19s18) ρ H Q := rfl
def c19s20 : SCode := (.seq (.seq (.ops c19r1 c19k) c19s4) c19s19)
@[go_sem] theorem c19s20eq (P : Program) (ρ : Env) (H : Heap) (Q : Post) : vc P c19s20 ρ H Q = vc P (.seq (.seq (.ops c19r1 c19k) c19s4) c19s19) ρ H Q := rfl
def c19 : Gx.Fn := ⟨27, c19k, (.seq (.ops c19r0 c19k) c19s20), [(.tmp 4)]⟩
theorem c19ok : stripFn Try.prog c19k Try.f19 = some c19 := by kernel_rfl

/- plexusref07.Same -/
@[go_sem] def c20k : List Nat := [0, 1, 4, 5, 10, 14, 25]
@[go_sem] def c20r0 : List GOp := [(.op none (some 4) (.v (.mv (.const (.bool false)))))]
@[go_sem] def c20r1 : List GOp := [(.op none (some 6) (.v (.mv (.tmp 0)))),
  (.op none (some 7) (.v (.len (.tmp 6)))),
  (.op none (some 8) (.v (.mv (.tmp 1)))),
  (.op none (some 9) (.v (.len (.tmp 8)))),
  (.op none (some 10) (.v (.bin .neq (.tmp 7) (.tmp 9))))]
@[go_sem] def c20r2 : List GOp := [(.op none (some 4) (.v (.mv (.const (.bool false)))))]
def c20s3 : SCode := (.seq (.ops c20r2 c20k) .ret)
@[go_sem] theorem c20s3eq (P : Program) (ρ : Env) (H : Heap) (Q : Post) : vc P c20s3 ρ H Q = vc P (.seq (.ops c20r2 c20k) .ret) ρ H Q := rfl
def c20s4 : SCode := (.cond (.tmp 10) c20s3 .skip)
@[go_sem] theorem c20s4eq (P : Program) (ρ : Env) (H : Heap) (Q : Post) : vc P c20s4 ρ H Q = vc P (.cond (.tmp 10) c20s3 .skip) ρ H Q := rfl
@[go_sem] def c20r5 : List GOp := [(.op none (some 5) (.v (.mv (.const (.int .i64 0)))))]
@[go_sem] def c20r6 : List GOp := [(.op none (some 11) (.v (.mv (.tmp 5)))),
  (.op none (some 12) (.v (.mv (.tmp 0)))),
  (.op none (some 13) (.v (.len (.tmp 12)))),
  (.op none (some 14) (.v (.bin .lss (.tmp 11) (.tmp 13))))]
def c20s7 : SCode := (.cond (.tmp 14) .skip (.exit 0))
@[go_sem] theorem c20s7eq (P : Program) (ρ : Env) (H : Heap) (Q : Post) : vc P c20s7 ρ H Q = vc P (.cond (.tmp 14) .skip (.exit 0)) ρ H Q := rfl
@[go_sem] def c20r8 : List GOp := [(.op none (some 17) (.v (.mv (.tmp 0)))),
  (.op none (some 18) (.v (.mv (.tmp 5)))),
  (.op none (some 19) (.v (.ix 2 (.tmp 17) (.tmp 18)))),
  (.op none (some 20) (.ld (some 2) (.tmp 19))),
  (.op none (some 21) (.v (.mv (.tmp 1)))),
  (.op none (some 22) (.v (.mv (.tmp 5)))),
  (.op none (some 23) (.v (.ix 2 (.tmp 21) (.tmp 22)))),
  (.op none (some 24) (.ld (some 2) (.tmp 23))),
  (.op none (some 25) (.v (.steq true [(0, .i), (1, .i)] (.tmp 20) (.tmp 24))))]
@[go_sem] def c20r9 : List GOp := [(.op none (some 4) (.v (.mv (.const (.bool false)))))]
def c20s10 : SCode := (.seq (.ops c20r9 c20k) .ret)
@[go_sem] theorem c20s10eq (P : Program) (ρ : Env) (H : Heap) (Q : Post) : vc P c20s10 ρ H Q = vc P (.seq (.ops c20r9 c20k) .ret) ρ H Q := rfl
def c20s11 : SCode := (.cond (.tmp 25) c20s10 .skip)
@[go_sem] theorem c20s11eq (P : Program) (ρ : Env) (H : Heap) (Q : Post) : vc P c20s11 ρ H Q = vc P (.cond (.tmp 25) c20s10 .skip) ρ H Q := rfl
@[go_sem] def c20r12 : List GOp := [(.op none (some 15) (.v (.mv (.tmp 5)))),
  (.op none (some 16) (.v (.bin .add (.tmp 15) (.const (.int .i64 1))))),
  (.op none (some 5) (.v (.mv (.tmp 16))))]
def c20s13 : SCode := (.ops c20r12 c20k)
@[go_sem] theorem c20s13eq (P : Program) (ρ : Env) (H : Heap) (Q : Post) : vc P c20s13 ρ H Q = vc P (.ops c20r12 c20k) ρ H Q := rfl
def c20s14 : SCode := (.seq (.block 1 (.seq (.dq c20r8 c20k) c20s11)) c20s13)
@[go_sem] theorem c20s14eq (P : Program) (ρ : Env) (H : Heap) (Q : Post) : vc P c20s14 ρ H Q = vc P (.seq (.block 1 (.seq (.dq c20r8 c20k) c20s11)) c20s13) ρ H Q := rfl
def c20s15 : SCode := (.seq (.seq (.ops c20r6 c20k) c20s7) c20s14)
@[go_sem] theorem c20s15eq (P : Program) (ρ : Env) (H : Heap) (Q : Post) : vc P c20s15 ρ H Q = vc P (.seq (.seq (.ops c20r6 c20k) c20s7) c20s14) ρ H Q := rfl
def c20s16 : SCode := (.block 0 (.loop c20s15))
@[go_sem] theorem c20s16eq (P : Program) (ρ : Env) (H : Heap) (Q : Post) : vc P c20s16 ρ H Q = vc P (.block 0 (.loop c20s15)) ρ H Q := rfl
@[go_sem] def c20r17 : List GOp := [(.op none (some 4) (.v (.mv (.const (.bool true)))))]
def c20s18 : SCode := (.seq (.ops c20r17 c20k) .ret)
@[go_sem] theorem c20s18eq (P : Program) (ρ : Env) (H : Heap) (Q : Post) : vc P c20s18 ρ H Q = vc P (.seq (.ops c20r17 c20k) .ret) ρ H Q := rfl
def c20s19 : SCode := (.seq (.seq (.ops c20r5 c20k) c20s16) c20s18)
@[go_sem] theorem c20s19eq (P : Program) (ρ : Env) (H : Heap) (Q : Post) : vc P c20s19 ρ H Q = vc P (.seq (.seq (.ops c20r5 c20k) c20s16) c20s18) ρ H Q := rfl
def c20s20 : SCode := (.seq (.seq (.ops c20r1 c20k) c20s4) c20s19)
@[go_sem] theorem c20s20eq (P : Program) (ρ : Env) (H : Heap) (Q : Post) : vc P c20s20 ρ H Q = vc P (.seq (.seq (.ops c20r1 c20k) c20s4) c20s19) ρ H Q := rfl
def c20 : Gx.Fn := ⟨26, c20k, (.seq (.ops c20r0 c20k) c20s20), [(.tmp 4)]⟩
theorem c20ok : stripFn Try.prog c20k Try.f20 = some c20 := by kernel_rfl

/- clock.Compare -/
@[go_sem] def c21k : List Nat := [0, 1, 4, 5, 6, 14, 25, 30, 32]
@[go_sem] def c21r0 : List GOp := [(.op none (some 4) (.v (.mv (.const (.int .i64 0)))))]
@[go_sem] def c21r1 : List GOp := [(.op none (some 7) (.v (.mv (.tmp 0)))),
  (.op none (some 8) (.call 16 [(.tmp 7)])),
  (.op none (some 9) (.v (.un .not (.tmp 8)))),
  (.op none (some 10) (.v (.mv (.tmp 9)))),
  (.op (some (10, false)) (some 11) (.v (.mv (.tmp 1)))),
  (.op (some (10, false)) (some 12) (.call 16 [(.tmp 11)])),
  (.sel 10 false [(13, (.v (.un .not (.tmp 12))))] 14 (.const (.bool true)) (.tmp 13))]
@[go_sem] def c21r2 : List GOp := [(.op none (some 4) (.v (.mv (.const (.int .i64 3)))))]
def c21s3 : SCode := (.seq (.ops c21r2 c21k) .ret)
@[go_sem] theorem c21s3eq (P : Program) (ρ : Env) (H : Heap) (Q : Post) : vc P c21s3 ρ H Q = vc P (.seq (.ops c21r2 c21k) .ret) ρ H Q := rfl
def c21s4 : SCode := (.cond (.tmp 14) c21s3 .skip)
@[go_sem] theorem c21s4eq (P : Program) (ρ : Env) (H : Heap) (Q : Post) : vc P c21s4 ρ H Q = vc P (.cond (.tmp 14) c21s3 .skip) ρ H Q := rfl
@[go_sem] def c21r5 : List GOp := [(.op none (some 15) (.v (.mv (.tmp 0)))),
  (.op none (some 16) (.v (.mv (.tmp 1)))),
  (.op none (some 17) (.call 26 [(.tmp 15), (.tmp 16)])),
  (.op none (some 18) (.v (.len (.tmp 17)))),
  (.op none (some 19) (.v (.bin .eql (.tmp 18) (.const (.int .i64 0))))),
  (.op none (some 20) (.v (.mv (.tmp 1)))),
  (.op none (some 21) (.v (.mv (.tmp 0)))),
  (.op none (some 22) (.call 26 [(.tmp 20), (.tmp 21)])),
  (.op none (some 23) (.v (.len (.tmp 22)))),
  (.op none (some 24) (.v (.bin .eql (.tmp 23) (.const (.int .i64 0))))),
  (.op none (some 5) (.v (.mv (.tmp 19)))),
  (.op none (some 6) (.v (.mv (.tmp 24))))]
@[go_sem] def c21r6 : List GOp := [(.op none (some 26) (.v (.mv (.tmp 5)))),
  (.op none (some 27) (.v (.mv (.tmp 26)))),
  (.sel 27 true [(28, (.v (.mv (.tmp 6))))] 29 (.tmp 28) (.const (.bool false))),
  (.op none (some 25) (.v (.mv (.tmp 29))))]
@[go_sem] def c21r7 : List GOp := [(.op none (some 4) (.v (.mv (.const (.int .i64 0)))))]
def c21s8 : SCode := (.seq (.ops c21r7 c21k) .ret)
@[go_sem] theorem c21s8eq (P : Program) (ρ : Env) (H : Heap) (Q : Post) : vc P c21s8 ρ H Q = vc P (.seq (.ops c21r7 c21k) .ret) ρ H Q := rfl
@[go_sem] def c21r9 : List GOp := [(.op none (some 31) (.v (.mv (.tmp 5)))),
  (.op none (some 30) (.v (.mv (.tmp 31))))]
@[go_sem] def c21r10 : List GOp := [(.op none (some 4) (.v (.mv (.const (.int .i64 1)))))]
def c21s11 : SCode := (.seq (.ops c21r10 c21k) .ret)
@[go_sem] theorem c21s11eq (P : Program) (ρ : Env) (H : Heap) (Q : Post) : vc P c21s11 ρ H Q = vc P (.seq (.ops c21r10 c21k) .ret) ρ H Q := rfl
@[go_sem] def c21r12 : List GOp := [(.op none (some 33) (.v (.mv (.tmp 6)))),
  (.op none (some 32) (.v (.mv (.tmp 33))))]
@[go_sem] def c21r13 : List GOp := [(.op none (some 4) (.v (.mv (.const (.int .i64 2)))))]
def c21s14 : SCode := (.seq (.ops c21r13 c21k) .ret)
@[go_sem] theorem c21s14eq (P : Program) (ρ : Env) (H : Heap) (Q : Post) : vc P c21s14 ρ H Q = vc P (.seq (.ops c21r13 c21k) .ret) ρ H Q := rfl
def c21s15 : SCode := (.cond (.tmp 32) c21s14 .skip)
@[go_sem] theorem c21s15eq (P : Program) (ρ : Env) (H : Heap) (Q : Post) : vc P c21s15 ρ H Q = vc P (.cond (.tmp 32) c21s14 .skip) ρ H Q := rfl
def c21s16 : SCode := (.seq (.ops c21r12 c21k) c21s15)
@[go_sem] theorem c21s16eq (P : Program) (ρ : Env) (H : Heap) (Q : Post) : vc P c21s16 ρ H Q = vc P (.seq (.ops c21r12 c21k) c21s15) ρ H Q := rfl
def c21s17 : SCode := (.cond (.tmp 30) c21s11 c21s16)
@[go_sem] theorem c21s17eq (P : Program) (ρ : Env) (H : Heap) (Q : Post) : vc P c21s17 ρ H Q = vc P (.cond (.tmp 30) c21s11 c21s16) ρ H Q := rfl
def c21s18 : SCode := (.seq (.ops c21r9 c21k) c21s17)
@[go_sem] theorem c21s18eq (P : Program) (ρ : Env) (H : Heap) (Q : Post) : vc P c21s18 ρ H Q = vc P (.seq (.ops c21r9 c21k) c21s17) ρ H Q := rfl
def c21s19 : SCode := (.cond (.tmp 25) c21s8 c21s18)
@[go_sem] theorem c21s19eq (P : Program) (ρ : Env) (H : Heap) (Q : Post) : vc P c21s19 ρ H Q = vc P (.cond (.tmp 25) c21s8 c21s18) ρ H Q := rfl
@[go_sem] def c21r20 : List GOp := [(.op none (some 4) (.v (.mv (.const (.int .i64 3)))))]
def c21s21 : SCode := (.seq (.ops c21r20 c21k) .ret)
@[go_sem] theorem c21s21eq (P : Program) (ρ : Env) (H : Heap) (Q : Post) : vc P c21s21 ρ H Q = vc P (.seq (.ops c21r20 c21k) .ret) ρ H Q := rfl
def c21s22 : SCode := (.seq (.block 0 (.seq (.ops c21r6 c21k) c21s19)) c21s21)
@[go_sem] theorem c21s22eq (P : Program) (ρ : Env) (H : Heap) (Q : Post) : vc P c21s22 ρ H Q = vc P (.seq (.block 0 (.seq (.ops c21r6 c21k) c21s19)) c21s21) ρ H Q := rfl
def c21s23 : SCode := (.seq (.ops c21r5 c21k) c21s22)
@[go_sem] theorem c21s23eq (P : Program) (ρ : Env) (H : Heap) (Q : Post) : vc P c21s23 ρ H Q = vc P (.seq (.ops c21r5 c21k) c21s22) ρ H Q := rfl
def c21s24 : SCode := (.seq (.seq (.ops c21r1 c21k) c21s4) c21s23)
@[go_sem] theorem c21s24eq (P : Program) (ρ : Env) (H : Heap) (Q : Post) : vc P c21s24 ρ H Q = vc P (.seq (.seq (.ops c21r1 c21k) c21s4) c21s23) ρ H Q := rfl
def c21 : Gx.Fn := ⟨34, c21k, (.seq (.ops c21r0 c21k) c21s24), [(.tmp 4)]⟩
theorem c21ok : stripFn Try.prog c21k Try.f21 = some c21 := by kernel_rfl

/- clock.Merge -/
@[go_sem] def c22k : List Nat := [0, 1, 4]
@[go_sem] def c22r0 : List GOp := [(.op none (some 4) (.v (.mv (.const (.slice none 0 0)))))]
@[go_sem] def c22r1 : List GOp := [(.op none (some 5) (.v (.mv (.tmp 0)))),
  (.op none (some 6) (.v (.mv (.tmp 1)))),
  (.op none (some 7) (.call 35 [(.tmp 5), (.tmp 6), (.func 36)])),
  (.op none (some 4) (.v (.mv (.tmp 7))))]
def c22s2 : SCode := (.seq (.ops c22r1 c22k) .ret)
@[go_sem] theorem c22s2eq (P : Program) (ρ : Env) (H : Heap) (Q : Post) : vc P c22s2 ρ H Q = vc P (.seq (.ops c22r1 c22k) .ret) ρ H Q := rfl
def c22 : Gx.Fn := ⟨8, c22k, (.seq (.ops c22r0 c22k) c22s2), [(.tmp 4)]⟩
theorem c22ok : stripFn Try.prog c22k Try.f22 = some c22 := by kernel_rfl

/- plexusref07.Merge -/
@[go_sem] def c23k : List Nat := [0, 1, 4, 5, 6, 7, 15, 23]
@[go_sem] def c23r0 : List GOp := [(.op none (some 4) (.v (.mv (.const (.slice none 0 0)))))]
@[go_sem] def c23r1 : List GOp := [(.op none (some 8) (.v (.mv (.tmp 0)))),
  (.op none (some 9) (.call 17 [(.tmp 8)])),
  (.op none (some 10) (.v (.un .not (.tmp 9)))),
  (.op none (some 11) (.v (.mv (.tmp 10)))),
  (.op (some (11, false)) (some 12) (.v (.mv (.tmp 1)))),
  (.op (some (11, false)) (some 13) (.call 17 [(.tmp 12)])),
  (.sel 11 false [(14, (.v (.un .not (.tmp 13))))] 15 (.const (.bool true)) (.tmp 14))]
@[go_sem] def c23r2 : List GOp := [(.op none (some 4) (.v (.mv (.const (.slice none 0 0)))))]
def c23s3 : SCode := (.seq (.ops c23r2 c23k) .ret)
@[go_sem] theorem c23s3eq (P : Program) (ρ : Env) (H : Heap) (Q : Post) : vc P c23s3 ρ H Q = vc P (.seq (.ops c23r2 c23k) .ret) ρ H Q := rfl
def c23s4 : SCode := (.cond (.tmp 15) c23s3 .skip)
@[go_sem] theorem c23s4eq (P : Program) (ρ : Env) (H : Heap) (Q : Post) : vc P c23s4 ρ H Q = vc P (.cond (.tmp 15) c23s3 .skip) ρ H Q := rfl
@[go_sem] def c23r5 : List GOp := [(.op none (some 16) (.v (.mv (.tmp 0)))),
  (.op none (some 17) (.call 33 [(.tmp 16)])),
  (.op none (some 18) (.v (.mv (.tmp 1)))),
  (.op none (some 19) (.call 33 [(.tmp 18)])),
  (.op none (some 5) (.v (.mv (.tmp 17)))),
  (.op none (some 6) (.v (.mv (.tmp 19))))]
@[go_sem] def c23r6 : List GOp := [(.op none (some 7) (.v (.mv (.const (.int .i64 0)))))]
@[go_sem] def c23r7 : List GOp := [(.op none (some 20) (.v (.mv (.tmp 7)))),
  (.op none (some 21) (.v (.mv (.tmp 5)))),
  (.op none (some 22) (.v (.len (.tmp 21)))),
  (.op none (some 23) (.v (.bin .lss (.tmp 20) (.tmp 22))))]
def c23s8 : SCode := (.cond (.tmp 23) .skip (.exit 0))
@[go_sem] theorem c23s8eq (P : Program) (ρ : Env) (H : Heap) (Q : Post) : vc P c23s8 ρ H Q = vc P (.cond (.tmp 23) .skip (.exit 0)) ρ H Q := rfl
@[go_sem] def c23d9 : DT := (.rd none (some 26) (.v (.mv (.tmp 5))) [12] (.rd none (some 27) (.v (.mv (.tmp 7))) [12] (.rd none (some 28) (.v (.mv (.tmp 5))) [12] (.rd none (some 29) (.v (.mv (.tmp 7))) [12] (.rd none (some 30) (.v (.ix 1 (.tmp 28) (.tmp 29))) [12] (.rd none (some 31) (.ld none (.tmp 30)) [12] (.rd none (some 32) (.v (.mv (.tmp 6))) [12] (.rd none (some 33) (.v (.mv (.tmp 7))) [12] (.rd none (some 34) (.v (.ix 1 (.tmp 32) (.tmp 33))) [12] (.rd none (some 35) (.ld none (.tmp 34)) [12] (.rd none (some 36) (.v (.mm true (.tmp 31) (.tmp 35))) [12] (.rd none (some 37) (.v (.ix 1 (.tmp 26) (.tmp 27))) [12] (.ef 12 none none (.st 1 (.tmp 37) (.tmp 36)) .done)))))))))))))
@[go_sem] def c23r10 : List GOp := [(.op none (some 24) (.v (.mv (.tmp 7)))),
  (.op none (some 25) (.v (.bin .add (.tmp 24) (.const (.int .i64 1))))),
  (.op none (some 7) (.v (.mv (.tmp 25))))]
def c23s11 : SCode := (.ops c23r10 c23k)
@[go_sem] theorem c23s11eq (P : Program) (ρ : Env) (H : Heap) (Q : Post) : vc P c23s11 ρ H Q = vc P (.ops c23r10 c23k) ρ H Q := rfl
def c23s12 : SCode := (.seq (.block 1 (.de c23d9 c23k)) c23s11)
@[go_sem] theorem c23s12eq (P : Program) (ρ : Env) (H : Heap) (Q : Post) : vc P c23s12 ρ H Q = vc P (.seq (.block 1 (.de c23d9 c23k)) c23s11) ρ H Q := rfl
def c23s13 : SCode := (.seq (.seq (.ops c23r7 c23k) c23s8) c23s12)
@[go_sem] theorem c23s13eq (P : Program) (ρ : Env) (H : Heap) (Q : Post) : vc P c23s13 ρ H Q = vc P (.seq (.seq (.ops c23r7 c23k) c23s8) c23s12) ρ H Q := rfl
def c23s14 : SCode := (.block 0 (.loop c23s13))
@[go_sem] theorem c23s14eq (P : Program) (ρ : Env) (H : Heap) (Q : Post) : vc P c23s14 ρ H Q = vc P (.block 0 (.loop c23s13)) ρ H Q := rfl
@[go_sem] def c23r15 : List GOp := [(.op none (some 38) (.v (.mv (.tmp 5)))),
  (.op none (some 39) (.call 34 [(.tmp 38)])),
  (.op none (some 4) (.v (.mv (.tmp 39))))]
def c23s16 : SCode := (.seq (.ops c23r15 c23k) .ret)
@[go_sem] theorem c23s16eq (P : Program) (ρ : Env) (H : Heap) (Q : Post) : vc P c23s16 ρ H Q = vc P (.seq (.ops c23r15 c23k) .ret) ρ H Q := rfl
def c23s17 : SCode := (.seq (.seq (.ops c23r6 c23k) c23s14) c23s16)
@[go_sem] theorem c23s17eq (P : Program) (ρ : Env) (H : Heap) (Q : Post) : vc P c23s17 ρ H Q = vc P (.seq (.seq (.ops c23r6 c23k) c23s14) c23s16) ρ H Q := rfl
def c23s18 : SCode := (.seq (.ops c23r5 c23k) c23s17)
@[go_sem] theorem c23s18eq (P : Program) (ρ : Env) (H : Heap) (Q : Post) : vc P c23s18 ρ H Q = vc P (.seq (.ops c23r5 c23k) c23s17) ρ H Q := rfl
def c23s19 : SCode := (.seq (.seq (.ops c23r1 c23k) c23s4) c23s18)
@[go_sem] theorem c23s19eq (P : Program) (ρ : Env) (H : Heap) (Q : Post) : vc P c23s19 ρ H Q = vc P (.seq (.seq (.ops c23r1 c23k) c23s4) c23s18) ρ H Q := rfl
def c23 : Gx.Fn := ⟨40, c23k, (.seq (.ops c23r0 c23k) c23s19), [(.tmp 4)]⟩
theorem c23ok : stripFn Try.prog c23k Try.f23 = some c23 := by kernel_rfl

/- clock.Common -/
@[go_sem] def c24k : List Nat := [0, 1, 4]
@[go_sem] def c24r0 : List GOp := [(.op none (some 4) (.v (.mv (.const (.slice none 0 0)))))]
@[go_sem] def c24r1 : List GOp := [(.op none (some 5) (.v (.mv (.tmp 0)))),
  (.op none (some 6) (.v (.mv (.tmp 1)))),
  (.op none (some 7) (.call 35 [(.tmp 5), (.tmp 6), (.func 37)])),
  (.op none (some 4) (.v (.mv (.tmp 7))))]
def c24s2 : SCode := (.seq (.ops c24r1 c24k) .ret)
@[go_sem] theorem c24s2eq (P : Program) (ρ : Env) (H : Heap) (Q : Post) : vc P c24s2 ρ H Q = vc P (.seq (.ops c24r1 c24k) .ret) ρ H Q := rfl
def c24 : Gx.Fn := ⟨8, c24k, (.seq (.ops c24r0 c24k) c24s2), [(.tmp 4)]⟩
theorem c24ok : stripFn Try.prog c24k Try.f24 = some c24 := by kernel_rfl

/- plexusref07.Common -/
@[go_sem] def c25k : List Nat := [0, 1, 4, 5, 6, 7, 15, 23]
@[go_sem] def c25r0 : List GOp := [(.op none (some 4) (.v (.mv (.const (.slice none 0 0)))))]
@[go_sem] def c25r1 : List GOp := [(.op none (some 8) (.v (.mv (.tmp 0)))),
  (.op none (some 9) (.call 17 [(.tmp 8)])),
  (.op none (some 10) (.v (.un .not (.tmp 9)))),
  (.op none (some 11) (.v (.mv (.tmp 10)))),
  (.op (some (11, false)) (some 12) (.v (.mv (.tmp 1)))),
  (.op (some (11, false)) (some 13) (.call 17 [(.tmp 12)])),
  (.sel 11 false [(14, (.v (.un .not (.tmp 13))))] 15 (.const (.bool true)) (.tmp 14))]
@[go_sem] def c25r2 : List GOp := [(.op none (some 4) (.v (.mv (.const (.slice none 0 0)))))]
def c25s3 : SCode := (.seq (.ops c25r2 c25k) .ret)
@[go_sem] theorem c25s3eq (P : Program) (ρ : Env) (H : Heap) (Q : Post) : vc P c25s3 ρ H Q = vc P (.seq (.ops c25r2 c25k) .ret) ρ H Q := rfl
def c25s4 : SCode := (.cond (.tmp 15) c25s3 .skip)
@[go_sem] theorem c25s4eq (P : Program) (ρ : Env) (H : Heap) (Q : Post) : vc P c25s4 ρ H Q = vc P (.cond (.tmp 15) c25s3 .skip) ρ H Q := rfl
@[go_sem] def c25r5 : List GOp := [(.op none (some 16) (.v (.mv (.tmp 0)))),
  (.op none (some 17) (.call 33 [(.tmp 16)])),
  (.op none (some 18) (.v (.mv (.tmp 1)))),
  (.op none (some 19) (.call 33 [(.tmp 18)])),
  (.op none (some 5) (.v (.mv (.tmp 17)))),
  (.op none (some 6) (.v (.mv (.tmp 19))))]
@[go_sem] def c25r6 : List GOp := [(.op none (some 7) (.v (.mv (.const (.int .i64 0)))))]
@[go_sem] def c25r7 : List GOp := [(.op none (some 20) (.v (.mv (.tmp 7)))),
  (.op none (some 21) (.v (.mv (.tmp 5)))),
  (.op none (some 22) (.v (.len (.tmp 21)))),
  (.op none (some 23) (.v (.bin .lss (.tmp 20) (.tmp 22))))]
def c25s8 : SCode := (.cond (.tmp 23) .skip (.exit 0))
@[go_sem] theorem c25s8eq (P : Program) (ρ : Env) (H : Heap) (Q : Post) : vc P c25s8 ρ H Q = vc P (.cond (.tmp 23) .skip (.exit 0)) ρ H Q := rfl
@[go_sem] def c25d9 : DT := (.rd none (some 26) (.v (.mv (.tmp 5))) [12] (.rd none (some 27) (.v (.mv (.tmp 7))) [12] (.rd none (some 28) (.v (.mv (.tmp 5))) [12] (.rd none (some 29) (.v (.mv (.tmp 7))) [12] (.rd none (some 30) (.v (.ix 1 (.tmp 28) (.tmp 29))) [12] (.rd none (some 31) (.ld none (.tmp 30)) [12] (.rd none (some 32) (.v (.mv (.tmp 6))) [12] (.rd none (some 33) (.v (.mv (.tmp 7))) [12] (.rd none (some 34) (.v (.ix 1 (.tmp 32) (.tmp 33))) [12] (.rd none (some 35) (.ld none (.tmp 34)) [12] (.rd none (some 36) (.v (.mm false (.tmp 31) (.tmp 35))) [12] (.rd none (some 37) (.v (.ix 1 (.tmp 26) (.tmp 27))) [12] (.ef 12 none none (.st 1 (.tmp 37) (.tmp 36)) .done)))))))))))))
@[go_sem] def c25r10 : List GOp := [(.op none (some 24) (.v (.mv (.tmp 7)))),
  (.op none (some 25) (.v (.bin .add (.tmp 24) (.const (.int .i64 1))))),
  (.op none (some 7) (.v (.mv (.tmp 25))))]
def c25s11 : SCode := (.ops c25r10 c25k)
@[go_sem] theorem c25s11eq (P : Program) (ρ : Env) (H : Heap) (Q : Post) : vc P c25s11 ρ H Q = vc P (.ops c25r10 c25k) ρ H Q := rfl
def c25s12 : SCode := (.seq (.block 1 (.de c25d9 c25k)) c25s11)
@[go_sem] theorem c25s12eq (P : Program) (ρ : Env) (H : Heap) (Q : Post) : vc P c25s12 ρ H Q = vc P (.seq (.block 1 (.de c25d9 c25k)) c25s11) ρ H Q := rfl
def c25s13 : SCode := (.seq (.seq (.ops c25r7 c25k) c25s8) c25s12)
@[go_sem] theorem c25s13eq (P : Program) (ρ : Env) (H : Heap) (Q : Post) : vc P c25s13 ρ H Q = vc P (.seq (.seq (.ops c25r7 c25k) c25s8) c25s12) ρ H Q := rfl
def c25s14 : SCode := (.block 0 (.loop c25s13))
@[go_sem] theorem c25s14eq (P : Program) (ρ : Env) (H : Heap) (Q : Post) : vc P c25s14 ρ H Q = vc P (.block 0 (.loop c25s13)) ρ H Q := rfl
@[go_sem] def c25r15 : List GOp := [(.op none (some 38) (.v (.mv (.tmp 5)))),
  (.op none (some 39) (.call 34 [(.tmp 38)])),
  (.op none (some 4) (.v (.mv (.tmp 39))))]
def c25s16 : SCode := (.seq (.ops c25r15 c25k) .ret)
@[go_sem] theorem c25s16eq (P : Program) (ρ : Env) (H : Heap) (Q : Post) : vc P c25s16 ρ H Q = vc P (.seq (.ops c25r15 c25k) .ret) ρ H Q := rfl
def c25s17 : SCode := (.seq (.seq (.ops c25r6 c25k) c25s14) c25s16)
@[go_sem] theorem c25s17eq (P : Program) (ρ : Env) (H : Heap) (Q : Post) : vc P c25s17 ρ H Q = vc P (.seq (.seq (.ops c25r6 c25k) c25s14) c25s16) ρ H Q := rfl
def c25s18 : SCode := (.seq (.ops c25r5 c25k) c25s17)
@[go_sem] theorem c25s18eq (P : Program) (ρ : Env) (H : Heap) (Q : Post) : vc P c25s18 ρ H Q = vc P (.seq (.ops c25r5 c25k) c25s17) ρ H Q := rfl
def c25s19 : SCode := (.seq (.seq (.ops c25r1 c25k) c25s4) c25s18)
@[go_sem] theorem c25s19eq (P : Program) (ρ : Env) (H : Heap) (Q : Post) : vc P c25s19 ρ H Q = vc P (.seq (.seq (.ops c25r1 c25k) c25s4) c25s18) ρ H Q := rfl
def c25 : Gx.Fn := ⟨40, c25k, (.seq (.ops c25r0 c25k) c25s19), [(.tmp 4)]⟩
theorem c25ok : stripFn Try.prog c25k Try.f25 = some c25 := by kernel_rfl

/- clock.Minus -/
@[go_sem] def c26k : List Nat := [0, 1, 4]
@[go_sem] def c26r0 : List GOp := [(.op none (some 4) (.v (.mv (.const (.slice none 0 0)))))]
@[go_sem] def c26r1 : List GOp := [(.op none (some 5) (.v (.mv (.tmp 0)))),
  (.op none (some 6) (.v (.mv (.tmp 1)))),
  (.op none (some 7) (.call 35 [(.tmp 5), (.tmp 6), (.func 38)])),
  (.op none (some 4) (.v (.mv (.tmp 7))))]
def c26s2 : SCode := (.seq (.ops c26r1 c26k) .ret)
@[go_sem] theorem c26s2eq (P : Program) (ρ : Env) (H : Heap) (Q : Post) : vc P c26s2 ρ H Q = vc P (.seq (.ops c26r1 c26k) .ret) ρ H Q := rfl
def c26 : Gx.Fn := ⟨8, c26k, (.seq (.ops c26r0 c26k) c26s2), [(.tmp 4)]⟩
theorem c26ok : stripFn Try.prog c26k Try.f26 = some c26 := by kernel_rfl

/- plexusref07.Minus -/
@[go_sem] def c27k : List Nat := [0, 1, 4, 5, 6, 7, 15, 23, 34]
@[go_sem] def c27r0 : List GOp := [(.op none (some 4) (.v (.mv (.const (.slice none 0 0)))))]
@[go_sem] def c27r1 : List GOp := [(.op none (some 8) (.v (.mv (.tmp 0)))),
  (.op none (some 9) (.call 17 [(.tmp 8)])),
  (.op none (some 10) (.v (.un .not (.tmp 9)))),
  (.op none (some 11) (.v (.mv (.tmp 10)))),
  (.op (some (11, false)) (some 12) (.v (.mv (.tmp 1)))),
  (.op (some (11, false)) (some 13) (.call 17 [(.tmp 12)])),
  (.sel 11 false [(14, (.v (.un .not (.tmp 13))))] 15 (.const (.bool true)) (.tmp 14))]
@[go_sem] def c27r2 : List GOp := [(.op none (some 4) (.v (.mv (.const (.slice none 0 0)))))]
def c27s3 : SCode := (.seq (.ops c27r2 c27k) .ret)
@[go_sem] theorem c27s3eq (P : Program) (ρ : Env) (H : Heap) (Q : Post) : vc P c27s3 ρ H Q = vc P (.seq (.ops c27r2 c27k) .ret) ρ H Q := rfl
def c27s4 : SCode := (.cond (.tmp 15) c27s3 .skip)
@[go_sem] theorem c27s4eq (P : Program) (ρ : Env) (H : Heap) (Q : Post) : vc P c27s4 ρ H Q = vc P (.cond (.tmp 15) c27s3 .skip) ρ H Q := rfl
@[go_sem] def c27r5 : List GOp := [(.op none (some 16) (.v (.mv (.tmp 0)))),
  (.op none (some 17) (.call 33 [(.tmp 16)])),
  (.op none (some 18) (.v (.mv (.tmp 1)))),
  (.op none (some 19) (.call 33 [(.tmp 18)])),
  (.op none (some 5) (.v (.mv (.tmp 17)))),
  (.op none (some 6) (.v (.mv (.tmp 19))))]
@[go_sem] def c27r6 : List GOp := [(.op none (some 7) (.v (.mv (.const (.int .i64 0)))))]
@[go_sem] def c27r7 : List GOp := [(.op none (some 20) (.v (.mv (.tmp 7)))),
  (.op none (some 21) (.v (.mv (.tmp 5)))),
  (.op none (some 22) (.v (.len (.tmp 21)))),
  (.op none (some 23) (.v (.bin .lss (.tmp 20) (.tmp 22))))]
def c27s8 : SCode := (.cond (.tmp 23) .skip (.exit 0))
@[go_sem] theorem c27s8eq (P : Program) (ρ : Env) (H : Heap) (Q : Post) : vc P c27s8 ρ H Q = vc P (.cond (.tmp 23) .skip (.exit 0)) ρ H Q := rfl
@[go_sem] def c27r9 : List GOp := [(.op none (some 26) (.v (.mv (.tmp 5)))),
  (.op none (some 27) (.v (.mv (.tmp 7)))),
  (.op none (some 28) (.v (.ix 1 (.tmp 26) (.tmp 27)))),
  (.op none (some 29) (.ld none (.tmp 28))),
  (.op none (some 30) (.v (.mv (.tmp 6)))),
  (.op none (some 31) (.v (.mv (.tmp 7)))),
  (.op none (some 32) (.v (.ix 1 (.tmp 30) (.tmp 31)))),
  (.op none (some 33) (.ld none (.tmp 32))),
  (.op none (some 34) (.v (.bin .leq (.tmp 29) (.tmp 33))))]
@[go_sem] def c27r10 : List GOp := [(.op none (some 35) (.v (.mv (.tmp 5)))),
  (.op none (some 36) (.v (.mv (.tmp 7)))),
  (.op none (some 37) (.v (.ix 1 (.tmp 35) (.tmp 36)))),
  (.op none none (.st 1 (.tmp 37) (.const (.int .i64 0))))]
def c27s11 : SCode := (.cond (.tmp 34) (.ops c27r10 c27k) .skip)
@[go_sem] theorem c27s11eq (P : Program) (ρ : Env) (H : Heap) (Q : Post) : vc P c27s11 ρ H Q = vc P (.cond (.tmp 34) (.ops c27r10 c27k) .skip) ρ H Q := rfl
@[go_sem] def c27r12 : List GOp := [(.op none (some 24) (.v (.mv (.tmp 7)))),
  (.op none (some 25) (.v (.bin .add (.tmp 24) (.const (.int .i64 1))))),
  (.op none (some 7) (.v (.mv (.tmp 25))))]
def c27s13 : SCode := (.ops c27r12 c27k)
@[go_sem] theorem c27s13eq (P : Program) (ρ : Env) (H : Heap) (Q : Post) : vc P c27s13 ρ H Q = vc P (.ops c27r12 c27k) ρ H Q := rfl
def c27s14 : SCode := (.seq (.block 1 (.seq (.dq c27r9 c27k) c27s11)) c27s13)
@[go_sem] theorem c27s14eq (P : Program) (ρ : Env) (H : Heap) (Q : Post) : vc P c27s14 ρ H Q = vc P (.seq (.block 1 (.seq (.dq c27r9 c27k) c27s11)) c27s13) ρ H Q := rfl
def c27s15 : SCode := (.seq (.seq (.ops c27r7 c27k) c27s8) c27s14)
@[go_sem] theorem c27s15eq (P : Program) (ρ : Env) (H : Heap) (Q : Post) : vc P c27s15 ρ H Q = vc P (.seq (.seq (.ops c27r7 c27k) c27s8) c27s14) ρ H Q := rfl
def c27s16 : SCode := (.block 0 (.loop c27s15))
@[go_sem] theorem c27s16eq (P : Program) (ρ : Env) (H : Heap) (Q : Post) : vc P c27s16 ρ H Q = vc P (.block 0 (.loop c27s15)) ρ H Q := rfl
@[go_sem] def c27r17 : List GOp := [(.op none (some 38) (.v (.mv (.tmp 5)))),
  (.op none (some 39) (.call 34 [(.tmp 38)])),
  (.op none (some 4) (.v (.mv (.tmp 39))))]
def c27s18 : SCode := (.seq (.ops c27r17 c27k) .ret)
@[go_sem] theorem c27s18eq (P : Program) (ρ : Env) (H : Heap) (Q : Post) : vc P c27s18 ρ H Q = vc P (.seq (.ops c27r17 c27k) .ret) ρ H Q := rfl
def c27s19 : SCode := (.seq (.seq (.ops c27r6 c27k) c27s16) c27s18)
@[go_sem] theorem c27s19eq (P : Program) (ρ : Env) (H : Heap) (Q : Post) : vc P c27s19 ρ H Q = vc P (.seq (.seq (.ops c27r6 c27k) c27s16) c27s18) ρ H Q := rfl
def c27s20 : SCode := (.seq (.ops c27r5 c27k) c27s19)
@[go_sem] theorem c27s20eq (P : Program) (ρ : Env) (H : Heap) (Q : Post) : vc P c27s20 ρ H Q = vc P (.seq (.ops c27r5 c27k) c27s19) ρ H Q := rfl
def c27s21 : SCode := (.seq (.seq (.ops c27r1 c27k) c27s4) c27s20)
@[go_sem] theorem c27s21eq (P : Program) (ρ : Env) (H : Heap) (Q : Post) : vc P c27s21 ρ H Q = vc P (.seq (.seq (.ops c27r1 c27k) c27s4) c27s20) ρ H Q := rfl
def c27 : Gx.Fn := ⟨40, c27k, (.seq (.ops c27r0 c27k) c27s21), [(.tmp 4)]⟩
theorem c27ok : stripFn Try.prog c27k Try.f27 = some c27 := by kernel_rfl

/- plexusref07.Compare -/
@[go_sem] def c28k : List Nat := [0, 1, 4, 12, 15, 18, 21]
@[go_sem] def c28r0 : List GOp := [(.op none (some 4) (.v (.mv (.const (.int .i64 0)))))]
@[go_sem] def c28r1 : List GOp := [(.op none (some 5) (.v (.mv (.tmp 0)))),
  (.op none (some 6) (.call 17 [(.tmp 5)])),
  (.op none (some 7) (.v (.un .not (.tmp 6)))),
  (.op none (some 8) (.v (.mv (.tmp 7)))),
  (.op (some (8, false)) (some 9) (.v (.mv (.tmp 1)))),
  (.op (some (8, false)) (some 10) (.call 17 [(.tmp 9)])),
  (.sel 8 false [(11, (.v (.un .not (.tmp 10))))] 12 (.const (.bool true)) (.tmp 11))]
@[go_sem] def c28r2 : List GOp := [(.op none (some 4) (.v (.mv (.const (.int .i64 3)))))]
def c28s3 : SCode := (.seq (.ops c28r2 c28k) .ret)
@[go_sem] theorem c28s3eq (P : Program) (ρ : Env) (H : Heap) (Q : Post) : vc P c28s3 ρ H Q = vc P (.seq (.ops c28r2 c28k) .ret) ρ H Q := rfl
def c28s4 : SCode := (.cond (.tmp 12) c28s3 .skip)
@[go_sem] theorem c28s4eq (P : Program) (ρ : Env) (H : Heap) (Q : Post) : vc P c28s4 ρ H Q = vc P (.cond (.tmp 12) c28s3 .skip) ρ H Q := rfl
@[go_sem] def c28r5 : List GOp := [(.op none (some 13) (.v (.mv (.tmp 0)))),
  (.op none (some 14) (.v (.mv (.tmp 1)))),
  (.op none (some 15) (.call 20 [(.tmp 13), (.tmp 14)]))]
@[go_sem] def c28r6 : List GOp := [(.op none (some 4) (.v (.mv (.const (.int .i64 0)))))]
def c28s7 : SCode := (.seq (.ops c28r6 c28k) .ret)
@[go_sem] theorem c28s7eq (P : Program) (ρ : Env) (H : Heap) (Q : Post) : vc P c28s7 ρ H Q = vc P (.seq (.ops c28r6 c28k) .ret) ρ H Q := rfl
def c28s8 : SCode := (.cond (.tmp 15) c28s7 .skip)
@[go_sem] theorem c28s8eq (P : Program) (ρ : Env) (H : Heap) (Q : Post) : vc P c28s8 ρ H Q = vc P (.cond (.tmp 15) c28s7 .skip) ρ H Q := rfl
@[go_sem] def c28r9 : List GOp := [(.op none (some 16) (.v (.mv (.tmp 0)))),
  (.op none (some 17) (.v (.mv (.tmp 1)))),
  (.op none (some 18) (.call 39 [(.tmp 16), (.tmp 17)]))]
@[go_sem] def c28r10 : List GOp := [(.op none (some 4) (.v (.mv (.const (.int .i64 1)))))]
def c28s11 : SCode := (.seq (.ops c28r10 c28k) .ret)
@[go_sem] theorem c28s11eq (P : Program) (ρ : Env) (H : Heap) (Q : Post) : vc P c28s11 ρ H Q = vc P (.seq (.ops c28r10 c28k) .ret) ρ H Q := rfl
def c28s12 : SCode := (.cond (.tmp 18) c28s11 .skip)
@[go_sem] theorem c28s12eq (P : Program) (ρ : Env) (H : Heap) (Q : Post) : vc P c28s12 ρ H Q = vc P (.cond (.tmp 18) c28s11 .skip) ρ H Q := rfl
@[go_sem] def c28r13 : List GOp := [(.op none (some 19) (.v (.mv (.tmp 1)))),
  (.op none (some 20) (.v (.mv (.tmp 0)))),
  (.op none (some 21) (.call 39 [(.tmp 19), (.tmp 20)]))]
@[go_sem] def c28r14 : List GOp := [(.op none (some 4) (.v (.mv (.const (.int .i64 2)))))]
def c28s15 : SCode := (.seq (.ops c28r14 c28k) .ret)
@[go_sem] theorem c28s15eq (P : Program) (ρ : Env) (H : Heap) (Q : Post) : vc P c28s15 ρ H Q = vc P (.seq (.ops c28r14 c28k) .ret) ρ H Q := rfl
def c28s16 : SCode := (.cond (.tmp 21) c28s15 .skip)
@[go_sem] theorem c28s16eq (P : Program) (ρ : Env) (H : Heap) (Q : Post) : vc P c28s16 ρ H Q = vc P (.cond (.tmp 21) c28s15 .skip) ρ H Q := rfl
@[go_sem] def c28r17 : List GOp := [(.op none (some 4) (.v (.mv (.const (.int .i64 3)))))]
def c28s18 : SCode := (.seq (.ops c28r17 c28k) .ret)
@[go_sem] theorem c28s18eq (P : Program) (ρ : Env) (H : Heap) (Q : Post) : vc P c28s18 ρ H Q = vc P (.seq (.ops c28r17 c28k) .ret) ρ H Q := rfl
def c28s19 : SCode := (.seq (.seq (.ops c28r13 c28k) c28s16) c28s18)
@[go_sem] theorem c28s19eq (P : Program) (ρ : Env) (H : Heap) (Q : Post) : vc P c28s19 ρ H Q = vc P (.seq (.seq (.ops c28r13 c28k) c28s16) c28s18) ρ H Q := rfl
def c28s20 : SCode := (.seq (.seq (.ops c28r9 c28k) c28s12) c28s19)
@[go_sem] theorem c28s20eq (P : Program) (ρ : Env) (H : Heap) (Q : Post) : vc P c28s20 ρ H Q = vc P (.seq (.seq (.ops c28r9 c28k) c28s12) c28s19) ρ H Q := rfl
def c28s21 : SCode := (.seq (.seq (.ops c28r5 c28k) c28s8) c28s20)
@[go_sem] theorem c28s21eq (P : Program) (ρ : Env) (H : Heap) (Q : Post) : vc P c28s21 ρ H Q = vc P (.seq (.seq (.ops c28r5 c28k) c28s8) c28s20) ρ H Q := rfl
def c28s22 : SCode := (.seq (.seq (.ops c28r1 c28k) c28s4) c28s21)
@[go_sem] theorem c28s22eq (P : Program) (ρ : Env) (H : Heap) (Q : Post) : vc P c28s22 ρ H Q = vc P (.seq (.seq (.ops c28r1 c28k) c28s4) c28s21) ρ H Q := rfl
def c28 : Gx.Fn := ⟨22, c28k, (.seq (.ops c28r0 c28k) c28s22), [(.tmp 4)]⟩
theorem c28ok : stripFn Try.prog c28k Try.f28 = some c28 := by kernel_rfl

/- clock.Encode -/
@[go_sem] def c29k : List Nat := [0, 2, 3, 5, 8, 13, 14, 15, 16]
@[go_sem] def c29r0 : List GOp := [(.op none (some 2) (.v (.mv (.const (.slice none 0 0)))))]
@[go_sem] def c29r1 : List GOp := [(.op none (some 6) (.v (.mv (.tmp 0)))),
  (.op none (some 7) (.call 16 [(.tmp 6)])),
  (.op none (some 8) (.v (.un .not (.tmp 7))))]
@[go_sem] def c29r2 : List GOp := [(.op none (some 2) (.v (.mv (.const (.slice none 0 0)))))]
def c29s3 : SCode := (.seq (.ops c29r2 c29k) .ret)
@[go_sem] theorem c29s3eq (P : Program) (ρ : Env) (H : Heap) (Q : Post) : vc P c29s3 ρ H Q = vc P (.seq (.ops c29r2 c29k) .ret) ρ H Q := rfl
def c29s4 : SCode := (.cond (.tmp 8) c29s3 .skip)
@[go_sem] theorem c29s4eq (P : Program) (ρ : Env) (H : Heap) (Q : Post) : vc P c29s4 ρ H Q = vc P (.cond (.tmp 8) c29s3 .skip) ρ H Q := rfl
@[go_sem] def c29r5 : List GOp := [(.op none (some 3) (.al 48 [(.slice none 0 0)]))]
@[go_sem] def c29r6 : List GOp := [(.op none (some 9) (.v (.mv (.tmp 0)))),
  (.op none (some 10) (.v (.len (.tmp 9)))),
  (.op none (some 11) (.v (.cvi .u64 (.tmp 10)))),
  (.op none (some 12) (.call 40 [(.tmp 3), (.tmp 11)]))]
@[go_sem] def c29r7 : List GOp := [(.op none (some 13) (.v (.mv (.tmp 0)))),
  (.op none (some 14) (.v (.len (.tmp 13)))),
  (.op none (some 15) (.v (.mv (.const (.int .i64 0)))))]
@[go_sem] def c29r8 : List GOp := [(.op none (some 16) (.v (.bin .lss (.tmp 15) (.tmp 14))))]
@[go_sem] def c29r9 : List GOp := [(.op none (some 17) (.v (.ix 2 (.tmp 13) (.tmp 15)))),
  (.op none (some 18) (.ld (some 2) (.tmp 17))),
  (.op none (some 5) (.al 41 [(.int .i64 0), (.int .i64 0)])),
  (.op none none (.st 2 (.tmp 5) (.tmp 18)))]
@[go_sem] def c29r10 : List GOp := [(.op none (some 19) (.v (.fa 0 (.tmp 5)))),
  (.op none (some 20) (.ld none (.tmp 19))),
  (.op none (some 21) (.v (.cvi .u64 (.tmp 20)))),
  (.op none (some 22) (.call 40 [(.tmp 3), (.tmp 21)]))]
@[go_sem] def c29r11 : List GOp := [(.op none (some 23) (.v (.fa 1 (.tmp 5)))),
  (.op none (some 24) (.ld none (.tmp 23))),
  (.op none (some 25) (.v (.cvi .u64 (.tmp 24)))),
  (.op none (some 26) (.call 40 [(.tmp 3), (.tmp 25)]))]
def c29s12 : SCode := (.ops c29r11 c29k)
@[go_sem] theorem c29s12eq (P : Program) (ρ : Env) (H : Heap) (Q : Post) : vc P c29s12 ρ H Q = vc P (.ops c29r11 c29k) ρ H Q := rfl
def c29s13 : SCode := (.seq (.ops c29r10 c29k) c29s12)
@[go_sem] theorem c29s13eq (P : Program) (ρ : Env) (H : Heap) (Q : Post) : vc P c29s13 ρ H Q = vc P (.seq (.ops c29r10 c29k) c29s12) ρ H Q := rfl
@[go_sem] def c29r14 : List GOp := [(.op none (some 27) (.v (.bin .add (.tmp 15) (.const (.int .i64 1))))),
  (.op none (some 15) (.v (.mv (.tmp 27))))]
def c29s15 : SCode := (.ops c29r14 c29k)
@[go_sem] theorem c29s15eq (P : Program) (ρ : Env) (H : Heap) (Q : Post) : vc P c29s15 ρ H Q = vc P (.ops c29r14 c29k) ρ H Q := rfl
def c29s16 : SCode := (.seq (.block 1 (.seq (.ops c29r9 c29k) c29s13)) c29s15)
@[go_sem] theorem c29s16eq (P : Program) (ρ : Env) (H : Heap) (Q : Post) : vc P c29s16 ρ H Q = vc P (.seq (.block 1 (.seq (.ops c29r9 c29k) c29s13)) c29s15) ρ H Q := rfl
def c29s17 : SCode := (.seq (.cond (.tmp 16) .skip (.exit 0)) c29s16)
@[go_sem] theorem c29s17eq (P : Program) (ρ : Env) (H : Heap) (Q : Post) : vc P c29s17 ρ H Q = vc P (.seq (.cond (.tmp 16) .skip (.exit 0)) c29s16) ρ H Q := rfl
def c29s18 : SCode := (.seq (.ops c29r8 c29k) c29s17)
@[go_sem] theorem c29s18eq (P : Program) (ρ : Env) (H : Heap) (Q : Post) : vc P c29s18 ρ H Q = vc P (.seq (.ops c29r8 c29k) c29s17) ρ H Q := rfl
def c29s19 : SCode := (.block 0 (.loop c29s18))
@[go_sem] theorem c29s19eq (P : Program) (ρ : Env) (H : Heap) (Q : Post) : vc P c29s19 ρ H Q = vc P (.block 0 (.loop c29s18)) ρ H Q := rfl
@[go_sem] def c29r20 : List GOp := [(.op none (some 28) (.call 41 [(.tmp 3)])),
  (.op none (some 2) (.v (.mv (.tmp 28))))]
def c29s21 : SCode := (.seq (.ops c29r20 c29k) .ret)
@[go_sem] theorem c29s21eq (P : Program) (ρ : Env) (H : Heap) (Q : Post) : vc P c29s21 ρ H Q = vc P (.seq (.ops c29r20 c29k) .ret) ρ H Q := rfl
def c29s22 : SCode := (.seq (.seq (.ops c29r7 c29k) c29s19) c29s21)
@[go_sem] theorem c29s22eq (P : Program) (ρ : Env) (H : Heap) (Q : Post) : vc P c29s22 ρ H Q = vc P (.seq (.seq (.ops c29r7 c29k) c29s19) c29s21) ρ H Q := rfl
def c29s23 : SCode := (.seq (.ops c29r6 c29k) c29s22)
@[go_sem] theorem c29s23eq (P : Program) (ρ : Env) (H : Heap) (Q : Post) : vc P c29s23 ρ H Q = vc P (.seq (.ops c29r6 c29k) c29s22) ρ H Q := rfl
def c29s24 : SCode := (.seq (.ops c29r5 c29k) c29s23)
@[go_sem] theorem c29s24eq (P : Program) (ρ : Env) (H : Heap) (Q : Post) : vc P c29s24 ρ H Q = vc P (.seq (.ops c29r5 c29k) c29s23) ρ H Q := rfl
def c29s25 : SCode := (.seq (.seq (.ops c29r1 c29k) c29s4) c29s24)
@[go_sem] theorem c29s25eq (P : Program) (ρ : Env) (H : Heap) (Q : Post) : vc P c29s25 ρ H Q = vc P (.seq (.seq (.ops c29r1 c29k) c29s4) c29s24) ρ H Q := rfl
def c29 : Gx.Fn := ⟨29, c29k, (.seq (.ops c29r0 c29k) c29s25), [(.tmp 2)]⟩
theorem c29ok : stripFn Try.prog c29k Try.f29 = some c29 := by kernel_rfl

/- clock.Decode -/
@[go_sem] def c30k : List Nat := [0, 2, 3, 4, 5, 6, 7, 11, 12, 13, 23, 40]
@[go_sem] def c30r0 : List GOp := [(.op none (some 2) (.v (.mv (.const (.slice none 0 0))))),
  (.op none (some 3) (.v (.mv (.const (.int .i64 0)))))]
@[go_sem] def c30r1 : List GOp := [(.op none (some 8) (.v (.mv (.tmp 0)))),
  (.op none (some 9) (.call 42 [(.tmp 8)])),
  (.op none (some 4) (.v (.mv (.tmp 9))))]
@[go_sem] def c30r2 : List GOp := [(.op none (some 5) (.v (.mv (.const (.slice none 0 0)))))]
@[go_sem] def c30r3 : List GOp := [(.op none (some 10) (.v (.mv (.tmp 4)))),
  (.op none (some 11) (.call 43 [(.tmp 10)])),
  (.op none (some 12) (.v (.mv (.const (.int .i64 0)))))]
@[go_sem] def c30r4 : List GOp := [(.op none (some 13) (.v (.bin .lss (.tmp 12) (.tmp 11))))]
@[go_sem] def c30r5 : List GOp := [(.op none (some 14) (.v (.mv (.tmp 4)))),
  (.op none (some 15) (.call 44 [(.tmp 14)])),
  (.op none (some 16) (.v (.mv (.tmp 4)))),
  (.op none (some 17) (.call 44 [(.tmp 16)])),
  (.op none (some 6) (.v (.mv (.tmp 15)))),
  (.op none (some 7) (.v (.mv (.tmp 17))))]
@[go_sem] def c30r6 : List GOp := [(.op none (some 18) (.v (.mv (.tmp 6)))),
  (.op none (some 19) (.v (.bin .gtr (.tmp 18) (.const (.int .u64 63))))),
  (.op none (some 20) (.v (.mv (.tmp 19)))),
  (.sel 20 false [(21, (.v (.mv (.tmp 7)))), (22, (.v (.bin .gtr (.tmp 21) (.const (.int .u64 1000000000000000)))))] 23 (.const (.bool true)) (.tmp 22))]
@[go_sem] def c30r7 : List GOp := [(.op none (some 2) (.v (.mv (.const (.slice none 0 0))))),
  (.op none (some 3) (.v (.mv (.const (.int .i64 2)))))]
def c30s8 : SCode := (.seq (.ops c30r7 c30k) .ret)
@[go_sem] theorem c30s8eq (P : Program) (ρ : Env) (H : Heap) (Q : Post) : vc P c30s8 ρ H Q = vc P (.seq (.ops c30r7 c30k) .ret) ρ H Q := rfl
def c30s9 : SCode := (.cond (.tmp 23) c30s8 .skip)
@[go_sem] theorem c30s9eq (P : Program) (ρ : Env) (H : Heap) (Q : Post) : vc P c30s9 ρ H Q = vc P (.cond (.tmp 23) c30s8 .skip) ρ H Q := rfl
@[go_sem] def c30r10 : List GOp := [(.op none (some 24) (.v (.mv (.tmp 5)))),
  (.op none (some 25) (.v (.mv (.tmp 6)))),
  (.op none (some 26) (.v (.cvi .i64 (.tmp 25)))),
  (.op none (some 27) (.v (.mv (.tmp 7)))),
  (.op none (some 28) (.v (.cvi .i64 (.tmp 27)))),
  (.op none (some 29) (.v (.bld [(.int .i64 0), (.int .i64 0)] [(0, (1, (.tmp 26))), (1, (1, (.tmp 28)))]))),
  (.op none (some 30) (.bs 41 1 [(.int .i64 0), (.int .i64 0)] [(0, (2, (.tmp 29)))])),
  (.op none (some 31) (.ap 22 22 (.tmp 24) (.tmp 30))),
  (.op none (some 5) (.v (.mv (.tmp 31))))]
def c30s11 : SCode := (.ops c30r10 c30k)
@[go_sem] theorem c30s11eq (P : Program) (ρ : Env) (H : Heap) (Q : Post) : vc P c30s11 ρ H Q = vc P (.ops c30r10 c30k) ρ H Q := rfl
def c30s12 : SCode := (.seq (.seq (.ops c30r6 c30k) c30s9) c30s11)
@[go_sem] theorem c30s12eq (P : Program) (ρ : Env) (H : Heap) (Q : Post) : vc P c30s12 ρ H Q = vc P (.seq (.seq (.ops c30r6 c30k) c30s9) c30s11) ρ H Q := rfl
@[go_sem] def c30r13 : List GOp := [(.op none (some 32) (.v (.bin .add (.tmp 12) (.const (.int .i64 1))))),
  (.op none (some 12) (.v (.mv (.tmp 32))))]
def c30s14 : SCode := (.ops c30r13 c30k)
@[go_sem] theorem c30s14eq (P : Program) (ρ : Env) (H : Heap) (Q : Post) : vc P c30s14 ρ H Q = vc P (.ops c30r13 c30k) ρ H Q := rfl
def c30s15 : SCode := (.seq (.block 1 (.seq (.ops c30r5 c30k) c30s12)) c30s14)
@[go_sem] theorem c30s15eq (P : Program) (ρ : Env) (H : Heap) (Q : Post) : vc P c30s15 ρ H Q = vc P (.seq (.block 1 (.seq (.ops c30r5 c30k) c30s12)) c30s14) ρ H Q := rfl
def c30s16 : SCode := (.seq (.cond (.tmp 13) .skip (.exit 0)) c30s15)
@[go_sem] theorem c30s16eq (P : Program) (ρ : Env) (H : Heap) (Q : Post) : vc P c30s16 ρ H Q = vc P (.seq (.cond (.tmp 13) .skip (.exit 0)) c30s15) ρ H Q := rfl
def c30s17 : SCode := (.seq (.ops c30r4 c30k) c30s16)
@[go_sem] theorem c30s17eq (P : Program) (ρ : Env) (H : Heap) (Q : Post) : vc P c30s17 ρ H Q = vc P (.seq (.ops c30r4 c30k) c30s16) ρ H Q := rfl
def c30s18 : SCode := (.block 0 (.loop c30s17))
@[go_sem] theorem c30s18eq (P : Program) (ρ : Env) (H : Heap) (Q : Post) : vc P c30s18 ρ H Q = vc P (.block 0 (.loop c30s17)) ρ H Q := rfl
@[go_sem] def c30r19 : List GOp := [(.op none (some 33) (.v (.mv (.tmp 4)))),
  (.op none (some 34) (.call 45 [(.tmp 33)])),
  (.op none (some 35) (.v (.bin .neq (.tmp 34) (.const (.int .i64 0))))),
  (.op none (some 36) (.v (.mv (.tmp 35)))),
  (.op (some (36, false)) (some 37) (.v (.mv (.tmp 5)))),
  (.op (some (36, false)) (some 38) (.call 16 [(.tmp 37)])),
  (.sel 36 false [(39, (.v (.un .not (.tmp 38))))] 40 (.const (.bool true)) (.tmp 39))]
@[go_sem] def c30r20 : List GOp := [(.op none (some 2) (.v (.mv (.const (.slice none 0 0))))),
  (.op none (some 3) (.v (.mv (.const (.int .i64 2)))))]
def c30s21 : SCode := (.seq (.ops c30r20 c30k) .ret)
@[go_sem] theorem c30s21eq (P : Program) (ρ : Env) (H : Heap) (Q : Post) : vc P c30s21 ρ H Q = vc P (.seq (.ops c30r20 c30k) .ret) ρ H Q := rfl
def c30s22 : SCode := (.cond (.tmp 40) c30s21 .skip)
@[go_sem] theorem c30s22eq (P : Program) (ρ : Env) (H : Heap) (Q : Post) : vc P c30s22 ρ H Q = vc P (.cond (.tmp 40) c30s21 .skip) ρ H Q := rfl
@[go_sem] def c30r23 : List GOp := [(.op none (some 41) (.v (.mv (.tmp 5)))),
  (.op none (some 2) (.v (.mv (.tmp 41)))),
  (.op none (some 3) (.v (.mv (.const (.int .i64 0)))))]
def c30s24 : SCode := (.seq (.ops c30r23 c30k) .ret)
@[go_sem] theorem c30s24eq (P : Program) (ρ : Env) (H : Heap) (Q : Post) : vc P c30s24 ρ H Q = vc P (.seq (.ops c30r23 c30k) .ret) ρ H Q := rfl
def c30s25 : SCode := (.seq (.seq (.ops c30r19 c30k) c30s22) c30s24)
@[go_sem] theorem c30s25eq (P : Program) (ρ : Env) (H : Heap) (Q : Post) : vc P c30s25 ρ H Q = vc P (.seq (.seq (.ops c30r19 c30k) c30s22) c30s24) ρ H Q := rfl
def c30s26 : SCode := (.seq (.seq (.ops c30r3 c30k) c30s18) c30s25)
@[go_sem] theorem c30s26eq (P : Program) (ρ : Env) (H : Heap) (Q : Post) : vc P c30s26 ρ H Q = vc P (.seq (.seq (.ops c30r3 c30k) c30s18) c30s25) ρ H Q := rfl
def c30s27 : SCode := (.seq (.ops c30r2 c30k) c30s26)
@[go_sem] theorem c30s27eq (P : Program) (ρ : Env) (H : Heap) (Q : Post) : vc P c30s27 ρ H Q = vc P (.seq (.ops c30r2 c30k) c30s26) ρ H Q := rfl
def c30s28 : SCode := (.seq (.ops c30r1 c30k) c30s27)
@[go_sem] theorem c30s28eq (P : Program) (ρ : Env) (H : Heap) (Q : Post) : vc P c30s28 ρ H Q = vc P (.seq (.ops c30r1 c30k) c30s27) ρ H Q := rfl
def c30 : Gx.Fn := ⟨42, c30k, (.seq (.ops c30r0 c30k) c30s28), [(.tmp 2), (.tmp 3)]⟩
theorem c30ok : stripFn Try.prog c30k Try.f30 = some c30 := by kernel_rfl

/- plexusref07.Decode -/
@[go_sem] def c31k : List Nat := [0, 2, 3, 4, 5, 6, 7, 8, 9, 10, 11, 22, 25, 39, 51, 69]
@[go_sem] def c31r0 : List GOp := [(.op none (some 2) (.v (.mv (.const (.slice none 0 0))))),
  (.op none (some 3) (.v (.mv (.const (.int .i64 0)))))]
@[go_sem] def c31r1 : List GOp := [(.op none (some 13) (.v (.mv (.tmp 0)))),
  (.op none (some 14) (.call 46 [(.tmp 13), (.const (.int .i64 0))])),
  (.op none (some 12) (.v (.mv (.tmp 14)))),
  (.op none (some 15) (.v (.ext (.tmp 12) 0))),
  (.op none (some 16) (.v (.ext (.tmp 12) 1))),
  (.op none (some 4) (.v (.mv (.tmp 15)))),
  (.op none (some 5) (.v (.mv (.tmp 16))))]
@[go_sem] def c31r2 : List GOp := [(.op none (some 17) (.v (.mv (.tmp 5)))),
  (.op none (some 18) (.v (.bin .lss (.tmp 17) (.const (.int .i64 0))))),
  (.op none (some 19) (.v (.mv (.tmp 18)))),
  (.sel 19 false [(20, (.v (.mv (.tmp 4)))), (21, (.v (.bin .gtr (.tmp 20) (.const (.int .u64 64)))))] 22 (.const (.bool true)) (.tmp 21))]
@[go_sem] def c31r3 : List GOp := [(.op none (some 2) (.v (.mv (.const (.slice none 0 0))))),
  (.op none (some 3) (.v (.mv (.const (.int .i64 2)))))]
def c31s4 : SCode := (.seq (.ops c31r3 c31k) .ret)
@[go_sem] theorem c31s4eq (P : Program) (ρ : Env) (H : Heap) (Q : Post) : vc P c31s4 ρ H Q = vc P (.seq (.ops c31r3 c31k) .ret) ρ H Q := rfl
def c31s5 : SCode := (.cond (.tmp 22) c31s4 .skip)
@[go_sem] theorem c31s5eq (P : Program) (ρ : Env) (H : Heap) (Q : Post) : vc P c31s5 ρ H Q = vc P (.cond (.tmp 22) c31s4 .skip) ρ H Q := rfl
@[go_sem] def c31r6 : List GOp := [(.op none (some 6) (.v (.mv (.const (.slice none 0 0)))))]
@[go_sem] def c31r7 : List GOp := [(.op none (some 7) (.v (.mv (.const (.int .u64 0)))))]
@[go_sem] def c31r8 : List GOp := [(.op none (some 23) (.v (.mv (.tmp 7)))),
  (.op none (some 24) (.v (.mv (.tmp 4)))),
  (.op none (some 25) (.v (.bin .lss (.tmp 23) (.tmp 24))))]
def c31s9 : SCode := (.cond (.tmp 25) .skip (.exit 0))
@[go_sem] theorem c31s9eq (P : Program) (ρ : Env) (H : Heap) (Q : Post) : vc P c31s9 ρ H Q = vc P (.cond (.tmp 25) .skip (.exit 0)) ρ H Q := rfl
@[go_sem] def c31r10 : List GOp := [(.op none (some 29) (.v (.mv (.tmp 0)))),
  (.op none (some 30) (.v (.mv (.tmp 5)))),
  (.op none (some 31) (.call 46 [(.tmp 29), (.tmp 30)])),
  (.op none (some 28) (.v (.mv (.tmp 31)))),
  (.op none (some 32) (.v (.ext (.tmp 28) 0))),
  (.op none (some 33) (.v (.ext (.tmp 28) 1))),
  (.op none (some 8) (.v (.mv (.tmp 32)))),
  (.op none (some 9) (.v (.mv (.tmp 33))))]
@[go_sem] def c31r11 : List GOp := [(.op none (some 34) (.v (.mv (.tmp 9)))),
  (.op none (some 35) (.v (.bin .lss (.tmp 34) (.const (.int .i64 0))))),
  (.op none (some 36) (.v (.mv (.tmp 35)))),
  (.sel 36 false [(37, (.v (.mv (.tmp 8)))), (38, (.v (.bin .gtr (.tmp 37) (.const (.int .u64 63)))))] 39 (.const (.bool true)) (.tmp 38))]
@[go_sem] def c31r12 : List GOp := [(.op none (some 2) (.v (.mv (.const (.slice none 0 0))))),
  (.op none (some 3) (.v (.mv (.const (.int .i64 2)))))]
def c31s13 : SCode := (.seq (.ops c31r12 c31k) .ret)
@[go_sem] theorem c31s13eq (P : Program) (ρ : Env) (H : Heap) (Q : Post) : vc P c31s13 ρ H Q = vc P (.seq (.ops c31r12 c31k) .ret) ρ H Q := rfl
def c31s14 : SCode := (.cond (.tmp 39) c31s13 .skip)
@[go_sem] theorem c31s14eq (P : Program) (ρ : Env) (H : Heap) (Q : Post) : vc P c31s14 ρ H Q = vc P (.cond (.tmp 39) c31s13 .skip) ρ H Q := rfl
@[go_sem] def c31r15 : List GOp := [(.op none (some 41) (.v (.mv (.tmp 0)))),
  (.op none (some 42) (.v (.mv (.tmp 9)))),
  (.op none (some 43) (.call 46 [(.tmp 41), (.tmp 42)])),
  (.op none (some 40) (.v (.mv (.tmp 43)))),
  (.op none (some 44) (.v (.ext (.tmp 40) 0))),
  (.op none (some 45) (.v (.ext (.tmp 40) 1))),
  (.op none (some 10) (.v (.mv (.tmp 44)))),
  (.op none (some 11) (.v (.mv (.tmp 45))))]
@[go_sem] def c31r16 : List GOp := [(.op none (some 46) (.v (.mv (.tmp 11)))),
  (.op none (some 47) (.v (.bin .lss (.tmp 46) (.const (.int .i64 0))))),
  (.op none (some 48) (.v (.mv (.tmp 47)))),
  (.sel 48 false [(49, (.v (.mv (.tmp 10)))), (50, (.v (.bin .gtr (.tmp 49) (.const (.int .u64 1000000000000000)))))] 51 (.const (.bool true)) (.tmp 50))]
@[go_sem] def c31r17 : List GOp := [(.op none (some 2) (.v (.mv (.const (.slice none 0 0))))),
  (.op none (some 3) (.v (.mv (.const (.int .i64 2)))))]
def c31s18 : SCode := (.seq (.ops c31r17 c31k) .ret)
@[go_sem] theorem c31s18eq (P : Program) (ρ : Env) (H : Heap) (Q : Post) : vc P c31s18 ρ H Q = vc P (.seq (.ops c31r17 c31k) .ret) ρ H Q := rfl
def c31s19 : SCode := (.cond (.tmp 51) c31s18 .skip)
@[go_sem] theorem c31s19eq (P : Program) (ρ : Env) (H : Heap) (Q : Post) : vc P c31s19 ρ H Q = vc P (.cond (.tmp 51) c31s18 .skip) ρ H Q := rfl
@[go_sem] def c31r20 : List GOp := [(.op none (some 52) (.v (.mv (.tmp 6)))),
  (.op none (some 53) (.v (.mv (.tmp 8)))),
  (.op none (some 54) (.v (.cvi .i64 (.tmp 53)))),
  (.op none (some 55) (.v (.mv (.tmp 10)))),
  (.op none (some 56) (.v (.cvi .i64 (.tmp 55)))),
  (.op none (some 57) (.v (.bld [(.int .i64 0), (.int .i64 0)] [(0, (1, (.tmp 54))), (1, (1, (.tmp 56)))]))),
  (.op none (some 58) (.bs 41 1 [(.int .i64 0), (.int .i64 0)] [(0, (2, (.tmp 57)))])),
  (.op none (some 59) (.ap 22 22 (.tmp 52) (.tmp 58))),
  (.op none (some 6) (.v (.mv (.tmp 59))))]
@[go_sem] def c31r21 : List GOp := [(.op none (some 60) (.v (.mv (.tmp 11)))),
  (.op none (some 5) (.v (.mv (.tmp 60))))]
def c31s22 : SCode := (.ops c31r21 c31k)
@[go_sem] theorem c31s22eq (P : Program) (ρ : Env) (H : Heap) (Q : Post) : vc P c31s22 ρ H Q = vc P (.ops c31r21 c31k) ρ H Q := rfl
def c31s23 : SCode := (.seq (.ops c31r20 c31k) c31s22)
@[go_sem] theorem c31s23eq (P : Program) (ρ : Env) (H : Heap) (Q : Post) : vc P c31s23 ρ H Q = vc P (.seq (.ops c31r20 c31k) c31s22) ρ H Q := rfl
def c31s24 : SCode := (.seq (.seq (.ops c31r16 c31k) c31s19) c31s23)
@[go_sem] theorem c31s24eq (P : Program) (ρ : Env) (H : Heap) (Q : Post) : vc P c31s24 ρ H Q = vc P (.seq (.seq (.ops c31r16 c31k) c31s19) c31s23) ρ H Q := rfl
def c31s25 : SCode := (.seq (.ops c31r15 c31k) c31s24)
@[go_sem] theorem c31s25eq (P : Program) (ρ : Env) (H : Heap) (Q : Post) : vc P c31s25 ρ H Q = vc P (.seq (.ops c31r15 c31k) c31s24) ρ H Q := rfl
def c31s26 : SCode := (.seq (.seq (.ops c31r11 c31k) c31s14) c31s25)
@[go_sem] theorem c31s26eq (P : Program) (ρ : Env) (H : Heap) (Q : Post) : vc P c31s26 ρ H Q = vc P (.seq (.seq (.ops c31r11 c31k) c31s14) c31s25) ρ H Q := rfl
@[go_sem] def c31r27 : List GOp := [(.op none (some 26) (.v (.mv (.tmp 7)))),
  (.op none (some 27) (.v (.bin .add (.tmp 26) (.const (.int .u64 1))))),
  (.op none (some 7) (.v (.mv (.tmp 27))))]
def c31s28 : SCode := (.ops c31r27 c31k)
@[go_sem] theorem c31s28eq (P : Program) (ρ : Env) (H : Heap) (Q : Post) : vc P c31s28 ρ H Q = vc P (.ops c31r27 c31k) ρ H Q := rfl
def c31s29 : SCode := (.seq (.block 1 (.seq (.ops c31r10 c31k) c31s26)) c31s28)
@[go_sem] theorem c31s29eq (P : Program) (ρ : Env) (H : Heap) (Q : Post) : vc P c31s29 ρ H Q = vc P (.seq (.block 1 (.seq (.ops c31r10 c31k) c31s26)) c31s28) ρ H Q := rfl
def c31s30 : SCode := (.seq (.seq (.ops c31r8 c31k) c31s9) c31s29)
@[go_sem] theorem c31s30eq (P : Program) (ρ : Env) (H : Heap) (Q : Post) : vc P c31s30 ρ H Q = vc P (.seq (.seq (.ops c31r8 c31k) c31s9) c31s29) ρ H Q := rfl
def c31s31 : SCode := (.block 0 (.loop c31s30))
@[go_sem] theorem c31s31eq (P : Program) (ρ : Env) (H : Heap) (Q : Post) : vc P c31s31 ρ H Q = vc P (.block 0 (.loop c31s30)) ρ H Q := rfl
@[go_sem] def c31r32 : List GOp := [(.op none (some 61) (.v (.mv (.tmp 5)))),
  (.op none (some 62) (.v (.mv (.tmp 0)))),
  (.op none (some 63) (.v (.len (.tmp 62)))),
  (.op none (some 64) (.v (.bin .neq (.tmp 61) (.tmp 63)))),
  (.op none (some 65) (.v (.mv (.tmp 64)))),
  (.op (some (65, false)) (some 66) (.v (.mv (.tmp 6)))),
  (.op (some (65, false)) (some 67) (.call 17 [(.tmp 66)])),
  (.sel 65 false [(68, (.v (.un .not (.tmp 67))))] 69 (.const (.bool true)) (.tmp 68))]
@[go_sem] def c31r33 : List GOp := [(.op none (some 2) (.v (.mv (.const (.slice none 0 0))))),
  (.op none (some 3) (.v (.mv (.const (.int .i64 2)))))]
def c31s34 : SCode := (.seq (.ops c31r33 c31k) .ret)
@[go_sem] theorem c31s34eq (P : Program) (ρ : Env) (H : Heap) (Q : Post) : vc P c31s34 ρ H Q = vc P (.seq (.ops c31r33 c31k) .ret) ρ H Q := rfl
def c31s35 : SCode := (.cond (.tmp 69) c31s34 .skip)
@[go_sem] theorem c31s35eq (P : Program) (ρ : Env) (H : Heap) (Q : Post) : vc P c31s35 ρ H Q = vc P (.cond (.tmp 69) c31s34 .skip) ρ H Q := rfl
@[go_sem] def c31r36 : List GOp := [(.op none (some 70) (.v (.mv (.tmp 6)))),
  (.op none (some 2) (.v (.mv (.tmp 70)))),
  (.op none (some 3) (.v (.mv (.const (.int .i64 0)))))]
def c31s37 : SCode := (.seq (.ops c31r36 c31k) .ret)
@[go_sem] theorem c31s37eq (P : Program) (ρ : Env) (H : Heap) (Q : Post) : vc P c31s37 ρ H Q = vc P (.seq (.ops c31r36 c31k) .ret) ρ H Q := rfl
def c31s38 : SCode := (.seq (.seq (.ops c31r32 c31k) c31s35) c31s37)
@[go_sem] theorem c31s38eq (P : Program) (ρ : Env) (H : Heap) (Q : Post) : vc P c31s38 ρ H Q = vc P (.seq (.seq (.ops c31r32 c31k) c31s35) c31s37) ρ H Q := rfl
def c31s39 : SCode := (.seq (.seq (.ops c31r7 c31k) c31s31) c31s38)
@[go_sem] theorem c31s39eq (P : Program) (ρ : Env) (H : Heap) (Q : Post) : vc P c31s39 ρ H Q = vc P (.seq (.seq (.ops c31r7 c31k) c31s31) c31s38) ρ H Q := rfl
def c31s40 : SCode := (.seq (.ops c31r6 c31k) c31s39)
@[go_sem] theorem c31s40eq (P : Program) (ρ : Env) (H : Heap) (Q : Post) : vc P c31s40 ρ H Q = vc P (.seq (.ops c31r6 c31k) c31s39) ρ H Q := rfl
def c31s41 : SCode := (.seq (.seq (.ops c31r2 c31k) c31s5) c31s40)
@[go_sem] theorem c31s41eq (P : Program) (ρ : Env) (H : Heap) (Q : Post) : vc P c31s41 ρ H Q = vc P (.seq (.seq (.ops c31r2 c31k) c31s5) c31s40) ρ H Q := rfl
def c31s42 : SCode := (.seq (.ops c31r1 c31k) c31s41)
@[go_sem] theorem c31s42eq (P : Program) (ρ : Env) (H : Heap) (Q : Post) : vc P c31s42 ρ H Q = vc P (.seq (.ops c31r1 c31k) c31s41) ρ H Q := rfl
def c31 : Gx.Fn := ⟨71, c31k, (.seq (.ops c31r0 c31k) c31s42), [(.tmp 2), (.tmp 3)]⟩
theorem c31ok : stripFn Try.prog c31k Try.f31 = some c31 := by kernel_rfl

/- plexusref07.Encode -/
@[go_sem] def c32k : List Nat := [0, 2, 3, 4, 7, 15]
@[go_sem] def c32r0 : List GOp := [(.op none (some 2) (.v (.mv (.const (.slice none 0 0)))))]
@[go_sem] def c32r1 : List GOp := [(.op none (some 5) (.v (.mv (.tmp 0)))),
  (.op none (some 6) (.call 17 [(.tmp 5)])),
  (.op none (some 7) (.v (.un .not (.tmp 6))))]
@[go_sem] def c32r2 : List GOp := [(.op none (some 2) (.v (.mv (.const (.slice none 0 0)))))]
def c32s3 : SCode := (.seq (.ops c32r2 c32k) .ret)
@[go_sem] theorem c32s3eq (P : Program) (ρ : Env) (H : Heap) (Q : Post) : vc P c32s3 ρ H Q = vc P (.seq (.ops c32r2 c32k) .ret) ρ H Q := rfl
def c32s4 : SCode := (.cond (.tmp 7) c32s3 .skip)
@[go_sem] theorem c32s4eq (P : Program) (ρ : Env) (H : Heap) (Q : Post) : vc P c32s4 ρ H Q = vc P (.cond (.tmp 7) c32s3 .skip) ρ H Q := rfl
@[go_sem] def c32r5 : List GOp := [(.op none (some 8) (.v (.mv (.tmp 0)))),
  (.op none (some 9) (.v (.len (.tmp 8)))),
  (.op none (some 10) (.v (.cvi .u64 (.tmp 9)))),
  (.op none (some 11) (.call 47 [(.const (.slice none 0 0)), (.tmp 10)])),
  (.op none (some 3) (.v (.mv (.tmp 11))))]
@[go_sem] def c32r6 : List GOp := [(.op none (some 4) (.v (.mv (.const (.int .i64 0)))))]
@[go_sem] def c32r7 : List GOp := [(.op none (some 12) (.v (.mv (.tmp 4)))),
  (.op none (some 13) (.v (.mv (.tmp 0)))),
  (.op none (some 14) (.v (.len (.tmp 13)))),
  (.op none (some 15) (.v (.bin .lss (.tmp 12) (.tmp 14))))]
def c32s8 : SCode := (.cond (.tmp 15) .skip (.exit 0))
@[go_sem] theorem c32s8eq (P : Program) (ρ : Env) (H : Heap) (Q : Post) : vc P c32s8 ρ H Q = vc P (.cond (.tmp 15) .skip (.exit 0)) ρ H Q := rfl
@[go_sem] def c32r9 : List GOp := [(.op none (some 18) (.v (.mv (.tmp 3)))),
  (.op none (some 19) (.v (.mv (.tmp 0)))),
  (.op none (some 20) (.v (.mv (.tmp 4)))),
  (.op none (some 21) (.v (.ix 2 (.tmp 19) (.tmp 20)))),
  (.op none (some 22) (.v (.fa 0 (.tmp 21)))),
  (.op none (some 23) (.ld none (.tmp 22))),
  (.op none (some 24) (.v (.cvi .u64 (.tmp 23)))),
  (.op none (some 25) (.call 47 [(.tmp 18), (.tmp 24)])),
  (.op none (some 3) (.v (.mv (.tmp 25))))]
@[go_sem] def c32r10 : List GOp := [(.op none (some 26) (.v (.mv (.tmp 3)))),
  (.op none (some 27) (.v (.mv (.tmp 0)))),
  (.op none (some 28) (.v (.mv (.tmp 4)))),
  (.op none (some 29) (.v (.ix 2 (.tmp 27) (.tmp 28)))),
  (.op none (some 30) (.v (.fa 1 (.tmp 29)))),
  (.op none (some 31) (.ld none (.tmp 30))),
  (.op none (some 32) (.v (.cvi .u64 (.tmp 31)))),
  (.op none (some 33) (.call 47 [(.tmp 26), (.tmp 32)])),
  (.op none (some 3) (.v (.mv (.tmp 33))))]
def c32s11 : SCode := (.ops c32r10 c32k)
@[go_sem] theorem c32s11eq (P : Program) (ρ : Env) (H : Heap) (Q : Post) : vc P c32s11 ρ H Q = vc P (.ops c32r10 c32k) ρ H Q := rfl
@[go_sem] def c32r12 : List GOp := [(.op none (some 16) (.v (.mv (.tmp 4)))),
  (.op none (some 17) (.v (.bin .add (.tmp 16) (.const (.int .i64 1))))),
  (.op none (some 4) (.v (.mv (.tmp 17))))]
def c32s13 : SCode := (.ops c32r12 c32k)
@[go_sem] theorem c32s13eq (P : Program) (ρ : Env) (H : Heap) (Q : Post) : vc P c32s13 ρ H Q = vc P (.ops c32r12 c32k) ρ H Q := rfl
def c32s14 : SCode := (.seq (.block 1 (.seq (.ops c32r9 c32k) c32s11)) c32s13)
@[go_sem] theorem c32s14eq (P : Program) (ρ : Env) (H : Heap) (Q : Post) : vc P c32s14 ρ H Q = vc P (.seq (.block 1 (.seq (.ops c32r9 c32k) c32s11)) c32s13) ρ H Q := rfl
def c32s15 : SCode := (.seq (.seq (.ops c32r7 c32k) c32s8) c32s14)
@[go_sem] theorem c32s15eq (P : Program) (ρ : Env) (H : Heap) (Q : Post) : vc P c32s15 ρ H Q = vc P (.seq (.seq (.ops c32r7 c32k) c32s8) c32s14) ρ H Q := rfl
def c32s16 : SCode := (.block 0 (.loop c32s15))
@[go_sem] theorem c32s16eq (P : Program) (ρ : Env) (H : Heap) (Q : Post) : vc P c32s16 ρ H Q = vc P (.block 0 (.loop c32s15)) ρ H Q := rfl
@[go_sem] def c32r17 : List GOp := [(.op none (some 34) (.v (.mv (.tmp 3)))),
  (.op none (some 2) (.v (.mv (.tmp 34))))]
def c32s18 : SCode := (.seq (.ops c32r17 c32k) .ret)
@[go_sem] theorem c32s18eq (P : Program) (ρ : Env) (H : Heap) (Q : Post) : vc P c32s18 ρ H Q = vc P (.seq (.ops c32r17 c32k) .ret) ρ H Q := rfl
def c32s19 : SCode := (.seq (.seq (.ops c32r6 c32k) c32s16) c32s18)
@[go_sem] theorem c32s19eq (P : Program) (ρ : Env) (H : Heap) (Q : Post) : vc P c32s19 ρ H Q = vc P (.seq (.seq (.ops c32r6 c32k) c32s16) c32s18) ρ H Q := rfl
def c32s20 : SCode := (.seq (.ops c32r5 c32k) c32s19)
@[go_sem] theorem c32s20eq (P : Program) (ρ : Env) (H : Heap) (Q : Post) : vc P c32s20 ρ H Q = vc P (.seq (.ops c32r5 c32k) c32s19) ρ H Q := rfl
def c32s21 : SCode := (.seq (.seq (.ops c32r1 c32k) c32s4) c32s20)
@[go_sem] theorem c32s21eq (P : Program) (ρ : Env) (H : Heap) (Q : Post) : vc P c32s21 ρ H Q = vc P (.seq (.seq (.ops c32r1 c32k) c32s4) c32s20) ρ H Q := rfl
def c32 : Gx.Fn := ⟨35, c32k, (.seq (.ops c32r0 c32k) c32s21), [(.tmp 2)]⟩
theorem c32ok : stripFn Try.prog c32k Try.f32 = some c32 := by kernel_rfl

/- plexusref07.all -/
@[go_sem] def c33k : List Nat := [0, 2, 3, 4, 6]
@[go_sem] def c33r0 : List GOp := [(.op none (some 2) (.v (.mv (.const (.slice none 0 0)))))]
@[go_sem] def c33r1 : List GOp := [(.op none (some 3) (.v (.mv (.const (.slice none 0 0)))))]
@[go_sem] def c33r2 : List GOp := [(.op none (some 4) (.v (.mv (.const (.int .i64 0)))))]
@[go_sem] def c33r3 : List GOp := [(.op none (some 5) (.v (.mv (.tmp 4)))),
  (.op none (some 6) (.v (.bin .leq (.tmp 5) (.const (.int .i64 63)))))]
def c33s4 : SCode := (.cond (.tmp 6) .skip (.exit 0))
@[go_sem] theorem c33s4eq (P : Program) (ρ : Env) (H : Heap) (Q : Post) : vc P c33s4 ρ H Q = vc P (.cond (.tmp 6) .skip (.exit 0)) ρ H Q := rfl
@[go_sem] def c33r5 : List GOp := [(.op none (some 9) (.v (.mv (.tmp 3)))),
  (.op none (some 10) (.v (.mv (.tmp 0)))),
  (.op none (some 11) (.v (.mv (.tmp 4)))),
  (.op none (some 12) (.call 19 [(.tmp 10), (.tmp 11)])),
  (.op none (some 13) (.bs 2 1 [(.int .i64 0)] [(0, (1, (.tmp 12)))])),
  (.op none (some 14) (.ap 42 42 (.tmp 9) (.tmp 13))),
  (.op none (some 3) (.v (.mv (.tmp 14))))]
@[go_sem] def c33r6 : List GOp := [(.op none (some 7) (.v (.mv (.tmp 4)))),
  (.op none (some 8) (.v (.bin .add (.tmp 7) (.const (.int .i64 1))))),
  (.op none (some 4) (.v (.mv (.tmp 8))))]
def c33s7 : SCode := (.ops c33r6 c33k)
@[go_sem] theorem c33s7eq (P : Program) (ρ : Env) (H : Heap) (Q : Post) : vc P c33s7 ρ H Q = vc P (.ops c33r6 c33k) ρ H Q := rfl
def c33s8 : SCode := (.seq (.block 1 (.ops c33r5 c33k)) c33s7)
@[go_sem] theorem c33s8eq (P : Program) (ρ : Env) (H : Heap) (Q : Post) : vc P c33s8 ρ H Q = vc P (.seq (.block 1 (.ops c33r5 c33k)) c33s7) ρ H Q := rfl
def c33s9 : SCode := (.seq (.seq (.ops c33r3 c33k) c33s4) c33s8)
@[go_sem] theorem c33s9eq (P : Program) (ρ : Env) (H : Heap) (Q : Post) : vc P c33s9 ρ H Q = vc P (.seq (.seq (.ops c33r3 c33k) c33s4) c33s8) ρ H Q := rfl
def c33s10 : SCode := (.block 0 (.loop c33s9))
@[go_sem] theorem c33s10eq (P : Program) (ρ : Env) (H : Heap) (Q : Post) : vc P c33s10 ρ H Q = vc P (.block 0 (.loop c33s9)) ρ H Q := rfl
@[go_sem] def c33r11 : List GOp := [(.op none (some 15) (.v (.mv (.tmp 3)))),
  (.op none (some 2) (.v (.mv (.tmp 15))))]
def c33s12 : SCode := (.seq (.ops c33r11 c33k) .ret)
@[go_sem] theorem c33s12eq (P : Program) (ρ : Env) (H : Heap) (Q : Post) : vc P c33s12 ρ H Q = vc P (.seq (.ops c33r11 c33k) .ret) ρ H Q := rfl
def c33s13 : SCode := (.seq (.seq (.ops c33r2 c33k) c33s10) c33s12)
@[go_sem] theorem c33s13eq (P : Program) (ρ : Env) (H : Heap) (Q : Post) : vc P c33s13 ρ H Q = vc P (.seq (.seq (.ops c33r2 c33k) c33s10) c33s12) ρ H Q := rfl
def c33s14 : SCode := (.seq (.ops c33r1 c33k) c33s13)
@[go_sem] theorem c33s14eq (P : Program) (ρ : Env) (H : Heap) (Q : Post) : vc P c33s14 ρ H Q = vc P (.seq (.ops c33r1 c33k) c33s13) ρ H Q := rfl
def c33 : Gx.Fn := ⟨16, c33k, (.seq (.ops c33r0 c33k) c33s14), [(.tmp 2)]⟩
theorem c33ok : stripFn Try.prog c33k Try.f33 = some c33 := by kernel_rfl

/- plexusref07.of -/
@[go_sem] def c34k : List Nat := [0, 2, 3, 4, 8, 15]
@[go_sem] def c34r0 : List GOp := [(.op none (some 2) (.v (.mv (.const (.slice none 0 0)))))]
@[go_sem] def c34r1 : List GOp := [(.op none (some 3) (.v (.mv (.const (.slice none 0 0)))))]
@[go_sem] def c34r2 : List GOp := [(.op none (some 4) (.v (.mv (.const (.int .i64 0)))))]
@[go_sem] def c34r3 : List GOp := [(.op none (some 5) (.v (.mv (.tmp 4)))),
  (.op none (some 6) (.v (.mv (.tmp 0)))),
  (.op none (some 7) (.v (.len (.tmp 6)))),
  (.op none (some 8) (.v (.bin .lss (.tmp 5) (.tmp 7))))]
def c34s4 : SCode := (.cond (.tmp 8) .skip (.exit 0))
@[go_sem] theorem c34s4eq (P : Program) (ρ : Env) (H : Heap) (Q : Post) : vc P c34s4 ρ H Q = vc P (.cond (.tmp 8) .skip (.exit 0)) ρ H Q := rfl
@[go_sem] def c34r5 : List GOp := [(.op none (some 11) (.v (.mv (.tmp 0)))),
  (.op none (some 12) (.v (.mv (.tmp 4)))),
  (.op none (some 13) (.v (.ix 1 (.tmp 11) (.tmp 12)))),
  (.op none (some 14) (.ld none (.tmp 13))),
  (.op none (some 15) (.v (.bin .gtr (.tmp 14) (.const (.int .i64 0)))))]
@[go_sem] def c34r6 : List GOp := [(.op none (some 16) (.v (.mv (.tmp 3)))),
  (.op none (some 17) (.v (.mv (.tmp 4)))),
  (.op none (some 18) (.v (.mv (.tmp 0)))),
  (.op none (some 19) (.v (.mv (.tmp 4)))),
  (.op none (some 20) (.v (.ix 1 (.tmp 18) (.tmp 19)))),
  (.op none (some 21) (.ld none (.tmp 20))),
  (.op none (some 22) (.v (.bld [(.int .i64 0), (.int .i64 0)] [(0, (1, (.tmp 17))), (1, (1, (.tmp 21)))]))),
  (.op none (some 23) (.bs 41 1 [(.int .i64 0), (.int .i64 0)] [(0, (2, (.tmp 22)))])),
  (.op none (some 24) (.ap 22 22 (.tmp 16) (.tmp 23))),
  (.op none (some 3) (.v (.mv (.tmp 24))))]
def c34s7 : SCode := (.cond (.tmp 15) (.ops c34r6 c34k) .skip)
@[go_sem] theorem c34s7eq (P : Program) (ρ : Env) (H : Heap) (Q : Post) : vc P c34s7 ρ H Q = vc P (.cond (.tmp 15) (.ops c34r6 c34k) .skip) ρ H Q := rfl
@[go_sem] def c34r8 : List GOp := [(.op none (some 9) (.v (.mv (.tmp 4)))),
  (.op none (some 10) (.v (.bin .add (.tmp 9) (.const (.int .i64 1))))),
  (.op none (some 4) (.v (.mv (.tmp 10))))]
def c34s9 : SCode := (.ops c34r8 c34k)
@[go_sem] theorem c34s9eq (P : Program) (ρ : Env) (H : Heap) (Q : Post) : vc P c34s9 ρ H Q = vc P (.ops c34r8 c34k) ρ H Q := rfl
def c34s10 : SCode := (.seq (.block 1 (.seq (.ops c34r5 c34k) c34s7)) c34s9)
@[go_sem] theorem c34s10eq (P : Program) (ρ : Env) (H : Heap) (Q : Post) : vc P c34s10 ρ H Q = vc P (.seq (.block 1 (.seq (.ops c34r5 c34k) c34s7)) c34s9) ρ H Q := rfl
def c34s11 : SCode := (.seq (.seq (.ops c34r3 c34k) c34s4) c34s10)
@[go_sem] theorem c34s11eq (P : Program) (ρ : Env) (H : Heap) (Q : Post) : vc P c34s11 ρ H Q = vc P (.seq (.seq (.ops c34r3 c34k) c34s4) c34s10) ρ H Q := rfl
def c34s12 : SCode := (.block 0 (.loop c34s11))
@[go_sem] theorem c34s12eq (P : Program) (ρ : Env) (H : Heap) (Q : Post) : vc P c34s12 ρ H Q = vc P (.block 0 (.loop c34s11)) ρ H Q := rfl
@[go_sem] def c34r13 : List GOp := [(.op none (some 25) (.v (.mv (.tmp 3)))),
  (.op none (some 2) (.v (.mv (.tmp 25))))]
def c34s14 : SCode := (.seq (.ops c34r13 c34k) .ret)
@[go_sem] theorem c34s14eq (P : Program) (ρ : Env) (H : Heap) (Q : Post) : vc P c34s14 ρ H Q = vc P (.seq (.ops c34r13 c34k) .ret) ρ H Q := rfl
def c34s15 : SCode := (.seq (.seq (.ops c34r2 c34k) c34s12) c34s14)
@[go_sem] theorem c34s15eq (P : Program) (ρ : Env) (H : Heap) (Q : Post) : vc P c34s15 ρ H Q = vc P (.seq (.seq (.ops c34r2 c34k) c34s12) c34s14) ρ H Q := rfl
def c34s16 : SCode := (.seq (.ops c34r1 c34k) c34s15)
@[go_sem] theorem c34s16eq (P : Program) (ρ : Env) (H : Heap) (Q : Post) : vc P c34s16 ρ H Q = vc P (.seq (.ops c34r1 c34k) c34s15) ρ H Q := rfl
def c34 : Gx.Fn := ⟨26, c34k, (.seq (.ops c34r0 c34k) c34s16), [(.tmp 2)]⟩
theorem c34ok : stripFn Try.prog c34k Try.f34 = some c34 := by kernel_rfl

/- clock.walk -/
@[go_sem] def c35k : List Nat := [0, 1, 2, 6, 7, 8, 9, 10, 11, 19, 27, 44, 74, 104]
@[go_sem] def c35r0 : List GOp := [(.op none (some 6) (.v (.mv (.const (.slice none 0 0)))))]
@[go_sem] def c35r1 : List GOp := [(.op none (some 12) (.v (.mv (.tmp 0)))),
  (.op none (some 13) (.call 16 [(.tmp 12)])),
  (.op none (some 14) (.v (.un .not (.tmp 13)))),
  (.op none (some 15) (.v (.mv (.tmp 14)))),
  (.op (some (15, false)) (some 16) (.v (.mv (.tmp 1)))),
  (.op (some (15, false)) (some 17) (.call 16 [(.tmp 16)])),
  (.sel 15 false [(18, (.v (.un .not (.tmp 17))))] 19 (.const (.bool true)) (.tmp 18))]
@[go_sem] def c35r2 : List GOp := [(.op none (some 6) (.v (.mv (.const (.slice none 0 0)))))]
def c35s3 : SCode := (.seq (.ops c35r2 c35k) .ret)
@[go_sem] theorem c35s3eq (P : Program) (ρ : Env) (H : Heap) (Q : Post) : vc P c35s3 ρ H Q = vc P (.seq (.ops c35r2 c35k) .ret) ρ H Q := rfl
def c35s4 : SCode := (.cond (.tmp 19) c35s3 .skip)
@[go_sem] theorem c35s4eq (P : Program) (ρ : Env) (H : Heap) (Q : Post) : vc P c35s4 ρ H Q = vc P (.cond (.tmp 19) c35s3 .skip) ρ H Q := rfl
@[go_sem] def c35r5 : List GOp := [(.op none (some 7) (.v (.mv (.const (.slice none 0 0)))))]
@[go_sem] def c35r6 : List GOp := [(.op none (some 20) (.v (.mv (.tmp 0)))),
  (.op none (some 21) (.v (.len (.tmp 20)))),
  (.op none (some 22) (.v (.bin .gtr (.tmp 21) (.const (.int .i64 0))))),
  (.op none (some 23) (.v (.mv (.tmp 22)))),
  (.sel 23 false [(24, (.v (.mv (.tmp 1)))), (25, (.v (.len (.tmp 24)))), (26, (.v (.bin .gtr (.tmp 25) (.const (.int .i64 0)))))] 27 (.const (.bool true)) (.tmp 26))]
def c35s7 : SCode := (.cond (.tmp 27) .skip (.exit 0))
@[go_sem] theorem c35s7eq (P : Program) (ρ : Env) (H : Heap) (Q : Post) : vc P c35s7 ρ H Q = vc P (.cond (.tmp 27) .skip (.exit 0)) ρ H Q := rfl
@[go_sem] def c35r8 : List GOp := [(.op none (some 8) (.v (.mv (.const (.int .i64 0))))),
  (.op none (some 9) (.v (.mv (.const (.int .i64 0)))))]
@[go_sem] def c35r9 : List GOp := [(.op none (some 10) (.v (.mv (.const (.int .i64 0)))))]
@[go_sem] def c35r10 : List GOp := [(.op none (some 45) (.v (.mv (.tmp 1)))),
  (.op none (some 46) (.v (.len (.tmp 45)))),
  (.op none (some 47) (.v (.bin .eql (.tmp 46) (.const (.int .i64 0))))),
  (.op none (some 48) (.v (.mv (.tmp 47)))),
  (.op (some (48, false)) (some 49) (.v (.mv (.tmp 0)))),
  (.op (some (48, false)) (some 50) (.v (.len (.tmp 49)))),
  (.op (some (48, false)) (some 51) (.v (.bin .gtr (.tmp 50) (.const (.int .i64 0))))),
  (.op (some (48, false)) (some 52) (.v (.mv (.tmp 51)))),
  (.op (some (52, true)) (some 53) (.v (.mv (.tmp 0)))),
  (.op (some (52, true)) (some 54) (.v (.ix 2 (.tmp 53) (.const (.int .i64 0))))),
  (.op (some (52, true)) (some 55) (.v (.fa 0 (.tmp 54)))),
  (.op (some (52, true)) (some 56) (.ld none (.tmp 55))),
  (.op (some (52, true)) (some 57) (.v (.mv (.tmp 1)))),
  (.op (some (52, true)) (some 58) (.v (.ix 2 (.tmp 57) (.const (.int .i64 0))))),
  (.op (some (52, true)) (some 59) (.v (.fa 0 (.tmp 58)))),
  (.op (some (52, true)) (some 60) (.ld none (.tmp 59))),
  (.op (some (52, true)) (some 61) (.v (.bin .lss (.tmp 56) (.tmp 60)))),
  (.op (some (48, false)) (some 62) (.v (.pick (.tmp 52) (.tmp 61) (.const (.bool false))))),
  (.op none (some 63) (.v (.pick (.tmp 48) (.const (.bool true)) (.tmp 62)))),
  (.op none (some 44) (.v (.mv (.tmp 63))))]
@[go_sem] def c35r11 : List GOp := [(.op none (some 64) (.v (.mv (.tmp 0)))),
  (.op none (some 65) (.v (.ix 2 (.tmp 64) (.const (.int .i64 0))))),
  (.op none (some 66) (.v (.fa 0 (.tmp 65)))),
  (.op none (some 67) (.ld none (.tmp 66))),
  (.op none (some 68) (.v (.mv (.tmp 0)))),
  (.op none (some 69) (.v (.ix 2 (.tmp 68) (.const (.int .i64 0))))),
  (.op none (some 70) (.v (.fa 1 (.tmp 69)))),
  (.op none (some 71) (.ld none (.tmp 70))),
  (.op none (some 72) (.v (.mv (.tmp 0)))),
  (.op none (some 73) (.v (.sl 2 (.tmp 72) (some (.const (.int .i64 1))) none))),
  (.op none (some 10) (.v (.mv (.tmp 67)))),
  (.op none (some 8) (.v (.mv (.tmp 71)))),
  (.op none (some 0) (.v (.mv (.tmp 73))))]
@[go_sem] def c35r12 : List GOp := [(.op none (some 75) (.v (.mv (.tmp 0)))),
  (.op none (some 76) (.v (.len (.tmp 75)))),
  (.op none (some 77) (.v (.bin .eql (.tmp 76) (.const (.int .i64 0))))),
  (.op none (some 78) (.v (.mv (.tmp 77)))),
  (.op (some (78, false)) (some 79) (.v (.mv (.tmp 1)))),
  (.op (some (78, false)) (some 80) (.v (.ix 2 (.tmp 79) (.const (.int .i64 0))))),
  (.op (some (78, false)) (some 81) (.v (.fa 0 (.tmp 80)))),
  (.op (some (78, false)) (some 82) (.ld none (.tmp 81))),
  (.op (some (78, false)) (some 83) (.v (.mv (.tmp 0)))),
  (.op (some (78, false)) (some 84) (.v (.ix 2 (.tmp 83) (.const (.int .i64 0))))),
  (.sel 78 false [(85, (.v (.fa 0 (.tmp 84)))), (86, (.ld none (.tmp 85))), (87, (.v (.bin .lss (.tmp 82) (.tmp 86))))] 88 (.const (.bool true)) (.tmp 87)),
  (.op none (some 74) (.v (.mv (.tmp 88))))]
@[go_sem] def c35r13 : List GOp := [(.op none (some 89) (.v (.mv (.tmp 1)))),
  (.op none (some 90) (.v (.ix 2 (.tmp 89) (.const (.int .i64 0))))),
  (.op none (some 91) (.v (.fa 0 (.tmp 90)))),
  (.op none (some 92) (.ld none (.tmp 91))),
  (.op none (some 93) (.v (.mv (.tmp 1)))),
  (.op none (some 94) (.v (.ix 2 (.tmp 93) (.const (.int .i64 0))))),
  (.op none (some 95) (.v (.fa 1 (.tmp 94)))),
  (.op none (some 96) (.ld none (.tmp 95))),
  (.op none (some 97) (.v (.mv (.tmp 1)))),
  (.op none (some 98) (.v (.sl 2 (.tmp 97) (some (.const (.int .i64 1))) none))),
  (.op none (some 10) (.v (.mv (.tmp 92)))),
  (.op none (some 9) (.v (.mv (.tmp 96)))),
  (.op none (some 1) (.v (.mv (.tmp 98))))]
@[go_sem] def c35r14 : List GOp := [(.op none (some 28) (.v (.mv (.tmp 0)))),
  (.op none (some 29) (.v (.ix 2 (.tmp 28) (.const (.int .i64 0))))),
  (.op none (some 30) (.v (.fa 0 (.tmp 29)))),
  (.op none (some 31) (.ld none (.tmp 30))),
  (.op none (some 32) (.v (.mv (.tmp 0)))),
  (.op none (some 33) (.v (.ix 2 (.tmp 32) (.const (.int .i64 0))))),
  (.op none (some 34) (.v (.fa 1 (.tmp 33)))),
  (.op none (some 35) (.ld none (.tmp 34))),
  (.op none (some 36) (.v (.mv (.tmp 1)))),
  (.op none (some 37) (.v (.ix 2 (.tmp 36) (.const (.int .i64 0))))),
  (.op none (some 38) (.v (.fa 1 (.tmp 37)))),
  (.op none (some 39) (.ld none (.tmp 38))),
  (.op none (some 40) (.v (.mv (.tmp 0)))),
  (.op none (some 41) (.v (.sl 2 (.tmp 40) (some (.const (.int .i64 1))) none))),
  (.op none (some 42) (.v (.mv (.tmp 1)))),
  (.op none (some 43) (.v (.sl 2 (.tmp 42) (some (.const (.int .i64 1))) none))),
  (.op none (some 10) (.v (.mv (.tmp 31)))),
  (.op none (some 8) (.v (.mv (.tmp 35)))),
  (.op none (some 9) (.v (.mv (.tmp 39)))),
  (.op none (some 0) (.v (.mv (.tmp 41)))),
  (.op none (some 1) (.v (.mv (.tmp 43))))]
def c35s15 : SCode := (.cond (.tmp 74) (.dq c35r13 c35k) (.dq c35r14 c35k))
@[go_sem] theorem c35s15eq (P : Program) (ρ : Env) (H : Heap) (Q : Post) : vc P c35s15 ρ H Q = vc P (.cond (.tmp 74) (.dq c35r13 c35k) (.dq c35r14 c35k)) ρ H Q := rfl
def c35s16 : SCode := (.seq (.dq c35r12 c35k) c35s15)
@[go_sem] theorem c35s16eq (P : Program) (ρ : Env) (H : Heap) (Q : Post) : vc P c35s16 ρ H Q = vc P (.seq (.dq c35r12 c35k) c35s15) ρ H Q := rfl
def c35s17 : SCode := (.cond (.tmp 44) (.dq c35r11 c35k) c35s16)
@[go_sem] theorem c35s17eq (P : Program) (ρ : Env) (H : Heap) (Q : Post) : vc P c35s17 ρ H Q = vc P (.cond (.tmp 44) (.dq c35r11 c35k) c35s16) ρ H Q := rfl
@[go_sem] def c35r18 : List GOp := [(.op none (some 99) (.v (.mv (.tmp 2)))),
  (.op none (some 100) (.v (.mv (.tmp 8)))),
  (.op none (some 101) (.v (.mv (.tmp 9)))),
  (.op none (some 102) (.cv (.tmp 99) [(.tmp 100), (.tmp 101)])),
  (.op none (some 11) (.v (.mv (.tmp 102))))]
@[go_sem] def c35r19 : List GOp := [(.op none (some 103) (.v (.mv (.tmp 11)))),
  (.op none (some 104) (.v (.bin .gtr (.tmp 103) (.const (.int .i64 0)))))]
@[go_sem] def c35r20 : List GOp := [(.op none (some 105) (.v (.mv (.tmp 7)))),
  (.op none (some 106) (.v (.mv (.tmp 10)))),
  (.op none (some 107) (.v (.mv (.tmp 11)))),
  (.op none (some 108) (.v (.bld [(.int .i64 0), (.int .i64 0)] [(0, (1, (.tmp 106))), (1, (1, (.tmp 107)))]))),
  (.op none (some 109) (.bs 41 1 [(.int .i64 0), (.int .i64 0)] [(0, (2, (.tmp 108)))])),
  (.op none (some 110) (.ap 22 22 (.tmp 105) (.tmp 109))),
  (.op none (some 7) (.v (.mv (.tmp 110))))]
def c35s21 : SCode := (.cond (.tmp 104) (.ops c35r20 c35k) .skip)
@[go_sem] theorem c35s21eq (P : Program) (ρ : Env) (H : Heap) (Q : Post) : vc P c35s21 ρ H Q = vc P (.cond (.tmp 104) (.ops c35r20 c35k) .skip) ρ H Q := rfl
def c35s22 : SCode := (.seq (.ops c35r19 c35k) c35s21)
@[go_sem] theorem c35s22eq (P : Program) (ρ : Env) (H : Heap) (Q : Post) : vc P c35s22 ρ H Q = vc P (.seq (.ops c35r19 c35k) c35s21) ρ H Q := rfl
def c35s23 : SCode := (.seq (.ops c35r18 c35k) c35s22)
@[go_sem] theorem c35s23eq (P : Program) (ρ : Env) (H : Heap) (Q : Post) : vc P c35s23 ρ H Q = vc P (.seq (.ops c35r18 c35k) c35s22) ρ H Q := rfl
def c35s24 : SCode := (.seq (.block 2 (.seq (.dq c35r10 c35k) c35s17)) c35s23)
@[go_sem] theorem c35s24eq (P : Program) (ρ : Env) (H : Heap) (Q : Post) : vc P c35s24 ρ H Q = vc P (.seq (.block 2 (.seq (.dq c35r10 c35k) c35s17)) c35s23) ρ H Q := rfl
def c35s25 : SCode := (.seq (.ops c35r9 c35k) c35s24)
@[go_sem] theorem c35s25eq (P : Program) (ρ : Env) (H : Heap) (Q : Post) : vc P c35s25 ρ H Q = vc P (.seq (.ops c35r9 c35k) c35s24) ρ H Q := rfl
def c35s26 : SCode := (.block 1 (.seq (.ops c35r8 c35k) c35s25))
@[go_sem] theorem c35s26eq (P : Program) (ρ : Env) (H : Heap) (Q : Post) : vc P c35s26 ρ H Q = vc P (.block 1 (.seq (.ops c35r8 c35k) c35s25)) ρ H Q := rfl
def c35s27 : SCode := (.seq (.seq (.ops c35r6 c35k) c35s7) c35s26)
@[go_sem] theorem c35s27eq (P : Program) (ρ : Env) (H : Heap) (Q : Post) : vc P c35s27 ρ H Q = vc P (.seq (.seq (.ops c35r6 c35k) c35s7) c35s26) ρ H Q := rfl
@[go_sem] def c35r28 : List GOp := [(.op none (some 111) (.v (.mv (.tmp 7)))),
  (.op none (some 6) (.v (.mv (.tmp 111))))]
def c35s29 : SCode := (.seq (.ops c35r28 c35k) .ret)
@[go_sem] theorem c35s29eq (P : Program) (ρ : Env) (H : Heap) (Q : Post) : vc P c35s29 ρ H Q = vc P (.seq (.ops c35r28 c35k) .ret) ρ H Q := rfl
def c35s30 : SCode := (.seq (.block 0 (.loop c35s27)) c35s29)
@[go_sem] theorem c35s30eq (P : Program) (ρ : Env) (H : Heap) (Q : Post) : vc P c35s30 ρ H Q = vc P (.seq (.block 0 (.loop c35s27)) c35s29) ρ H Q := rfl
def c35s31 : SCode := (.seq (.ops c35r5 c35k) c35s30)
@[go_sem] theorem c35s31eq (P : Program) (ρ : Env) (H : Heap) (Q : Post) : vc P c35s31 ρ H Q = vc P (.seq (.ops c35r5 c35k) c35s30) ρ H Q := rfl
def c35s32 : SCode := (.seq (.seq (.ops c35r1 c35k) c35s4) c35s31)
@[go_sem] theorem c35s32eq (P : Program) (ρ : Env) (H : Heap) (Q : Post) : vc P c35s32 ρ H Q = vc P (.seq (.seq (.ops c35r1 c35k) c35s4) c35s31) ρ H Q := rfl
def c35 : Gx.Fn := ⟨112, c35k, (.seq (.ops c35r0 c35k) c35s32), [(.tmp 6)]⟩
theorem c35ok : stripFn Try.prog c35k Try.f35 = some c35 := by kernel_rfl

/- clock.Merge$1 -/
@[go_sem] def c36k : List Nat := [0, 1, 4]
@[go_sem] def c36r0 : List GOp := [(.op none (some 4) (.v (.mv (.const (.int .i64 0)))))]
@[go_sem] def c36r1 : List GOp := [(.op none (some 5) (.v (.mv (.tmp 0)))),
  (.op none (some 6) (.v (.mv (.tmp 1)))),
  (.op none (some 7) (.v (.mm true (.tmp 5) (.tmp 6)))),
  (.op none (some 4) (.v (.mv (.tmp 7))))]
def c36s2 : SCode := (.seq (.ops c36r1 c36k) .ret)
@[go_sem] theorem c36s2eq (P : Program) (ρ : Env) (H : Heap) (Q : Post) : vc P c36s2 ρ H Q = vc P (.seq (.ops c36r1 c36k) .ret) ρ H Q := rfl
def c36 : Gx.Fn := ⟨8, c36k, (.seq (.ops c36r0 c36k) c36s2), [(.tmp 4)]⟩
theorem c36ok : stripFn Try.prog c36k Try.f36 = some c36 := by kernel_rfl

/- clock.Common$1 -/
@[go_sem] def c37k : List Nat := [0, 1, 4]
@[go_sem] def c37r0 : List GOp := [(.op none (some 4) (.v (.mv (.const (.int .i64 0)))))]
@[go_sem] def c37r1 : List GOp := [(.op none (some 5) (.v (.mv (.tmp 0)))),
  (.op none (some 6) (.v (.mv (.tmp 1)))),
  (.op none (some 7) (.v (.mm false (.tmp 5) (.tmp 6)))),
  (.op none (some 4) (.v (.mv (.tmp 7))))]
def c37s2 : SCode := (.seq (.ops c37r1 c37k) .ret)
@[go_sem] theorem c37s2eq (P : Program) (ρ : Env) (H : Heap) (Q : Post) : vc P c37s2 ρ H Q = vc P (.seq (.ops c37r1 c37k) .ret) ρ H Q := rfl
def c37 : Gx.Fn := ⟨8, c37k, (.seq (.ops c37r0 c37k) c37s2), [(.tmp 4)]⟩
theorem c37ok : stripFn Try.prog c37k Try.f37 = some c37 := by kernel_rfl

/- clock.Minus$1 -/
@[go_sem] def c38k : List Nat := [0, 1, 4, 7]
@[go_sem] def c38r0 : List GOp := [(.op none (some 4) (.v (.mv (.const (.int .i64 0)))))]
@[go_sem] def c38r1 : List GOp := [(.op none (some 5) (.v (.mv (.tmp 0)))),
  (.op none (some 6) (.v (.mv (.tmp 1)))),
  (.op none (some 7) (.v (.bin .gtr (.tmp 5) (.tmp 6))))]
@[go_sem] def c38r2 : List GOp := [(.op none (some 8) (.v (.mv (.tmp 0)))),
  (.op none (some 4) (.v (.mv (.tmp 8))))]
def c38s3 : SCode := (.seq (.ops c38r2 c38k) .ret)
@[go_sem] theorem c38s3eq (P : Program) (ρ : Env) (H : Heap) (Q : Post) : vc P c38s3 ρ H Q = vc P (.seq (.ops c38r2 c38k) .ret) ρ H Q := rfl
def c38s4 : SCode := (.cond (.tmp 7) c38s3 .skip)
@[go_sem] theorem c38s4eq (P : Program) (ρ : Env) (H : Heap) (Q : Post) : vc P c38s4 ρ H Q = vc P (.cond (.tmp 7) c38s3 .skip) ρ H Q := rfl
@[go_sem] def c38r5 : List GOp := [(.op none (some 4) (.v (.mv (.const (.int .i64 0)))))]
def c38s6 : SCode := (.seq (.ops c38r5 c38k) .ret)
@[go_sem] theorem c38s6eq (P : Program) (ρ : Env) (H : Heap) (Q : Post) : vc P c38s6 ρ H Q = vc P (.seq (.ops c38r5 c38k) .ret) ρ H Q := rfl
def c38s7 : SCode := (.seq (.seq (.ops c38r1 c38k) c38s4) c38s6)
@[go_sem] theorem c38s7eq (P : Program) (ρ : Env) (H : Heap) (Q : Post) : vc P c38s7 ρ H Q = vc P (.seq (.seq (.ops c38r1 c38k) c38s4) c38s6) ρ H Q := rfl
def c38 : Gx.Fn := ⟨9, c38k, (.seq (.ops c38r0 c38k) c38s7), [(.tmp 4)]⟩
theorem c38ok : stripFn Try.prog c38k Try.f38 = some c38 := by kernel_rfl

/- plexusref07.Leq -/
@[go_sem] def c39k : List Nat := [0, 1, 4, 5, 6, 7, 15, 26]
@[go_sem] def c39r0 : List GOp := [(.op none (some 4) (.v (.mv (.const (.bool false)))))]
@[go_sem] def c39r1 : List GOp := [(.op none (some 8) (.v (.mv (.tmp 0)))),
  (.op none (some 9) (.call 33 [(.tmp 8)])),
  (.op none (some 10) (.v (.mv (.tmp 1)))),
  (.op none (some 11) (.call 33 [(.tmp 10)])),
  (.op none (some 5) (.v (.mv (.tmp 9)))),
  (.op none (some 6) (.v (.mv (.tmp 11))))]
@[go_sem] def c39r2 : List GOp := [(.op none (some 7) (.v (.mv (.const (.int .i64 0)))))]
@[go_sem] def c39r3 : List GOp := [(.op none (some 12) (.v (.mv (.tmp 7)))),
  (.op none (some 13) (.v (.mv (.tmp 5)))),
  (.op none (some 14) (.v (.len (.tmp 13)))),
  (.op none (some 15) (.v (.bin .lss (.tmp 12) (.tmp 14))))]
def c39s4 : SCode := (.cond (.tmp 15) .skip (.exit 0))
@[go_sem] theorem c39s4eq (P : Program) (ρ : Env) (H : Heap) (Q : Post) : vc P c39s4 ρ H Q = vc P (.cond (.tmp 15) .skip (.exit 0)) ρ H Q := rfl
@[go_sem] def c39r5 : List GOp := [(.op none (some 18) (.v (.mv (.tmp 5)))),
  (.op none (some 19) (.v (.mv (.tmp 7)))),
  (.op none (some 20) (.v (.ix 1 (.tmp 18) (.tmp 19)))),
  (.op none (some 21) (.ld none (.tmp 20))),
  (.op none (some 22) (.v (.mv (.tmp 6)))),
  (.op none (some 23) (.v (.mv (.tmp 7)))),
  (.op none (some 24) (.v (.ix 1 (.tmp 22) (.tmp 23)))),
  (.op none (some 25) (.ld none (.tmp 24))),
  (.op none (some 26) (.v (.bin .gtr (.tmp 21) (.tmp 25))))]
@[go_sem] def c39r6 : List GOp := [(.op none (some 4) (.v (.mv (.const (.bool false)))))]
def c39s7 : SCode := (.seq (.ops c39r6 c39k) .ret)
@[go_sem] theorem c39s7eq (P : Program) (ρ : Env) (H : Heap) (Q : Post) : vc P c39s7 ρ H Q = vc P (.seq (.ops c39r6 c39k) .ret) ρ H Q := rfl
def c39s8 : SCode := (.cond (.tmp 26) c39s7 .skip)
@[go_sem] theorem c39s8eq (P : Program) (ρ : Env) (H : Heap) (Q : Post) : vc P c39s8 ρ H Q = vc P (.cond (.tmp 26) c39s7 .skip) ρ H Q := rfl
@[go_sem] def c39r9 : List GOp := [(.op none (some 16) (.v (.mv (.tmp 7)))),
  (.op none (some 17) (.v (.bin .add (.tmp 16) (.const (.int .i64 1))))),
  (.op none (some 7) (.v (.mv (.tmp 17))))]
def c39s10 : SCode := (.ops c39r9 c39k)
@[go_sem] theorem c39s10eq (P : Program) (ρ : Env) (H : Heap) (Q : Post) : vc P c39s10 ρ H Q = vc P (.ops c39r9 c39k) ρ H Q := rfl
def c39s11 : SCode := (.seq (.block 1 (.seq (.dq c39r5 c39k) c39s8)) c39s10)
@[go_sem] theorem c39s11eq (P : Program) (ρ : Env) (H : Heap) (Q : Post) : vc P c39s11 ρ H Q = vc P (.seq (.block 1 (.seq (.dq c39r5 c39k) c39s8)) c39s10) ρ H Q := rfl
def c39s12 : SCode := (.seq (.seq (.ops c39r3 c39k) c39s4) c39s11)
@[go_sem] theorem c39s12eq (P : Program) (ρ : Env) (H : Heap) (Q : Post) : vc P c39s12 ρ H Q = vc P (.seq (.seq (.ops c39r3 c39k) c39s4) c39s11) ρ H Q := rfl
def c39s13 : SCode := (.block 0 (.loop c39s12))
@[go_sem] theorem c39s13eq (P : Program) (ρ : Env) (H : Heap) (Q : Post) : vc P c39s13 ρ H Q = vc P (.block 0 (.loop c39s12)) ρ H Q := rfl
@[go_sem] def c39r14 : List GOp := [(.op none (some 4) (.v (.mv (.const (.bool true)))))]
def c39s15 : SCode := (.seq (.ops c39r14 c39k) .ret)
@[go_sem] theorem c39s15eq (P : Program) (ρ : Env) (H : Heap) (Q : Post) : vc P c39s15 ρ H Q = vc P (.seq (.ops c39r14 c39k) .ret) ρ H Q := rfl
def c39s16 : SCode := (.seq (.seq (.ops c39r2 c39k) c39s13) c39s15)
@[go_sem] theorem c39s16eq (P : Program) (ρ : Env) (H : Heap) (Q : Post) : vc P c39s16 ρ H Q = vc P (.seq (.seq (.ops c39r2 c39k) c39s13) c39s15) ρ H Q := rfl
def c39s17 : SCode := (.seq (.ops c39r1 c39k) c39s16)
@[go_sem] theorem c39s17eq (P : Program) (ρ : Env) (H : Heap) (Q : Post) : vc P c39s17 ρ H Q = vc P (.seq (.ops c39r1 c39k) c39s16) ρ H Q := rfl
def c39 : Gx.Fn := ⟨27, c39k, (.seq (.ops c39r0 c39k) c39s17), [(.tmp 4)]⟩
theorem c39ok : stripFn Try.prog c39k Try.f39 = some c39 := by kernel_rfl

/- (*wire.Writer).Uint -/
@[go_sem] def c40k : List Nat := [0, 1, 5]
@[go_sem] def c40r0 : List GOp := [(.op none (some 4) (.v (.mv (.tmp 1)))),
  (.op none (some 5) (.v (.bin .geq (.tmp 4) (.const (.int .u64 128)))))]
def c40s1 : SCode := (.cond (.tmp 5) .skip (.exit 0))
@[go_sem] theorem c40s1eq (P : Program) (ρ : Env) (H : Heap) (Q : Post) : vc P c40s1 ρ H Q = vc P (.cond (.tmp 5) .skip (.exit 0)) ρ H Q := rfl
@[go_sem] def c40r2 : List GOp := [(.op none (some 8) (.v (.mv (.tmp 0)))),
  (.op none (some 9) (.v (.mv (.tmp 0)))),
  (.op none (some 10) (.v (.nc (.tmp 9)))),
  (.op none (some 11) (.v (.fa 0 (.tmp 10)))),
  (.op none (some 12) (.ld none (.tmp 11))),
  (.op none (some 13) (.v (.mv (.tmp 1)))),
  (.op none (some 14) (.v (.cvi .u8 (.tmp 13)))),
  (.op none (some 15) (.v (.bin .or (.tmp 14) (.const (.int .u8 128))))),
  (.op none (some 16) (.bs 5 1 [(.int .u8 0)] [(0, (1, (.tmp 15)))])),
  (.op none (some 17) (.ap 35 35 (.tmp 12) (.tmp 16))),
  (.op none (some 18) (.v (.nc (.tmp 8)))),
  (.op none (some 19) (.v (.fa 0 (.tmp 18)))),
  (.op none none (.st 1 (.tmp 19) (.tmp 17)))]
@[go_sem] def c40r3 : List GOp := [(.op none (some 6) (.v (.mv (.tmp 1)))),
  (.op none (some 7) (.v (.bin .shr (.tmp 6) (.const (.int .u64 7))))),
  (.op none (some 1) (.v (.mv (.tmp 7))))]
def c40s4 : SCode := (.ops c40r3 c40k)
@[go_sem] theorem c40s4eq (P : Program) (ρ : Env) (H : Heap) (Q : Post) : vc P c40s4 ρ H Q = vc P (.ops c40r3 c40k) ρ H Q := rfl
def c40s5 : SCode := (.seq (.block 1 (.ops c40r2 c40k)) c40s4)
@[go_sem] theorem c40s5eq (P : Program) (ρ : Env) (H : Heap) (Q : Post) : vc P c40s5 ρ H Q = vc P (.seq (.block 1 (.ops c40r2 c40k)) c40s4) ρ H Q := rfl
def c40s6 : SCode := (.seq (.seq (.ops c40r0 c40k) c40s1) c40s5)
@[go_sem] theorem c40s6eq (P : Program) (ρ : Env) (H : Heap) (Q : Post) : vc P c40s6 ρ H Q = vc P (.seq (.seq (.ops c40r0 c40k) c40s1) c40s5) ρ H Q := rfl
@[go_sem] def c40r7 : List GOp := [(.op none (some 20) (.v (.mv (.tmp 0)))),
  (.op none (some 21) (.v (.mv (.tmp 0)))),
  (.op none (some 22) (.v (.nc (.tmp 21)))),
  (.op none (some 23) (.v (.fa 0 (.tmp 22)))),
  (.op none (some 24) (.ld none (.tmp 23))),
  (.op none (some 25) (.v (.mv (.tmp 1)))),
  (.op none (some 26) (.v (.cvi .u8 (.tmp 25)))),
  (.op none (some 27) (.bs 5 1 [(.int .u8 0)] [(0, (1, (.tmp 26)))])),
  (.op none (some 28) (.ap 35 35 (.tmp 24) (.tmp 27))),
  (.op none (some 29) (.v (.nc (.tmp 20)))),
  (.op none (some 30) (.v (.fa 0 (.tmp 29)))),
  (.op none none (.st 1 (.tmp 30) (.tmp 28)))]
def c40s8 : SCode := (.ops c40r7 c40k)
@[go_sem] theorem c40s8eq (P : Program) (ρ : Env) (H : Heap) (Q : Post) : vc P c40s8 ρ H Q = vc P (.ops c40r7 c40k) ρ H Q := rfl
def c40 : Gx.Fn := ⟨31, c40k, (.seq (.block 0 (.loop c40s6)) c40s8), []⟩
theorem c40ok : stripFn Try.prog c40k Try.f40 = some c40 := by kernel_rfl

/- (*wire.Writer).Data -/
@[go_sem] def c41k : List Nat := [0, 2]
@[go_sem] def c41r0 : List GOp := [(.op none (some 2) (.v (.mv (.const (.slice none 0 0)))))]
@[go_sem] def c41r1 : List GOp := [(.op none (some 3) (.bs 5 0 [] [])),
  (.op none (some 4) (.v (.mv (.tmp 0)))),
  (.op none (some 5) (.v (.nc (.tmp 4)))),
  (.op none (some 6) (.v (.fa 0 (.tmp 5)))),
  (.op none (some 7) (.ld none (.tmp 6))),
  (.op none (some 8) (.ap 35 35 (.tmp 3) (.tmp 7))),
  (.op none (some 2) (.v (.mv (.tmp 8))))]
def c41s2 : SCode := (.seq (.ops c41r1 c41k) .ret)
@[go_sem] theorem c41s2eq (P : Program) (ρ : Env) (H : Heap) (Q : Post) : vc P c41s2 ρ H Q = vc P (.seq (.ops c41r1 c41k) .ret) ρ H Q := rfl
def c41 : Gx.Fn := ⟨9, c41k, (.seq (.ops c41r0 c41k) c41s2), [(.tmp 2)]⟩
theorem c41ok : stripFn Try.prog c41k Try.f41 = some c41 := by kernel_rfl

/- wire.NewReader -/
@[go_sem] def c42k : List Nat := [0, 2]
@[go_sem] def c42r0 : List GOp := [(.op none (some 2) (.v (.mv (.const (.pointer none)))))]
@[go_sem] def c42r1 : List GOp := [(.op none (some 3) (.bs 5 0 [] [])),
  (.op none (some 4) (.v (.mv (.tmp 0)))),
  (.op none (some 5) (.ap 35 35 (.tmp 3) (.tmp 4))),
  (.op none (some 6) (.v (.bld [(.slice none 0 0), (.int .i64 0), (.int .i64 0), (.int .i64 0)] [(0, (1, (.tmp 5)))]))),
  (.op none (some 7) (.bx 63 (.tmp 6))),
  (.op none (some 2) (.v (.mv (.tmp 7))))]
def c42s2 : SCode := (.seq (.ops c42r1 c42k) .ret)
@[go_sem] theorem c42s2eq (P : Program) (ρ : Env) (H : Heap) (Q : Post) : vc P c42s2 ρ H Q = vc P (.seq (.ops c42r1 c42k) .ret) ρ H Q := rfl
def c42 : Gx.Fn := ⟨8, c42k, (.seq (.ops c42r0 c42k) c42s2), [(.tmp 2)]⟩
theorem c42ok : stripFn Try.prog c42k Try.f42 = some c42 := by kernel_rfl

/- (*wire.Reader).Count -/
@[go_sem] def c43k : List Nat := [0, 2, 3, 4, 5, 8, 28]
@[go_sem] def c43r0 : List GOp := [(.op none (some 2) (.v (.mv (.const (.int .i64 0)))))]
@[go_sem] def c43r1 : List GOp := [(.op none (some 6) (.v (.mv (.tmp 0)))),
  (.op none (some 7) (.call 48 [(.tmp 6)])),
  (.op none (some 8) (.v (.un .not (.tmp 7))))]
@[go_sem] def c43r2 : List GOp := [(.op none (some 2) (.v (.mv (.const (.int .i64 0)))))]
def c43s3 : SCode := (.seq (.ops c43r2 c43k) .ret)
@[go_sem] theorem c43s3eq (P : Program) (ρ : Env) (H : Heap) (Q : Post) : vc P c43s3 ρ H Q = vc P (.seq (.ops c43r2 c43k) .ret) ρ H Q := rfl
def c43s4 : SCode := (.cond (.tmp 8) c43s3 .skip)
@[go_sem] theorem c43s4eq (P : Program) (ρ : Env) (H : Heap) (Q : Post) : vc P c43s4 ρ H Q = vc P (.cond (.tmp 8) c43s3 .skip) ρ H Q := rfl
@[go_sem] def c43r5 : List GOp := [(.op none (some 10) (.v (.mv (.tmp 0)))),
  (.op none (some 11) (.call 49 [(.tmp 10)])),
  (.op none (some 9) (.v (.mv (.tmp 11)))),
  (.op none (some 12) (.v (.ext (.tmp 9) 0))),
  (.op none (some 13) (.v (.ext (.tmp 9) 1))),
  (.op none (some 14) (.v (.ext (.tmp 9) 2))),
  (.op none (some 3) (.v (.mv (.tmp 12)))),
  (.op none (some 4) (.v (.mv (.tmp 13)))),
  (.op none (some 5) (.v (.mv (.tmp 14))))]
@[go_sem] def c43r6 : List GOp := [(.op none (some 15) (.v (.mv (.tmp 5)))),
  (.op none (some 16) (.v (.un .not (.tmp 15)))),
  (.op none (some 17) (.v (.mv (.tmp 16)))),
  (.sel 17 false [(18, (.v (.mv (.tmp 3)))), (19, (.v (.mv (.tmp 0)))), (20, (.v (.nc (.tmp 19)))), (21, (.v (.fa 0 (.tmp 20)))), (22, (.ld none (.tmp 21))), (23, (.v (.len (.tmp 22)))), (24, (.v (.mv (.tmp 4)))), (25, (.v (.bin .sub (.tmp 23) (.tmp 24)))), (26, (.v (.cvi .u64 (.tmp 25)))), (27, (.v (.bin .gtr (.tmp 18) (.tmp 26))))] 28 (.const (.bool true)) (.tmp 27))]
@[go_sem] def c43r7 : List GOp := [(.op none (some 29) (.v (.mv (.tmp 0)))),
  (.op none (some 30) (.v (.nc (.tmp 29)))),
  (.op none (some 31) (.v (.fa 3 (.tmp 30)))),
  (.op none none (.st 1 (.tmp 31) (.const (.int .i64 2))))]
@[go_sem] def c43r8 : List GOp := [(.op none (some 2) (.v (.mv (.const (.int .i64 0)))))]
def c43s9 : SCode := (.seq (.ops c43r8 c43k) .ret)
@[go_sem] theorem c43s9eq (P : Program) (ρ : Env) (H : Heap) (Q : Post) : vc P c43s9 ρ H Q = vc P (.seq (.ops c43r8 c43k) .ret) ρ H Q := rfl
def c43s10 : SCode := (.seq (.ops c43r7 c43k) c43s9)
@[go_sem] theorem c43s10eq (P : Program) (ρ : Env) (H : Heap) (Q : Post) : vc P c43s10 ρ H Q = vc P (.seq (.ops c43r7 c43k) c43s9) ρ H Q := rfl
def c43s11 : SCode := (.cond (.tmp 28) c43s10 .skip)
@[go_sem] theorem c43s11eq (P : Program) (ρ : Env) (H : Heap) (Q : Post) : vc P c43s11 ρ H Q = vc P (.cond (.tmp 28) c43s10 .skip) ρ H Q := rfl
@[go_sem] def c43r12 : List GOp := [(.op none (some 32) (.v (.mv (.tmp 0)))),
  (.op none (some 33) (.v (.mv (.tmp 4)))),
  (.op none (some 34) (.v (.nc (.tmp 32)))),
  (.op none (some 35) (.v (.fa 1 (.tmp 34)))),
  (.op none none (.st 1 (.tmp 35) (.tmp 33)))]
@[go_sem] def c43r13 : List GOp := [(.op none (some 36) (.v (.mv (.tmp 3)))),
  (.op none (some 37) (.v (.cvi .i64 (.tmp 36)))),
  (.op none (some 2) (.v (.mv (.tmp 37))))]
def c43s14 : SCode := (.seq (.ops c43r13 c43k) .ret)
@[go_sem] theorem c43s14eq (P : Program) (ρ : Env) (H : Heap) (Q : Post) : vc P c43s14 ρ H Q = vc P (.seq (.ops c43r13 c43k) .ret) ρ H Q := rfl
def c43s15 : SCode := (.seq (.ops c43r12 c43k) c43s14)
@[go_sem] theorem c43s15eq (P : Program) (ρ : Env) (H : Heap) (Q : Post) : vc P c43s15 ρ H Q = vc P (.seq (.ops c43r12 c43k) c43s14) ρ H Q := rfl
def c43s16 : SCode := (.seq (.seq (.ops c43r6 c43k) c43s11) c43s15)
@[go_sem] theorem c43s16eq (P : Program) (ρ : Env) (H : Heap) (Q : Post) : vc P c43s16 ρ H Q = vc P (.seq (.seq (.ops c43r6 c43k) c43s11) c43s15) ρ H Q := rfl
def c43s17 : SCode := (.seq (.ops c43r5 c43k) c43s16)
@[go_sem] theorem c43s17eq (P : Program) (ρ : Env) (H : Heap) (Q : Post) : vc P c43s17 ρ H Q = vc P (.seq (.ops c43r5 c43k) c43s16) ρ H Q := rfl
def c43s18 : SCode := (.seq (.seq (.ops c43r1 c43k) c43s4) c43s17)
@[go_sem] theorem c43s18eq (P : Program) (ρ : Env) (H : Heap) (Q : Post) : vc P c43s18 ρ H Q = vc P (.seq (.seq (.ops c43r1 c43k) c43s4) c43s17) ρ H Q := rfl
def c43 : Gx.Fn := ⟨38, c43k, (.seq (.ops c43r0 c43k) c43s18), [(.tmp 2)]⟩
theorem c43ok : stripFn Try.prog c43k Try.f43 = some c43 := by kernel_rfl

/- (*wire.Reader).Uint -/
@[go_sem] def c44k : List Nat := [0, 2, 3, 4, 5, 8, 16]
@[go_sem] def c44r0 : List GOp := [(.op none (some 2) (.v (.mv (.const (.int .u64 0)))))]
@[go_sem] def c44r1 : List GOp := [(.op none (some 6) (.v (.mv (.tmp 0)))),
  (.op none (some 7) (.call 48 [(.tmp 6)])),
  (.op none (some 8) (.v (.un .not (.tmp 7))))]
@[go_sem] def c44r2 : List GOp := [(.op none (some 2) (.v (.mv (.const (.int .u64 0)))))]
def c44s3 : SCode := (.seq (.ops c44r2 c44k) .ret)
@[go_sem] theorem c44s3eq (P : Program) (ρ : Env) (H : Heap) (Q : Post) : vc P c44s3 ρ H Q = vc P (.seq (.ops c44r2 c44k) .ret) ρ H Q := rfl
def c44s4 : SCode := (.cond (.tmp 8) c44s3 .skip)
@[go_sem] theorem c44s4eq (P : Program) (ρ : Env) (H : Heap) (Q : Post) : vc P c44s4 ρ H Q = vc P (.cond (.tmp 8) c44s3 .skip) ρ H Q := rfl
@[go_sem] def c44r5 : List GOp := [(.op none (some 10) (.v (.mv (.tmp 0)))),
  (.op none (some 11) (.call 49 [(.tmp 10)])),
  (.op none (some 9) (.v (.mv (.tmp 11)))),
  (.op none (some 12) (.v (.ext (.tmp 9) 0))),
  (.op none (some 13) (.v (.ext (.tmp 9) 1))),
  (.op none (some 14) (.v (.ext (.tmp 9) 2))),
  (.op none (some 3) (.v (.mv (.tmp 12)))),
  (.op none (some 4) (.v (.mv (.tmp 13)))),
  (.op none (some 5) (.v (.mv (.tmp 14))))]
@[go_sem] def c44r6 : List GOp := [(.op none (some 15) (.v (.mv (.tmp 5)))),
  (.op none (some 16) (.v (.un .not (.tmp 15))))]
@[go_sem] def c44r7 : List GOp := [(.op none (some 17) (.v (.mv (.tmp 0)))),
  (.op none (some 18) (.v (.nc (.tmp 17)))),
  (.op none (some 19) (.v (.fa 3 (.tmp 18)))),
  (.op none none (.st 1 (.tmp 19) (.const (.int .i64 2))))]
@[go_sem] def c44r8 : List GOp := [(.op none (some 2) (.v (.mv (.const (.int .u64 0)))))]
def c44s9 : SCode := (.seq (.ops c44r8 c44k) .ret)
@[go_sem] theorem c44s9eq (P : Program) (ρ : Env) (H : Heap) (Q : Post) : vc P c44s9 ρ H Q = vc P (.seq (.ops c44r8 c44k) .ret) ρ H Q := rfl
def c44s10 : SCode := (.seq (.ops c44r7 c44k) c44s9)
@[go_sem] theorem c44s10eq (P : Program) (ρ : Env) (H : Heap) (Q : Post) : vc P c44s10 ρ H Q = vc P (.seq (.ops c44r7 c44k) c44s9) ρ H Q := rfl
def c44s11 : SCode := (.cond (.tmp 16) c44s10 .skip)
@[go_sem] theorem c44s11eq (P : Program) (ρ : Env) (H : Heap) (Q : Post) : vc P c44s11 ρ H Q = vc P (.cond (.tmp 16) c44s10 .skip) ρ H Q := rfl
@[go_sem] def c44r12 : List GOp := [(.op none (some 20) (.v (.mv (.tmp 0)))),
  (.op none (some 21) (.v (.mv (.tmp 4)))),
  (.op none (some 22) (.v (.nc (.tmp 20)))),
  (.op none (some 23) (.v (.fa 1 (.tmp 22)))),
  (.op none none (.st 1 (.tmp 23) (.tmp 21)))]
@[go_sem] def c44r13 : List GOp := [(.op none (some 24) (.v (.mv (.tmp 3)))),
  (.op none (some 2) (.v (.mv (.tmp 24))))]
def c44s14 : SCode := (.seq (.ops c44r13 c44k) .ret)
@[go_sem] theorem c44s14eq (P : Program) (ρ : Env) (H : Heap) (Q : Post) : vc P c44s14 ρ H Q = vc P (.seq (.ops c44r13 c44k) .ret) ρ H Q := rfl
def c44s15 : SCode := (.seq (.ops c44r12 c44k) c44s14)
@[go_sem] theorem c44s15eq (P : Program) (ρ : Env) (H : Heap) (Q : Post) : vc P c44s15 ρ H Q = vc P (.seq (.ops c44r12 c44k) c44s14) ρ H Q := rfl
def c44s16 : SCode := (.seq (.seq (.ops c44r6 c44k) c44s11) c44s15)
@[go_sem] theorem c44s16eq (P : Program) (ρ : Env) (H : Heap) (Q : Post) : vc P c44s16 ρ H Q = vc P (.seq (.seq (.ops c44r6 c44k) c44s11) c44s15) ρ H Q := rfl
def c44s17 : SCode := (.seq (.ops c44r5 c44k) c44s16)
@[go_sem] theorem c44s17eq (P : Program) (ρ : Env) (H : Heap) (Q : Post) : vc P c44s17 ρ H Q = vc P (.seq (.ops c44r5 c44k) c44s16) ρ H Q := rfl
def c44s18 : SCode := (.seq (.seq (.ops c44r1 c44k) c44s4) c44s17)
@[go_sem] theorem c44s18eq (P : Program) (ρ : Env) (H : Heap) (Q : Post) : vc P c44s18 ρ H Q = vc P (.seq (.seq (.ops c44r1 c44k) c44s4) c44s17) ρ H Q := rfl
def c44 : Gx.Fn := ⟨25, c44k, (.seq (.ops c44r0 c44k) c44s18), [(.tmp 2)]⟩
theorem c44ok : stripFn Try.prog c44k Try.f44 = some c44 := by kernel_rfl

/- (*wire.Reader).End -/
@[go_sem] def c45k : List Nat := [0, 2, 12]
@[go_sem] def c45r0 : List GOp := [(.op none (some 2) (.v (.mv (.const (.int .i64 0)))))]
@[go_sem] def c45r1 : List GOp := [(.op none (some 3) (.v (.mv (.tmp 0)))),
  (.op none (some 4) (.v (.nc (.tmp 3)))),
  (.op none (some 5) (.v (.fa 3 (.tmp 4)))),
  (.op none (some 6) (.ld none (.tmp 5))),
  (.op none (some 7) (.v (.bin .eql (.tmp 6) (.const (.int .i64 0))))),
  (.op none (some 8) (.v (.mv (.tmp 7)))),
  (.op (some (8, true)) (some 9) (.v (.mv (.tmp 0)))),
  (.op (some (8, true)) (some 10) (.call 50 [(.tmp 9)])),
  (.sel 8 true [(11, (.v (.bin .gtr (.tmp 10) (.const (.int .i64 0)))))] 12 (.tmp 11) (.const (.bool false)))]
@[go_sem] def c45r2 : List GOp := [(.op none (some 2) (.v (.mv (.const (.int .i64 2)))))]
def c45s3 : SCode := (.seq (.ops c45r2 c45k) .ret)
@[go_sem] theorem c45s3eq (P : Program) (ρ : Env) (H : Heap) (Q : Post) : vc P c45s3 ρ H Q = vc P (.seq (.ops c45r2 c45k) .ret) ρ H Q := rfl
def c45s4 : SCode := (.cond (.tmp 12) c45s3 .skip)
@[go_sem] theorem c45s4eq (P : Program) (ρ : Env) (H : Heap) (Q : Post) : vc P c45s4 ρ H Q = vc P (.cond (.tmp 12) c45s3 .skip) ρ H Q := rfl
@[go_sem] def c45r5 : List GOp := [(.op none (some 13) (.v (.mv (.tmp 0)))),
  (.op none (some 14) (.v (.nc (.tmp 13)))),
  (.op none (some 15) (.v (.fa 3 (.tmp 14)))),
  (.op none (some 16) (.ld none (.tmp 15))),
  (.op none (some 2) (.v (.mv (.tmp 16))))]
def c45s6 : SCode := (.seq (.ops c45r5 c45k) .ret)
@[go_sem] theorem c45s6eq (P : Program) (ρ : Env) (H : Heap) (Q : Post) : vc P c45s6 ρ H Q = vc P (.seq (.ops c45r5 c45k) .ret) ρ H Q := rfl
def c45s7 : SCode := (.seq (.seq (.ops c45r1 c45k) c45s4) c45s6)
@[go_sem] theorem c45s7eq (P : Program) (ρ : Env) (H : Heap) (Q : Post) : vc P c45s7 ρ H Q = vc P (.seq (.seq (.ops c45r1 c45k) c45s4) c45s6) ρ H Q := rfl
def c45 : Gx.Fn := ⟨17, c45k, (.seq (.ops c45r0 c45k) c45s7), [(.tmp 2)]⟩
theorem c45ok : stripFn Try.prog c45k Try.f45 = some c45 := by kernel_rfl

/- plexusref07.read -/
@[go_sem] def c46k : List Nat := [0, 1, 4, 5, 6, 7, 8, 18, 37, 43]
@[go_sem] def c46r0 : List GOp := [(.op none (some 4) (.v (.mv (.const (.int .u64 0))))),
  (.op none (some 5) (.v (.mv (.const (.int .i64 0)))))]
@[go_sem] def c46r1 : List GOp := [(.op none (some 6) (.v (.mv (.const (.int .u64 0)))))]
@[go_sem] def c46r2 : List GOp := [(.op none (some 7) (.v (.mv (.const (.int .i64 0)))))]
@[go_sem] def c46r3 : List GOp := [(.op none (some 9) (.v (.mv (.tmp 7)))),
  (.op none (some 10) (.v (.bin .lss (.tmp 9) (.const (.int .i64 8))))),
  (.op none (some 11) (.v (.mv (.tmp 10)))),
  (.sel 11 true [(12, (.v (.mv (.tmp 1)))), (13, (.v (.mv (.tmp 7)))), (14, (.v (.bin .add (.tmp 12) (.tmp 13)))), (15, (.v (.mv (.tmp 0)))), (16, (.v (.len (.tmp 15)))), (17, (.v (.bin .lss (.tmp 14) (.tmp 16))))] 18 (.tmp 17) (.const (.bool false)))]
def c46s4 : SCode := (.cond (.tmp 18) .skip (.exit 0))
@[go_sem] theorem c46s4eq (P : Program) (ρ : Env) (H : Heap) (Q : Post) : vc P c46s4 ρ H Q = vc P (.cond (.tmp 18) .skip (.exit 0)) ρ H Q := rfl
@[go_sem] def c46r5 : List GOp := [(.op none (some 21) (.v (.mv (.tmp 0)))),
  (.op none (some 22) (.v (.mv (.tmp 1)))),
  (.op none (some 23) (.v (.mv (.tmp 7)))),
  (.op none (some 24) (.v (.bin .add (.tmp 22) (.tmp 23)))),
  (.op none (some 25) (.v (.ix 1 (.tmp 21) (.tmp 24)))),
  (.op none (some 26) (.ld none (.tmp 25))),
  (.op none (some 27) (.v (.cvi .u64 (.tmp 26)))),
  (.op none (some 8) (.v (.mv (.tmp 27))))]
@[go_sem] def c46r6 : List GOp := [(.op none (some 28) (.v (.mv (.tmp 6)))),
  (.op none (some 29) (.v (.mv (.tmp 8)))),
  (.op none (some 30) (.v (.bin .rem (.tmp 29) (.const (.int .u64 128))))),
  (.op none (some 31) (.v (.mv (.tmp 7)))),
  (.op none (some 32) (.v (.bin .mul (.const (.int .i64 7)) (.tmp 31)))),
  (.op none (some 33) (.v (.cvi .u64 (.tmp 32)))),
  (.op none (some 34) (.v (.bin .shl (.tmp 30) (.tmp 33)))),
  (.op none (some 35) (.v (.bin .add (.tmp 28) (.tmp 34)))),
  (.op none (some 6) (.v (.mv (.tmp 35))))]
@[go_sem] def c46r7 : List GOp := [(.op none (some 36) (.v (.mv (.tmp 8)))),
  (.op none (some 37) (.v (.bin .lss (.tmp 36) (.const (.int .u64 128)))))]
@[go_sem] def c46r8 : List GOp := [(.op none (some 38) (.v (.mv (.tmp 7)))),
  (.op none (some 39) (.v (.bin .gtr (.tmp 38) (.const (.int .i64 0))))),
  (.op none (some 40) (.v (.mv (.tmp 39)))),
  (.sel 40 true [(41, (.v (.mv (.tmp 8)))), (42, (.v (.bin .eql (.tmp 41) (.const (.int .u64 0)))))] 43 (.tmp 42) (.const (.bool false)))]
@[go_sem] def c46r9 : List GOp := [(.op none (some 4) (.v (.mv (.const (.int .u64 0))))),
  (.op none (some 5) (.v (.mv (.const (.int .i64 (-1))))))]
def c46s10 : SCode := (.seq (.ops c46r9 c46k) .ret)
@[go_sem] theorem c46s10eq (P : Program) (ρ : Env) (H : Heap) (Q : Post) : vc P c46s10 ρ H Q = vc P (.seq (.ops c46r9 c46k) .ret) ρ H Q := rfl
def c46s11 : SCode := (.cond (.tmp 43) c46s10 .skip)
@[go_sem] theorem c46s11eq (P : Program) (ρ : Env) (H : Heap) (Q : Post) : vc P c46s11 ρ H Q = vc P (.cond (.tmp 43) c46s10 .skip) ρ H Q := rfl
@[go_sem] def c46r12 : List GOp := [(.op none (some 44) (.v (.mv (.tmp 6)))),
  (.op none (some 45) (.v (.mv (.tmp 1)))),
  (.op none (some 46) (.v (.mv (.tmp 7)))),
  (.op none (some 47) (.v (.bin .add (.tmp 45) (.tmp 46)))),
  (.op none (some 48) (.v (.bin .add (.tmp 47) (.const (.int .i64 1))))),
  (.op none (some 4) (.v (.mv (.tmp 44)))),
  (.op none (some 5) (.v (.mv (.tmp 48))))]
def c46s13 : SCode := (.seq (.ops c46r12 c46k) .ret)
@[go_sem] theorem c46s13eq (P : Program) (ρ : Env) (H : Heap) (Q : Post) : vc P c46s13 ρ H Q = vc P (.seq (.ops c46r12 c46k) .ret) ρ H Q := rfl
def c46s14 : SCode := (.seq (.seq (.ops c46r8 c46k) c46s11) c46s13)
@[go_sem] theorem c46s14eq (P : Program) (ρ : Env) (H : Heap) (Q : Post) : vc P c46s14 ρ H Q = vc P (.seq (.seq (.ops c46r8 c46k) c46s11) c46s13) ρ H Q := rfl
def c46s15 : SCode := (.cond (.tmp 37) c46s14 .skip)
@[go_sem] theorem c46s15eq (P : Program) (ρ : Env) (H : Heap) (Q : Post) : vc P c46s15 ρ H Q = vc P (.cond (.tmp 37) c46s14 .skip) ρ H Q := rfl
def c46s16 : SCode := (.seq (.ops c46r7 c46k) c46s15)
@[go_sem] theorem c46s16eq (P : Program) (ρ : Env) (H : Heap) (Q : Post) : vc P c46s16 ρ H Q = vc P (.seq (.ops c46r7 c46k) c46s15) ρ H Q := rfl
def c46s17 : SCode := (.seq (.ops c46r6 c46k) c46s16)
@[go_sem] theorem c46s17eq (P : Program) (ρ : Env) (H : Heap) (Q : Post) : vc P c46s17 ρ H Q = vc P (.seq (.ops c46r6 c46k) c46s16) ρ H Q := rfl
@[go_sem] def c46r18 : List GOp := [(.op none (some 19) (.v (.mv (.tmp 7)))),
  (.op none (some 20) (.v (.bin .add (.tmp 19) (.const (.int .i64 1))))),
  (.op none (some 7) (.v (.mv (.tmp 20))))]
def c46s19 : SCode := (.ops c46r18 c46k)
@[go_sem] theorem c46s19eq (P : Program) (ρ : Env) (H : Heap) (Q : Post) : vc P c46s19 ρ H Q = vc P (.ops c46r18 c46k) ρ H Q := rfl
def c46s20 : SCode := (.seq (.block 1 (.seq (.ops c46r5 c46k) c46s17)) c46s19)
@[go_sem] theorem c46s20eq (P : Program) (ρ : Env) (H : Heap) (Q : Post) : vc P c46s20 ρ H Q = vc P (.seq (.block 1 (.seq (.ops c46r5 c46k) c46s17)) c46s19) ρ H Q := rfl
def c46s21 : SCode := (.seq (.seq (.ops c46r3 c46k) c46s4) c46s20)
@[go_sem] theorem c46s21eq (P : Program) (ρ : Env) (H : Heap) (Q : Post) : vc P c46s21 ρ H Q = vc P (.seq (.seq (.ops c46r3 c46k) c46s4) c46s20) ρ H Q := rfl
def c46s22 : SCode := (.block 0 (.loop c46s21))
@[go_sem] theorem c46s22eq (P : Program) (ρ : Env) (H : Heap) (Q : Post) : vc P c46s22 ρ H Q = vc P (.block 0 (.loop c46s21)) ρ H Q := rfl
@[go_sem] def c46r23 : List GOp := [(.op none (some 4) (.v (.mv (.const (.int .u64 0))))),
  (.op none (some 5) (.v (.mv (.const (.int .i64 (-1))))))]
def c46s24 : SCode := (.seq (.ops c46r23 c46k) .ret)
@[go_sem] theorem c46s24eq (P : Program) (ρ : Env) (H : Heap) (Q : Post) : vc P c46s24 ρ H Q = vc P (.seq (.ops c46r23 c46k) .ret) ρ H Q := rfl
def c46s25 : SCode := (.seq (.seq (.ops c46r2 c46k) c46s22) c46s24)
@[go_sem] theorem c46s25eq (P : Program) (ρ : Env) (H : Heap) (Q : Post) : vc P c46s25 ρ H Q = vc P (.seq (.seq (.ops c46r2 c46k) c46s22) c46s24) ρ H Q := rfl
def c46s26 : SCode := (.seq (.ops c46r1 c46k) c46s25)
@[go_sem] theorem c46s26eq (P : Program) (ρ : Env) (H : Heap) (Q : Post) : vc P c46s26 ρ H Q = vc P (.seq (.ops c46r1 c46k) c46s25) ρ H Q := rfl
def c46 : Gx.Fn := ⟨49, c46k, (.seq (.ops c46r0 c46k) c46s26), [(.tmp 4), (.tmp 5)]⟩
theorem c46ok : stripFn Try.prog c46k Try.f46 = some c46 := by kernel_rfl

/- plexusref07.number -/
@[go_sem] def c47k : List Nat := [0, 1, 4, 6]
@[go_sem] def c47r0 : List GOp := [(.op none (some 4) (.v (.mv (.const (.slice none 0 0)))))]
@[go_sem] def c47r1 : List GOp := [(.op none (some 5) (.v (.mv (.tmp 1)))),
  (.op none (some 6) (.v (.bin .geq (.tmp 5) (.const (.int .u64 128)))))]
def c47s2 : SCode := (.cond (.tmp 6) .skip (.exit 0))
@[go_sem] theorem c47s2eq (P : Program) (ρ : Env) (H : Heap) (Q : Post) : vc P c47s2 ρ H Q = vc P (.cond (.tmp 6) .skip (.exit 0)) ρ H Q := rfl
@[go_sem] def c47r3 : List GOp := [(.op none (some 7) (.v (.mv (.tmp 0)))),
  (.op none (some 8) (.v (.mv (.tmp 1)))),
  (.op none (some 9) (.v (.bin .rem (.tmp 8) (.const (.int .u64 128))))),
  (.op none (some 10) (.v (.cvi .u8 (.tmp 9)))),
  (.op none (some 11) (.v (.bin .add (.tmp 10) (.const (.int .u8 128))))),
  (.op none (some 12) (.bs 5 1 [(.int .u8 0)] [(0, (1, (.tmp 11)))])),
  (.op none (some 13) (.ap 35 35 (.tmp 7) (.tmp 12))),
  (.op none (some 0) (.v (.mv (.tmp 13))))]
@[go_sem] def c47r4 : List GOp := [(.op none (some 14) (.v (.mv (.tmp 1)))),
  (.op none (some 15) (.v (.bin .quo (.tmp 14) (.const (.int .u64 128))))),
  (.op none (some 1) (.v (.mv (.tmp 15))))]
def c47s5 : SCode := (.ops c47r4 c47k)
@[go_sem] theorem c47s5eq (P : Program) (ρ : Env) (H : Heap) (Q : Post) : vc P c47s5 ρ H Q = vc P (.ops c47r4 c47k) ρ H Q := rfl
def c47s6 : SCode := (.block 1 (.seq (.ops c47r3 c47k) c47s5))
@[go_sem] theorem c47s6eq (P : Program) (ρ : Env) (H : Heap) (Q : Post) : vc P c47s6 ρ H Q = vc P (.block 1 (.seq (.ops c47r3 c47k) c47s5)) ρ H Q := rfl
def c47s7 : SCode := (.seq (.seq (.ops c47r1 c47k) c47s2) c47s6)
@[go_sem] theorem c47s7eq (P : Program) (ρ : Env) (H : Heap) (Q : Post) : vc P c47s7 ρ H Q = vc P (.seq (.seq (.ops c47r1 c47k) c47s2) c47s6) ρ H Q := rfl
@[go_sem] def c47r8 : List GOp := [(.op none (some 16) (.v (.mv (.tmp 0)))),
  (.op none (some 17) (.v (.mv (.tmp 1)))),
  (.op none (some 18) (.v (.cvi .u8 (.tmp 17)))),
  (.op none (some 19) (.bs 5 1 [(.int .u8 0)] [(0, (1, (.tmp 18)))])),
  (.op none (some 20) (.ap 35 35 (.tmp 16) (.tmp 19))),
  (.op none (some 4) (.v (.mv (.tmp 20))))]
def c47s9 : SCode := (.seq (.ops c47r8 c47k) .ret)
@[go_sem] theorem c47s9eq (P : Program) (ρ : Env) (H : Heap) (Q : Post) : vc P c47s9 ρ H Q = vc P (.seq (.ops c47r8 c47k) .ret) ρ H Q := rfl
def c47s10 : SCode := (.seq (.block 0 (.loop c47s7)) c47s9)
@[go_sem] theorem c47s10eq (P : Program) (ρ : Env) (H : Heap) (Q : Post) : vc P c47s10 ρ H Q = vc P (.seq (.block 0 (.loop c47s7)) c47s9) ρ H Q := rfl
def c47 : Gx.Fn := ⟨21, c47k, (.seq (.ops c47r0 c47k) c47s10), [(.tmp 4)]⟩
theorem c47ok : stripFn Try.prog c47k Try.f47 = some c47 := by kernel_rfl

/- (*wire.Reader).begin -/
@[go_sem] def c48k : List Nat := [0, 2, 7]
@[go_sem] def c48r0 : List GOp := [(.op none (some 2) (.v (.mv (.const (.bool false)))))]
@[go_sem] def c48r1 : List GOp := [(.op none (some 3) (.v (.mv (.tmp 0)))),
  (.op none (some 4) (.v (.nc (.tmp 3)))),
  (.op none (some 5) (.v (.fa 3 (.tmp 4)))),
  (.op none (some 6) (.ld none (.tmp 5))),
  (.op none (some 7) (.v (.bin .neq (.tmp 6) (.const (.int .i64 0)))))]
@[go_sem] def c48r2 : List GOp := [(.op none (some 2) (.v (.mv (.const (.bool false)))))]
def c48s3 : SCode := (.seq (.ops c48r2 c48k) .ret)
@[go_sem] theorem c48s3eq (P : Program) (ρ : Env) (H : Heap) (Q : Post) : vc P c48s3 ρ H Q = vc P (.seq (.ops c48r2 c48k) .ret) ρ H Q := rfl
def c48s4 : SCode := (.cond (.tmp 7) c48s3 .skip)
@[go_sem] theorem c48s4eq (P : Program) (ρ : Env) (H : Heap) (Q : Post) : vc P c48s4 ρ H Q = vc P (.cond (.tmp 7) c48s3 .skip) ρ H Q := rfl
@[go_sem] def c48r5 : List GOp := [(.op none (some 8) (.v (.mv (.tmp 0)))),
  (.op none (some 9) (.v (.mv (.tmp 0)))),
  (.op none (some 10) (.v (.nc (.tmp 9)))),
  (.op none (some 11) (.v (.fa 1 (.tmp 10)))),
  (.op none (some 12) (.ld none (.tmp 11))),
  (.op none (some 13) (.v (.nc (.tmp 8)))),
  (.op none (some 14) (.v (.fa 2 (.tmp 13)))),
  (.op none none (.st 1 (.tmp 14) (.tmp 12)))]
@[go_sem] def c48r6 : List GOp := [(.op none (some 2) (.v (.mv (.const (.bool true)))))]
def c48s7 : SCode := (.seq (.ops c48r6 c48k) .ret)
@[go_sem] theorem c48s7eq (P : Program) (ρ : Env) (H : Heap) (Q : Post) : vc P c48s7 ρ H Q = vc P (.seq (.ops c48r6 c48k) .ret) ρ H Q := rfl
def c48s8 : SCode := (.seq (.ops c48r5 c48k) c48s7)
@[go_sem] theorem c48s8eq (P : Program) (ρ : Env) (H : Heap) (Q : Post) : vc P c48s8 ρ H Q = vc P (.seq (.ops c48r5 c48k) c48s7) ρ H Q := rfl
def c48s9 : SCode := (.seq (.seq (.ops c48r1 c48k) c48s4) c48s8)
@[go_sem] theorem c48s9eq (P : Program) (ρ : Env) (H : Heap) (Q : Post) : vc P c48s9 ρ H Q = vc P (.seq (.seq (.ops c48r1 c48k) c48s4) c48s8) ρ H Q := rfl
def c48 : Gx.Fn := ⟨15, c48k, (.seq (.ops c48r0 c48k) c48s9), [(.tmp 2)]⟩
theorem c48ok : stripFn Try.prog c48k Try.f48 = some c48 := by kernel_rfl

/- (*wire.Reader).number -/
@[go_sem] def c49k : List Nat := [0, 2, 3, 4, 5, 6, 7, 8, 21, 39, 49]
@[go_sem] def c49r0 : List GOp := [(.op none (some 2) (.v (.mv (.const (.int .u64 0))))),
  (.op none (some 3) (.v (.mv (.const (.int .i64 0))))),
  (.op none (some 4) (.v (.mv (.const (.bool false)))))]
@[go_sem] def c49r1 : List GOp := [(.op none (some 7) (.v (.mv (.const (.int .i64 0)))))]
@[go_sem] def c49r2 : List GOp := [(.op none (some 8) (.v (.bin .lss (.tmp 7) (.const (.int .i64 10)))))]
@[go_sem] def c49r3 : List GOp := [(.op none (some 9) (.v (.mv (.tmp 7)))),
  (.op none (some 5) (.v (.mv (.tmp 9))))]
@[go_sem] def c49r4 : List GOp := [(.op none (some 10) (.v (.mv (.tmp 0)))),
  (.op none (some 11) (.v (.nc (.tmp 10)))),
  (.op none (some 12) (.v (.fa 1 (.tmp 11)))),
  (.op none (some 13) (.ld none (.tmp 12))),
  (.op none (some 14) (.v (.mv (.tmp 5)))),
  (.op none (some 15) (.v (.bin .add (.tmp 13) (.tmp 14)))),
  (.op none (some 16) (.v (.mv (.tmp 0)))),
  (.op none (some 17) (.v (.nc (.tmp 16)))),
  (.op none (some 18) (.v (.fa 0 (.tmp 17)))),
  (.op none (some 19) (.ld none (.tmp 18))),
  (.op none (some 20) (.v (.len (.tmp 19)))),
  (.op none (some 21) (.v (.bin .geq (.tmp 15) (.tmp 20))))]
@[go_sem] def c49r5 : List GOp := [(.op none (some 2) (.v (.mv (.const (.int .u64 0))))),
  (.op none (some 3) (.v (.mv (.const (.int .i64 0))))),
  (.op none (some 4) (.v (.mv (.const (.bool false)))))]
def c49s6 : SCode := (.seq (.ops c49r5 c49k) .ret)
@[go_sem] theorem c49s6eq (P : Program) (ρ : Env) (H : Heap) (Q : Post) : vc P c49s6 ρ H Q = vc P (.seq (.ops c49r5 c49k) .ret) ρ H Q := rfl
def c49s7 : SCode := (.cond (.tmp 21) c49s6 .skip)
@[go_sem] theorem c49s7eq (P : Program) (ρ : Env) (H : Heap) (Q : Post) : vc P c49s7 ρ H Q = vc P (.cond (.tmp 21) c49s6 .skip) ρ H Q := rfl
@[go_sem] def c49r8 : List GOp := [(.op none (some 22) (.v (.mv (.tmp 0)))),
  (.op none (some 23) (.v (.nc (.tmp 22)))),
  (.op none (some 24) (.v (.fa 0 (.tmp 23)))),
  (.op none (some 25) (.ld none (.tmp 24))),
  (.op none (some 26) (.v (.mv (.tmp 0)))),
  (.op none (some 27) (.v (.nc (.tmp 26)))),
  (.op none (some 28) (.v (.fa 1 (.tmp 27)))),
  (.op none (some 29) (.ld none (.tmp 28))),
  (.op none (some 30) (.v (.mv (.tmp 5)))),
  (.op none (some 31) (.v (.bin .add (.tmp 29) (.tmp 30)))),
  (.op none (some 32) (.v (.ix 1 (.tmp 25) (.tmp 31)))),
  (.op none (some 33) (.ld none (.tmp 32))),
  (.op none (some 6) (.v (.mv (.tmp 33))))]
@[go_sem] def c49r9 : List GOp := [(.op none (some 34) (.v (.mv (.tmp 5)))),
  (.op none (some 35) (.v (.bin .eql (.tmp 34) (.const (.int .i64 9))))),
  (.op none (some 36) (.v (.mv (.tmp 35)))),
  (.sel 36 true [(37, (.v (.mv (.tmp 6)))), (38, (.v (.bin .gtr (.tmp 37) (.const (.int .u8 1)))))] 39 (.tmp 38) (.const (.bool false)))]
@[go_sem] def c49r10 : List GOp := [(.op none (some 2) (.v (.mv (.const (.int .u64 0))))),
  (.op none (some 3) (.v (.mv (.const (.int .i64 0))))),
  (.op none (some 4) (.v (.mv (.const (.bool false)))))]
def c49s11 : SCode := (.seq (.ops c49r10 c49k) .ret)
@[go_sem] theorem c49s11eq (P : Program) (ρ : Env) (H : Heap) (Q : Post) : vc P c49s11 ρ H Q = vc P (.seq (.ops c49r10 c49k) .ret) ρ H Q := rfl
def c49s12 : SCode := (.cond (.tmp 39) c49s11 .skip)
@[go_sem] theorem c49s12eq (P : Program) (ρ : Env) (H : Heap) (Q : Post) : vc P c49s12 ρ H Q = vc P (.cond (.tmp 39) c49s11 .skip) ρ H Q := rfl
@[go_sem] def c49r13 : List GOp := [(.op none (some 40) (.v (.mv (.tmp 2)))),
  (.op none (some 41) (.v (.mv (.tmp 6)))),
  (.op none (some 42) (.v (.bin .and (.tmp 41) (.const (.int .u8 127))))),
  (.op none (some 43) (.v (.cvi .u64 (.tmp 42)))),
  (.op none (some 44) (.v (.mv (.tmp 5)))),
  (.op none (some 45) (.v (.bin .mul (.const (.int .i64 7)) (.tmp 44)))),
  (.op none (some 46) (.v (.bin .shl (.tmp 43) (.tmp 45)))),
  (.op none (some 47) (.v (.bin .or (.tmp 40) (.tmp 46)))),
  (.op none (some 2) (.v (.mv (.tmp 47))))]
@[go_sem] def c49r14 : List GOp := [(.op none (some 48) (.v (.mv (.tmp 6)))),
  (.op none (some 49) (.v (.bin .lss (.tmp 48) (.const (.int .u8 128)))))]
@[go_sem] def c49r15 : List GOp := [(.op none (some 50) (.v (.mv (.tmp 2)))),
  (.op none (some 51) (.v (.mv (.tmp 0)))),
  (.op none (some 52) (.v (.nc (.tmp 51)))),
  (.op none (some 53) (.v (.fa 1 (.tmp 52)))),
  (.op none (some 54) (.ld none (.tmp 53))),
  (.op none (some 55) (.v (.mv (.tmp 5)))),
  (.op none (some 56) (.v (.bin .add (.tmp 54) (.tmp 55)))),
  (.op none (some 57) (.v (.bin .add (.tmp 56) (.const (.int .i64 1))))),
  (.op none (some 58) (.v (.mv (.tmp 6)))),
  (.op none (some 59) (.v (.bin .neq (.tmp 58) (.const (.int .u8 0))))),
  (.op none (some 60) (.v (.mv (.tmp 59)))),
  (.sel 60 false [(61, (.v (.mv (.tmp 5)))), (62, (.v (.bin .eql (.tmp 61) (.const (.int .i64 0)))))] 63 (.const (.bool true)) (.tmp 62)),
  (.op none (some 2) (.v (.mv (.tmp 50)))),
  (.op none (some 3) (.v (.mv (.tmp 57)))),
  (.op none (some 4) (.v (.mv (.tmp 63))))]
def c49s16 : SCode := (.seq (.dq c49r15 c49k) .ret)
@[go_sem] theorem c49s16eq (P : Program) (ρ : Env) (H : Heap) (Q : Post) : vc P c49s16 ρ H Q = vc P (.seq (.dq c49r15 c49k) .ret) ρ H Q := rfl
def c49s17 : SCode := (.cond (.tmp 49) c49s16 .skip)
@[go_sem] theorem c49s17eq (P : Program) (ρ : Env) (H : Heap) (Q : Post) : vc P c49s17 ρ H Q = vc P (.cond (.tmp 49) c49s16 .skip) ρ H Q := rfl
def c49s18 : SCode := (.seq (.ops c49r14 c49k) c49s17)
@[go_sem] theorem c49s18eq (P : Program) (ρ : Env) (H : Heap) (Q : Post) : vc P c49s18 ρ H Q = vc P (.seq (.ops c49r14 c49k) c49s17) ρ H Q := rfl
def c49s19 : SCode := (.seq (.ops c49r13 c49k) c49s18)
@[go_sem] theorem c49s19eq (P : Program) (ρ : Env) (H : Heap) (Q : Post) : vc P c49s19 ρ H Q = vc P (.seq (.ops c49r13 c49k) c49s18) ρ H Q := rfl
def c49s20 : SCode := (.seq (.seq (.ops c49r9 c49k) c49s12) c49s19)
@[go_sem] theorem c49s20eq (P : Program) (ρ : Env) (H : Heap) (Q : Post) : vc P c49s20 ρ H Q = vc P (.seq (.seq (.ops c49r9 c49k) c49s12) c49s19) ρ H Q := rfl
def c49s21 : SCode := (.seq (.dq c49r8 c49k) c49s20)
@[go_sem] theorem c49s21eq (P : Program) (ρ : Env) (H : Heap) (Q : Post) : vc P c49s21 ρ H Q = vc P (.seq (.dq c49r8 c49k) c49s20) ρ H Q := rfl
def c49s22 : SCode := (.seq (.seq (.dq c49r4 c49k) c49s7) c49s21)
@[go_sem] theorem c49s22eq (P : Program) (ρ : Env) (H : Heap) (Q : Post) : vc P c49s22 ρ H Q = vc P (.seq (.seq (.dq c49r4 c49k) c49s7) c49s21) ρ H Q := rfl
@[go_sem] def c49r23 : List GOp := [(.op none (some 64) (.v (.bin .add (.tmp 7) (.const (.int .i64 1))))),
  (.op none (some 7) (.v (.mv (.tmp 64))))]
def c49s24 : SCode := (.ops c49r23 c49k)
@[go_sem] theorem c49s24eq (P : Program) (ρ : Env) (H : Heap) (Q : Post) : vc P c49s24 ρ H Q = vc P (.ops c49r23 c49k) ρ H Q := rfl
def c49s25 : SCode := (.seq (.block 1 (.seq (.ops c49r3 c49k) c49s22)) c49s24)
@[go_sem] theorem c49s25eq (P : Program) (ρ : Env) (H : Heap) (Q : Post) : vc P c49s25 ρ H Q = vc P (.seq (.block 1 (.seq (.ops c49r3 c49k) c49s22)) c49s24) ρ H Q := rfl
def c49s26 : SCode := (.seq (.cond (.tmp 8) .skip (.exit 0)) c49s25)
@[go_sem] theorem c49s26eq (P : Program) (ρ : Env) (H : Heap) (Q : Post) : vc P c49s26 ρ H Q = vc P (.seq (.cond (.tmp 8) .skip (.exit 0)) c49s25) ρ H Q := rfl
def c49s27 : SCode := (.seq (.ops c49r2 c49k) c49s26)
@[go_sem] theorem c49s27eq (P : Program) (ρ : Env) (H : Heap) (Q : Post) : vc P c49s27 ρ H Q = vc P (.seq (.ops c49r2 c49k) c49s26) ρ H Q := rfl
def c49s28 : SCode := (.block 0 (.loop c49s27))
@[go_sem] theorem c49s28eq (P : Program) (ρ : Env) (H : Heap) (Q : Post) : vc P c49s28 ρ H Q = vc P (.block 0 (.loop c49s27)) ρ H Q := rfl
@[go_sem] def c49r29 : List GOp := [(.op none (some 2) (.v (.mv (.const (.int .u64 0))))),
  (.op none (some 3) (.v (.mv (.const (.int .i64 0))))),
  (.op none (some 4) (.v (.mv (.const (.bool false)))))]
def c49s30 : SCode := (.seq (.ops c49r29 c49k) .ret)
@[go_sem] theorem c49s30eq (P : Program) (ρ : Env) (H : Heap) (Q : Post) : vc P c49s30 ρ H Q = vc P (.seq (.ops c49r29 c49k) .ret) ρ H Q := rfl
def c49s31 : SCode := (.seq (.seq (.ops c49r1 c49k) c49s28) c49s30)
@[go_sem] theorem c49s31eq (P : Program) (ρ : Env) (H : Heap) (Q : Post) : vc P c49s31 ρ H Q = vc P (.seq (.seq (.ops c49r1 c49k) c49s28) c49s30) ρ H Q := rfl
def c49 : Gx.Fn := ⟨65, c49k, (.seq (.ops c49r0 c49k) c49s31), [(.tmp 2), (.tmp 3), (.tmp 4)]⟩
theorem c49ok : stripFn Try.prog c49k Try.f49 = some c49 := by kernel_rfl

/- (*wire.Reader).Left -/
@[go_sem] def c50k : List Nat := [0, 2]
@[go_sem] def c50r0 : List GOp := [(.op none (some 2) (.v (.mv (.const (.int .i64 0)))))]
@[go_sem] def c50r1 : List GOp := [(.op none (some 3) (.v (.mv (.tmp 0)))),
  (.op none (some 4) (.v (.nc (.tmp 3)))),
  (.op none (some 5) (.v (.fa 0 (.tmp 4)))),
  (.op none (some 6) (.ld none (.tmp 5))),
  (.op none (some 7) (.v (.len (.tmp 6)))),
  (.op none (some 8) (.v (.mv (.tmp 0)))),
  (.op none (some 9) (.v (.nc (.tmp 8)))),
  (.op none (some 10) (.v (.fa 1 (.tmp 9)))),
  (.op none (some 11) (.ld none (.tmp 10))),
  (.op none (some 12) (.v (.bin .sub (.tmp 7) (.tmp 11)))),
  (.op none (some 2) (.v (.mv (.tmp 12))))]
def c50s2 : SCode := (.seq (.dq c50r1 c50k) .ret)
@[go_sem] theorem c50s2eq (P : Program) (ρ : Env) (H : Heap) (Q : Post) : vc P c50s2 ρ H Q = vc P (.seq (.dq c50r1 c50k) .ret) ρ H Q := rfl
def c50 : Gx.Fn := ⟨13, c50k, (.seq (.ops c50r0 c50k) c50s2), [(.tmp 2)]⟩
theorem c50ok : stripFn Try.prog c50k Try.f50 = some c50 := by kernel_rfl

end Go.Proofs.Ytpoimkhfofpafaa
