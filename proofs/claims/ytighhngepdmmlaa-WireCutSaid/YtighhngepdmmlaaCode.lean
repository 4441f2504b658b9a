/- Generated: the stripped code of Go functions, each held against the loaded program. -/
import Derived.Test.YtighhngepdmmlaaProg
import Derived.Test.YtighhngepdmmlaaGx13
namespace Go.Proofs.Ytighhngepdmmlaa
open Gx Go

/- plexuslaw01.WireWrites -/
@[go_sem] def c3k : List Nat := [0, 2, 4]
@[go_sem] def c3r0 : List GOp := [(.op none (some 2) (.v (.mv (.const (.bool false)))))]
@[go_sem] def c3r1 : List GOp := [(.op none (some 3) (.call 10 [])),
  (.op none (some 4) (.v (.un .not (.tmp 3))))]
@[go_sem] def c3r2 : List GOp := [(.op none (some 2) (.v (.mv (.const (.bool false)))))]
def c3s3 : SCode := (.seq (.ops c3r2 c3k) .ret)
@[go_sem] theorem c3s3eq (P : Program) (ρ : Env) (H : Heap) (Q : Post) : vc P c3s3 ρ H Q = vc P (.seq (.ops c3r2 c3k) .ret) ρ H Q := rfl
def c3s4 : SCode := (.cond (.tmp 4) c3s3 .skip)
@[go_sem] theorem c3s4eq (P : Program) (ρ : Env) (H : Heap) (Q : Post) : vc P c3s4 ρ H Q = vc P (.cond (.tmp 4) c3s3 .skip) ρ H Q := rfl
@[go_sem] def c3d5 : DT := (.rd none (some 5) (.v (.mv (.tmp 0))) [1, 5, 8] (.ef 1 none (some 6) (.call 11 [(.tmp 5)]) (.rd none (some 7) (.v (.un .not (.tmp 6))) [5, 8] (.rd none (some 8) (.v (.mv (.tmp 7))) [5, 8] (.rd (some (8, false)) (some 9) (.v (.mv (.tmp 0))) [5, 8] (.rd (some (8, false)) (some 12) (.v (.mv (.tmp 0))) [8] (.ef 5 (some (8, false)) (some 10) (.call 12 [(.tmp 9)]) (.rd (some (8, false)) (some 11) (.b2s (.tmp 10)) [] (.ef 8 (some (8, false)) (some 13) (.call 13 [(.tmp 12)]) (.rd (some (8, false)) (some 14) (.b2s (.tmp 13)) [] (.rd (some (8, false)) (some 15) (.v (.bin .eql (.tmp 11) (.tmp 14))) [] (.rd none (some 16) (.v (.pick (.tmp 8) (.const (.bool true)) (.tmp 15))) [] (.rd none (some 2) (.v (.mv (.tmp 16))) [] .done)))))))))))))
def c3s6 : SCode := (.seq (.de c3d5 c3k) .ret)
@[go_sem] theorem c3s6eq (P : Program) (ρ : Env) (H : Heap) (Q : Post) : vc P c3s6 ρ H Q = vc P (.seq (.de c3d5 c3k) .ret) ρ H Q := rfl
def c3s7 : SCode := (.seq (.seq (.ops c3r1 c3k) c3s4) c3s6)
@[go_sem] theorem c3s7eq (P : Program) (ρ : Env) (H : Heap) (Q : Post) : vc P c3s7 ρ H Q = vc P (.seq (.seq (.ops c3r1 c3k) c3s4) c3s6) ρ H Q := rfl
def c3 : Gx.Fn := ⟨17, c3k, (.seq (.ops c3r0 c3k) c3s7), [(.tmp 2)]⟩
theorem c3ok : stripFn Try.prog c3k Try.f3 = some c3 := by kernel_rfl

/- plexuslaw01.WireShort -/
@[go_sem] def c4k : List Nat := [0, 1, 4, 5, 6, 7, 8, 10, 22]
@[go_sem] def c4r0 : List GOp := [(.op none (some 4) (.v (.mv (.const (.bool false)))))]
@[go_sem] def c4r1 : List GOp := [(.op none (some 9) (.call 10 [])),
  (.op none (some 10) (.v (.un .not (.tmp 9))))]
@[go_sem] def c4r2 : List GOp := [(.op none (some 4) (.v (.mv (.const (.bool false)))))]
def c4s3 : SCode := (.seq (.ops c4r2 c4k) .ret)
@[go_sem] theorem c4s3eq (P : Program) (ρ : Env) (H : Heap) (Q : Post) : vc P c4s3 ρ H Q = vc P (.seq (.ops c4r2 c4k) .ret) ρ H Q := rfl
def c4s4 : SCode := (.cond (.tmp 10) c4s3 .skip)
@[go_sem] theorem c4s4eq (P : Program) (ρ : Env) (H : Heap) (Q : Post) : vc P c4s4 ρ H Q = vc P (.cond (.tmp 10) c4s3 .skip) ρ H Q := rfl
@[go_sem] def c4r5 : List GOp := [(.op none (some 11) (.v (.mv (.tmp 0)))),
  (.op none (some 12) (.v (.bld [(.int .i64 0), (.int .u64 0), (.slice none 0 0)] [(1, (1, (.tmp 11)))]))),
  (.op none (some 13) (.bs 29 1 [(.int .i64 0), (.int .u64 0), (.slice none 0 0)] [(0, (3, (.tmp 12)))])),
  (.op none (some 14) (.call 12 [(.tmp 13)])),
  (.op none (some 15) (.v (.mv (.tmp 1)))),
  (.op none (some 16) (.v (.bld [(.int .i64 0), (.int .u64 0), (.slice none 0 0)] [(1, (1, (.tmp 15)))]))),
  (.op none (some 17) (.bs 29 1 [(.int .i64 0), (.int .u64 0), (.slice none 0 0)] [(0, (3, (.tmp 16)))])),
  (.op none (some 18) (.call 12 [(.tmp 17)])),
  (.op none (some 5) (.v (.mv (.tmp 14)))),
  (.op none (some 6) (.v (.mv (.tmp 18))))]
@[go_sem] def c4r6 : List GOp := [(.op none (some 7) (.v (.mv (.const (.int .i64 1)))))]
@[go_sem] def c4r7 : List GOp := [(.op none (some 19) (.v (.mv (.tmp 0)))),
  (.op none (some 20) (.v (.bin .shr (.tmp 19) (.const (.int .u64 7))))),
  (.op none (some 8) (.v (.mv (.tmp 20))))]
@[go_sem] def c4r8 : List GOp := [(.op none (some 21) (.v (.mv (.tmp 8)))),
  (.op none (some 22) (.v (.bin .neq (.tmp 21) (.const (.int .u64 0)))))]
def c4s9 : SCode := (.cond (.tmp 22) .skip (.exit 0))
@[go_sem] theorem c4s9eq (P : Program) (ρ : Env) (H : Heap) (Q : Post) : vc P c4s9 ρ H Q = vc P (.cond (.tmp 22) .skip (.exit 0)) ρ H Q := rfl
@[go_sem] def c4r10 : List GOp := [(.op none (some 25) (.v (.mv (.tmp 7)))),
  (.op none (some 26) (.v (.bin .add (.tmp 25) (.const (.int .i64 1))))),
  (.op none (some 7) (.v (.mv (.tmp 26))))]
@[go_sem] def c4r11 : List GOp := [(.op none (some 23) (.v (.mv (.tmp 8)))),
  (.op none (some 24) (.v (.bin .shr (.tmp 23) (.const (.int .u64 7))))),
  (.op none (some 8) (.v (.mv (.tmp 24))))]
def c4s12 : SCode := (.ops c4r11 c4k)
@[go_sem] theorem c4s12eq (P : Program) (ρ : Env) (H : Heap) (Q : Post) : vc P c4s12 ρ H Q = vc P (.ops c4r11 c4k) ρ H Q := rfl
def c4s13 : SCode := (.seq (.block 1 (.ops c4r10 c4k)) c4s12)
@[go_sem] theorem c4s13eq (P : Program) (ρ : Env) (H : Heap) (Q : Post) : vc P c4s13 ρ H Q = vc P (.seq (.block 1 (.ops c4r10 c4k)) c4s12) ρ H Q := rfl
def c4s14 : SCode := (.seq (.seq (.ops c4r8 c4k) c4s9) c4s13)
@[go_sem] theorem c4s14eq (P : Program) (ρ : Env) (H : Heap) (Q : Post) : vc P c4s14 ρ H Q = vc P (.seq (.seq (.ops c4r8 c4k) c4s9) c4s13) ρ H Q := rfl
def c4s15 : SCode := (.block 0 (.loop c4s14))
@[go_sem] theorem c4s15eq (P : Program) (ρ : Env) (H : Heap) (Q : Post) : vc P c4s15 ρ H Q = vc P (.block 0 (.loop c4s14)) ρ H Q := rfl
@[go_sem] def c4r16 : List GOp := [(.op none (some 27) (.v (.mv (.tmp 5)))),
  (.op none (some 28) (.v (.len (.tmp 27)))),
  (.op none (some 29) (.v (.mv (.tmp 7)))),
  (.op none (some 30) (.v (.bin .eql (.tmp 28) (.tmp 29)))),
  (.op none (some 31) (.v (.mv (.tmp 30)))),
  (.op (some (31, true)) (some 32) (.v (.mv (.tmp 0)))),
  (.op (some (31, true)) (some 33) (.v (.mv (.tmp 1)))),
  (.op (some (31, true)) (some 34) (.v (.bin .gtr (.tmp 32) (.tmp 33)))),
  (.op (some (31, true)) (some 35) (.v (.mv (.tmp 34)))),
  (.op (some (35, false)) (some 36) (.v (.mv (.tmp 5)))),
  (.op (some (35, false)) (some 37) (.v (.len (.tmp 36)))),
  (.op (some (35, false)) (some 38) (.v (.mv (.tmp 6)))),
  (.op (some (35, false)) (some 39) (.v (.len (.tmp 38)))),
  (.op (some (35, false)) (some 40) (.v (.bin .leq (.tmp 37) (.tmp 39)))),
  (.op (some (31, true)) (some 41) (.v (.pick (.tmp 35) (.const (.bool true)) (.tmp 40)))),
  (.op none (some 42) (.v (.pick (.tmp 31) (.tmp 41) (.const (.bool false))))),
  (.op none (some 4) (.v (.mv (.tmp 42))))]
def c4s17 : SCode := (.seq (.ops c4r16 c4k) .ret)
@[go_sem] theorem c4s17eq (P : Program) (ρ : Env) (H : Heap) (Q : Post) : vc P c4s17 ρ H Q = vc P (.seq (.ops c4r16 c4k) .ret) ρ H Q := rfl
def c4s18 : SCode := (.seq (.seq (.ops c4r7 c4k) c4s15) c4s17)
@[go_sem] theorem c4s18eq (P : Program) (ρ : Env) (H : Heap) (Q : Post) : vc P c4s18 ρ H Q = vc P (.seq (.seq (.ops c4r7 c4k) c4s15) c4s17) ρ H Q := rfl
def c4s19 : SCode := (.seq (.ops c4r6 c4k) c4s18)
@[go_sem] theorem c4s19eq (P : Program) (ρ : Env) (H : Heap) (Q : Post) : vc P c4s19 ρ H Q = vc P (.seq (.ops c4r6 c4k) c4s18) ρ H Q := rfl
def c4s20 : SCode := (.seq (.ops c4r5 c4k) c4s19)
@[go_sem] theorem c4s20eq (P : Program) (ρ : Env) (H : Heap) (Q : Post) : vc P c4s20 ρ H Q = vc P (.seq (.ops c4r5 c4k) c4s19) ρ H Q := rfl
def c4s21 : SCode := (.seq (.seq (.ops c4r1 c4k) c4s4) c4s20)
@[go_sem] theorem c4s21eq (P : Program) (ρ : Env) (H : Heap) (Q : Post) : vc P c4s21 ρ H Q = vc P (.seq (.seq (.ops c4r1 c4k) c4s4) c4s20) ρ H Q := rfl
def c4 : Gx.Fn := ⟨43, c4k, (.seq (.ops c4r0 c4k) c4s21), [(.tmp 4)]⟩
theorem c4ok : stripFn Try.prog c4k Try.f4 = some c4 := by kernel_rfl

/- plexuslaw01.WireSigned -/
@[go_sem] def c5k : List Nat := [0, 2, 3, 4, 5, 7, 19, 21]
@[go_sem] def c5r0 : List GOp := [(.op none (some 2) (.v (.mv (.const (.bool false)))))]
@[go_sem] def c5r1 : List GOp := [(.op none (some 6) (.call 10 [])),
  (.op none (some 7) (.v (.un .not (.tmp 6))))]
@[go_sem] def c5r2 : List GOp := [(.op none (some 2) (.v (.mv (.const (.bool false)))))]
def c5s3 : SCode := (.seq (.ops c5r2 c5k) .ret)
@[go_sem] theorem c5s3eq (P : Program) (ρ : Env) (H : Heap) (Q : Post) : vc P c5s3 ρ H Q = vc P (.seq (.ops c5r2 c5k) .ret) ρ H Q := rfl
def c5s4 : SCode := (.cond (.tmp 7) c5s3 .skip)
@[go_sem] theorem c5s4eq (P : Program) (ρ : Env) (H : Heap) (Q : Post) : vc P c5s4 ρ H Q = vc P (.cond (.tmp 7) c5s3 .skip) ρ H Q := rfl
@[go_sem] def c5r5 : List GOp := [(.op none (some 8) (.v (.mv (.tmp 0)))),
  (.op none (some 9) (.v (.cvi .u64 (.tmp 8)))),
  (.op none (some 10) (.v (.bld [(.int .i64 0), (.int .u64 0), (.slice none 0 0)] [(0, (1, (.const (.int .i64 1)))), (1, (1, (.tmp 9)))]))),
  (.op none (some 11) (.bs 29 1 [(.int .i64 0), (.int .u64 0), (.slice none 0 0)] [(0, (3, (.tmp 10)))])),
  (.op none (some 12) (.call 12 [(.tmp 11)])),
  (.op none (some 3) (.v (.mv (.tmp 12))))]
@[go_sem] def c5r6 : List GOp := [(.op none (some 13) (.v (.mv (.tmp 3)))),
  (.op none (some 14) (.call 14 [(.tmp 13)])),
  (.op none (some 4) (.v (.mv (.tmp 14))))]
@[go_sem] def c5r7 : List GOp := [(.op none (some 15) (.v (.mv (.tmp 4)))),
  (.op none (some 16) (.call 15 [(.tmp 15)])),
  (.op none (some 5) (.v (.mv (.tmp 16))))]
@[go_sem] def c5r8 : List GOp := [(.op none (some 17) (.v (.mv (.tmp 4)))),
  (.op none (some 18) (.call 16 [(.tmp 17)])),
  (.op none (some 19) (.v (.bin .neq (.tmp 18) (.const (.int .i64 0)))))]
@[go_sem] def c5r9 : List GOp := [(.op none (some 2) (.v (.mv (.const (.bool false)))))]
def c5s10 : SCode := (.seq (.ops c5r9 c5k) .ret)
@[go_sem] theorem c5s10eq (P : Program) (ρ : Env) (H : Heap) (Q : Post) : vc P c5s10 ρ H Q = vc P (.seq (.ops c5r9 c5k) .ret) ρ H Q := rfl
def c5s11 : SCode := (.cond (.tmp 19) c5s10 .skip)
@[go_sem] theorem c5s11eq (P : Program) (ρ : Env) (H : Heap) (Q : Post) : vc P c5s11 ρ H Q = vc P (.cond (.tmp 19) c5s10 .skip) ρ H Q := rfl
@[go_sem] def c5r12 : List GOp := [(.op none (some 20) (.v (.mv (.tmp 0)))),
  (.op none (some 21) (.v (.bin .geq (.tmp 20) (.const (.int .i64 0)))))]
@[go_sem] def c5r13 : List GOp := [(.op none (some 22) (.v (.mv (.tmp 5)))),
  (.op none (some 23) (.v (.mv (.tmp 0)))),
  (.op none (some 24) (.v (.cvi .u64 (.tmp 23)))),
  (.op none (some 25) (.v (.bin .mul (.const (.int .u64 2)) (.tmp 24)))),
  (.op none (some 26) (.v (.bin .eql (.tmp 22) (.tmp 25)))),
  (.op none (some 2) (.v (.mv (.tmp 26))))]
def c5s14 : SCode := (.seq (.ops c5r13 c5k) .ret)
@[go_sem] theorem c5s14eq (P : Program) (ρ : Env) (H : Heap) (Q : Post) : vc P c5s14 ρ H Q = vc P (.seq (.ops c5r13 c5k) .ret) ρ H Q := rfl
def c5s15 : SCode := (.cond (.tmp 21) c5s14 .skip)
@[go_sem] theorem c5s15eq (P : Program) (ρ : Env) (H : Heap) (Q : Post) : vc P c5s15 ρ H Q = vc P (.cond (.tmp 21) c5s14 .skip) ρ H Q := rfl
@[go_sem] def c5r16 : List GOp := [(.op none (some 27) (.v (.mv (.tmp 5)))),
  (.op none (some 28) (.v (.bin .rem (.tmp 27) (.const (.int .u64 2))))),
  (.op none (some 29) (.v (.bin .eql (.tmp 28) (.const (.int .u64 1))))),
  (.op none (some 30) (.v (.mv (.tmp 29)))),
  (.op (some (30, true)) (some 31) (.v (.mv (.tmp 5)))),
  (.op (some (30, true)) (some 32) (.v (.bin .quo (.tmp 31) (.const (.int .u64 2))))),
  (.sel 30 true [(33, (.v (.cvi .i64 (.tmp 32)))), (34, (.v (.mv (.tmp 0)))), (35, (.v (.bin .add (.tmp 34) (.const (.int .i64 1))))), (36, (.v (.un .neg (.tmp 35)))), (37, (.v (.bin .eql (.tmp 33) (.tmp 36))))] 38 (.tmp 37) (.const (.bool false))),
  (.op none (some 2) (.v (.mv (.tmp 38))))]
def c5s17 : SCode := (.seq (.ops c5r16 c5k) .ret)
@[go_sem] theorem c5s17eq (P : Program) (ρ : Env) (H : Heap) (Q : Post) : vc P c5s17 ρ H Q = vc P (.seq (.ops c5r16 c5k) .ret) ρ H Q := rfl
def c5s18 : SCode := (.seq (.seq (.ops c5r12 c5k) c5s15) c5s17)
@[go_sem] theorem c5s18eq (P : Program) (ρ : Env) (H : Heap) (Q : Post) : vc P c5s18 ρ H Q = vc P (.seq (.seq (.ops c5r12 c5k) c5s15) c5s17) ρ H Q := rfl
def c5s19 : SCode := (.seq (.seq (.ops c5r8 c5k) c5s11) c5s18)
@[go_sem] theorem c5s19eq (P : Program) (ρ : Env) (H : Heap) (Q : Post) : vc P c5s19 ρ H Q = vc P (.seq (.seq (.ops c5r8 c5k) c5s11) c5s18) ρ H Q := rfl
def c5s20 : SCode := (.seq (.ops c5r7 c5k) c5s19)
@[go_sem] theorem c5s20eq (P : Program) (ρ : Env) (H : Heap) (Q : Post) : vc P c5s20 ρ H Q = vc P (.seq (.ops c5r7 c5k) c5s19) ρ H Q := rfl
def c5s21 : SCode := (.seq (.ops c5r6 c5k) c5s20)
@[go_sem] theorem c5s21eq (P : Program) (ρ : Env) (H : Heap) (Q : Post) : vc P c5s21 ρ H Q = vc P (.seq (.ops c5r6 c5k) c5s20) ρ H Q := rfl
def c5s22 : SCode := (.seq (.ops c5r5 c5k) c5s21)
@[go_sem] theorem c5s22eq (P : Program) (ρ : Env) (H : Heap) (Q : Post) : vc P c5s22 ρ H Q = vc P (.seq (.ops c5r5 c5k) c5s21) ρ H Q := rfl
def c5s23 : SCode := (.seq (.seq (.ops c5r1 c5k) c5s4) c5s22)
@[go_sem] theorem c5s23eq (P : Program) (ρ : Env) (H : Heap) (Q : Post) : vc P c5s23 ρ H Q = vc P (.seq (.seq (.ops c5r1 c5k) c5s4) c5s22) ρ H Q := rfl
def c5 : Gx.Fn := ⟨39, c5k, (.seq (.ops c5r0 c5k) c5s23), [(.tmp 2)]⟩
theorem c5ok : stripFn Try.prog c5k Try.f5 = some c5 := by kernel_rfl

/- plexuslaw01.WireMemory -/
@[go_sem] def c6k : List Nat := [0, 1, 4, 5, 6, 7, 8, 9, 10, 11, 12, 13, 15, 23, 34, 56, 71, 75]
@[go_sem] def c6r0 : List GOp := [(.op none (some 4) (.v (.mv (.const (.bool false)))))]
@[go_sem] def c6r1 : List GOp := [(.op none (some 14) (.call 10 [])),
  (.op none (some 15) (.v (.un .not (.tmp 14))))]
@[go_sem] def c6r2 : List GOp := [(.op none (some 4) (.v (.mv (.const (.bool false)))))]
def c6s3 : SCode := (.seq (.ops c6r2 c6k) .ret)
@[go_sem] theorem c6s3eq (P : Program) (ρ : Env) (H : Heap) (Q : Post) : vc P c6s3 ρ H Q = vc P (.seq (.ops c6r2 c6k) .ret) ρ H Q := rfl
def c6s4 : SCode := (.cond (.tmp 15) c6s3 .skip)
@[go_sem] theorem c6s4eq (P : Program) (ρ : Env) (H : Heap) (Q : Post) : vc P c6s4 ρ H Q = vc P (.cond (.tmp 15) c6s3 .skip) ρ H Q := rfl
@[go_sem] def c6r5 : List GOp := [(.op none (some 16) (.v (.mv (.tmp 0)))),
  (.op none (some 17) (.v (.len (.tmp 16)))),
  (.op none (some 18) (.v (.bin .gtr (.tmp 17) (.const (.int .i64 2000))))),
  (.op none (some 19) (.v (.mv (.tmp 18)))),
  (.sel 19 false [(20, (.v (.mv (.tmp 1)))), (21, (.v (.len (.tmp 20)))), (22, (.v (.bin .gtr (.tmp 21) (.const (.int .i64 2000)))))] 23 (.const (.bool true)) (.tmp 22))]
@[go_sem] def c6r6 : List GOp := [(.op none (some 4) (.v (.mv (.const (.bool true)))))]
def c6s7 : SCode := (.seq (.ops c6r6 c6k) .ret)
@[go_sem] theorem c6s7eq (P : Program) (ρ : Env) (H : Heap) (Q : Post) : vc P c6s7 ρ H Q = vc P (.seq (.ops c6r6 c6k) .ret) ρ H Q := rfl
def c6s8 : SCode := (.cond (.tmp 23) c6s7 .skip)
@[go_sem] theorem c6s8eq (P : Program) (ρ : Env) (H : Heap) (Q : Post) : vc P c6s8 ρ H Q = vc P (.cond (.tmp 23) c6s7 .skip) ρ H Q := rfl
@[go_sem] def c6r9 : List GOp := [(.op none (some 24) (.v (.bld [(.slice none 0 0)] []))),
  (.op none (some 25) (.bx 40 (.tmp 24))),
  (.op none (some 5) (.v (.mv (.tmp 25))))]
@[go_sem] def c6r10 : List GOp := [(.op none (some 26) (.v (.mv (.tmp 5)))),
  (.op none (some 27) (.v (.mv (.tmp 0)))),
  (.op none (some 28) (.call 17 [(.tmp 26), (.tmp 27)]))]
@[go_sem] def c6r11 : List GOp := [(.op none (some 29) (.v (.mv (.tmp 5)))),
  (.op none (some 30) (.call 18 [(.tmp 29)])),
  (.op none (some 6) (.v (.mv (.tmp 30))))]
@[go_sem] def c6r12 : List GOp := [(.op none (some 7) (.v (.mv (.const (.int .i64 0)))))]
@[go_sem] def c6r13 : List GOp := [(.op none (some 31) (.v (.mv (.tmp 7)))),
  (.op none (some 32) (.v (.mv (.tmp 6)))),
  (.op none (some 33) (.v (.len (.tmp 32)))),
  (.op none (some 34) (.v (.bin .lss (.tmp 31) (.tmp 33))))]
def c6s14 : SCode := (.cond (.tmp 34) .skip (.exit 0))
@[go_sem] theorem c6s14eq (P : Program) (ρ : Env) (H : Heap) (Q : Post) : vc P c6s14 ρ H Q = vc P (.cond (.tmp 34) .skip (.exit 0)) ρ H Q := rfl
@[go_sem] def c6r15 : List GOp := [(.op none (some 37) (.v (.mv (.tmp 6)))),
  (.op none (some 38) (.v (.mv (.tmp 7)))),
  (.op none (some 39) (.v (.ix 1 (.tmp 37) (.tmp 38)))),
  (.op none (some 40) (.ld none (.tmp 39))),
  (.op none (some 41) (.v (.bin .add (.tmp 40) (.const (.int .u8 1))))),
  (.op none (some 42) (.v (.ix 1 (.tmp 37) (.tmp 38)))),
  (.op none none (.st 1 (.tmp 42) (.tmp 41)))]
@[go_sem] def c6r16 : List GOp := [(.op none (some 35) (.v (.mv (.tmp 7)))),
  (.op none (some 36) (.v (.bin .add (.tmp 35) (.const (.int .i64 1))))),
  (.op none (some 7) (.v (.mv (.tmp 36))))]
def c6s17 : SCode := (.ops c6r16 c6k)
@[go_sem] theorem c6s17eq (P : Program) (ρ : Env) (H : Heap) (Q : Post) : vc P c6s17 ρ H Q = vc P (.ops c6r16 c6k) ρ H Q := rfl
def c6s18 : SCode := (.seq (.block 1 (.ops c6r15 c6k)) c6s17)
@[go_sem] theorem c6s18eq (P : Program) (ρ : Env) (H : Heap) (Q : Post) : vc P c6s18 ρ H Q = vc P (.seq (.block 1 (.ops c6r15 c6k)) c6s17) ρ H Q := rfl
def c6s19 : SCode := (.seq (.seq (.ops c6r13 c6k) c6s14) c6s18)
@[go_sem] theorem c6s19eq (P : Program) (ρ : Env) (H : Heap) (Q : Post) : vc P c6s19 ρ H Q = vc P (.seq (.seq (.ops c6r13 c6k) c6s14) c6s18) ρ H Q := rfl
def c6s20 : SCode := (.block 0 (.loop c6s19))
@[go_sem] theorem c6s20eq (P : Program) (ρ : Env) (H : Heap) (Q : Post) : vc P c6s20 ρ H Q = vc P (.block 0 (.loop c6s19)) ρ H Q := rfl
@[go_sem] def c6r21 : List GOp := [(.op none (some 43) (.v (.mv (.tmp 5)))),
  (.op none (some 44) (.v (.mv (.tmp 1)))),
  (.op none (some 45) (.call 17 [(.tmp 43), (.tmp 44)]))]
@[go_sem] def c6r22 : List GOp := [(.op none (some 46) (.v (.mv (.tmp 5)))),
  (.op none (some 47) (.call 18 [(.tmp 46)])),
  (.op none (some 8) (.v (.mv (.tmp 47))))]
@[go_sem] def c6r23 : List GOp := [(.op none (some 48) (.bs 5 0 [] [])),
  (.op none (some 49) (.v (.mv (.tmp 8)))),
  (.op none (some 50) (.ap 25 25 (.tmp 48) (.tmp 49))),
  (.op none (some 9) (.v (.mv (.tmp 50))))]
@[go_sem] def c6r24 : List GOp := [(.op none (some 51) (.v (.mv (.tmp 9)))),
  (.op none (some 52) (.call 14 [(.tmp 51)])),
  (.op none (some 10) (.v (.mv (.tmp 52))))]
@[go_sem] def c6r25 : List GOp := [(.op none (some 11) (.v (.mv (.const (.int .i64 0)))))]
@[go_sem] def c6r26 : List GOp := [(.op none (some 53) (.v (.mv (.tmp 11)))),
  (.op none (some 54) (.v (.mv (.tmp 9)))),
  (.op none (some 55) (.v (.len (.tmp 54)))),
  (.op none (some 56) (.v (.bin .lss (.tmp 53) (.tmp 55))))]
def c6s27 : SCode := (.cond (.tmp 56) .skip (.exit 2))
@[go_sem] theorem c6s27eq (P : Program) (ρ : Env) (H : Heap) (Q : Post) : vc P c6s27 ρ H Q = vc P (.cond (.tmp 56) .skip (.exit 2)) ρ H Q := rfl
@[go_sem] def c6r28 : List GOp := [(.op none (some 59) (.v (.mv (.tmp 9)))),
  (.op none (some 60) (.v (.mv (.tmp 11)))),
  (.op none (some 61) (.v (.ix 1 (.tmp 59) (.tmp 60)))),
  (.op none (some 62) (.ld none (.tmp 61))),
  (.op none (some 63) (.v (.bin .add (.tmp 62) (.const (.int .u8 1))))),
  (.op none (some 64) (.v (.ix 1 (.tmp 59) (.tmp 60)))),
  (.op none none (.st 1 (.tmp 64) (.tmp 63)))]
@[go_sem] def c6r29 : List GOp := [(.op none (some 57) (.v (.mv (.tmp 11)))),
  (.op none (some 58) (.v (.bin .add (.tmp 57) (.const (.int .i64 1))))),
  (.op none (some 11) (.v (.mv (.tmp 58))))]
def c6s30 : SCode := (.ops c6r29 c6k)
@[go_sem] theorem c6s30eq (P : Program) (ρ : Env) (H : Heap) (Q : Post) : vc P c6s30 ρ H Q = vc P (.ops c6r29 c6k) ρ H Q := rfl
def c6s31 : SCode := (.seq (.block 3 (.ops c6r28 c6k)) c6s30)
@[go_sem] theorem c6s31eq (P : Program) (ρ : Env) (H : Heap) (Q : Post) : vc P c6s31 ρ H Q = vc P (.seq (.block 3 (.ops c6r28 c6k)) c6s30) ρ H Q := rfl
def c6s32 : SCode := (.seq (.seq (.ops c6r26 c6k) c6s27) c6s31)
@[go_sem] theorem c6s32eq (P : Program) (ρ : Env) (H : Heap) (Q : Post) : vc P c6s32 ρ H Q = vc P (.seq (.seq (.ops c6r26 c6k) c6s27) c6s31) ρ H Q := rfl
def c6s33 : SCode := (.block 2 (.loop c6s32))
@[go_sem] theorem c6s33eq (P : Program) (ρ : Env) (H : Heap) (Q : Post) : vc P c6s33 ρ H Q = vc P (.block 2 (.loop c6s32)) ρ H Q := rfl
@[go_sem] def c6r34 : List GOp := [(.op none (some 65) (.v (.mv (.tmp 10)))),
  (.op none (some 66) (.call 19 [(.tmp 65)])),
  (.op none (some 12) (.v (.mv (.tmp 66))))]
@[go_sem] def c6r35 : List GOp := [(.op none (some 67) (.v (.mv (.tmp 12)))),
  (.op none (some 68) (.b2s (.tmp 67))),
  (.op none (some 69) (.v (.mv (.tmp 0)))),
  (.op none (some 70) (.b2s (.tmp 69))),
  (.op none (some 71) (.v (.bin .neq (.tmp 68) (.tmp 70))))]
@[go_sem] def c6r36 : List GOp := [(.op none (some 4) (.v (.mv (.const (.bool false)))))]
def c6s37 : SCode := (.seq (.ops c6r36 c6k) .ret)
@[go_sem] theorem c6s37eq (P : Program) (ρ : Env) (H : Heap) (Q : Post) : vc P c6s37 ρ H Q = vc P (.seq (.ops c6r36 c6k) .ret) ρ H Q := rfl
def c6s38 : SCode := (.cond (.tmp 71) c6s37 .skip)
@[go_sem] theorem c6s38eq (P : Program) (ρ : Env) (H : Heap) (Q : Post) : vc P c6s38 ρ H Q = vc P (.cond (.tmp 71) c6s37 .skip) ρ H Q := rfl
@[go_sem] def c6r39 : List GOp := [(.op none (some 13) (.v (.mv (.const (.int .i64 0)))))]
@[go_sem] def c6r40 : List GOp := [(.op none (some 72) (.v (.mv (.tmp 13)))),
  (.op none (some 73) (.v (.mv (.tmp 12)))),
  (.op none (some 74) (.v (.len (.tmp 73)))),
  (.op none (some 75) (.v (.bin .lss (.tmp 72) (.tmp 74))))]
def c6s41 : SCode := (.cond (.tmp 75) .skip (.exit 4))
@[go_sem] theorem c6s41eq (P : Program) (ρ : Env) (H : Heap) (Q : Post) : vc P c6s41 ρ H Q = vc P (.cond (.tmp 75) .skip (.exit 4)) ρ H Q := rfl
@[go_sem] def c6r42 : List GOp := [(.op none (some 78) (.v (.mv (.tmp 12)))),
  (.op none (some 79) (.v (.mv (.tmp 13)))),
  (.op none (some 80) (.v (.ix 1 (.tmp 78) (.tmp 79)))),
  (.op none (some 81) (.ld none (.tmp 80))),
  (.op none (some 82) (.v (.bin .add (.tmp 81) (.const (.int .u8 1))))),
  (.op none (some 83) (.v (.ix 1 (.tmp 78) (.tmp 79)))),
  (.op none none (.st 1 (.tmp 83) (.tmp 82)))]
@[go_sem] def c6r43 : List GOp := [(.op none (some 76) (.v (.mv (.tmp 13)))),
  (.op none (some 77) (.v (.bin .add (.tmp 76) (.const (.int .i64 1))))),
  (.op none (some 13) (.v (.mv (.tmp 77))))]
def c6s44 : SCode := (.ops c6r43 c6k)
@[go_sem] theorem c6s44eq (P : Program) (ρ : Env) (H : Heap) (Q : Post) : vc P c6s44 ρ H Q = vc P (.ops c6r43 c6k) ρ H Q := rfl
def c6s45 : SCode := (.seq (.block 5 (.ops c6r42 c6k)) c6s44)
@[go_sem] theorem c6s45eq (P : Program) (ρ : Env) (H : Heap) (Q : Post) : vc P c6s45 ρ H Q = vc P (.seq (.block 5 (.ops c6r42 c6k)) c6s44) ρ H Q := rfl
def c6s46 : SCode := (.seq (.seq (.ops c6r40 c6k) c6s41) c6s45)
@[go_sem] theorem c6s46eq (P : Program) (ρ : Env) (H : Heap) (Q : Post) : vc P c6s46 ρ H Q = vc P (.seq (.seq (.ops c6r40 c6k) c6s41) c6s45) ρ H Q := rfl
def c6s47 : SCode := (.block 4 (.loop c6s46))
@[go_sem] theorem c6s47eq (P : Program) (ρ : Env) (H : Heap) (Q : Post) : vc P c6s47 ρ H Q = vc P (.block 4 (.loop c6s46)) ρ H Q := rfl
@[go_sem] def c6d48 : DT := (.rd none (some 84) (.v (.mv (.tmp 10))) [1, 8, 13] (.rd none (some 87) (.v (.mv (.tmp 1))) [8, 13] (.rd none (some 88) (.b2s (.tmp 87)) [8, 13] (.ef 1 none (some 85) (.call 19 [(.tmp 84)]) (.rd none (some 86) (.b2s (.tmp 85)) [8, 13] (.rd none (some 89) (.v (.bin .eql (.tmp 86) (.tmp 88))) [8, 13] (.rd none (some 90) (.v (.mv (.tmp 89))) [8, 13] (.rd (some (90, true)) (some 91) (.v (.mv (.tmp 10))) [8, 13] (.ef 8 (some (90, true)) (some 92) (.call 16 [(.tmp 91)]) (.rd (some (90, true)) (some 93) (.v (.bin .eql (.tmp 92) (.const (.int .i64 0)))) [13] (.rd none (some 94) (.v (.pick (.tmp 90) (.tmp 93) (.const (.bool false)))) [13] (.rd none (some 95) (.v (.mv (.tmp 94))) [13] (.rd (some (95, true)) (some 96) (.v (.mv (.tmp 5))) [13] (.rd (some (95, true)) (some 99) (.v (.mv (.tmp 8))) [] (.rd (some (95, true)) (some 100) (.b2s (.tmp 99)) [] (.ef 13 (some (95, true)) (some 97) (.call 18 [(.tmp 96)]) (.rd (some (95, true)) (some 98) (.b2s (.tmp 97)) [] (.rd (some (95, true)) (some 101) (.v (.bin .eql (.tmp 98) (.tmp 100))) [] (.rd none (some 102) (.v (.pick (.tmp 95) (.tmp 101) (.const (.bool false)))) [] (.rd none (some 4) (.v (.mv (.tmp 102))) [] .done))))))))))))))))))))
def c6s49 : SCode := (.seq (.de c6d48 c6k) .ret)
@[go_sem] theorem c6s49eq (P : Program) (ρ : Env) (H : Heap) (Q : Post) : vc P c6s49 ρ H Q = vc P (.seq (.de c6d48 c6k) .ret) ρ H Q := rfl
def c6s50 : SCode := (.seq (.seq (.ops c6r39 c6k) c6s47) c6s49)
@[go_sem] theorem c6s50eq (P : Program) (ρ : Env) (H : Heap) (Q : Post) : vc P c6s50 ρ H Q = vc P (.seq (.seq (.ops c6r39 c6k) c6s47) c6s49) ρ H Q := rfl
def c6s51 : SCode := (.seq (.seq (.ops c6r35 c6k) c6s38) c6s50)
@[go_sem] theorem c6s51eq (P : Program) (ρ : Env) (H : Heap) (Q : Post) : vc P c6s51 ρ H Q = vc P (.seq (.seq (.ops c6r35 c6k) c6s38) c6s50) ρ H Q := rfl
def c6s52 : SCode := (.seq (.ops c6r34 c6k) c6s51)
@[go_sem] theorem c6s52eq (P : Program) (ρ : Env) (H : Heap) (Q : Post) : vc P c6s52 ρ H Q = vc P (.seq (.ops c6r34 c6k) c6s51) ρ H Q := rfl
def c6s53 : SCode := (.seq (.seq (.ops c6r25 c6k) c6s33) c6s52)
@[go_sem] theorem c6s53eq (P : Program) (ρ : Env) (H : Heap) (Q : Post) : vc P c6s53 ρ H Q = vc P (.seq (.seq (.ops c6r25 c6k) c6s33) c6s52) ρ H Q := rfl
def c6s54 : SCode := (.seq (.ops c6r24 c6k) c6s53)
@[go_sem] theorem c6s54eq (P : Program) (ρ : Env) (H : Heap) (Q : Post) : vc P c6s54 ρ H Q = vc P (.seq (.ops c6r24 c6k) c6s53) ρ H Q := rfl
def c6s55 : SCode := (.seq (.ops c6r23 c6k) c6s54)
@[go_sem] theorem c6s55eq (P : Program) (ρ : Env) (H : Heap) (Q : Post) : vc P c6s55 ρ H Q = vc P (.seq (.ops c6r23 c6k) c6s54) ρ H Q := rfl
def c6s56 : SCode := (.seq (.ops c6r22 c6k) c6s55)
@[go_sem] theorem c6s56eq (P : Program) (ρ : Env) (H : Heap) (Q : Post) : vc P c6s56 ρ H Q = vc P (.seq (.ops c6r22 c6k) c6s55) ρ H Q := rfl
def c6s57 : SCode := (.seq (.ops c6r21 c6k) c6s56)
@[go_sem] theorem c6s57eq (P : Program) (ρ : Env) (H : Heap) (Q : Post) : vc P c6s57 ρ H Q = vc P (.seq (.ops c6r21 c6k) c6s56) ρ H Q := rfl
def c6s58 : SCode := (.seq (.seq (.ops c6r12 c6k) c6s20) c6s57)
@[go_sem] theorem c6s58eq (P : Program) (ρ : Env) (H : Heap) (Q : Post) : vc P c6s58 ρ H Q = vc P (.seq (.seq (.ops c6r12 c6k) c6s20) c6s57) ρ H Q := rfl
def c6s59 : SCode := (.seq (.ops c6r11 c6k) c6s58)
@[go_sem] theorem c6s59eq (P : Program) (ρ : Env) (H : Heap) (Q : Post) : vc P c6s59 ρ H Q = vc P (.seq (.ops c6r11 c6k) c6s58) ρ H Q := rfl
def c6s60 : SCode := (.seq (.ops c6r10 c6k) c6s59)
@[go_sem] theorem c6s60eq (P : Program) (ρ : Env) (H : Heap) (Q : Post) : vc P c6s60 ρ H Q = vc P (.seq (.ops c6r10 c6k) c6s59) ρ H Q := rfl
def c6s61 : SCode := (.seq (.ops c6r9 c6k) c6s60)
@[go_sem] theorem c6s61eq (P : Program) (ρ : Env) (H : Heap) (Q : Post) : vc P c6s61 ρ H Q = vc P (.seq (.ops c6r9 c6k) c6s60) ρ H Q := rfl
def c6s62 : SCode := (.seq (.seq (.ops c6r5 c6k) c6s8) c6s61)
@[go_sem] theorem c6s62eq (P : Program) (ρ : Env) (H : Heap) (Q : Post) : vc P c6s62 ρ H Q = vc P (.seq (.seq (.ops c6r5 c6k) c6s8) c6s61) ρ H Q := rfl
def c6s63 : SCode := (.seq (.seq (.ops c6r1 c6k) c6s4) c6s62)
@[go_sem] theorem c6s63eq (P : Program) (ρ : Env) (H : Heap) (Q : Post) : vc P c6s63 ρ H Q = vc P (.seq (.seq (.ops c6r1 c6k) c6s4) c6s62) ρ H Q := rfl
def c6 : Gx.Fn := ⟨103, c6k, (.seq (.ops c6r0 c6k) c6s63), [(.tmp 4)]⟩
theorem c6ok : stripFn Try.prog c6k Try.f6 = some c6 := by kernel_rfl

/- plexuslaw01.WireReads -/
@[go_sem] def c7k : List Nat := [0, 1, 4, 5, 6, 7, 9, 17, 29, 43]
@[go_sem] def c7r0 : List GOp := [(.op none (some 4) (.v (.mv (.const (.bool false)))))]
@[go_sem] def c7r1 : List GOp := [(.op none (some 8) (.call 10 [])),
  (.op none (some 9) (.v (.un .not (.tmp 8))))]
@[go_sem] def c7r2 : List GOp := [(.op none (some 4) (.v (.mv (.const (.bool false)))))]
def c7s3 : SCode := (.seq (.ops c7r2 c7k) .ret)
@[go_sem] theorem c7s3eq (P : Program) (ρ : Env) (H : Heap) (Q : Post) : vc P c7s3 ρ H Q = vc P (.seq (.ops c7r2 c7k) .ret) ρ H Q := rfl
def c7s4 : SCode := (.cond (.tmp 9) c7s3 .skip)
@[go_sem] theorem c7s4eq (P : Program) (ρ : Env) (H : Heap) (Q : Post) : vc P c7s4 ρ H Q = vc P (.cond (.tmp 9) c7s3 .skip) ρ H Q := rfl
@[go_sem] def c7r5 : List GOp := [(.op none (some 10) (.v (.mv (.tmp 0)))),
  (.op none (some 11) (.call 11 [(.tmp 10)])),
  (.op none (some 12) (.v (.un .not (.tmp 11)))),
  (.op none (some 13) (.v (.mv (.tmp 12)))),
  (.sel 13 false [(14, (.v (.mv (.tmp 1)))), (15, (.v (.len (.tmp 14)))), (16, (.v (.bin .gtr (.tmp 15) (.const (.int .i64 2000)))))] 17 (.const (.bool true)) (.tmp 16))]
@[go_sem] def c7r6 : List GOp := [(.op none (some 4) (.v (.mv (.const (.bool true)))))]
def c7s7 : SCode := (.seq (.ops c7r6 c7k) .ret)
@[go_sem] theorem c7s7eq (P : Program) (ρ : Env) (H : Heap) (Q : Post) : vc P c7s7 ρ H Q = vc P (.seq (.ops c7r6 c7k) .ret) ρ H Q := rfl
def c7s8 : SCode := (.cond (.tmp 17) c7s7 .skip)
@[go_sem] theorem c7s8eq (P : Program) (ρ : Env) (H : Heap) (Q : Post) : vc P c7s8 ρ H Q = vc P (.cond (.tmp 17) c7s7 .skip) ρ H Q := rfl
@[go_sem] def c7r9 : List GOp := [(.op none (some 18) (.v (.mv (.tmp 0)))),
  (.op none (some 19) (.call 12 [(.tmp 18)])),
  (.op none (some 5) (.v (.mv (.tmp 19))))]
@[go_sem] def c7r10 : List GOp := [(.op none (some 20) (.bs 5 0 [] [])),
  (.op none (some 21) (.v (.mv (.tmp 5)))),
  (.op none (some 22) (.ap 25 25 (.tmp 20) (.tmp 21))),
  (.op none (some 23) (.v (.mv (.tmp 1)))),
  (.op none (some 24) (.ap 25 25 (.tmp 22) (.tmp 23))),
  (.op none (some 25) (.call 14 [(.tmp 24)])),
  (.op none (some 6) (.v (.mv (.tmp 25))))]
@[go_sem] def c7r11 : List GOp := [(.op none (some 7) (.v (.mv (.const (.int .i64 0)))))]
@[go_sem] def c7r12 : List GOp := [(.op none (some 26) (.v (.mv (.tmp 7)))),
  (.op none (some 27) (.v (.mv (.tmp 0)))),
  (.op none (some 28) (.v (.len (.tmp 27)))),
  (.op none (some 29) (.v (.bin .lss (.tmp 26) (.tmp 28))))]
def c7s13 : SCode := (.cond (.tmp 29) .skip (.exit 0))
@[go_sem] theorem c7s13eq (P : Program) (ρ : Env) (H : Heap) (Q : Post) : vc P c7s13 ρ H Q = vc P (.cond (.tmp 29) .skip (.exit 0)) ρ H Q := rfl
@[go_sem] def c7r14 : List GOp := [(.op none (some 32) (.v (.mv (.tmp 6)))),
  (.op none (some 33) (.v (.mv (.tmp 0)))),
  (.op none (some 34) (.v (.mv (.tmp 7)))),
  (.op none (some 35) (.v (.ix 3 (.tmp 33) (.tmp 34)))),
  (.op none (some 36) (.ld (some 3) (.tmp 35))),
  (.op none (some 37) (.call 20 [(.tmp 32), (.tmp 36)])),
  (.op none (some 38) (.v (.un .not (.tmp 37)))),
  (.op none (some 39) (.v (.mv (.tmp 38)))),
  (.op (some (39, false)) (some 40) (.v (.mv (.tmp 6)))),
  (.op (some (39, false)) (some 41) (.call 21 [(.tmp 40)])),
  (.sel 39 false [(42, (.v (.bin .neq (.tmp 41) (.const (.int .i64 0)))))] 43 (.const (.bool true)) (.tmp 42))]
@[go_sem] def c7r15 : List GOp := [(.op none (some 4) (.v (.mv (.const (.bool false)))))]
def c7s16 : SCode := (.seq (.ops c7r15 c7k) .ret)
@[go_sem] theorem c7s16eq (P : Program) (ρ : Env) (H : Heap) (Q : Post) : vc P c7s16 ρ H Q = vc P (.seq (.ops c7r15 c7k) .ret) ρ H Q := rfl
def c7s17 : SCode := (.cond (.tmp 43) c7s16 .skip)
@[go_sem] theorem c7s17eq (P : Program) (ρ : Env) (H : Heap) (Q : Post) : vc P c7s17 ρ H Q = vc P (.cond (.tmp 43) c7s16 .skip) ρ H Q := rfl
@[go_sem] def c7r18 : List GOp := [(.op none (some 30) (.v (.mv (.tmp 7)))),
  (.op none (some 31) (.v (.bin .add (.tmp 30) (.const (.int .i64 1))))),
  (.op none (some 7) (.v (.mv (.tmp 31))))]
def c7s19 : SCode := (.ops c7r18 c7k)
@[go_sem] theorem c7s19eq (P : Program) (ρ : Env) (H : Heap) (Q : Post) : vc P c7s19 ρ H Q = vc P (.ops c7r18 c7k) ρ H Q := rfl
def c7s20 : SCode := (.seq (.block 1 (.seq (.ops c7r14 c7k) c7s17)) c7s19)
@[go_sem] theorem c7s20eq (P : Program) (ρ : Env) (H : Heap) (Q : Post) : vc P c7s20 ρ H Q = vc P (.seq (.block 1 (.seq (.ops c7r14 c7k) c7s17)) c7s19) ρ H Q := rfl
def c7s21 : SCode := (.seq (.seq (.ops c7r12 c7k) c7s13) c7s20)
@[go_sem] theorem c7s21eq (P : Program) (ρ : Env) (H : Heap) (Q : Post) : vc P c7s21 ρ H Q = vc P (.seq (.seq (.ops c7r12 c7k) c7s13) c7s20) ρ H Q := rfl
def c7s22 : SCode := (.block 0 (.loop c7s21))
@[go_sem] theorem c7s22eq (P : Program) (ρ : Env) (H : Heap) (Q : Post) : vc P c7s22 ρ H Q = vc P (.block 0 (.loop c7s21)) ρ H Q := rfl
@[go_sem] def c7r23 : List GOp := [(.op none (some 44) (.v (.mv (.tmp 6)))),
  (.op none (some 45) (.call 22 [(.tmp 44)])),
  (.op none (some 46) (.v (.mv (.tmp 5)))),
  (.op none (some 47) (.v (.len (.tmp 46)))),
  (.op none (some 48) (.v (.bin .eql (.tmp 45) (.tmp 47)))),
  (.op none (some 49) (.v (.mv (.tmp 48)))),
  (.op (some (49, true)) (some 50) (.v (.mv (.tmp 6)))),
  (.op (some (49, true)) (some 51) (.call 23 [(.tmp 50)])),
  (.sel 49 true [(52, (.v (.mv (.tmp 1)))), (53, (.v (.len (.tmp 52)))), (54, (.v (.bin .eql (.tmp 51) (.tmp 53))))] 55 (.tmp 54) (.const (.bool false))),
  (.op none (some 56) (.v (.mv (.tmp 55)))),
  (.op (some (56, true)) (some 57) (.v (.mv (.tmp 6)))),
  (.op (some (56, true)) (some 58) (.call 16 [(.tmp 57)])),
  (.sel 56 true [(59, (.v (.bin .eql (.tmp 58) (.const (.int .i64 0))))), (60, (.v (.mv (.tmp 1)))), (61, (.v (.len (.tmp 60)))), (62, (.v (.bin .eql (.tmp 61) (.const (.int .i64 0))))), (63, (.v (.beq false (.tmp 59) (.tmp 62))))] 64 (.tmp 63) (.const (.bool false))),
  (.op none (some 4) (.v (.mv (.tmp 64))))]
def c7s24 : SCode := (.seq (.ops c7r23 c7k) .ret)
@[go_sem] theorem c7s24eq (P : Program) (ρ : Env) (H : Heap) (Q : Post) : vc P c7s24 ρ H Q = vc P (.seq (.ops c7r23 c7k) .ret) ρ H Q := rfl
def c7s25 : SCode := (.seq (.seq (.ops c7r11 c7k) c7s22) c7s24)
@[go_sem] theorem c7s25eq (P : Program) (ρ : Env) (H : Heap) (Q : Post) : vc P c7s25 ρ H Q = vc P (.seq (.seq (.ops c7r11 c7k) c7s22) c7s24) ρ H Q := rfl
def c7s26 : SCode := (.seq (.ops c7r10 c7k) c7s25)
@[go_sem] theorem c7s26eq (P : Program) (ρ : Env) (H : Heap) (Q : Post) : vc P c7s26 ρ H Q = vc P (.seq (.ops c7r10 c7k) c7s25) ρ H Q := rfl
def c7s27 : SCode := (.seq (.ops c7r9 c7k) c7s26)
@[go_sem] theorem c7s27eq (P : Program) (ρ : Env) (H : Heap) (Q : Post) : vc P c7s27 ρ H Q = vc P (.seq (.ops c7r9 c7k) c7s26) ρ H Q := rfl
def c7s28 : SCode := (.seq (.seq (.ops c7r5 c7k) c7s8) c7s27)
@[go_sem] theorem c7s28eq (P : Program) (ρ : Env) (H : Heap) (Q : Post) : vc P c7s28 ρ H Q = vc P (.seq (.seq (.ops c7r5 c7k) c7s8) c7s27) ρ H Q := rfl
def c7s29 : SCode := (.seq (.seq (.ops c7r1 c7k) c7s4) c7s28)
@[go_sem] theorem c7s29eq (P : Program) (ρ : Env) (H : Heap) (Q : Post) : vc P c7s29 ρ H Q = vc P (.seq (.seq (.ops c7r1 c7k) c7s4) c7s28) ρ H Q := rfl
def c7 : Gx.Fn := ⟨65, c7k, (.seq (.ops c7r0 c7k) c7s29), [(.tmp 4)]⟩
theorem c7ok : stripFn Try.prog c7k Try.f7 = some c7 := by kernel_rfl

/- plexuslaw01.WireCanonical -/
@[go_sem] def c8k : List Nat := [0, 1, 4, 5, 6, 8, 11, 16, 21, 26, 32, 35, 37]
@[go_sem] def c8r0 : List GOp := [(.op none (some 4) (.v (.mv (.const (.bool false)))))]
@[go_sem] def c8r1 : List GOp := [(.op none (some 7) (.call 10 [])),
  (.op none (some 8) (.v (.un .not (.tmp 7))))]
@[go_sem] def c8r2 : List GOp := [(.op none (some 4) (.v (.mv (.const (.bool false)))))]
def c8s3 : SCode := (.seq (.ops c8r2 c8k) .ret)
@[go_sem] theorem c8s3eq (P : Program) (ρ : Env) (H : Heap) (Q : Post) : vc P c8s3 ρ H Q = vc P (.seq (.ops c8r2 c8k) .ret) ρ H Q := rfl
def c8s4 : SCode := (.cond (.tmp 8) c8s3 .skip)
@[go_sem] theorem c8s4eq (P : Program) (ρ : Env) (H : Heap) (Q : Post) : vc P c8s4 ρ H Q = vc P (.cond (.tmp 8) c8s3 .skip) ρ H Q := rfl
@[go_sem] def c8r5 : List GOp := [(.op none (some 9) (.v (.mv (.tmp 0)))),
  (.op none (some 10) (.v (.len (.tmp 9)))),
  (.op none (some 11) (.v (.bin .gtr (.tmp 10) (.const (.int .i64 4000)))))]
@[go_sem] def c8r6 : List GOp := [(.op none (some 4) (.v (.mv (.const (.bool true)))))]
def c8s7 : SCode := (.seq (.ops c8r6 c8k) .ret)
@[go_sem] theorem c8s7eq (P : Program) (ρ : Env) (H : Heap) (Q : Post) : vc P c8s7 ρ H Q = vc P (.seq (.ops c8r6 c8k) .ret) ρ H Q := rfl
def c8s8 : SCode := (.cond (.tmp 11) c8s7 .skip)
@[go_sem] theorem c8s8eq (P : Program) (ρ : Env) (H : Heap) (Q : Post) : vc P c8s8 ρ H Q = vc P (.cond (.tmp 11) c8s7 .skip) ρ H Q := rfl
@[go_sem] def c8r9 : List GOp := [(.op none (some 12) (.v (.mv (.tmp 0)))),
  (.op none (some 13) (.call 14 [(.tmp 12)])),
  (.op none (some 14) (.v (.mv (.tmp 1)))),
  (.op none (some 15) (.v (.bld [(.int .i64 0), (.int .u64 0), (.slice none 0 0)] [(0, (1, (.tmp 14)))]))),
  (.op none (some 6) (.al 29 [(.int .i64 0), (.int .u64 0), (.slice none 0 0)])),
  (.op none (some 5) (.v (.mv (.tmp 13)))),
  (.op none none (.st 3 (.tmp 6) (.tmp 15)))]
@[go_sem] def c8r10 : List GOp := [(.op none (some 16) (.v (.mv (.tmp 1))))]
@[go_sem] def c8r11 : List GOp := [(.op none (some 22) (.v (.bin .eql (.tmp 16) (.const (.int .i64 0))))),
  (.op none (some 21) (.v (.mv (.tmp 22))))]
@[go_sem] def c8r12 : List GOp := [(.op none (some 23) (.v (.mv (.tmp 5)))),
  (.op none (some 24) (.call 15 [(.tmp 23)])),
  (.op none (some 25) (.v (.fa 1 (.tmp 6)))),
  (.op none none (.st 1 (.tmp 25) (.tmp 24)))]
@[go_sem] def c8r13 : List GOp := [(.op none (some 27) (.v (.bin .eql (.tmp 16) (.const (.int .i64 1))))),
  (.op none (some 26) (.v (.mv (.tmp 27))))]
@[go_sem] def c8r14 : List GOp := [(.op none (some 28) (.v (.mv (.tmp 5)))),
  (.op none (some 29) (.call 24 [(.tmp 28)])),
  (.op none (some 30) (.v (.cvi .u64 (.tmp 29)))),
  (.op none (some 31) (.v (.fa 1 (.tmp 6)))),
  (.op none none (.st 1 (.tmp 31) (.tmp 30)))]
@[go_sem] def c8r15 : List GOp := [(.op none (some 33) (.v (.bin .eql (.tmp 16) (.const (.int .i64 2))))),
  (.op none (some 32) (.v (.mv (.tmp 33))))]
@[go_sem] def c8r16 : List GOp := [(.op none (some 34) (.v (.mv (.tmp 5)))),
  (.op none (some 35) (.call 25 [(.tmp 34)]))]
@[go_sem] def c8r17 : List GOp := [(.op none (some 36) (.v (.fa 1 (.tmp 6)))),
  (.op none none (.st 1 (.tmp 36) (.const (.int .u64 1))))]
def c8s18 : SCode := (.cond (.tmp 35) (.ops c8r17 c8k) .skip)
@[go_sem] theorem c8s18eq (P : Program) (ρ : Env) (H : Heap) (Q : Post) : vc P c8s18 ρ H Q = vc P (.cond (.tmp 35) (.ops c8r17 c8k) .skip) ρ H Q := rfl
def c8s19 : SCode := (.seq (.ops c8r16 c8k) c8s18)
@[go_sem] theorem c8s19eq (P : Program) (ρ : Env) (H : Heap) (Q : Post) : vc P c8s19 ρ H Q = vc P (.seq (.ops c8r16 c8k) c8s18) ρ H Q := rfl
@[go_sem] def c8r20 : List GOp := [(.op none (some 38) (.v (.bin .eql (.tmp 16) (.const (.int .i64 3))))),
  (.op none (some 37) (.v (.mv (.tmp 38))))]
@[go_sem] def c8r21 : List GOp := [(.op none (some 39) (.v (.mv (.tmp 5)))),
  (.op none (some 40) (.call 19 [(.tmp 39)])),
  (.op none (some 41) (.v (.fa 2 (.tmp 6)))),
  (.op none none (.st 1 (.tmp 41) (.tmp 40)))]
@[go_sem] def c8r22 : List GOp := [(.op none (some 17) (.v (.mv (.tmp 5)))),
  (.op none (some 18) (.call 26 [(.tmp 17)])),
  (.op none (some 19) (.s2b 5 (.tmp 18))),
  (.op none (some 20) (.v (.fa 2 (.tmp 6)))),
  (.op none none (.st 1 (.tmp 20) (.tmp 19)))]
def c8s23 : SCode := (.cond (.tmp 37) (.ops c8r21 c8k) (.ops c8r22 c8k))
@[go_sem] theorem c8s23eq (P : Program) (ρ : Env) (H : Heap) (Q : Post) : vc P c8s23 ρ H Q = vc P (.cond (.tmp 37) (.ops c8r21 c8k) (.ops c8r22 c8k)) ρ H Q := rfl
def c8s24 : SCode := (.seq (.ops c8r20 c8k) c8s23)
@[go_sem] theorem c8s24eq (P : Program) (ρ : Env) (H : Heap) (Q : Post) : vc P c8s24 ρ H Q = vc P (.seq (.ops c8r20 c8k) c8s23) ρ H Q := rfl
def c8s25 : SCode := (.cond (.tmp 32) c8s19 c8s24)
@[go_sem] theorem c8s25eq (P : Program) (ρ : Env) (H : Heap) (Q : Post) : vc P c8s25 ρ H Q = vc P (.cond (.tmp 32) c8s19 c8s24) ρ H Q := rfl
def c8s26 : SCode := (.seq (.ops c8r15 c8k) c8s25)
@[go_sem] theorem c8s26eq (P : Program) (ρ : Env) (H : Heap) (Q : Post) : vc P c8s26 ρ H Q = vc P (.seq (.ops c8r15 c8k) c8s25) ρ H Q := rfl
def c8s27 : SCode := (.cond (.tmp 26) (.ops c8r14 c8k) c8s26)
@[go_sem] theorem c8s27eq (P : Program) (ρ : Env) (H : Heap) (Q : Post) : vc P c8s27 ρ H Q = vc P (.cond (.tmp 26) (.ops c8r14 c8k) c8s26) ρ H Q := rfl
def c8s28 : SCode := (.seq (.ops c8r13 c8k) c8s27)
@[go_sem] theorem c8s28eq (P : Program) (ρ : Env) (H : Heap) (Q : Post) : vc P c8s28 ρ H Q = vc P (.seq (.ops c8r13 c8k) c8s27) ρ H Q := rfl
def c8s29 : SCode := (.cond (.tmp 21) (.ops c8r12 c8k) c8s28)
@[go_sem] theorem c8s29eq (P : Program) (ρ : Env) (H : Heap) (Q : Post) : vc P c8s29 ρ H Q = vc P (.cond (.tmp 21) (.ops c8r12 c8k) c8s28) ρ H Q := rfl
def c8s30 : SCode := (.block 0 (.seq (.ops c8r11 c8k) c8s29))
@[go_sem] theorem c8s30eq (P : Program) (ρ : Env) (H : Heap) (Q : Post) : vc P c8s30 ρ H Q = vc P (.block 0 (.seq (.ops c8r11 c8k) c8s29)) ρ H Q := rfl
@[go_sem] def c8d31 : DT := (.rd none (some 42) (.v (.mv (.tmp 5))) [1, 5, 6] (.ef 1 none (some 43) (.call 16 [(.tmp 42)]) (.rd none (some 44) (.v (.bin .neq (.tmp 43) (.const (.int .i64 0)))) [5, 6] (.rd none (some 45) (.v (.mv (.tmp 44))) [5, 6] (.rd (some (45, false)) (some 46) (.ld (some 3) (.tmp 6)) [5, 6] (.rd (some (45, false)) (some 50) (.v (.mv (.tmp 0))) [] (.rd (some (45, false)) (some 51) (.b2s (.tmp 50)) [] (.ef 5 (some (45, false)) (some 47) (.bs 29 1 [(.int .i64 0), (.int .u64 0), (.slice none 0 0)] [(0, (3, (.tmp 46)))]) (.ef 6 (some (45, false)) (some 48) (.call 12 [(.tmp 47)]) (.rd (some (45, false)) (some 49) (.b2s (.tmp 48)) [] (.rd (some (45, false)) (some 52) (.v (.bin .eql (.tmp 49) (.tmp 51))) [] (.rd none (some 53) (.v (.pick (.tmp 45) (.const (.bool true)) (.tmp 52))) [] (.rd none (some 4) (.v (.mv (.tmp 53))) [] .done)))))))))))))
def c8s32 : SCode := (.seq (.de c8d31 c8k) .ret)
@[go_sem] theorem c8s32eq (P : Program) (ρ : Env) (H : Heap) (Q : Post) : vc P c8s32 ρ H Q = vc P (.seq (.de c8d31 c8k) .ret) ρ H Q := rfl
def c8s33 : SCode := (.seq (.seq (.ops c8r10 c8k) c8s30) c8s32)
@[go_sem] theorem c8s33eq (P : Program) (ρ : Env) (H : Heap) (Q : Post) : vc P c8s33 ρ H Q = vc P (.seq (.seq (.ops c8r10 c8k) c8s30) c8s32) ρ H Q := rfl
def c8s34 : SCode := (.seq (.ops c8r9 c8k) c8s33)
@[go_sem] theorem c8s34eq (P : Program) (ρ : Env) (H : Heap) (Q : Post) : vc P c8s34 ρ H Q = vc P (.seq (.ops c8r9 c8k) c8s33) ρ H Q := rfl
def c8s35 : SCode := (.seq (.seq (.ops c8r5 c8k) c8s8) c8s34)
@[go_sem] theorem c8s35eq (P : Program) (ρ : Env) (H : Heap) (Q : Post) : vc P c8s35 ρ H Q = vc P (.seq (.seq (.ops c8r5 c8k) c8s8) c8s34) ρ H Q := rfl
def c8s36 : SCode := (.seq (.seq (.ops c8r1 c8k) c8s4) c8s35)
@[go_sem] theorem c8s36eq (P : Program) (ρ : Env) (H : Heap) (Q : Post) : vc P c8s36 ρ H Q = vc P (.seq (.seq (.ops c8r1 c8k) c8s4) c8s35) ρ H Q := rfl
def c8 : Gx.Fn := ⟨54, c8k, (.seq (.ops c8r0 c8k) c8s36), [(.tmp 4)]⟩
theorem c8ok : stripFn Try.prog c8k Try.f8 = some c8 := by kernel_rfl

/- plexuslaw01.WireCut -/
@[go_sem] def c9k : List Nat := [0, 1, 4, 5, 6, 7, 8, 9, 10, 12, 15, 25, 33, 47, 60, 66, 86]
@[go_sem] def c9r0 : List GOp := [(.op none (some 4) (.v (.mv (.const (.bool false)))))]
@[go_sem] def c9r1 : List GOp := [(.op none (some 11) (.call 10 [])),
  (.op none (some 12) (.v (.un .not (.tmp 11))))]
@[go_sem] def c9r2 : List GOp := [(.op none (some 4) (.v (.mv (.const (.bool false)))))]
def c9s3 : SCode := (.seq (.ops c9r2 c9k) .ret)
@[go_sem] theorem c9s3eq (P : Program) (ρ : Env) (H : Heap) (Q : Post) : vc P c9s3 ρ H Q = vc P (.seq (.ops c9r2 c9k) .ret) ρ H Q := rfl
def c9s4 : SCode := (.cond (.tmp 12) c9s3 .skip)
@[go_sem] theorem c9s4eq (P : Program) (ρ : Env) (H : Heap) (Q : Post) : vc P c9s4 ρ H Q = vc P (.cond (.tmp 12) c9s3 .skip) ρ H Q := rfl
@[go_sem] def c9r5 : List GOp := [(.op none (some 13) (.v (.mv (.tmp 0)))),
  (.op none (some 14) (.call 11 [(.tmp 13)])),
  (.op none (some 15) (.v (.un .not (.tmp 14))))]
@[go_sem] def c9r6 : List GOp := [(.op none (some 4) (.v (.mv (.const (.bool true)))))]
def c9s7 : SCode := (.seq (.ops c9r6 c9k) .ret)
@[go_sem] theorem c9s7eq (P : Program) (ρ : Env) (H : Heap) (Q : Post) : vc P c9s7 ρ H Q = vc P (.seq (.ops c9r6 c9k) .ret) ρ H Q := rfl
def c9s8 : SCode := (.cond (.tmp 15) c9s7 .skip)
@[go_sem] theorem c9s8eq (P : Program) (ρ : Env) (H : Heap) (Q : Post) : vc P c9s8 ρ H Q = vc P (.cond (.tmp 15) c9s7 .skip) ρ H Q := rfl
@[go_sem] def c9r9 : List GOp := [(.op none (some 16) (.v (.mv (.tmp 0)))),
  (.op none (some 17) (.call 12 [(.tmp 16)])),
  (.op none (some 5) (.v (.mv (.tmp 17))))]
@[go_sem] def c9r10 : List GOp := [(.op none (some 18) (.v (.mv (.tmp 1)))),
  (.op none (some 19) (.v (.bin .lss (.tmp 18) (.const (.int .i64 0))))),
  (.op none (some 20) (.v (.mv (.tmp 19)))),
  (.sel 20 false [(21, (.v (.mv (.tmp 1)))), (22, (.v (.mv (.tmp 5)))), (23, (.v (.len (.tmp 22)))), (24, (.v (.bin .geq (.tmp 21) (.tmp 23))))] 25 (.const (.bool true)) (.tmp 24))]
@[go_sem] def c9r11 : List GOp := [(.op none (some 4) (.v (.mv (.const (.bool true)))))]
def c9s12 : SCode := (.seq (.ops c9r11 c9k) .ret)
@[go_sem] theorem c9s12eq (P : Program) (ρ : Env) (H : Heap) (Q : Post) : vc P c9s12 ρ H Q = vc P (.seq (.ops c9r11 c9k) .ret) ρ H Q := rfl
def c9s13 : SCode := (.cond (.tmp 25) c9s12 .skip)
@[go_sem] theorem c9s13eq (P : Program) (ρ : Env) (H : Heap) (Q : Post) : vc P c9s13 ρ H Q = vc P (.cond (.tmp 25) c9s12 .skip) ρ H Q := rfl
@[go_sem] def c9r14 : List GOp := [(.op none (some 26) (.v (.mv (.tmp 5)))),
  (.op none (some 27) (.v (.mv (.tmp 1)))),
  (.op none (some 28) (.v (.sl 1 (.tmp 26) none (some (.tmp 27))))),
  (.op none (some 29) (.call 14 [(.tmp 28)])),
  (.op none (some 6) (.v (.mv (.tmp 29))))]
@[go_sem] def c9r15 : List GOp := [(.op none (some 7) (.v (.mv (.const (.int .i64 0)))))]
@[go_sem] def c9r16 : List GOp := [(.op none (some 8) (.v (.mv (.const (.int .i64 0)))))]
@[go_sem] def c9r17 : List GOp := [(.op none (some 30) (.v (.mv (.tmp 8)))),
  (.op none (some 31) (.v (.mv (.tmp 0)))),
  (.op none (some 32) (.v (.len (.tmp 31)))),
  (.op none (some 33) (.v (.bin .lss (.tmp 30) (.tmp 32))))]
def c9s18 : SCode := (.cond (.tmp 33) .skip (.exit 0))
@[go_sem] theorem c9s18eq (P : Program) (ρ : Env) (H : Heap) (Q : Post) : vc P c9s18 ρ H Q = vc P (.cond (.tmp 33) .skip (.exit 0)) ρ H Q := rfl
@[go_sem] def c9r19 : List GOp := [(.op none (some 36) (.v (.mv (.tmp 7)))),
  (.op none (some 37) (.v (.mv (.tmp 0)))),
  (.op none (some 38) (.v (.mv (.tmp 8)))),
  (.op none (some 39) (.v (.mv (.tmp 8)))),
  (.op none (some 40) (.v (.bin .add (.tmp 39) (.const (.int .i64 1))))),
  (.op none (some 41) (.v (.sl 3 (.tmp 37) (some (.tmp 38)) (some (.tmp 40))))),
  (.op none (some 42) (.call 12 [(.tmp 41)])),
  (.op none (some 43) (.v (.len (.tmp 42)))),
  (.op none (some 44) (.v (.bin .add (.tmp 36) (.tmp 43)))),
  (.op none (some 9) (.v (.mv (.tmp 44))))]
@[go_sem] def c9r20 : List GOp := [(.op none (some 45) (.v (.mv (.tmp 9)))),
  (.op none (some 46) (.v (.mv (.tmp 1)))),
  (.op none (some 47) (.v (.bin .leq (.tmp 45) (.tmp 46))))]
@[go_sem] def c9r21 : List GOp := [(.op none (some 48) (.v (.mv (.tmp 6)))),
  (.op none (some 49) (.v (.mv (.tmp 0)))),
  (.op none (some 50) (.v (.mv (.tmp 8)))),
  (.op none (some 51) (.v (.ix 3 (.tmp 49) (.tmp 50)))),
  (.op none (some 52) (.ld (some 3) (.tmp 51))),
  (.op none (some 53) (.call 20 [(.tmp 48), (.tmp 52)])),
  (.op none (some 54) (.v (.un .not (.tmp 53)))),
  (.op none (some 55) (.v (.mv (.tmp 54)))),
  (.op (some (55, false)) (some 56) (.v (.mv (.tmp 6)))),
  (.op (some (55, false)) (some 57) (.call 22 [(.tmp 56)])),
  (.sel 55 false [(58, (.v (.mv (.tmp 9)))), (59, (.v (.bin .neq (.tmp 57) (.tmp 58))))] 60 (.const (.bool true)) (.tmp 59))]
@[go_sem] def c9r22 : List GOp := [(.op none (some 4) (.v (.mv (.const (.bool false)))))]
def c9s23 : SCode := (.seq (.ops c9r22 c9k) .ret)
@[go_sem] theorem c9s23eq (P : Program) (ρ : Env) (H : Heap) (Q : Post) : vc P c9s23 ρ H Q = vc P (.seq (.ops c9r22 c9k) .ret) ρ H Q := rfl
def c9s24 : SCode := (.cond (.tmp 60) c9s23 .skip)
@[go_sem] theorem c9s24eq (P : Program) (ρ : Env) (H : Heap) (Q : Post) : vc P c9s24 ρ H Q = vc P (.cond (.tmp 60) c9s23 .skip) ρ H Q := rfl
@[go_sem] def c9r25 : List GOp := [(.op none (some 61) (.v (.mv (.tmp 9)))),
  (.op none (some 7) (.v (.mv (.tmp 61))))]
def c9s26 : SCode := (.seq (.ops c9r25 c9k) (.exit 1))
@[go_sem] theorem c9s26eq (P : Program) (ρ : Env) (H : Heap) (Q : Post) : vc P c9s26 ρ H Q = vc P (.seq (.ops c9r25 c9k) (.exit 1)) ρ H Q := rfl
def c9s27 : SCode := (.seq (.seq (.ops c9r21 c9k) c9s24) c9s26)
@[go_sem] theorem c9s27eq (P : Program) (ρ : Env) (H : Heap) (Q : Post) : vc P c9s27 ρ H Q = vc P (.seq (.seq (.ops c9r21 c9k) c9s24) c9s26) ρ H Q := rfl
def c9s28 : SCode := (.cond (.tmp 47) c9s27 .skip)
@[go_sem] theorem c9s28eq (P : Program) (ρ : Env) (H : Heap) (Q : Post) : vc P c9s28 ρ H Q = vc P (.cond (.tmp 47) c9s27 .skip) ρ H Q := rfl
@[go_sem] def c9r29 : List GOp := [(.op none (some 62) (.v (.mv (.tmp 8)))),
  (.op none (some 10) (.v (.mv (.tmp 62))))]
@[go_sem] def c9r30 : List GOp := [(.op none (some 63) (.v (.mv (.tmp 10)))),
  (.op none (some 64) (.v (.mv (.tmp 0)))),
  (.op none (some 65) (.v (.len (.tmp 64)))),
  (.op none (some 66) (.v (.bin .lss (.tmp 63) (.tmp 65))))]
def c9s31 : SCode := (.cond (.tmp 66) .skip (.exit 2))
@[go_sem] theorem c9s31eq (P : Program) (ρ : Env) (H : Heap) (Q : Post) : vc P c9s31 ρ H Q = vc P (.cond (.tmp 66) .skip (.exit 2)) ρ H Q := rfl
@[go_sem] def c9r32 : List GOp := [(.op none (some 69) (.v (.mv (.tmp 6)))),
  (.op none (some 70) (.v (.mv (.tmp 0)))),
  (.op none (some 71) (.v (.mv (.tmp 10)))),
  (.op none (some 72) (.v (.ix 3 (.tmp 70) (.tmp 71)))),
  (.op none (some 73) (.ld (some 3) (.tmp 72))),
  (.op none (some 74) (.call 27 [(.tmp 69), (.tmp 73)])),
  (.op none (some 75) (.v (.un .not (.tmp 74)))),
  (.op none (some 76) (.v (.mv (.tmp 75)))),
  (.op (some (76, false)) (some 77) (.v (.mv (.tmp 6)))),
  (.op (some (76, false)) (some 78) (.call 21 [(.tmp 77)])),
  (.sel 76 false [(79, (.v (.bin .neq (.tmp 78) (.const (.int .i64 2)))))] 80 (.const (.bool true)) (.tmp 79)),
  (.op none (some 81) (.v (.mv (.tmp 80)))),
  (.op (some (81, false)) (some 82) (.v (.mv (.tmp 6)))),
  (.op (some (81, false)) (some 83) (.call 22 [(.tmp 82)])),
  (.sel 81 false [(84, (.v (.mv (.tmp 7)))), (85, (.v (.bin .neq (.tmp 83) (.tmp 84))))] 86 (.const (.bool true)) (.tmp 85))]
@[go_sem] def c9r33 : List GOp := [(.op none (some 4) (.v (.mv (.const (.bool false)))))]
def c9s34 : SCode := (.seq (.ops c9r33 c9k) .ret)
@[go_sem] theorem c9s34eq (P : Program) (ρ : Env) (H : Heap) (Q : Post) : vc P c9s34 ρ H Q = vc P (.seq (.ops c9r33 c9k) .ret) ρ H Q := rfl
def c9s35 : SCode := (.cond (.tmp 86) c9s34 .skip)
@[go_sem] theorem c9s35eq (P : Program) (ρ : Env) (H : Heap) (Q : Post) : vc P c9s35 ρ H Q = vc P (.cond (.tmp 86) c9s34 .skip) ρ H Q := rfl
@[go_sem] def c9r36 : List GOp := [(.op none (some 67) (.v (.mv (.tmp 10)))),
  (.op none (some 68) (.v (.bin .add (.tmp 67) (.const (.int .i64 1))))),
  (.op none (some 10) (.v (.mv (.tmp 68))))]
def c9s37 : SCode := (.ops c9r36 c9k)
@[go_sem] theorem c9s37eq (P : Program) (ρ : Env) (H : Heap) (Q : Post) : vc P c9s37 ρ H Q = vc P (.ops c9r36 c9k) ρ H Q := rfl
def c9s38 : SCode := (.seq (.block 3 (.seq (.ops c9r32 c9k) c9s35)) c9s37)
@[go_sem] theorem c9s38eq (P : Program) (ρ : Env) (H : Heap) (Q : Post) : vc P c9s38 ρ H Q = vc P (.seq (.block 3 (.seq (.ops c9r32 c9k) c9s35)) c9s37) ρ H Q := rfl
def c9s39 : SCode := (.seq (.seq (.ops c9r30 c9k) c9s31) c9s38)
@[go_sem] theorem c9s39eq (P : Program) (ρ : Env) (H : Heap) (Q : Post) : vc P c9s39 ρ H Q = vc P (.seq (.seq (.ops c9r30 c9k) c9s31) c9s38) ρ H Q := rfl
def c9s40 : SCode := (.block 2 (.loop c9s39))
@[go_sem] theorem c9s40eq (P : Program) (ρ : Env) (H : Heap) (Q : Post) : vc P c9s40 ρ H Q = vc P (.block 2 (.loop c9s39)) ρ H Q := rfl
@[go_sem] def c9r41 : List GOp := [(.op none (some 87) (.v (.mv (.tmp 6)))),
  (.op none (some 88) (.call 16 [(.tmp 87)])),
  (.op none (some 89) (.v (.bin .eql (.tmp 88) (.const (.int .i64 2))))),
  (.op none (some 4) (.v (.mv (.tmp 89))))]
def c9s42 : SCode := (.seq (.ops c9r41 c9k) .ret)
@[go_sem] theorem c9s42eq (P : Program) (ρ : Env) (H : Heap) (Q : Post) : vc P c9s42 ρ H Q = vc P (.seq (.ops c9r41 c9k) .ret) ρ H Q := rfl
def c9s43 : SCode := (.seq (.seq (.ops c9r29 c9k) c9s40) c9s42)
@[go_sem] theorem c9s43eq (P : Program) (ρ : Env) (H : Heap) (Q : Post) : vc P c9s43 ρ H Q = vc P (.seq (.seq (.ops c9r29 c9k) c9s40) c9s42) ρ H Q := rfl
def c9s44 : SCode := (.seq (.seq (.ops c9r20 c9k) c9s28) c9s43)
@[go_sem] theorem c9s44eq (P : Program) (ρ : Env) (H : Heap) (Q : Post) : vc P c9s44 ρ H Q = vc P (.seq (.seq (.ops c9r20 c9k) c9s28) c9s43) ρ H Q := rfl
@[go_sem] def c9r45 : List GOp := [(.op none (some 34) (.v (.mv (.tmp 8)))),
  (.op none (some 35) (.v (.bin .add (.tmp 34) (.const (.int .i64 1))))),
  (.op none (some 8) (.v (.mv (.tmp 35))))]
def c9s46 : SCode := (.ops c9r45 c9k)
@[go_sem] theorem c9s46eq (P : Program) (ρ : Env) (H : Heap) (Q : Post) : vc P c9s46 ρ H Q = vc P (.ops c9r45 c9k) ρ H Q := rfl
def c9s47 : SCode := (.seq (.block 1 (.seq (.ops c9r19 c9k) c9s44)) c9s46)
@[go_sem] theorem c9s47eq (P : Program) (ρ : Env) (H : Heap) (Q : Post) : vc P c9s47 ρ H Q = vc P (.seq (.block 1 (.seq (.ops c9r19 c9k) c9s44)) c9s46) ρ H Q := rfl
def c9s48 : SCode := (.seq (.seq (.ops c9r17 c9k) c9s18) c9s47)
@[go_sem] theorem c9s48eq (P : Program) (ρ : Env) (H : Heap) (Q : Post) : vc P c9s48 ρ H Q = vc P (.seq (.seq (.ops c9r17 c9k) c9s18) c9s47) ρ H Q := rfl
def c9s49 : SCode := (.block 0 (.loop c9s48))
@[go_sem] theorem c9s49eq (P : Program) (ρ : Env) (H : Heap) (Q : Post) : vc P c9s49 ρ H Q = vc P (.block 0 (.loop c9s48)) ρ H Q := rfl
@[go_sem] def c9r50 : List GOp := [(.op none (some 4) (.v (.mv (.const (.bool false)))))]
def c9s51 : SCode := (.seq (.ops c9r50 c9k) .ret)
@[go_sem] theorem c9s51eq (P : Program) (ρ : Env) (H : Heap) (Q : Post) : vc P c9s51 ρ H Q = vc P (.seq (.ops c9r50 c9k) .ret) ρ H Q := rfl
def c9s52 : SCode := (.seq (.seq (.ops c9r16 c9k) c9s49) c9s51)
@[go_sem] theorem c9s52eq (P : Program) (ρ : Env) (H : Heap) (Q : Post) : vc P c9s52 ρ H Q = vc P (.seq (.seq (.ops c9r16 c9k) c9s49) c9s51) ρ H Q := rfl
def c9s53 : SCode := (.seq (.ops c9r15 c9k) c9s52)
@[go_sem] theorem c9s53eq (P : Program) (ρ : Env) (H : Heap) (Q : Post) : vc P c9s53 ρ H Q = vc P (.seq (.ops c9r15 c9k) c9s52) ρ H Q := rfl
def c9s54 : SCode := (.seq (.ops c9r14 c9k) c9s53)
@[go_sem] theorem c9s54eq (P : Program) (ρ : Env) (H : Heap) (Q : Post) : vc P c9s54 ρ H Q = vc P (.seq (.ops c9r14 c9k) c9s53) ρ H Q := rfl
def c9s55 : SCode := (.seq (.seq (.ops c9r10 c9k) c9s13) c9s54)
@[go_sem] theorem c9s55eq (P : Program) (ρ : Env) (H : Heap) (Q : Post) : vc P c9s55 ρ H Q = vc P (.seq (.seq (.ops c9r10 c9k) c9s13) c9s54) ρ H Q := rfl
def c9s56 : SCode := (.seq (.ops c9r9 c9k) c9s55)
@[go_sem] theorem c9s56eq (P : Program) (ρ : Env) (H : Heap) (Q : Post) : vc P c9s56 ρ H Q = vc P (.seq (.ops c9r9 c9k) c9s55) ρ H Q := rfl
def c9s57 : SCode := (.seq (.seq (.ops c9r5 c9k) c9s8) c9s56)
@[go_sem] theorem c9s57eq (P : Program) (ρ : Env) (H : Heap) (Q : Post) : vc P c9s57 ρ H Q = vc P (.seq (.seq (.ops c9r5 c9k) c9s8) c9s56) ρ H Q := rfl
def c9s58 : SCode := (.seq (.seq (.ops c9r1 c9k) c9s4) c9s57)
@[go_sem] theorem c9s58eq (P : Program) (ρ : Env) (H : Heap) (Q : Post) : vc P c9s58 ρ H Q = vc P (.seq (.seq (.ops c9r1 c9k) c9s4) c9s57) ρ H Q := rfl
def c9 : Gx.Fn := ⟨90, c9k, (.seq (.ops c9r0 c9k) c9s58), [(.tmp 4)]⟩
theorem c9ok : stripFn Try.prog c9k Try.f9 = some c9 := by kernel_rfl

/- plexuslaw01.awake -/
@[go_sem] def c10k : List Nat := [0, 1, 2, 3, 17, 41]
@[go_sem] def c10r0 : List GOp := [(.op none (some 0) (.v (.mv (.const (.bool false)))))]
@[go_sem] def c10r1 : List GOp := [(.op none (some 4) (.v (.bld [(.slice none 0 0)] []))),
  (.op none (some 5) (.bx 40 (.tmp 4))),
  (.op none (some 1) (.v (.mv (.tmp 5))))]
@[go_sem] def c10r2 : List GOp := [(.op none (some 6) (.v (.mv (.tmp 1)))),
  (.op none (some 7) (.call 28 [(.tmp 6), (.const (.int .u64 128))]))]
@[go_sem] def c10r3 : List GOp := [(.op none (some 8) (.v (.mv (.tmp 1)))),
  (.op none (some 9) (.call 29 [(.tmp 8), (.const (.int .i64 (-1)))]))]
@[go_sem] def c10r4 : List GOp := [(.op none (some 10) (.v (.mv (.tmp 1)))),
  (.op none (some 11) (.call 30 [(.tmp 10), (.const (.bool true))]))]
@[go_sem] def c10r5 : List GOp := [(.op none (some 12) (.v (.mv (.tmp 1)))),
  (.op none (some 13) (.call 31 [(.tmp 12), (.const (.string ⟨⟨[97, 98]⟩⟩))]))]
@[go_sem] def c10r6 : List GOp := [(.op none (some 14) (.v (.mv (.tmp 1)))),
  (.op none (some 15) (.call 18 [(.tmp 14)])),
  (.op none (some 16) (.b2s (.tmp 15))),
  (.op none (some 17) (.v (.bin .neq (.tmp 16) (.const (.string ⟨⟨[128, 1, 1, 1, 2, 97, 98]⟩⟩)))))]
@[go_sem] def c10r7 : List GOp := [(.op none (some 0) (.v (.mv (.const (.bool false)))))]
def c10s8 : SCode := (.seq (.ops c10r7 c10k) .ret)
@[go_sem] theorem c10s8eq (P : Program) (ρ : Env) (H : Heap) (Q : Post) : vc P c10s8 ρ H Q = vc P (.seq (.ops c10r7 c10k) .ret) ρ H Q := rfl
def c10s9 : SCode := (.cond (.tmp 17) c10s8 .skip)
@[go_sem] theorem c10s9eq (P : Program) (ρ : Env) (H : Heap) (Q : Post) : vc P c10s9 ρ H Q = vc P (.cond (.tmp 17) c10s8 .skip) ρ H Q := rfl
@[go_sem] def c10r10 : List GOp := [(.op none (some 18) (.bs 5 2 [(.int .u8 0), (.int .u8 0)] [(0, (1, (.const (.int .u8 128)))), (1, (1, (.const (.int .u8 0))))])),
  (.op none (some 19) (.call 14 [(.tmp 18)])),
  (.op none (some 2) (.v (.mv (.tmp 19))))]
@[go_sem] def c10r11 : List GOp := [(.op none (some 20) (.v (.mv (.tmp 2)))),
  (.op none (some 21) (.v (.isnil false (.tmp 20)))),
  (.op none (some 22) (.v (.mv (.tmp 21)))),
  (.op (some (22, false)) (some 23) (.v (.mv (.tmp 2)))),
  (.op (some (22, false)) (some 24) (.call 15 [(.tmp 23)])),
  (.sel 22 false [(25, (.v (.bin .neq (.tmp 24) (.const (.int .u64 0)))))] 26 (.const (.bool true)) (.tmp 25)),
  (.op none (some 27) (.v (.mv (.tmp 26)))),
  (.op (some (27, false)) (some 28) (.v (.mv (.tmp 2)))),
  (.op (some (27, false)) (some 29) (.call 21 [(.tmp 28)])),
  (.sel 27 false [(30, (.v (.bin .neq (.tmp 29) (.const (.int .i64 2)))))] 31 (.const (.bool true)) (.tmp 30)),
  (.op none (some 32) (.v (.mv (.tmp 31)))),
  (.op (some (32, false)) (some 33) (.v (.mv (.tmp 2)))),
  (.op (some (32, false)) (some 34) (.call 22 [(.tmp 33)])),
  (.sel 32 false [(35, (.v (.bin .neq (.tmp 34) (.const (.int .i64 0)))))] 36 (.const (.bool true)) (.tmp 35)),
  (.op none (some 37) (.v (.mv (.tmp 36)))),
  (.op (some (37, false)) (some 38) (.v (.mv (.tmp 2)))),
  (.op (some (37, false)) (some 39) (.call 23 [(.tmp 38)])),
  (.sel 37 false [(40, (.v (.bin .neq (.tmp 39) (.const (.int .i64 2)))))] 41 (.const (.bool true)) (.tmp 40))]
@[go_sem] def c10r12 : List GOp := [(.op none (some 0) (.v (.mv (.const (.bool false)))))]
def c10s13 : SCode := (.seq (.ops c10r12 c10k) .ret)
@[go_sem] theorem c10s13eq (P : Program) (ρ : Env) (H : Heap) (Q : Post) : vc P c10s13 ρ H Q = vc P (.seq (.ops c10r12 c10k) .ret) ρ H Q := rfl
def c10s14 : SCode := (.cond (.tmp 41) c10s13 .skip)
@[go_sem] theorem c10s14eq (P : Program) (ρ : Env) (H : Heap) (Q : Post) : vc P c10s14 ρ H Q = vc P (.cond (.tmp 41) c10s13 .skip) ρ H Q := rfl
@[go_sem] def c10r15 : List GOp := [(.op none (some 42) (.bs 5 3 [(.int .u8 0), (.int .u8 0), (.int .u8 0)] [(0, (1, (.const (.int .u8 2)))), (1, (1, (.const (.int .u8 0)))), (2, (1, (.const (.int .u8 0))))])),
  (.op none (some 43) (.call 14 [(.tmp 42)])),
  (.op none (some 3) (.v (.mv (.tmp 43))))]
@[go_sem] def c10r16 : List GOp := [(.op none (some 44) (.v (.mv (.tmp 3)))),
  (.op none (some 45) (.v (.isnil true (.tmp 44)))),
  (.op none (some 46) (.v (.mv (.tmp 45)))),
  (.op (some (46, true)) (some 47) (.v (.mv (.tmp 3)))),
  (.op (some (46, true)) (some 48) (.call 32 [(.tmp 47)])),
  (.sel 46 true [(49, (.v (.bin .eql (.tmp 48) (.const (.int .i64 2)))))] 50 (.tmp 49) (.const (.bool false))),
  (.op none (some 51) (.v (.mv (.tmp 50)))),
  (.op (some (51, true)) (some 52) (.v (.mv (.tmp 3)))),
  (.op (some (51, true)) (some 53) (.call 21 [(.tmp 52)])),
  (.sel 51 true [(54, (.v (.bin .eql (.tmp 53) (.const (.int .i64 0)))))] 55 (.tmp 54) (.const (.bool false))),
  (.op none (some 56) (.v (.mv (.tmp 55)))),
  (.op (some (56, true)) (some 57) (.v (.mv (.tmp 3)))),
  (.op (some (56, true)) (some 58) (.call 23 [(.tmp 57)])),
  (.sel 56 true [(59, (.v (.bin .eql (.tmp 58) (.const (.int .i64 2)))))] 60 (.tmp 59) (.const (.bool false))),
  (.op none (some 61) (.v (.mv (.tmp 60)))),
  (.op (some (61, true)) (some 62) (.v (.mv (.tmp 3)))),
  (.op (some (61, true)) (some 63) (.call 16 [(.tmp 62)])),
  (.sel 61 true [(64, (.v (.bin .eql (.tmp 63) (.const (.int .i64 2)))))] 65 (.tmp 64) (.const (.bool false))),
  (.op none (some 0) (.v (.mv (.tmp 65))))]
def c10s17 : SCode := (.seq (.ops c10r16 c10k) .ret)
@[go_sem] theorem c10s17eq (P : Program) (ρ : Env) (H : Heap) (Q : Post) : vc P c10s17 ρ H Q = vc P (.seq (.ops c10r16 c10k) .ret) ρ H Q := rfl
def c10s18 : SCode := (.seq (.ops c10r15 c10k) c10s17)
@[go_sem] theorem c10s18eq (P : Program) (ρ : Env) (H : Heap) (Q : Post) : vc P c10s18 ρ H Q = vc P (.seq (.ops c10r15 c10k) c10s17) ρ H Q := rfl
def c10s19 : SCode := (.seq (.seq (.ops c10r11 c10k) c10s14) c10s18)
@[go_sem] theorem c10s19eq (P : Program) (ρ : Env) (H : Heap) (Q : Post) : vc P c10s19 ρ H Q = vc P (.seq (.seq (.ops c10r11 c10k) c10s14) c10s18) ρ H Q := rfl
def c10s20 : SCode := (.seq (.ops c10r10 c10k) c10s19)
@[go_sem] theorem c10s20eq (P : Program) (ρ : Env) (H : Heap) (Q : Post) : vc P c10s20 ρ H Q = vc P (.seq (.ops c10r10 c10k) c10s19) ρ H Q := rfl
def c10s21 : SCode := (.seq (.seq (.ops c10r6 c10k) c10s9) c10s20)
@[go_sem] theorem c10s21eq (P : Program) (ρ : Env) (H : Heap) (Q : Post) : vc P c10s21 ρ H Q = vc P (.seq (.seq (.ops c10r6 c10k) c10s9) c10s20) ρ H Q := rfl
def c10s22 : SCode := (.seq (.ops c10r5 c10k) c10s21)
@[go_sem] theorem c10s22eq (P : Program) (ρ : Env) (H : Heap) (Q : Post) : vc P c10s22 ρ H Q = vc P (.seq (.ops c10r5 c10k) c10s21) ρ H Q := rfl
def c10s23 : SCode := (.seq (.ops c10r4 c10k) c10s22)
@[go_sem] theorem c10s23eq (P : Program) (ρ : Env) (H : Heap) (Q : Post) : vc P c10s23 ρ H Q = vc P (.seq (.ops c10r4 c10k) c10s22) ρ H Q := rfl
def c10s24 : SCode := (.seq (.ops c10r3 c10k) c10s23)
@[go_sem] theorem c10s24eq (P : Program) (ρ : Env) (H : Heap) (Q : Post) : vc P c10s24 ρ H Q = vc P (.seq (.ops c10r3 c10k) c10s23) ρ H Q := rfl
def c10s25 : SCode := (.seq (.ops c10r2 c10k) c10s24)
@[go_sem] theorem c10s25eq (P : Program) (ρ : Env) (H : Heap) (Q : Post) : vc P c10s25 ρ H Q = vc P (.seq (.ops c10r2 c10k) c10s24) ρ H Q := rfl
def c10s26 : SCode := (.seq (.ops c10r1 c10k) c10s25)
@[go_sem] theorem c10s26eq (P : Program) (ρ : Env) (H : Heap) (Q : Post) : vc P c10s26 ρ H Q = vc P (.seq (.ops c10r1 c10k) c10s25) ρ H Q := rfl
def c10 : Gx.Fn := ⟨66, c10k, (.seq (.ops c10r0 c10k) c10s26), [(.tmp 0)]⟩
theorem c10ok : stripFn Try.prog c10k Try.f10 = some c10 := by kernel_rfl

/- plexuslaw01.small -/
@[go_sem] def c11k : List Nat := [0, 2, 3, 4, 8, 21]
@[go_sem] def c11r0 : List GOp := [(.op none (some 2) (.v (.mv (.const (.bool false)))))]
@[go_sem] def c11r1 : List GOp := [(.op none (some 3) (.v (.mv (.const (.int .i64 0)))))]
@[go_sem] def c11r2 : List GOp := [(.op none (some 4) (.v (.mv (.const (.int .i64 0)))))]
@[go_sem] def c11r3 : List GOp := [(.op none (some 5) (.v (.mv (.tmp 4)))),
  (.op none (some 6) (.v (.mv (.tmp 0)))),
  (.op none (some 7) (.v (.len (.tmp 6)))),
  (.op none (some 8) (.v (.bin .lss (.tmp 5) (.tmp 7))))]
def c11s4 : SCode := (.cond (.tmp 8) .skip (.exit 0))
@[go_sem] theorem c11s4eq (P : Program) (ρ : Env) (H : Heap) (Q : Post) : vc P c11s4 ρ H Q = vc P (.cond (.tmp 8) .skip (.exit 0)) ρ H Q := rfl
@[go_sem] def c11r5 : List GOp := [(.op none (some 11) (.v (.mv (.tmp 4)))),
  (.op none (some 12) (.v (.bin .geq (.tmp 11) (.const (.int .i64 40))))),
  (.op none (some 13) (.v (.mv (.tmp 12)))),
  (.op (some (13, false)) (some 14) (.v (.mv (.tmp 0)))),
  (.op (some (13, false)) (some 15) (.v (.mv (.tmp 4)))),
  (.op (some (13, false)) (some 16) (.v (.ix 3 (.tmp 14) (.tmp 15)))),
  (.sel 13 false [(17, (.v (.fa 2 (.tmp 16)))), (18, (.ld none (.tmp 17))), (19, (.v (.len (.tmp 18)))), (20, (.v (.bin .gtr (.tmp 19) (.const (.int .i64 2000)))))] 21 (.const (.bool true)) (.tmp 20))]
@[go_sem] def c11r6 : List GOp := [(.op none (some 2) (.v (.mv (.const (.bool false)))))]
def c11s7 : SCode := (.seq (.ops c11r6 c11k) .ret)
@[go_sem] theorem c11s7eq (P : Program) (ρ : Env) (H : Heap) (Q : Post) : vc P c11s7 ρ H Q = vc P (.seq (.ops c11r6 c11k) .ret) ρ H Q := rfl
def c11s8 : SCode := (.cond (.tmp 21) c11s7 .skip)
@[go_sem] theorem c11s8eq (P : Program) (ρ : Env) (H : Heap) (Q : Post) : vc P c11s8 ρ H Q = vc P (.cond (.tmp 21) c11s7 .skip) ρ H Q := rfl
@[go_sem] def c11r9 : List GOp := [(.op none (some 22) (.v (.mv (.tmp 3)))),
  (.op none (some 23) (.v (.mv (.tmp 0)))),
  (.op none (some 24) (.v (.mv (.tmp 4)))),
  (.op none (some 25) (.v (.ix 3 (.tmp 23) (.tmp 24)))),
  (.op none (some 26) (.v (.fa 2 (.tmp 25)))),
  (.op none (some 27) (.ld none (.tmp 26))),
  (.op none (some 28) (.v (.len (.tmp 27)))),
  (.op none (some 29) (.v (.bin .add (.tmp 22) (.tmp 28)))),
  (.op none (some 3) (.v (.mv (.tmp 29))))]
def c11s10 : SCode := (.ops c11r9 c11k)
@[go_sem] theorem c11s10eq (P : Program) (ρ : Env) (H : Heap) (Q : Post) : vc P c11s10 ρ H Q = vc P (.ops c11r9 c11k) ρ H Q := rfl
@[go_sem] def c11r11 : List GOp := [(.op none (some 9) (.v (.mv (.tmp 4)))),
  (.op none (some 10) (.v (.bin .add (.tmp 9) (.const (.int .i64 1))))),
  (.op none (some 4) (.v (.mv (.tmp 10))))]
def c11s12 : SCode := (.ops c11r11 c11k)
@[go_sem] theorem c11s12eq (P : Program) (ρ : Env) (H : Heap) (Q : Post) : vc P c11s12 ρ H Q = vc P (.ops c11r11 c11k) ρ H Q := rfl
def c11s13 : SCode := (.seq (.block 1 (.seq (.seq (.ops c11r5 c11k) c11s8) c11s10)) c11s12)
@[go_sem] theorem c11s13eq (P : Program) (ρ : Env) (H : Heap) (Q : Post) : vc P c11s13 ρ H Q = vc P (.seq (.block 1 (.seq (.seq (.ops c11r5 c11k) c11s8) c11s10)) c11s12) ρ H Q := rfl
def c11s14 : SCode := (.seq (.seq (.ops c11r3 c11k) c11s4) c11s13)
@[go_sem] theorem c11s14eq (P : Program) (ρ : Env) (H : Heap) (Q : Post) : vc P c11s14 ρ H Q = vc P (.seq (.seq (.ops c11r3 c11k) c11s4) c11s13) ρ H Q := rfl
def c11s15 : SCode := (.block 0 (.loop c11s14))
@[go_sem] theorem c11s15eq (P : Program) (ρ : Env) (H : Heap) (Q : Post) : vc P c11s15 ρ H Q = vc P (.block 0 (.loop c11s14)) ρ H Q := rfl
@[go_sem] def c11r16 : List GOp := [(.op none (some 30) (.v (.mv (.tmp 3)))),
  (.op none (some 31) (.v (.bin .leq (.tmp 30) (.const (.int .i64 2000))))),
  (.op none (some 2) (.v (.mv (.tmp 31))))]
def c11s17 : SCode := (.seq (.ops c11r16 c11k) .ret)
@[go_sem] theorem c11s17eq (P : Program) (ρ : Env) (H : Heap) (Q : Post) : vc P c11s17 ρ H Q = vc P (.seq (.ops c11r16 c11k) .ret) ρ H Q := rfl
def c11s18 : SCode := (.seq (.seq (.ops c11r2 c11k) c11s15) c11s17)
@[go_sem] theorem c11s18eq (P : Program) (ρ : Env) (H : Heap) (Q : Post) : vc P c11s18 ρ H Q = vc P (.seq (.seq (.ops c11r2 c11k) c11s15) c11s17) ρ H Q := rfl
def c11s19 : SCode := (.seq (.ops c11r1 c11k) c11s18)
@[go_sem] theorem c11s19eq (P : Program) (ρ : Env) (H : Heap) (Q : Post) : vc P c11s19 ρ H Q = vc P (.seq (.ops c11r1 c11k) c11s18) ρ H Q := rfl
def c11 : Gx.Fn := ⟨32, c11k, (.seq (.ops c11r0 c11k) c11s19), [(.tmp 2)]⟩
theorem c11ok : stripFn Try.prog c11k Try.f11 = some c11 := by kernel_rfl

/- plexuslaw01.written -/
@[go_sem] def c12k : List Nat := [0, 2, 3, 4, 10]
@[go_sem] def c12r0 : List GOp := [(.op none (some 2) (.v (.mv (.const (.slice none 0 0)))))]
@[go_sem] def c12r1 : List GOp := [(.op none (some 5) (.v (.bld [(.slice none 0 0)] []))),
  (.op none (some 6) (.bx 40 (.tmp 5))),
  (.op none (some 3) (.v (.mv (.tmp 6))))]
@[go_sem] def c12r2 : List GOp := [(.op none (some 4) (.v (.mv (.const (.int .i64 0)))))]
@[go_sem] def c12r3 : List GOp := [(.op none (some 7) (.v (.mv (.tmp 4)))),
  (.op none (some 8) (.v (.mv (.tmp 0)))),
  (.op none (some 9) (.v (.len (.tmp 8)))),
  (.op none (some 10) (.v (.bin .lss (.tmp 7) (.tmp 9))))]
def c12s4 : SCode := (.cond (.tmp 10) .skip (.exit 0))
@[go_sem] theorem c12s4eq (P : Program) (ρ : Env) (H : Heap) (Q : Post) : vc P c12s4 ρ H Q = vc P (.cond (.tmp 10) .skip (.exit 0)) ρ H Q := rfl
@[go_sem] def c12r5 : List GOp := [(.op none (some 13) (.v (.mv (.tmp 3)))),
  (.op none (some 14) (.v (.mv (.tmp 0)))),
  (.op none (some 15) (.v (.mv (.tmp 4)))),
  (.op none (some 16) (.v (.ix 3 (.tmp 14) (.tmp 15)))),
  (.op none (some 17) (.ld (some 3) (.tmp 16))),
  (.op none (some 18) (.call 33 [(.tmp 13), (.tmp 17)]))]
@[go_sem] def c12r6 : List GOp := [(.op none (some 11) (.v (.mv (.tmp 4)))),
  (.op none (some 12) (.v (.bin .add (.tmp 11) (.const (.int .i64 1))))),
  (.op none (some 4) (.v (.mv (.tmp 12))))]
def c12s7 : SCode := (.ops c12r6 c12k)
@[go_sem] theorem c12s7eq (P : Program) (ρ : Env) (H : Heap) (Q : Post) : vc P c12s7 ρ H Q = vc P (.ops c12r6 c12k) ρ H Q := rfl
def c12s8 : SCode := (.seq (.block 1 (.ops c12r5 c12k)) c12s7)
@[go_sem] theorem c12s8eq (P : Program) (ρ : Env) (H : Heap) (Q : Post) : vc P c12s8 ρ H Q = vc P (.seq (.block 1 (.ops c12r5 c12k)) c12s7) ρ H Q := rfl
def c12s9 : SCode := (.seq (.seq (.ops c12r3 c12k) c12s4) c12s8)
@[go_sem] theorem c12s9eq (P : Program) (ρ : Env) (H : Heap) (Q : Post) : vc P c12s9 ρ H Q = vc P (.seq (.seq (.ops c12r3 c12k) c12s4) c12s8) ρ H Q := rfl
def c12s10 : SCode := (.block 0 (.loop c12s9))
@[go_sem] theorem c12s10eq (P : Program) (ρ : Env) (H : Heap) (Q : Post) : vc P c12s10 ρ H Q = vc P (.block 0 (.loop c12s9)) ρ H Q := rfl
@[go_sem] def c12r11 : List GOp := [(.op none (some 19) (.v (.mv (.tmp 3)))),
  (.op none (some 20) (.call 18 [(.tmp 19)])),
  (.op none (some 2) (.v (.mv (.tmp 20))))]
def c12s12 : SCode := (.seq (.ops c12r11 c12k) .ret)
@[go_sem] theorem c12s12eq (P : Program) (ρ : Env) (H : Heap) (Q : Post) : vc P c12s12 ρ H Q = vc P (.seq (.ops c12r11 c12k) .ret) ρ H Q := rfl
def c12s13 : SCode := (.seq (.seq (.ops c12r2 c12k) c12s10) c12s12)
@[go_sem] theorem c12s13eq (P : Program) (ρ : Env) (H : Heap) (Q : Post) : vc P c12s13 ρ H Q = vc P (.seq (.seq (.ops c12r2 c12k) c12s10) c12s12) ρ H Q := rfl
def c12s14 : SCode := (.seq (.ops c12r1 c12k) c12s13)
@[go_sem] theorem c12s14eq (P : Program) (ρ : Env) (H : Heap) (Q : Post) : vc P c12s14 ρ H Q = vc P (.seq (.ops c12r1 c12k) c12s13) ρ H Q := rfl
def c12 : Gx.Fn := ⟨21, c12k, (.seq (.ops c12r0 c12k) c12s14), [(.tmp 2)]⟩
theorem c12ok : stripFn Try.prog c12k Try.f12 = some c12 := by kernel_rfl

/- plexusref01.All -/
@[go_sem] def c13k : List Nat := [0, 2, 3, 4, 9]
@[go_sem] def c13r0 : List GOp := [(.op none (some 2) (.v (.mv (.const (.slice none 0 0)))))]
@[go_sem] def c13r1 : List GOp := [(.op none (some 5) (.bs 5 0 [] [])),
  (.op none (some 3) (.v (.mv (.tmp 5))))]
@[go_sem] def c13r2 : List GOp := [(.op none (some 4) (.v (.mv (.const (.int .i64 0)))))]
@[go_sem] def c13r3 : List GOp := [(.op none (some 6) (.v (.mv (.tmp 4)))),
  (.op none (some 7) (.v (.mv (.tmp 0)))),
  (.op none (some 8) (.v (.len (.tmp 7)))),
  (.op none (some 9) (.v (.bin .lss (.tmp 6) (.tmp 8))))]
def c13s4 : SCode := (.cond (.tmp 9) .skip (.exit 0))
@[go_sem] theorem c13s4eq (P : Program) (ρ : Env) (H : Heap) (Q : Post) : vc P c13s4 ρ H Q = vc P (.cond (.tmp 9) .skip (.exit 0)) ρ H Q := rfl
@[go_sem] def c13r5 : List GOp := [(.op none (some 12) (.v (.mv (.tmp 3)))),
  (.op none (some 13) (.v (.mv (.tmp 0)))),
  (.op none (some 14) (.v (.mv (.tmp 4)))),
  (.op none (some 15) (.v (.ix 3 (.tmp 13) (.tmp 14)))),
  (.op none (some 16) (.ld (some 3) (.tmp 15))),
  (.op none (some 17) (.call 34 [(.const (.slice none 0 0)), (.tmp 16)])),
  (.op none (some 18) (.ap 25 25 (.tmp 12) (.tmp 17))),
  (.op none (some 3) (.v (.mv (.tmp 18))))]
@[go_sem] def c13r6 : List GOp := [(.op none (some 10) (.v (.mv (.tmp 4)))),
  (.op none (some 11) (.v (.bin .add (.tmp 10) (.const (.int .i64 1))))),
  (.op none (some 4) (.v (.mv (.tmp 11))))]
def c13s7 : SCode := (.ops c13r6 c13k)
@[go_sem] theorem c13s7eq (P : Program) (ρ : Env) (H : Heap) (Q : Post) : vc P c13s7 ρ H Q = vc P (.ops c13r6 c13k) ρ H Q := rfl
def c13s8 : SCode := (.seq (.block 1 (.ops c13r5 c13k)) c13s7)
@[go_sem] theorem c13s8eq (P : Program) (ρ : Env) (H : Heap) (Q : Post) : vc P c13s8 ρ H Q = vc P (.seq (.block 1 (.ops c13r5 c13k)) c13s7) ρ H Q := rfl
def c13s9 : SCode := (.seq (.seq (.ops c13r3 c13k) c13s4) c13s8)
@[go_sem] theorem c13s9eq (P : Program) (ρ : Env) (H : Heap) (Q : Post) : vc P c13s9 ρ H Q = vc P (.seq (.seq (.ops c13r3 c13k) c13s4) c13s8) ρ H Q := rfl
def c13s10 : SCode := (.block 0 (.loop c13s9))
@[go_sem] theorem c13s10eq (P : Program) (ρ : Env) (H : Heap) (Q : Post) : vc P c13s10 ρ H Q = vc P (.block 0 (.loop c13s9)) ρ H Q := rfl
@[go_sem] def c13r11 : List GOp := [(.op none (some 19) (.v (.mv (.tmp 3)))),
  (.op none (some 2) (.v (.mv (.tmp 19))))]
def c13s12 : SCode := (.seq (.ops c13r11 c13k) .ret)
@[go_sem] theorem c13s12eq (P : Program) (ρ : Env) (H : Heap) (Q : Post) : vc P c13s12 ρ H Q = vc P (.seq (.ops c13r11 c13k) .ret) ρ H Q := rfl
def c13s13 : SCode := (.seq (.seq (.ops c13r2 c13k) c13s10) c13s12)
@[go_sem] theorem c13s13eq (P : Program) (ρ : Env) (H : Heap) (Q : Post) : vc P c13s13 ρ H Q = vc P (.seq (.seq (.ops c13r2 c13k) c13s10) c13s12) ρ H Q := rfl
def c13s14 : SCode := (.seq (.ops c13r1 c13k) c13s13)
@[go_sem] theorem c13s14eq (P : Program) (ρ : Env) (H : Heap) (Q : Post) : vc P c13s14 ρ H Q = vc P (.seq (.ops c13r1 c13k) c13s13) ρ H Q := rfl
def c13 : Gx.Fn := ⟨20, c13k, (.seq (.ops c13r0 c13k) c13s14), [(.tmp 2)]⟩
theorem c13ok : stripFn Try.prog c13k Try.f13 = some c13 := by kernel_rfl

/- wire.NewReader -/
@[go_sem] def c14k : List Nat := [0, 2]
@[go_sem] def c14r0 : List GOp := [(.op none (some 2) (.v (.mv (.const (.pointer none)))))]
@[go_sem] def c14r1 : List GOp := [(.op none (some 3) (.bs 5 0 [] [])),
  (.op none (some 4) (.v (.mv (.tmp 0)))),
  (.op none (some 5) (.ap 25 25 (.tmp 3) (.tmp 4))),
  (.op none (some 6) (.v (.bld [(.slice none 0 0), (.int .i64 0), (.int .i64 0), (.int .i64 0)] [(0, (1, (.tmp 5)))]))),
  (.op none (some 7) (.bx 58 (.tmp 6))),
  (.op none (some 2) (.v (.mv (.tmp 7))))]
def c14s2 : SCode := (.seq (.ops c14r1 c14k) .ret)
@[go_sem] theorem c14s2eq (P : Program) (ρ : Env) (H : Heap) (Q : Post) : vc P c14s2 ρ H Q = vc P (.seq (.ops c14r1 c14k) .ret) ρ H Q := rfl
def c14 : Gx.Fn := ⟨8, c14k, (.seq (.ops c14r0 c14k) c14s2), [(.tmp 2)]⟩
theorem c14ok : stripFn Try.prog c14k Try.f14 = some c14 := by kernel_rfl

/- (*wire.Reader).Uint -/
@[go_sem] def c15k : List Nat := [0, 2, 3, 4, 5, 8, 16]
@[go_sem] def c15r0 : List GOp := [(.op none (some 2) (.v (.mv (.const (.int .u64 0)))))]
@[go_sem] def c15r1 : List GOp := [(.op none (some 6) (.v (.mv (.tmp 0)))),
  (.op none (some 7) (.call 35 [(.tmp 6)])),
  (.op none (some 8) (.v (.un .not (.tmp 7))))]
@[go_sem] def c15r2 : List GOp := [(.op none (some 2) (.v (.mv (.const (.int .u64 0)))))]
def c15s3 : SCode := (.seq (.ops c15r2 c15k) .ret)
@[go_sem] theorem c15s3eq (P : Program) (ρ : Env) (H : Heap) (Q : Post) : vc P c15s3 ρ H Q = vc P (.seq (.ops c15r2 c15k) .ret) ρ H Q := rfl
def c15s4 : SCode := (.cond (.tmp 8) c15s3 .skip)
@[go_sem] theorem c15s4eq (P : Program) (ρ : Env) (H : Heap) (Q : Post) : vc P c15s4 ρ H Q = vc P (.cond (.tmp 8) c15s3 .skip) ρ H Q := rfl
@[go_sem] def c15r5 : List GOp := [(.op none (some 10) (.v (.mv (.tmp 0)))),
  (.op none (some 11) (.call 36 [(.tmp 10)])),
  (.op none (some 9) (.v (.mv (.tmp 11)))),
  (.op none (some 12) (.v (.ext (.tmp 9) 0))),
  (.op none (some 13) (.v (.ext (.tmp 9) 1))),
  (.op none (some 14) (.v (.ext (.tmp 9) 2))),
  (.op none (some 3) (.v (.mv (.tmp 12)))),
  (.op none (some 4) (.v (.mv (.tmp 13)))),
  (.op none (some 5) (.v (.mv (.tmp 14))))]
@[go_sem] def c15r6 : List GOp := [(.op none (some 15) (.v (.mv (.tmp 5)))),
  (.op none (some 16) (.v (.un .not (.tmp 15))))]
@[go_sem] def c15r7 : List GOp := [(.op none (some 17) (.v (.mv (.tmp 0)))),
  (.op none (some 18) (.v (.nc (.tmp 17)))),
  (.op none (some 19) (.v (.fa 3 (.tmp 18)))),
  (.op none none (.st 1 (.tmp 19) (.const (.int .i64 2))))]
@[go_sem] def c15r8 : List GOp := [(.op none (some 2) (.v (.mv (.const (.int .u64 0)))))]
def c15s9 : SCode := (.seq (.ops c15r8 c15k) .ret)
@[go_sem] theorem c15s9eq (P : Program) (ρ : Env) (H : Heap) (Q : Post) : vc P c15s9 ρ H Q = vc P (.seq (.ops c15r8 c15k) .ret) ρ H Q := rfl
def c15s10 : SCode := (.seq (.ops c15r7 c15k) c15s9)
@[go_sem] theorem c15s10eq (P : Program) (ρ : Env) (H : Heap) (Q : Post) : vc P c15s10 ρ H Q = vc P (.seq (.ops c15r7 c15k) c15s9) ρ H Q := rfl
def c15s11 : SCode := (.cond (.tmp 16) c15s10 .skip)
@[go_sem] theorem c15s11eq (P : Program) (ρ : Env) (H : Heap) (Q : Post) : vc P c15s11 ρ H Q = vc P (.cond (.tmp 16) c15s10 .skip) ρ H Q := rfl
@[go_sem] def c15r12 : List GOp := [(.op none (some 20) (.v (.mv (.tmp 0)))),
  (.op none (some 21) (.v (.mv (.tmp 4)))),
  (.op none (some 22) (.v (.nc (.tmp 20)))),
  (.op none (some 23) (.v (.fa 1 (.tmp 22)))),
  (.op none none (.st 1 (.tmp 23) (.tmp 21)))]
@[go_sem] def c15r13 : List GOp := [(.op none (some 24) (.v (.mv (.tmp 3)))),
  (.op none (some 2) (.v (.mv (.tmp 24))))]
def c15s14 : SCode := (.seq (.ops c15r13 c15k) .ret)
@[go_sem] theorem c15s14eq (P : Program) (ρ : Env) (H : Heap) (Q : Post) : vc P c15s14 ρ H Q = vc P (.seq (.ops c15r13 c15k) .ret) ρ H Q := rfl
def c15s15 : SCode := (.seq (.ops c15r12 c15k) c15s14)
@[go_sem] theorem c15s15eq (P : Program) (ρ : Env) (H : Heap) (Q : Post) : vc P c15s15 ρ H Q = vc P (.seq (.ops c15r12 c15k) c15s14) ρ H Q := rfl
def c15s16 : SCode := (.seq (.seq (.ops c15r6 c15k) c15s11) c15s15)
@[go_sem] theorem c15s16eq (P : Program) (ρ : Env) (H : Heap) (Q : Post) : vc P c15s16 ρ H Q = vc P (.seq (.seq (.ops c15r6 c15k) c15s11) c15s15) ρ H Q := rfl
def c15s17 : SCode := (.seq (.ops c15r5 c15k) c15s16)
@[go_sem] theorem c15s17eq (P : Program) (ρ : Env) (H : Heap) (Q : Post) : vc P c15s17 ρ H Q = vc P (.seq (.ops c15r5 c15k) c15s16) ρ H Q := rfl
def c15s18 : SCode := (.seq (.seq (.ops c15r1 c15k) c15s4) c15s17)
@[go_sem] theorem c15s18eq (P : Program) (ρ : Env) (H : Heap) (Q : Post) : vc P c15s18 ρ H Q = vc P (.seq (.seq (.ops c15r1 c15k) c15s4) c15s17) ρ H Q := rfl
def c15 : Gx.Fn := ⟨25, c15k, (.seq (.ops c15r0 c15k) c15s18), [(.tmp 2)]⟩
theorem c15ok : stripFn Try.prog c15k Try.f15 = some c15 := by kernel_rfl

/- (*wire.Reader).End -/
@[go_sem] def c16k : List Nat := [0, 2, 12]
@[go_sem] def c16r0 : List GOp := [(.op none (some 2) (.v (.mv (.const (.int .i64 0)))))]
@[go_sem] def c16r1 : List GOp := [(.op none (some 3) (.v (.mv (.tmp 0)))),
  (.op none (some 4) (.v (.nc (.tmp 3)))),
  (.op none (some 5) (.v (.fa 3 (.tmp 4)))),
  (.op none (some 6) (.ld none (.tmp 5))),
  (.op none (some 7) (.v (.bin .eql (.tmp 6) (.const (.int .i64 0))))),
  (.op none (some 8) (.v (.mv (.tmp 7)))),
  (.op (some (8, true)) (some 9) (.v (.mv (.tmp 0)))),
  (.op (some (8, true)) (some 10) (.call 23 [(.tmp 9)])),
  (.sel 8 true [(11, (.v (.bin .gtr (.tmp 10) (.const (.int .i64 0)))))] 12 (.tmp 11) (.const (.bool false)))]
@[go_sem] def c16r2 : List GOp := [(.op none (some 2) (.v (.mv (.const (.int .i64 2)))))]
def c16s3 : SCode := (.seq (.ops c16r2 c16k) .ret)
@[go_sem] theorem c16s3eq (P : Program) (ρ : Env) (H : Heap) (Q : Post) : vc P c16s3 ρ H Q = vc P (.seq (.ops c16r2 c16k) .ret) ρ H Q := rfl
def c16s4 : SCode := (.cond (.tmp 12) c16s3 .skip)
@[go_sem] theorem c16s4eq (P : Program) (ρ : Env) (H : Heap) (Q : Post) : vc P c16s4 ρ H Q = vc P (.cond (.tmp 12) c16s3 .skip) ρ H Q := rfl
@[go_sem] def c16r5 : List GOp := [(.op none (some 13) (.v (.mv (.tmp 0)))),
  (.op none (some 14) (.v (.nc (.tmp 13)))),
  (.op none (some 15) (.v (.fa 3 (.tmp 14)))),
  (.op none (some 16) (.ld none (.tmp 15))),
  (.op none (some 2) (.v (.mv (.tmp 16))))]
def c16s6 : SCode := (.seq (.ops c16r5 c16k) .ret)
@[go_sem] theorem c16s6eq (P : Program) (ρ : Env) (H : Heap) (Q : Post) : vc P c16s6 ρ H Q = vc P (.seq (.ops c16r5 c16k) .ret) ρ H Q := rfl
def c16s7 : SCode := (.seq (.seq (.ops c16r1 c16k) c16s4) c16s6)
@[go_sem] theorem c16s7eq (P : Program) (ρ : Env) (H : Heap) (Q : Post) : vc P c16s7 ρ H Q = vc P (.seq (.seq (.ops c16r1 c16k) c16s4) c16s6) ρ H Q := rfl
def c16 : Gx.Fn := ⟨17, c16k, (.seq (.ops c16r0 c16k) c16s7), [(.tmp 2)]⟩
theorem c16ok : stripFn Try.prog c16k Try.f16 = some c16 := by kernel_rfl

/- (*wire.Writer).Bytes -/
@[go_sem] def c17k : List Nat := [0, 1]
@[go_sem] def c17r0 : List GOp := [(.op none (some 4) (.v (.mv (.tmp 0)))),
  (.op none (some 5) (.v (.mv (.tmp 1)))),
  (.op none (some 6) (.v (.len (.tmp 5)))),
  (.op none (some 7) (.v (.cvi .u64 (.tmp 6)))),
  (.op none (some 8) (.call 28 [(.tmp 4), (.tmp 7)]))]
@[go_sem] def c17r1 : List GOp := [(.op none (some 9) (.v (.mv (.tmp 0)))),
  (.op none (some 10) (.v (.mv (.tmp 0)))),
  (.op none (some 11) (.v (.nc (.tmp 10)))),
  (.op none (some 12) (.v (.fa 0 (.tmp 11)))),
  (.op none (some 13) (.ld none (.tmp 12))),
  (.op none (some 14) (.v (.mv (.tmp 1)))),
  (.op none (some 15) (.ap 25 25 (.tmp 13) (.tmp 14))),
  (.op none (some 16) (.v (.nc (.tmp 9)))),
  (.op none (some 17) (.v (.fa 0 (.tmp 16)))),
  (.op none none (.st 1 (.tmp 17) (.tmp 15)))]
def c17s2 : SCode := (.ops c17r1 c17k)
@[go_sem] theorem c17s2eq (P : Program) (ρ : Env) (H : Heap) (Q : Post) : vc P c17s2 ρ H Q = vc P (.ops c17r1 c17k) ρ H Q := rfl
def c17 : Gx.Fn := ⟨18, c17k, (.seq (.ops c17r0 c17k) c17s2), []⟩
theorem c17ok : stripFn Try.prog c17k Try.f17 = some c17 := by kernel_rfl

/- (*wire.Writer).Data -/
@[go_sem] def c18k : List Nat := [0, 2]
@[go_sem] def c18r0 : List GOp := [(.op none (some 2) (.v (.mv (.const (.slice none 0 0)))))]
@[go_sem] def c18r1 : List GOp := [(.op none (some 3) (.bs 5 0 [] [])),
  (.op none (some 4) (.v (.mv (.tmp 0)))),
  (.op none (some 5) (.v (.nc (.tmp 4)))),
  (.op none (some 6) (.v (.fa 0 (.tmp 5)))),
  (.op none (some 7) (.ld none (.tmp 6))),
  (.op none (some 8) (.ap 25 25 (.tmp 3) (.tmp 7))),
  (.op none (some 2) (.v (.mv (.tmp 8))))]
def c18s2 : SCode := (.seq (.ops c18r1 c18k) .ret)
@[go_sem] theorem c18s2eq (P : Program) (ρ : Env) (H : Heap) (Q : Post) : vc P c18s2 ρ H Q = vc P (.seq (.ops c18r1 c18k) .ret) ρ H Q := rfl
def c18 : Gx.Fn := ⟨9, c18k, (.seq (.ops c18r0 c18k) c18s2), [(.tmp 2)]⟩
theorem c18ok : stripFn Try.prog c18k Try.f18 = some c18 := by kernel_rfl

/- (*wire.Reader).Bytes -/
@[go_sem] def c19k : List Nat := [0, 2, 3, 4, 5, 8, 28]
@[go_sem] def c19r0 : List GOp := [(.op none (some 2) (.v (.mv (.const (.slice none 0 0)))))]
@[go_sem] def c19r1 : List GOp := [(.op none (some 6) (.v (.mv (.tmp 0)))),
  (.op none (some 7) (.call 35 [(.tmp 6)])),
  (.op none (some 8) (.v (.un .not (.tmp 7))))]
@[go_sem] def c19r2 : List GOp := [(.op none (some 2) (.v (.mv (.const (.slice none 0 0)))))]
def c19s3 : SCode := (.seq (.ops c19r2 c19k) .ret)
@[go_sem] theorem c19s3eq (P : Program) (ρ : Env) (H : Heap) (Q : Post) : vc P c19s3 ρ H Q = vc P (.seq (.ops c19r2 c19k) .ret) ρ H Q := rfl
def c19s4 : SCode := (.cond (.tmp 8) c19s3 .skip)
@[go_sem] theorem c19s4eq (P : Program) (ρ : Env) (H : Heap) (Q : Post) : vc P c19s4 ρ H Q = vc P (.cond (.tmp 8) c19s3 .skip) ρ H Q := rfl
@[go_sem] def c19r5 : List GOp := [(.op none (some 10) (.v (.mv (.tmp 0)))),
  (.op none (some 11) (.call 36 [(.tmp 10)])),
  (.op none (some 9) (.v (.mv (.tmp 11)))),
  (.op none (some 12) (.v (.ext (.tmp 9) 0))),
  (.op none (some 13) (.v (.ext (.tmp 9) 1))),
  (.op none (some 14) (.v (.ext (.tmp 9) 2))),
  (.op none (some 3) (.v (.mv (.tmp 12)))),
  (.op none (some 4) (.v (.mv (.tmp 13)))),
  (.op none (some 5) (.v (.mv (.tmp 14))))]
@[go_sem] def c19r6 : List GOp := [(.op none (some 15) (.v (.mv (.tmp 5)))),
  (.op none (some 16) (.v (.un .not (.tmp 15)))),
  (.op none (some 17) (.v (.mv (.tmp 16)))),
  (.sel 17 false [(18, (.v (.mv (.tmp 3)))), (19, (.v (.mv (.tmp 0)))), (20, (.v (.nc (.tmp 19)))), (21, (.v (.fa 0 (.tmp 20)))), (22, (.ld none (.tmp 21))), (23, (.v (.len (.tmp 22)))), (24, (.v (.mv (.tmp 4)))), (25, (.v (.bin .sub (.tmp 23) (.tmp 24)))), (26, (.v (.cvi .u64 (.tmp 25)))), (27, (.v (.bin .gtr (.tmp 18) (.tmp 26))))] 28 (.const (.bool true)) (.tmp 27))]
@[go_sem] def c19r7 : List GOp := [(.op none (some 29) (.v (.mv (.tmp 0)))),
  (.op none (some 30) (.v (.nc (.tmp 29)))),
  (.op none (some 31) (.v (.fa 3 (.tmp 30)))),
  (.op none none (.st 1 (.tmp 31) (.const (.int .i64 2))))]
@[go_sem] def c19r8 : List GOp := [(.op none (some 2) (.v (.mv (.const (.slice none 0 0)))))]
def c19s9 : SCode := (.seq (.ops c19r8 c19k) .ret)
@[go_sem] theorem c19s9eq (P : Program) (ρ : Env) (H : Heap) (Q : Post) : vc P c19s9 ρ H Q = vc P (.seq (.ops c19r8 c19k) .ret) ρ H Q := rfl
def c19s10 : SCode := (.seq (.ops c19r7 c19k) c19s9)
@[go_sem] theorem c19s10eq (P : Program) (ρ : Env) (H : Heap) (Q : Post) : vc P c19s10 ρ H Q = vc P (.seq (.ops c19r7 c19k) c19s9) ρ H Q := rfl
def c19s11 : SCode := (.cond (.tmp 28) c19s10 .skip)
@[go_sem] theorem c19s11eq (P : Program) (ρ : Env) (H : Heap) (Q : Post) : vc P c19s11 ρ H Q = vc P (.cond (.tmp 28) c19s10 .skip) ρ H Q := rfl
@[go_sem] def c19r12 : List GOp := [(.op none (some 32) (.v (.mv (.tmp 0)))),
  (.op none (some 33) (.v (.mv (.tmp 4)))),
  (.op none (some 34) (.v (.mv (.tmp 3)))),
  (.op none (some 35) (.v (.cvi .i64 (.tmp 34)))),
  (.op none (some 36) (.v (.bin .add (.tmp 33) (.tmp 35)))),
  (.op none (some 37) (.v (.nc (.tmp 32)))),
  (.op none (some 38) (.v (.fa 1 (.tmp 37)))),
  (.op none none (.st 1 (.tmp 38) (.tmp 36)))]
@[go_sem] def c19d13 : DT := (.rd none (some 40) (.v (.mv (.tmp 0))) [11] (.rd none (some 41) (.v (.nc (.tmp 40))) [11] (.rd none (some 42) (.v (.fa 0 (.tmp 41))) [11] (.rd none (some 43) (.ld none (.tmp 42)) [11] (.rd none (some 44) (.v (.mv (.tmp 4))) [11] (.rd none (some 45) (.v (.mv (.tmp 0))) [11] (.rd none (some 46) (.v (.nc (.tmp 45))) [11] (.rd none (some 47) (.v (.fa 1 (.tmp 46))) [11] (.rd none (some 48) (.ld none (.tmp 47)) [11] (.rd none (some 49) (.v (.sl 1 (.tmp 43) (some (.tmp 44)) (some (.tmp 48)))) [11] (.ef 0 none (some 39) (.bs 5 0 [] []) (.ef 11 none (some 50) (.ap 25 25 (.tmp 39) (.tmp 49)) (.rd none (some 2) (.v (.mv (.tmp 50))) [] .done)))))))))))))
def c19s14 : SCode := (.seq (.de c19d13 c19k) .ret)
@[go_sem] theorem c19s14eq (P : Program) (ρ : Env) (H : Heap) (Q : Post) : vc P c19s14 ρ H Q = vc P (.seq (.de c19d13 c19k) .ret) ρ H Q := rfl
def c19s15 : SCode := (.seq (.ops c19r12 c19k) c19s14)
@[go_sem] theorem c19s15eq (P : Program) (ρ : Env) (H : Heap) (Q : Post) : vc P c19s15 ρ H Q = vc P (.seq (.ops c19r12 c19k) c19s14) ρ H Q := rfl
def c19s16 : SCode := (.seq (.seq (.ops c19r6 c19k) c19s11) c19s15)
@[go_sem] theorem c19s16eq (P : Program) (ρ : Env) (H : Heap) (Q : Post) : vc P c19s16 ρ H Q = vc P (.seq (.seq (.ops c19r6 c19k) c19s11) c19s15) ρ H Q := rfl
def c19s17 : SCode := (.seq (.ops c19r5 c19k) c19s16)
@[go_sem] theorem c19s17eq (P : Program) (ρ : Env) (H : Heap) (Q : Post) : vc P c19s17 ρ H Q = vc P (.seq (.ops c19r5 c19k) c19s16) ρ H Q := rfl
def c19s18 : SCode := (.seq (.seq (.ops c19r1 c19k) c19s4) c19s17)
@[go_sem] theorem c19s18eq (P : Program) (ρ : Env) (H : Heap) (Q : Post) : vc P c19s18 ρ H Q = vc P (.seq (.seq (.ops c19r1 c19k) c19s4) c19s17) ρ H Q := rfl
def c19 : Gx.Fn := ⟨51, c19k, (.seq (.ops c19r0 c19k) c19s18), [(.tmp 2)]⟩
theorem c19ok : stripFn Try.prog c19k Try.f19 = some c19 := by kernel_rfl

/- plexuslaw01.get -/
@[go_sem] def c20k : List Nat := [0, 1, 3, 4, 6, 7, 14, 22, 31]
@[go_sem] def c20r0 : List GOp := [(.op none (some 3) (.bx 29 (.tmp 1))),
  (.op none (some 4) (.v (.mv (.const (.bool false)))))]
@[go_sem] def c20r1 : List GOp := [(.op none (some 5) (.v (.fa 0 (.tmp 3)))),
  (.op none (some 6) (.ld none (.tmp 5)))]
@[go_sem] def c20r2 : List GOp := [(.op none (some 8) (.v (.bin .eql (.tmp 6) (.const (.int .i64 0))))),
  (.op none (some 7) (.v (.mv (.tmp 8))))]
@[go_sem] def c20d3 : DT := (.rd none (some 9) (.v (.mv (.tmp 0))) [1] (.rd none (some 11) (.v (.fa 1 (.tmp 3))) [] (.rd none (some 12) (.ld none (.tmp 11)) [] (.ef 1 none (some 10) (.call 15 [(.tmp 9)]) (.rd none (some 13) (.v (.bin .eql (.tmp 10) (.tmp 12))) [] (.rd none (some 4) (.v (.mv (.tmp 13))) [] .done))))))
def c20s4 : SCode := (.seq (.de c20d3 c20k) .ret)
@[go_sem] theorem c20s4eq (P : Program) (ρ : Env) (H : Heap) (Q : Post) : vc P c20s4 ρ H Q = vc P (.seq (.de c20d3 c20k) .ret) ρ H Q := rfl
@[go_sem] def c20r5 : List GOp := [(.op none (some 15) (.v (.bin .eql (.tmp 6) (.const (.int .i64 1))))),
  (.op none (some 14) (.v (.mv (.tmp 15))))]
@[go_sem] def c20d6 : DT := (.rd none (some 16) (.v (.mv (.tmp 0))) [1] (.rd none (some 18) (.v (.fa 1 (.tmp 3))) [] (.rd none (some 19) (.ld none (.tmp 18)) [] (.rd none (some 20) (.v (.cvi .i64 (.tmp 19))) [] (.ef 1 none (some 17) (.call 24 [(.tmp 16)]) (.rd none (some 21) (.v (.bin .eql (.tmp 17) (.tmp 20))) [] (.rd none (some 4) (.v (.mv (.tmp 21))) [] .done)))))))
def c20s7 : SCode := (.seq (.de c20d6 c20k) .ret)
@[go_sem] theorem c20s7eq (P : Program) (ρ : Env) (H : Heap) (Q : Post) : vc P c20s7 ρ H Q = vc P (.seq (.de c20d6 c20k) .ret) ρ H Q := rfl
@[go_sem] def c20r8 : List GOp := [(.op none (some 23) (.v (.bin .eql (.tmp 6) (.const (.int .i64 2))))),
  (.op none (some 22) (.v (.mv (.tmp 23))))]
@[go_sem] def c20d9 : DT := (.rd none (some 24) (.v (.mv (.tmp 0))) [1] (.rd none (some 26) (.v (.fa 1 (.tmp 3))) [] (.rd none (some 27) (.ld none (.tmp 26)) [] (.rd none (some 28) (.v (.bin .rem (.tmp 27) (.const (.int .u64 2)))) [] (.rd none (some 29) (.v (.bin .eql (.tmp 28) (.const (.int .u64 1)))) [] (.ef 1 none (some 25) (.call 25 [(.tmp 24)]) (.rd none (some 30) (.v (.beq false (.tmp 25) (.tmp 29))) [] (.rd none (some 4) (.v (.mv (.tmp 30))) [] .done))))))))
def c20s10 : SCode := (.seq (.de c20d9 c20k) .ret)
@[go_sem] theorem c20s10eq (P : Program) (ρ : Env) (H : Heap) (Q : Post) : vc P c20s10 ρ H Q = vc P (.seq (.de c20d9 c20k) .ret) ρ H Q := rfl
@[go_sem] def c20r11 : List GOp := [(.op none (some 32) (.v (.bin .eql (.tmp 6) (.const (.int .i64 3))))),
  (.op none (some 31) (.v (.mv (.tmp 32))))]
@[go_sem] def c20d12 : DT := (.rd none (some 33) (.v (.mv (.tmp 0))) [1] (.rd none (some 36) (.v (.fa 2 (.tmp 3))) [] (.rd none (some 37) (.ld none (.tmp 36)) [] (.rd none (some 38) (.b2s (.tmp 37)) [] (.ef 1 none (some 34) (.call 19 [(.tmp 33)]) (.rd none (some 35) (.b2s (.tmp 34)) [] (.rd none (some 39) (.v (.bin .eql (.tmp 35) (.tmp 38))) [] (.rd none (some 4) (.v (.mv (.tmp 39))) [] .done))))))))
def c20s13 : SCode := (.seq (.de c20d12 c20k) .ret)
@[go_sem] theorem c20s13eq (P : Program) (ρ : Env) (H : Heap) (Q : Post) : vc P c20s13 ρ H Q = vc P (.seq (.de c20d12 c20k) .ret) ρ H Q := rfl
def c20s14 : SCode := (.cond (.tmp 31) c20s13 .skip)
@[go_sem] theorem c20s14eq (P : Program) (ρ : Env) (H : Heap) (Q : Post) : vc P c20s14 ρ H Q = vc P (.cond (.tmp 31) c20s13 .skip) ρ H Q := rfl
def c20s15 : SCode := (.seq (.ops c20r11 c20k) c20s14)
@[go_sem] theorem c20s15eq (P : Program) (ρ : Env) (H : Heap) (Q : Post) : vc P c20s15 ρ H Q = vc P (.seq (.ops c20r11 c20k) c20s14) ρ H Q := rfl
def c20s16 : SCode := (.cond (.tmp 22) c20s10 c20s15)
@[go_sem] theorem c20s16eq (P : Program) (ρ : Env) (H : Heap) (Q : Post) : vc P c20s16 ρ H Q = vc P (.cond (.tmp 22) c20s10 c20s15) ρ H Q := rfl
def c20s17 : SCode := (.seq (.ops c20r8 c20k) c20s16)
@[go_sem] theorem c20s17eq (P : Program) (ρ : Env) (H : Heap) (Q : Post) : vc P c20s17 ρ H Q = vc P (.seq (.ops c20r8 c20k) c20s16) ρ H Q := rfl
def c20s18 : SCode := (.cond (.tmp 14) c20s7 c20s17)
@[go_sem] theorem c20s18eq (P : Program) (ρ : Env) (H : Heap) (Q : Post) : vc P c20s18 ρ H Q = vc P (.cond (.tmp 14) c20s7 c20s17) ρ H Q := rfl
def c20s19 : SCode := (.seq (.ops c20r5 c20k) c20s18)
@[go_sem] theorem c20s19eq (P : Program) (ρ : Env) (H : Heap) (Q : Post) : vc P c20s19 ρ H Q = vc P (.seq (.ops c20r5 c20k) c20s18) ρ H Q := rfl
def c20s20 : SCode := (.cond (.tmp 7) c20s4 c20s19)
@[go_sem] theorem c20s20eq (P : Program) (ρ : Env) (H : Heap) (Q : Post) : vc P c20s20 ρ H Q = vc P (.cond (.tmp 7) c20s4 c20s19) ρ H Q := rfl
def c20s21 : SCode := (.block 0 (.seq (.ops c20r2 c20k) c20s20))
@[go_sem] theorem c20s21eq (P : Program) (ρ : Env) (H : Heap) (Q : Post) : vc P c20s21 ρ H Q = vc P (.block 0 (.seq (.ops c20r2 c20k) c20s20)) ρ H Q := rfl
@[go_sem] def c20d22 : DT := (.rd none (some 40) (.v (.mv (.tmp 0))) [1] (.rd none (some 42) (.v (.fa 2 (.tmp 3))) [] (.rd none (some 43) (.ld none (.tmp 42)) [] (.rd none (some 44) (.b2s (.tmp 43)) [] (.ef 1 none (some 41) (.call 26 [(.tmp 40)]) (.rd none (some 45) (.v (.bin .eql (.tmp 41) (.tmp 44))) [] (.rd none (some 4) (.v (.mv (.tmp 45))) [] .done)))))))
def c20s23 : SCode := (.seq (.de c20d22 c20k) .ret)
@[go_sem] theorem c20s23eq (P : Program) (ρ : Env) (H : Heap) (Q : Post) : vc P c20s23 ρ H Q = vc P (.seq (.de c20d22 c20k) .ret) ρ H Q := rfl
def c20s24 : SCode := (.seq (.seq (.ops c20r1 c20k) c20s21) c20s23)
@[go_sem] theorem c20s24eq (P : Program) (ρ : Env) (H : Heap) (Q : Post) : vc P c20s24 ρ H Q = vc P (.seq (.seq (.ops c20r1 c20k) c20s21) c20s23) ρ H Q := rfl
def c20 : Gx.Fn := ⟨46, c20k, (.seq (.ops c20r0 c20k) c20s24), [(.tmp 4)]⟩
theorem c20ok : stripFn Try.prog c20k Try.f20 = some c20 := by kernel_rfl

/- (*wire.Reader).Err -/
@[go_sem] def c21k : List Nat := [0, 2]
@[go_sem] def c21r0 : List GOp := [(.op none (some 2) (.v (.mv (.const (.int .i64 0)))))]
@[go_sem] def c21r1 : List GOp := [(.op none (some 3) (.v (.mv (.tmp 0)))),
  (.op none (some 4) (.v (.nc (.tmp 3)))),
  (.op none (some 5) (.v (.fa 3 (.tmp 4)))),
  (.op none (some 6) (.ld none (.tmp 5))),
  (.op none (some 2) (.v (.mv (.tmp 6))))]
def c21s2 : SCode := (.seq (.ops c21r1 c21k) .ret)
@[go_sem] theorem c21s2eq (P : Program) (ρ : Env) (H : Heap) (Q : Post) : vc P c21s2 ρ H Q = vc P (.seq (.ops c21r1 c21k) .ret) ρ H Q := rfl
def c21 : Gx.Fn := ⟨7, c21k, (.seq (.ops c21r0 c21k) c21s2), [(.tmp 2)]⟩
theorem c21ok : stripFn Try.prog c21k Try.f21 = some c21 := by kernel_rfl

/- (*wire.Reader).Offset -/
@[go_sem] def c22k : List Nat := [0, 2]
@[go_sem] def c22r0 : List GOp := [(.op none (some 2) (.v (.mv (.const (.int .i64 0)))))]
@[go_sem] def c22r1 : List GOp := [(.op none (some 3) (.v (.mv (.tmp 0)))),
  (.op none (some 4) (.v (.nc (.tmp 3)))),
  (.op none (some 5) (.v (.fa 1 (.tmp 4)))),
  (.op none (some 6) (.ld none (.tmp 5))),
  (.op none (some 2) (.v (.mv (.tmp 6))))]
def c22s2 : SCode := (.seq (.ops c22r1 c22k) .ret)
@[go_sem] theorem c22s2eq (P : Program) (ρ : Env) (H : Heap) (Q : Post) : vc P c22s2 ρ H Q = vc P (.seq (.ops c22r1 c22k) .ret) ρ H Q := rfl
def c22 : Gx.Fn := ⟨7, c22k, (.seq (.ops c22r0 c22k) c22s2), [(.tmp 2)]⟩
theorem c22ok : stripFn Try.prog c22k Try.f22 = some c22 := by kernel_rfl

/- (*wire.Reader).Left -/
@[go_sem] def c23k : List Nat := [0, 2]
@[go_sem] def c23r0 : List GOp := [(.op none (some 2) (.v (.mv (.const (.int .i64 0)))))]
@[go_sem] def c23r1 : List GOp := [(.op none (some 3) (.v (.mv (.tmp 0)))),
  (.op none (some 4) (.v (.nc (.tmp 3)))),
  (.op none (some 5) (.v (.fa 0 (.tmp 4)))),
  (.op none (some 6) (.ld none (.tmp 5))),
  (.op none (some 7) (.v (.len (.tmp 6)))),
  (.op none (some 8) (.v (.mv (.tmp 0)))),
  (.op none (some 9) (.v (.nc (.tmp 8)))),
  (.op none (some 10) (.v (.fa 1 (.tmp 9)))),
  (.op none (some 11) (.ld none (.tmp 10))),
  (.op none (some 12) (.v (.bin .sub (.tmp 7) (.tmp 11)))),
  (.op none (some 2) (.v (.mv (.tmp 12))))]
def c23s2 : SCode := (.seq (.dq c23r1 c23k) .ret)
@[go_sem] theorem c23s2eq (P : Program) (ρ : Env) (H : Heap) (Q : Post) : vc P c23s2 ρ H Q = vc P (.seq (.dq c23r1 c23k) .ret) ρ H Q := rfl
def c23 : Gx.Fn := ⟨13, c23k, (.seq (.ops c23r0 c23k) c23s2), [(.tmp 2)]⟩
theorem c23ok : stripFn Try.prog c23k Try.f23 = some c23 := by kernel_rfl

/- (*wire.Reader).Int -/
@[go_sem] def c24k : List Nat := [0, 2, 3]
@[go_sem] def c24r0 : List GOp := [(.op none (some 2) (.v (.mv (.const (.int .i64 0)))))]
@[go_sem] def c24r1 : List GOp := [(.op none (some 4) (.v (.mv (.tmp 0)))),
  (.op none (some 5) (.call 15 [(.tmp 4)])),
  (.op none (some 3) (.v (.mv (.tmp 5))))]
@[go_sem] def c24r2 : List GOp := [(.op none (some 6) (.v (.mv (.tmp 3)))),
  (.op none (some 7) (.v (.bin .shr (.tmp 6) (.const (.int .u64 1))))),
  (.op none (some 8) (.v (.cvi .i64 (.tmp 7)))),
  (.op none (some 9) (.v (.mv (.tmp 3)))),
  (.op none (some 10) (.v (.bin .and (.tmp 9) (.const (.int .u64 1))))),
  (.op none (some 11) (.v (.cvi .i64 (.tmp 10)))),
  (.op none (some 12) (.v (.un .neg (.tmp 11)))),
  (.op none (some 13) (.v (.bin .xor (.tmp 8) (.tmp 12)))),
  (.op none (some 2) (.v (.mv (.tmp 13))))]
def c24s3 : SCode := (.seq (.ops c24r2 c24k) .ret)
@[go_sem] theorem c24s3eq (P : Program) (ρ : Env) (H : Heap) (Q : Post) : vc P c24s3 ρ H Q = vc P (.seq (.ops c24r2 c24k) .ret) ρ H Q := rfl
def c24s4 : SCode := (.seq (.ops c24r1 c24k) c24s3)
@[go_sem] theorem c24s4eq (P : Program) (ρ : Env) (H : Heap) (Q : Post) : vc P c24s4 ρ H Q = vc P (.seq (.ops c24r1 c24k) c24s3) ρ H Q := rfl
def c24 : Gx.Fn := ⟨14, c24k, (.seq (.ops c24r0 c24k) c24s4), [(.tmp 2)]⟩
theorem c24ok : stripFn Try.prog c24k Try.f24 = some c24 := by kernel_rfl

/- (*wire.Reader).Bool -/
@[go_sem] def c25k : List Nat := [0, 2, 5, 28]
@[go_sem] def c25r0 : List GOp := [(.op none (some 2) (.v (.mv (.const (.bool false)))))]
@[go_sem] def c25r1 : List GOp := [(.op none (some 3) (.v (.mv (.tmp 0)))),
  (.op none (some 4) (.call 35 [(.tmp 3)])),
  (.op none (some 5) (.v (.un .not (.tmp 4))))]
@[go_sem] def c25r2 : List GOp := [(.op none (some 2) (.v (.mv (.const (.bool false)))))]
def c25s3 : SCode := (.seq (.ops c25r2 c25k) .ret)
@[go_sem] theorem c25s3eq (P : Program) (ρ : Env) (H : Heap) (Q : Post) : vc P c25s3 ρ H Q = vc P (.seq (.ops c25r2 c25k) .ret) ρ H Q := rfl
def c25s4 : SCode := (.cond (.tmp 5) c25s3 .skip)
@[go_sem] theorem c25s4eq (P : Program) (ρ : Env) (H : Heap) (Q : Post) : vc P c25s4 ρ H Q = vc P (.cond (.tmp 5) c25s3 .skip) ρ H Q := rfl
@[go_sem] def c25r5 : List GOp := [(.op none (some 6) (.v (.mv (.tmp 0)))),
  (.op none (some 7) (.v (.nc (.tmp 6)))),
  (.op none (some 8) (.v (.fa 1 (.tmp 7)))),
  (.op none (some 9) (.ld none (.tmp 8))),
  (.op none (some 10) (.v (.mv (.tmp 0)))),
  (.op none (some 11) (.v (.nc (.tmp 10)))),
  (.op none (some 12) (.v (.fa 0 (.tmp 11)))),
  (.op none (some 13) (.ld none (.tmp 12))),
  (.op none (some 14) (.v (.len (.tmp 13)))),
  (.op none (some 15) (.v (.bin .eql (.tmp 9) (.tmp 14)))),
  (.op none (some 16) (.v (.mv (.tmp 15)))),
  (.op (some (16, false)) (some 17) (.v (.mv (.tmp 0)))),
  (.op (some (16, false)) (some 18) (.v (.nc (.tmp 17)))),
  (.op (some (16, false)) (some 19) (.v (.fa 0 (.tmp 18)))),
  (.op (some (16, false)) (some 20) (.ld none (.tmp 19))),
  (.op (some (16, false)) (some 21) (.v (.mv (.tmp 0)))),
  (.op (some (16, false)) (some 22) (.v (.nc (.tmp 21)))),
  (.op (some (16, false)) (some 23) (.v (.fa 1 (.tmp 22)))),
  (.op (some (16, false)) (some 24) (.ld none (.tmp 23))),
  (.op (some (16, false)) (some 25) (.v (.ix 1 (.tmp 20) (.tmp 24)))),
  (.sel 16 false [(26, (.ld none (.tmp 25))), (27, (.v (.bin .gtr (.tmp 26) (.const (.int .u8 1)))))] 28 (.const (.bool true)) (.tmp 27))]
@[go_sem] def c25r6 : List GOp := [(.op none (some 29) (.v (.mv (.tmp 0)))),
  (.op none (some 30) (.v (.nc (.tmp 29)))),
  (.op none (some 31) (.v (.fa 3 (.tmp 30)))),
  (.op none none (.st 1 (.tmp 31) (.const (.int .i64 2))))]
@[go_sem] def c25r7 : List GOp := [(.op none (some 2) (.v (.mv (.const (.bool false)))))]
def c25s8 : SCode := (.seq (.ops c25r7 c25k) .ret)
@[go_sem] theorem c25s8eq (P : Program) (ρ : Env) (H : Heap) (Q : Post) : vc P c25s8 ρ H Q = vc P (.seq (.ops c25r7 c25k) .ret) ρ H Q := rfl
def c25s9 : SCode := (.seq (.ops c25r6 c25k) c25s8)
@[go_sem] theorem c25s9eq (P : Program) (ρ : Env) (H : Heap) (Q : Post) : vc P c25s9 ρ H Q = vc P (.seq (.ops c25r6 c25k) c25s8) ρ H Q := rfl
def c25s10 : SCode := (.cond (.tmp 28) c25s9 .skip)
@[go_sem] theorem c25s10eq (P : Program) (ρ : Env) (H : Heap) (Q : Post) : vc P c25s10 ρ H Q = vc P (.cond (.tmp 28) c25s9 .skip) ρ H Q := rfl
@[go_sem] def c25r11 : List GOp := [(.op none (some 32) (.v (.mv (.tmp 0)))),
  (.op none (some 33) (.v (.nc (.tmp 32)))),
  (.op none (some 34) (.v (.fa 1 (.tmp 33)))),
  (.op none (some 35) (.ld none (.tmp 34))),
  (.op none (some 36) (.v (.bin .add (.tmp 35) (.const (.int .i64 1))))),
  (.op none (some 37) (.v (.nc (.tmp 32)))),
  (.op none (some 38) (.v (.fa 1 (.tmp 37)))),
  (.op none none (.st 1 (.tmp 38) (.tmp 36)))]
@[go_sem] def c25r12 : List GOp := [(.op none (some 39) (.v (.mv (.tmp 0)))),
  (.op none (some 40) (.v (.nc (.tmp 39)))),
  (.op none (some 41) (.v (.fa 0 (.tmp 40)))),
  (.op none (some 42) (.ld none (.tmp 41))),
  (.op none (some 43) (.v (.mv (.tmp 0)))),
  (.op none (some 44) (.v (.nc (.tmp 43)))),
  (.op none (some 45) (.v (.fa 2 (.tmp 44)))),
  (.op none (some 46) (.ld none (.tmp 45))),
  (.op none (some 47) (.v (.ix 1 (.tmp 42) (.tmp 46)))),
  (.op none (some 48) (.ld none (.tmp 47))),
  (.op none (some 49) (.v (.bin .eql (.tmp 48) (.const (.int .u8 1))))),
  (.op none (some 2) (.v (.mv (.tmp 49))))]
def c25s13 : SCode := (.seq (.dq c25r12 c25k) .ret)
@[go_sem] theorem c25s13eq (P : Program) (ρ : Env) (H : Heap) (Q : Post) : vc P c25s13 ρ H Q = vc P (.seq (.dq c25r12 c25k) .ret) ρ H Q := rfl
def c25s14 : SCode := (.seq (.ops c25r11 c25k) c25s13)
@[go_sem] theorem c25s14eq (P : Program) (ρ : Env) (H : Heap) (Q : Post) : vc P c25s14 ρ H Q = vc P (.seq (.ops c25r11 c25k) c25s13) ρ H Q := rfl
def c25s15 : SCode := (.seq (.seq (.dq c25r5 c25k) c25s10) c25s14)
@[go_sem] theorem c25s15eq (P : Program) (ρ : Env) (H : Heap) (Q : Post) : vc P c25s15 ρ H Q = vc P (.seq (.seq (.dq c25r5 c25k) c25s10) c25s14) ρ H Q := rfl
def c25s16 : SCode := (.seq (.seq (.ops c25r1 c25k) c25s4) c25s15)
@[go_sem] theorem c25s16eq (P : Program) (ρ : Env) (H : Heap) (Q : Post) : vc P c25s16 ρ H Q = vc P (.seq (.seq (.ops c25r1 c25k) c25s4) c25s15) ρ H Q := rfl
def c25 : Gx.Fn := ⟨50, c25k, (.seq (.ops c25r0 c25k) c25s16), [(.tmp 2)]⟩
theorem c25ok : stripFn Try.prog c25k Try.f25 = some c25 := by kernel_rfl

/- (*wire.Reader).Text -/
@[go_sem] def c26k : List Nat := [0, 2]
@[go_sem] def c26r0 : List GOp := [(.op none (some 2) (.v (.mv (.const (.string ⟨⟨[]⟩⟩)))))]
@[go_sem] def c26r1 : List GOp := [(.op none (some 3) (.v (.mv (.tmp 0)))),
  (.op none (some 4) (.call 19 [(.tmp 3)])),
  (.op none (some 5) (.b2s (.tmp 4))),
  (.op none (some 2) (.v (.mv (.tmp 5))))]
def c26s2 : SCode := (.seq (.ops c26r1 c26k) .ret)
@[go_sem] theorem c26s2eq (P : Program) (ρ : Env) (H : Heap) (Q : Post) : vc P c26s2 ρ H Q = vc P (.seq (.ops c26r1 c26k) .ret) ρ H Q := rfl
def c26 : Gx.Fn := ⟨6, c26k, (.seq (.ops c26r0 c26k) c26s2), [(.tmp 2)]⟩
theorem c26ok : stripFn Try.prog c26k Try.f26 = some c26 := by kernel_rfl

/- plexuslaw01.zero -/
@[go_sem] def c27k : List Nat := [0, 1, 3, 4, 6, 7, 12, 17, 22]
@[go_sem] def c27r0 : List GOp := [(.op none (some 3) (.bx 29 (.tmp 1))),
  (.op none (some 4) (.v (.mv (.const (.bool false)))))]
@[go_sem] def c27r1 : List GOp := [(.op none (some 5) (.v (.fa 0 (.tmp 3)))),
  (.op none (some 6) (.ld none (.tmp 5)))]
@[go_sem] def c27r2 : List GOp := [(.op none (some 8) (.v (.bin .eql (.tmp 6) (.const (.int .i64 0))))),
  (.op none (some 7) (.v (.mv (.tmp 8))))]
@[go_sem] def c27r3 : List GOp := [(.op none (some 9) (.v (.mv (.tmp 0)))),
  (.op none (some 10) (.call 15 [(.tmp 9)])),
  (.op none (some 11) (.v (.bin .eql (.tmp 10) (.const (.int .u64 0))))),
  (.op none (some 4) (.v (.mv (.tmp 11))))]
def c27s4 : SCode := (.seq (.ops c27r3 c27k) .ret)
@[go_sem] theorem c27s4eq (P : Program) (ρ : Env) (H : Heap) (Q : Post) : vc P c27s4 ρ H Q = vc P (.seq (.ops c27r3 c27k) .ret) ρ H Q := rfl
@[go_sem] def c27r5 : List GOp := [(.op none (some 13) (.v (.bin .eql (.tmp 6) (.const (.int .i64 1))))),
  (.op none (some 12) (.v (.mv (.tmp 13))))]
@[go_sem] def c27r6 : List GOp := [(.op none (some 14) (.v (.mv (.tmp 0)))),
  (.op none (some 15) (.call 24 [(.tmp 14)])),
  (.op none (some 16) (.v (.bin .eql (.tmp 15) (.const (.int .i64 0))))),
  (.op none (some 4) (.v (.mv (.tmp 16))))]
def c27s7 : SCode := (.seq (.ops c27r6 c27k) .ret)
@[go_sem] theorem c27s7eq (P : Program) (ρ : Env) (H : Heap) (Q : Post) : vc P c27s7 ρ H Q = vc P (.seq (.ops c27r6 c27k) .ret) ρ H Q := rfl
@[go_sem] def c27r8 : List GOp := [(.op none (some 18) (.v (.bin .eql (.tmp 6) (.const (.int .i64 2))))),
  (.op none (some 17) (.v (.mv (.tmp 18))))]
@[go_sem] def c27r9 : List GOp := [(.op none (some 19) (.v (.mv (.tmp 0)))),
  (.op none (some 20) (.call 25 [(.tmp 19)])),
  (.op none (some 21) (.v (.un .not (.tmp 20)))),
  (.op none (some 4) (.v (.mv (.tmp 21))))]
def c27s10 : SCode := (.seq (.ops c27r9 c27k) .ret)
@[go_sem] theorem c27s10eq (P : Program) (ρ : Env) (H : Heap) (Q : Post) : vc P c27s10 ρ H Q = vc P (.seq (.ops c27r9 c27k) .ret) ρ H Q := rfl
@[go_sem] def c27r11 : List GOp := [(.op none (some 23) (.v (.bin .eql (.tmp 6) (.const (.int .i64 3))))),
  (.op none (some 22) (.v (.mv (.tmp 23))))]
@[go_sem] def c27r12 : List GOp := [(.op none (some 24) (.v (.mv (.tmp 0)))),
  (.op none (some 25) (.call 19 [(.tmp 24)])),
  (.op none (some 26) (.v (.len (.tmp 25)))),
  (.op none (some 27) (.v (.bin .eql (.tmp 26) (.const (.int .i64 0))))),
  (.op none (some 4) (.v (.mv (.tmp 27))))]
def c27s13 : SCode := (.seq (.ops c27r12 c27k) .ret)
@[go_sem] theorem c27s13eq (P : Program) (ρ : Env) (H : Heap) (Q : Post) : vc P c27s13 ρ H Q = vc P (.seq (.ops c27r12 c27k) .ret) ρ H Q := rfl
def c27s14 : SCode := (.cond (.tmp 22) c27s13 .skip)
@[go_sem] theorem c27s14eq (P : Program) (ρ : Env) (H : Heap) (Q : Post) : vc P c27s14 ρ H Q = vc P (.cond (.tmp 22) c27s13 .skip) ρ H Q := rfl
def c27s15 : SCode := (.seq (.ops c27r11 c27k) c27s14)
@[go_sem] theorem c27s15eq (P : Program) (ρ : Env) (H : Heap) (Q : Post) : vc P c27s15 ρ H Q = vc P (.seq (.ops c27r11 c27k) c27s14) ρ H Q := rfl
def c27s16 : SCode := (.cond (.tmp 17) c27s10 c27s15)
@[go_sem] theorem c27s16eq (P : Program) (ρ : Env) (H : Heap) (Q : Post) : vc P c27s16 ρ H Q = vc P (.cond (.tmp 17) c27s10 c27s15) ρ H Q := rfl
def c27s17 : SCode := (.seq (.ops c27r8 c27k) c27s16)
@[go_sem] theorem c27s17eq (P : Program) (ρ : Env) (H : Heap) (Q : Post) : vc P c27s17 ρ H Q = vc P (.seq (.ops c27r8 c27k) c27s16) ρ H Q := rfl
def c27s18 : SCode := (.cond (.tmp 12) c27s7 c27s17)
@[go_sem] theorem c27s18eq (P : Program) (ρ : Env) (H : Heap) (Q : Post) : vc P c27s18 ρ H Q = vc P (.cond (.tmp 12) c27s7 c27s17) ρ H Q := rfl
def c27s19 : SCode := (.seq (.ops c27r5 c27k) c27s18)
@[go_sem] theorem c27s19eq (P : Program) (ρ : Env) (H : Heap) (Q : Post) : vc P c27s19 ρ H Q = vc P (.seq (.ops c27r5 c27k) c27s18) ρ H Q := rfl
def c27s20 : SCode := (.cond (.tmp 7) c27s4 c27s19)
@[go_sem] theorem c27s20eq (P : Program) (ρ : Env) (H : Heap) (Q : Post) : vc P c27s20 ρ H Q = vc P (.cond (.tmp 7) c27s4 c27s19) ρ H Q := rfl
def c27s21 : SCode := (.block 0 (.seq (.ops c27r2 c27k) c27s20))
@[go_sem] theorem c27s21eq (P : Program) (ρ : Env) (H : Heap) (Q : Post) : vc P c27s21 ρ H Q = vc P (.block 0 (.seq (.ops c27r2 c27k) c27s20)) ρ H Q := rfl
@[go_sem] def c27r22 : List GOp := [(.op none (some 28) (.v (.mv (.tmp 0)))),
  (.op none (some 29) (.call 26 [(.tmp 28)])),
  (.op none (some 30) (.v (.bin .eql (.tmp 29) (.const (.string ⟨⟨[]⟩⟩))))),
  (.op none (some 4) (.v (.mv (.tmp 30))))]
def c27s23 : SCode := (.seq (.ops c27r22 c27k) .ret)
@[go_sem] theorem c27s23eq (P : Program) (ρ : Env) (H : Heap) (Q : Post) : vc P c27s23 ρ H Q = vc P (.seq (.ops c27r22 c27k) .ret) ρ H Q := rfl
def c27s24 : SCode := (.seq (.seq (.ops c27r1 c27k) c27s21) c27s23)
@[go_sem] theorem c27s24eq (P : Program) (ρ : Env) (H : Heap) (Q : Post) : vc P c27s24 ρ H Q = vc P (.seq (.seq (.ops c27r1 c27k) c27s21) c27s23) ρ H Q := rfl
def c27 : Gx.Fn := ⟨31, c27k, (.seq (.ops c27r0 c27k) c27s24), [(.tmp 4)]⟩
theorem c27ok : stripFn Try.prog c27k Try.f27 = some c27 := by kernel_rfl

/- (*wire.Writer).Uint -/
@[go_sem] def c28k : List Nat := [0, 1, 5]
@[go_sem] def c28r0 : List GOp := [(.op none (some 4) (.v (.mv (.tmp 1)))),
  (.op none (some 5) (.v (.bin .geq (.tmp 4) (.const (.int .u64 128)))))]
def c28s1 : SCode := (.cond (.tmp 5) .skip (.exit 0))
@[go_sem] theorem c28s1eq (P : Program) (ρ : Env) (H : Heap) (Q : Post) : vc P c28s1 ρ H Q = vc P (.cond (.tmp 5) .skip (.exit 0)) ρ H Q := rfl
@[go_sem] def c28r2 : List GOp := [(.op none (some 8) (.v (.mv (.tmp 0)))),
  (.op none (some 9) (.v (.mv (.tmp 0)))),
  (.op none (some 10) (.v (.nc (.tmp 9)))),
  (.op none (some 11) (.v (.fa 0 (.tmp 10)))),
  (.op none (some 12) (.ld none (.tmp 11))),
  (.op none (some 13) (.v (.mv (.tmp 1)))),
  (.op none (some 14) (.v (.cvi .u8 (.tmp 13)))),
  (.op none (some 15) (.v (.bin .or (.tmp 14) (.const (.int .u8 128))))),
  (.op none (some 16) (.bs 5 1 [(.int .u8 0)] [(0, (1, (.tmp 15)))])),
  (.op none (some 17) (.ap 25 25 (.tmp 12) (.tmp 16))),
  (.op none (some 18) (.v (.nc (.tmp 8)))),
  (.op none (some 19) (.v (.fa 0 (.tmp 18)))),
  (.op none none (.st 1 (.tmp 19) (.tmp 17)))]
@[go_sem] def c28r3 : List GOp := [(.op none (some 6) (.v (.mv (.tmp 1)))),
  (.op none (some 7) (.v (.bin .shr (.tmp 6) (.const (.int .u64 7))))),
  (.op none (some 1) (.v (.mv (.tmp 7))))]
def c28s4 : SCode := (.ops c28r3 c28k)
@[go_sem] theorem c28s4eq (P : Program) (ρ : Env) (H : Heap) (Q : Post) : vc P c28s4 ρ H Q = vc P (.ops c28r3 c28k) ρ H Q := rfl
def c28s5 : SCode := (.seq (.block 1 (.ops c28r2 c28k)) c28s4)
@[go_sem] theorem c28s5eq (P : Program) (ρ : Env) (H : Heap) (Q : Post) : vc P c28s5 ρ H Q = vc P (.seq (.block 1 (.ops c28r2 c28k)) c28s4) ρ H Q := rfl
def c28s6 : SCode := (.seq (.seq (.ops c28r0 c28k) c28s1) c28s5)
@[go_sem] theorem c28s6eq (P : Program) (ρ : Env) (H : Heap) (Q : Post) : vc P c28s6 ρ H Q = vc P (.seq (.seq (.ops c28r0 c28k) c28s1) c28s5) ρ H Q := rfl
@[go_sem] def c28r7 : List GOp := [(.op none (some 20) (.v (.mv (.tmp 0)))),
  (.op none (some 21) (.v (.mv (.tmp 0)))),
  (.op none (some 22) (.v (.nc (.tmp 21)))),
  (.op none (some 23) (.v (.fa 0 (.tmp 22)))),
  (.op none (some 24) (.ld none (.tmp 23))),
  (.op none (some 25) (.v (.mv (.tmp 1)))),
  (.op none (some 26) (.v (.cvi .u8 (.tmp 25)))),
  (.op none (some 27) (.bs 5 1 [(.int .u8 0)] [(0, (1, (.tmp 26)))])),
  (.op none (some 28) (.ap 25 25 (.tmp 24) (.tmp 27))),
  (.op none (some 29) (.v (.nc (.tmp 20)))),
  (.op none (some 30) (.v (.fa 0 (.tmp 29)))),
  (.op none none (.st 1 (.tmp 30) (.tmp 28)))]
def c28s8 : SCode := (.ops c28r7 c28k)
@[go_sem] theorem c28s8eq (P : Program) (ρ : Env) (H : Heap) (Q : Post) : vc P c28s8 ρ H Q = vc P (.ops c28r7 c28k) ρ H Q := rfl
def c28 : Gx.Fn := ⟨31, c28k, (.seq (.block 0 (.loop c28s6)) c28s8), []⟩
theorem c28ok : stripFn Try.prog c28k Try.f28 = some c28 := by kernel_rfl

/- (*wire.Writer).Int -/
@[go_sem] def c29k : List Nat := [0, 1]
@[go_sem] def c29r0 : List GOp := [(.op none (some 4) (.v (.mv (.tmp 0)))),
  (.op none (some 5) (.v (.mv (.tmp 1)))),
  (.op none (some 6) (.v (.cvi .u64 (.tmp 5)))),
  (.op none (some 7) (.v (.bin .shl (.tmp 6) (.const (.int .u64 1))))),
  (.op none (some 8) (.v (.mv (.tmp 1)))),
  (.op none (some 9) (.v (.bin .shr (.tmp 8) (.const (.int .u64 63))))),
  (.op none (some 10) (.v (.cvi .u64 (.tmp 9)))),
  (.op none (some 11) (.v (.bin .xor (.tmp 7) (.tmp 10)))),
  (.op none (some 12) (.call 28 [(.tmp 4), (.tmp 11)]))]
def c29 : Gx.Fn := ⟨13, c29k, (.ops c29r0 c29k), []⟩
theorem c29ok : stripFn Try.prog c29k Try.f29 = some c29 := by kernel_rfl

/- (*wire.Writer).Bool -/
@[go_sem] def c30k : List Nat := [0, 1, 4]
@[go_sem] def c30r0 : List GOp := [(.op none (some 4) (.v (.mv (.tmp 1))))]
@[go_sem] def c30r1 : List GOp := [(.op none (some 5) (.v (.mv (.tmp 0)))),
  (.op none (some 6) (.v (.mv (.tmp 0)))),
  (.op none (some 7) (.v (.nc (.tmp 6)))),
  (.op none (some 8) (.v (.fa 0 (.tmp 7)))),
  (.op none (some 9) (.ld none (.tmp 8))),
  (.op none (some 10) (.bs 5 1 [(.int .u8 0)] [(0, (1, (.const (.int .u8 1))))])),
  (.op none (some 11) (.ap 25 25 (.tmp 9) (.tmp 10))),
  (.op none (some 12) (.v (.nc (.tmp 5)))),
  (.op none (some 13) (.v (.fa 0 (.tmp 12)))),
  (.op none none (.st 1 (.tmp 13) (.tmp 11)))]
def c30s2 : SCode := (.seq (.ops c30r1 c30k) .ret)
@[go_sem] theorem c30s2eq (P : Program) (ρ : Env) (H : Heap) (Q : Post) : vc P c30s2 ρ H Q = vc P (.seq (.ops c30r1 c30k) .ret) ρ H Q := rfl
def c30s3 : SCode := (.cond (.tmp 4) c30s2 .skip)
@[go_sem] theorem c30s3eq (P : Program) (ρ : Env) (H : Heap) (Q : Post) : vc P c30s3 ρ H Q = vc P (.cond (.tmp 4) c30s2 .skip) ρ H Q := rfl
@[go_sem] def c30r4 : List GOp := [(.op none (some 14) (.v (.mv (.tmp 0)))),
  (.op none (some 15) (.v (.mv (.tmp 0)))),
  (.op none (some 16) (.v (.nc (.tmp 15)))),
  (.op none (some 17) (.v (.fa 0 (.tmp 16)))),
  (.op none (some 18) (.ld none (.tmp 17))),
  (.op none (some 19) (.bs 5 1 [(.int .u8 0)] [(0, (1, (.const (.int .u8 0))))])),
  (.op none (some 20) (.ap 25 25 (.tmp 18) (.tmp 19))),
  (.op none (some 21) (.v (.nc (.tmp 14)))),
  (.op none (some 22) (.v (.fa 0 (.tmp 21)))),
  (.op none none (.st 1 (.tmp 22) (.tmp 20)))]
def c30s5 : SCode := (.ops c30r4 c30k)
@[go_sem] theorem c30s5eq (P : Program) (ρ : Env) (H : Heap) (Q : Post) : vc P c30s5 ρ H Q = vc P (.ops c30r4 c30k) ρ H Q := rfl
def c30 : Gx.Fn := ⟨23, c30k, (.seq (.seq (.ops c30r0 c30k) c30s3) c30s5), []⟩
theorem c30ok : stripFn Try.prog c30k Try.f30 = some c30 := by kernel_rfl

/- (*wire.Writer).Text -/
@[go_sem] def c31k : List Nat := [0, 1]
@[go_sem] def c31r0 : List GOp := [(.op none (some 4) (.v (.mv (.tmp 0)))),
  (.op none (some 5) (.v (.mv (.tmp 1)))),
  (.op none (some 6) (.v (.slen (.tmp 5)))),
  (.op none (some 7) (.v (.cvi .u64 (.tmp 6)))),
  (.op none (some 8) (.call 28 [(.tmp 4), (.tmp 7)]))]
@[go_sem] def c31r1 : List GOp := [(.op none (some 9) (.v (.mv (.tmp 0)))),
  (.op none (some 10) (.v (.mv (.tmp 0)))),
  (.op none (some 11) (.v (.nc (.tmp 10)))),
  (.op none (some 12) (.v (.fa 0 (.tmp 11)))),
  (.op none (some 13) (.ld none (.tmp 12))),
  (.op none (some 14) (.v (.mv (.tmp 1)))),
  (.op none (some 15) (.ap 25 9 (.tmp 13) (.tmp 14))),
  (.op none (some 16) (.v (.nc (.tmp 9)))),
  (.op none (some 17) (.v (.fa 0 (.tmp 16)))),
  (.op none none (.st 1 (.tmp 17) (.tmp 15)))]
def c31s2 : SCode := (.ops c31r1 c31k)
@[go_sem] theorem c31s2eq (P : Program) (ρ : Env) (H : Heap) (Q : Post) : vc P c31s2 ρ H Q = vc P (.ops c31r1 c31k) ρ H Q := rfl
def c31 : Gx.Fn := ⟨18, c31k, (.seq (.ops c31r0 c31k) c31s2), []⟩
theorem c31ok : stripFn Try.prog c31k Try.f31 = some c31 := by kernel_rfl

/- (*wire.Reader).Count -/
@[go_sem] def c32k : List Nat := [0, 2, 3, 4, 5, 8, 28]
@[go_sem] def c32r0 : List GOp := [(.op none (some 2) (.v (.mv (.const (.int .i64 0)))))]
@[go_sem] def c32r1 : List GOp := [(.op none (some 6) (.v (.mv (.tmp 0)))),
  (.op none (some 7) (.call 35 [(.tmp 6)])),
  (.op none (some 8) (.v (.un .not (.tmp 7))))]
@[go_sem] def c32r2 : List GOp := [(.op none (some 2) (.v (.mv (.const (.int .i64 0)))))]
def c32s3 : SCode := (.seq (.ops c32r2 c32k) .ret)
@[go_sem] theorem c32s3eq (P : Program) (ρ : Env) (H : Heap) (Q : Post) : vc P c32s3 ρ H Q = vc P (.seq (.ops c32r2 c32k) .ret) ρ H Q := rfl
def c32s4 : SCode := (.cond (.tmp 8) c32s3 .skip)
@[go_sem] theorem c32s4eq (P : Program) (ρ : Env) (H : Heap) (Q : Post) : vc P c32s4 ρ H Q = vc P (.cond (.tmp 8) c32s3 .skip) ρ H Q := rfl
@[go_sem] def c32r5 : List GOp := [(.op none (some 10) (.v (.mv (.tmp 0)))),
  (.op none (some 11) (.call 36 [(.tmp 10)])),
  (.op none (some 9) (.v (.mv (.tmp 11)))),
  (.op none (some 12) (.v (.ext (.tmp 9) 0))),
  (.op none (some 13) (.v (.ext (.tmp 9) 1))),
  (.op none (some 14) (.v (.ext (.tmp 9) 2))),
  (.op none (some 3) (.v (.mv (.tmp 12)))),
  (.op none (some 4) (.v (.mv (.tmp 13)))),
  (.op none (some 5) (.v (.mv (.tmp 14))))]
@[go_sem] def c32r6 : List GOp := [(.op none (some 15) (.v (.mv (.tmp 5)))),
  (.op none (some 16) (.v (.un .not (.tmp 15)))),
  (.op none (some 17) (.v (.mv (.tmp 16)))),
  (.sel 17 false [(18, (.v (.mv (.tmp 3)))), (19, (.v (.mv (.tmp 0)))), (20, (.v (.nc (.tmp 19)))), (21, (.v (.fa 0 (.tmp 20)))), (22, (.ld none (.tmp 21))), (23, (.v (.len (.tmp 22)))), (24, (.v (.mv (.tmp 4)))), (25, (.v (.bin .sub (.tmp 23) (.tmp 24)))), (26, (.v (.cvi .u64 (.tmp 25)))), (27, (.v (.bin .gtr (.tmp 18) (.tmp 26))))] 28 (.const (.bool true)) (.tmp 27))]
@[go_sem] def c32r7 : List GOp := [(.op none (some 29) (.v (.mv (.tmp 0)))),
  (.op none (some 30) (.v (.nc (.tmp 29)))),
  (.op none (some 31) (.v (.fa 3 (.tmp 30)))),
  (.op none none (.st 1 (.tmp 31) (.const (.int .i64 2))))]
@[go_sem] def c32r8 : List GOp := [(.op none (some 2) (.v (.mv (.const (.int .i64 0)))))]
def c32s9 : SCode := (.seq (.ops c32r8 c32k) .ret)
@[go_sem] theorem c32s9eq (P : Program) (ρ : Env) (H : Heap) (Q : Post) : vc P c32s9 ρ H Q = vc P (.seq (.ops c32r8 c32k) .ret) ρ H Q := rfl
def c32s10 : SCode := (.seq (.ops c32r7 c32k) c32s9)
@[go_sem] theorem c32s10eq (P : Program) (ρ : Env) (H : Heap) (Q : Post) : vc P c32s10 ρ H Q = vc P (.seq (.ops c32r7 c32k) c32s9) ρ H Q := rfl
def c32s11 : SCode := (.cond (.tmp 28) c32s10 .skip)
@[go_sem] theorem c32s11eq (P : Program) (ρ : Env) (H : Heap) (Q : Post) : vc P c32s11 ρ H Q = vc P (.cond (.tmp 28) c32s10 .skip) ρ H Q := rfl
@[go_sem] def c32r12 : List GOp := [(.op none (some 32) (.v (.mv (.tmp 0)))),
  (.op none (some 33) (.v (.mv (.tmp 4)))),
  (.op none (some 34) (.v (.nc (.tmp 32)))),
  (.op none (some 35) (.v (.fa 1 (.tmp 34)))),
  (.op none none (.st 1 (.tmp 35) (.tmp 33)))]
@[go_sem] def c32r13 : List GOp := [(.op none (some 36) (.v (.mv (.tmp 3)))),
  (.op none (some 37) (.v (.cvi .i64 (.tmp 36)))),
  (.op none (some 2) (.v (.mv (.tmp 37))))]
def c32s14 : SCode := (.seq (.ops c32r13 c32k) .ret)
@[go_sem] theorem c32s14eq (P : Program) (ρ : Env) (H : Heap) (Q : Post) : vc P c32s14 ρ H Q = vc P (.seq (.ops c32r13 c32k) .ret) ρ H Q := rfl
def c32s15 : SCode := (.seq (.ops c32r12 c32k) c32s14)
@[go_sem] theorem c32s15eq (P : Program) (ρ : Env) (H : Heap) (Q : Post) : vc P c32s15 ρ H Q = vc P (.seq (.ops c32r12 c32k) c32s14) ρ H Q := rfl
def c32s16 : SCode := (.seq (.seq (.ops c32r6 c32k) c32s11) c32s15)
@[go_sem] theorem c32s16eq (P : Program) (ρ : Env) (H : Heap) (Q : Post) : vc P c32s16 ρ H Q = vc P (.seq (.seq (.ops c32r6 c32k) c32s11) c32s15) ρ H Q := rfl
def c32s17 : SCode := (.seq (.ops c32r5 c32k) c32s16)
@[go_sem] theorem c32s17eq (P : Program) (ρ : Env) (H : Heap) (Q : Post) : vc P c32s17 ρ H Q = vc P (.seq (.ops c32r5 c32k) c32s16) ρ H Q := rfl
def c32s18 : SCode := (.seq (.seq (.ops c32r1 c32k) c32s4) c32s17)
@[go_sem] theorem c32s18eq (P : Program) (ρ : Env) (H : Heap) (Q : Post) : vc P c32s18 ρ H Q = vc P (.seq (.seq (.ops c32r1 c32k) c32s4) c32s17) ρ H Q := rfl
def c32 : Gx.Fn := ⟨38, c32k, (.seq (.ops c32r0 c32k) c32s18), [(.tmp 2)]⟩
theorem c32ok : stripFn Try.prog c32k Try.f32 = some c32 := by kernel_rfl

/- plexuslaw01.put -/
@[go_sem] def c33k : List Nat := [0, 1, 3, 5, 11, 17, 24, 32]
@[go_sem] def c33r0 : List GOp := [(.op none (some 3) (.bx 29 (.tmp 1)))]
@[go_sem] def c33r1 : List GOp := [(.op none (some 4) (.v (.fa 0 (.tmp 3)))),
  (.op none (some 5) (.ld none (.tmp 4)))]
@[go_sem] def c33r2 : List GOp := [(.op none (some 12) (.v (.bin .eql (.tmp 5) (.const (.int .i64 0))))),
  (.op none (some 11) (.v (.mv (.tmp 12))))]
@[go_sem] def c33r3 : List GOp := [(.op none (some 13) (.v (.mv (.tmp 0)))),
  (.op none (some 14) (.v (.fa 1 (.tmp 3)))),
  (.op none (some 15) (.ld none (.tmp 14))),
  (.op none (some 16) (.call 28 [(.tmp 13), (.tmp 15)]))]
@[go_sem] def c33r4 : List GOp := [(.op none (some 18) (.v (.bin .eql (.tmp 5) (.const (.int .i64 1))))),
  (.op none (some 17) (.v (.mv (.tmp 18))))]
@[go_sem] def c33r5 : List GOp := [(.op none (some 19) (.v (.mv (.tmp 0)))),
  (.op none (some 20) (.v (.fa 1 (.tmp 3)))),
  (.op none (some 21) (.ld none (.tmp 20))),
  (.op none (some 22) (.v (.cvi .i64 (.tmp 21)))),
  (.op none (some 23) (.call 29 [(.tmp 19), (.tmp 22)]))]
@[go_sem] def c33r6 : List GOp := [(.op none (some 25) (.v (.bin .eql (.tmp 5) (.const (.int .i64 2))))),
  (.op none (some 24) (.v (.mv (.tmp 25))))]
@[go_sem] def c33r7 : List GOp := [(.op none (some 26) (.v (.mv (.tmp 0)))),
  (.op none (some 27) (.v (.fa 1 (.tmp 3)))),
  (.op none (some 28) (.ld none (.tmp 27))),
  (.op none (some 29) (.v (.bin .rem (.tmp 28) (.const (.int .u64 2))))),
  (.op none (some 30) (.v (.bin .eql (.tmp 29) (.const (.int .u64 1))))),
  (.op none (some 31) (.call 30 [(.tmp 26), (.tmp 30)]))]
@[go_sem] def c33r8 : List GOp := [(.op none (some 33) (.v (.bin .eql (.tmp 5) (.const (.int .i64 3))))),
  (.op none (some 32) (.v (.mv (.tmp 33))))]
@[go_sem] def c33r9 : List GOp := [(.op none (some 34) (.v (.mv (.tmp 0)))),
  (.op none (some 35) (.v (.fa 2 (.tmp 3)))),
  (.op none (some 36) (.ld none (.tmp 35))),
  (.op none (some 37) (.call 17 [(.tmp 34), (.tmp 36)]))]
@[go_sem] def c33r10 : List GOp := [(.op none (some 6) (.v (.mv (.tmp 0)))),
  (.op none (some 7) (.v (.fa 2 (.tmp 3)))),
  (.op none (some 8) (.ld none (.tmp 7))),
  (.op none (some 9) (.b2s (.tmp 8))),
  (.op none (some 10) (.call 31 [(.tmp 6), (.tmp 9)]))]
def c33s11 : SCode := (.cond (.tmp 32) (.ops c33r9 c33k) (.ops c33r10 c33k))
@[go_sem] theorem c33s11eq (P : Program) (ρ : Env) (H : Heap) (Q : Post) : vc P c33s11 ρ H Q = vc P (.cond (.tmp 32) (.ops c33r9 c33k) (.ops c33r10 c33k)) ρ H Q := rfl
def c33s12 : SCode := (.seq (.ops c33r8 c33k) c33s11)
@[go_sem] theorem c33s12eq (P : Program) (ρ : Env) (H : Heap) (Q : Post) : vc P c33s12 ρ H Q = vc P (.seq (.ops c33r8 c33k) c33s11) ρ H Q := rfl
def c33s13 : SCode := (.cond (.tmp 24) (.ops c33r7 c33k) c33s12)
@[go_sem] theorem c33s13eq (P : Program) (ρ : Env) (H : Heap) (Q : Post) : vc P c33s13 ρ H Q = vc P (.cond (.tmp 24) (.ops c33r7 c33k) c33s12) ρ H Q := rfl
def c33s14 : SCode := (.seq (.ops c33r6 c33k) c33s13)
@[go_sem] theorem c33s14eq (P : Program) (ρ : Env) (H : Heap) (Q : Post) : vc P c33s14 ρ H Q = vc P (.seq (.ops c33r6 c33k) c33s13) ρ H Q := rfl
def c33s15 : SCode := (.cond (.tmp 17) (.ops c33r5 c33k) c33s14)
@[go_sem] theorem c33s15eq (P : Program) (ρ : Env) (H : Heap) (Q : Post) : vc P c33s15 ρ H Q = vc P (.cond (.tmp 17) (.ops c33r5 c33k) c33s14) ρ H Q := rfl
def c33s16 : SCode := (.seq (.ops c33r4 c33k) c33s15)
@[go_sem] theorem c33s16eq (P : Program) (ρ : Env) (H : Heap) (Q : Post) : vc P c33s16 ρ H Q = vc P (.seq (.ops c33r4 c33k) c33s15) ρ H Q := rfl
def c33s17 : SCode := (.cond (.tmp 11) (.ops c33r3 c33k) c33s16)
@[go_sem] theorem c33s17eq (P : Program) (ρ : Env) (H : Heap) (Q : Post) : vc P c33s17 ρ H Q = vc P (.cond (.tmp 11) (.ops c33r3 c33k) c33s16) ρ H Q := rfl
def c33s18 : SCode := (.block 0 (.seq (.ops c33r2 c33k) c33s17))
@[go_sem] theorem c33s18eq (P : Program) (ρ : Env) (H : Heap) (Q : Post) : vc P c33s18 ρ H Q = vc P (.block 0 (.seq (.ops c33r2 c33k) c33s17)) ρ H Q := rfl
def c33s19 : SCode := (.seq (.ops c33r1 c33k) c33s18)
@[go_sem] theorem c33s19eq (P : Program) (ρ : Env) (H : Heap) (Q : Post) : vc P c33s19 ρ H Q = vc P (.seq (.ops c33r1 c33k) c33s18) ρ H Q := rfl
def c33 : Gx.Fn := ⟨38, c33k, (.seq (.ops c33r0 c33k) c33s19), []⟩
theorem c33ok : stripFn Try.prog c33k Try.f33 = some c33 := by kernel_rfl

/- plexusref01.Put -/
@[go_sem] def c34k : List Nat := [0, 1, 3, 4, 6, 7, 13, 20]
@[go_sem] def c34r0 : List GOp := [(.op none (some 3) (.bx 29 (.tmp 1))),
  (.op none (some 4) (.v (.mv (.const (.slice none 0 0)))))]
@[go_sem] def c34r1 : List GOp := [(.op none (some 5) (.v (.fa 0 (.tmp 3)))),
  (.op none (some 6) (.ld none (.tmp 5)))]
@[go_sem] def c34r2 : List GOp := [(.op none (some 8) (.v (.bin .eql (.tmp 6) (.const (.int .i64 0))))),
  (.op none (some 7) (.v (.mv (.tmp 8))))]
@[go_sem] def c34r3 : List GOp := [(.op none (some 9) (.v (.mv (.tmp 0)))),
  (.op none (some 10) (.v (.fa 1 (.tmp 3)))),
  (.op none (some 11) (.ld none (.tmp 10))),
  (.op none (some 12) (.call 37 [(.tmp 9), (.tmp 11)])),
  (.op none (some 4) (.v (.mv (.tmp 12))))]
def c34s4 : SCode := (.seq (.ops c34r3 c34k) .ret)
@[go_sem] theorem c34s4eq (P : Program) (ρ : Env) (H : Heap) (Q : Post) : vc P c34s4 ρ H Q = vc P (.seq (.ops c34r3 c34k) .ret) ρ H Q := rfl
@[go_sem] def c34r5 : List GOp := [(.op none (some 14) (.v (.bin .eql (.tmp 6) (.const (.int .i64 1))))),
  (.op none (some 13) (.v (.mv (.tmp 14))))]
@[go_sem] def c34r6 : List GOp := [(.op none (some 15) (.v (.mv (.tmp 0)))),
  (.op none (some 16) (.v (.fa 1 (.tmp 3)))),
  (.op none (some 17) (.ld none (.tmp 16))),
  (.op none (some 18) (.v (.cvi .i64 (.tmp 17)))),
  (.op none (some 19) (.call 38 [(.tmp 15), (.tmp 18)])),
  (.op none (some 4) (.v (.mv (.tmp 19))))]
def c34s7 : SCode := (.seq (.ops c34r6 c34k) .ret)
@[go_sem] theorem c34s7eq (P : Program) (ρ : Env) (H : Heap) (Q : Post) : vc P c34s7 ρ H Q = vc P (.seq (.ops c34r6 c34k) .ret) ρ H Q := rfl
@[go_sem] def c34r8 : List GOp := [(.op none (some 21) (.v (.bin .eql (.tmp 6) (.const (.int .i64 2))))),
  (.op none (some 20) (.v (.mv (.tmp 21))))]
@[go_sem] def c34r9 : List GOp := [(.op none (some 22) (.v (.mv (.tmp 0)))),
  (.op none (some 23) (.v (.fa 1 (.tmp 3)))),
  (.op none (some 24) (.ld none (.tmp 23))),
  (.op none (some 25) (.v (.bin .rem (.tmp 24) (.const (.int .u64 2))))),
  (.op none (some 26) (.v (.bin .eql (.tmp 25) (.const (.int .u64 1))))),
  (.op none (some 27) (.call 39 [(.tmp 22), (.tmp 26)])),
  (.op none (some 4) (.v (.mv (.tmp 27))))]
def c34s10 : SCode := (.seq (.ops c34r9 c34k) .ret)
@[go_sem] theorem c34s10eq (P : Program) (ρ : Env) (H : Heap) (Q : Post) : vc P c34s10 ρ H Q = vc P (.seq (.ops c34r9 c34k) .ret) ρ H Q := rfl
def c34s11 : SCode := (.cond (.tmp 20) c34s10 .skip)
@[go_sem] theorem c34s11eq (P : Program) (ρ : Env) (H : Heap) (Q : Post) : vc P c34s11 ρ H Q = vc P (.cond (.tmp 20) c34s10 .skip) ρ H Q := rfl
def c34s12 : SCode := (.seq (.ops c34r8 c34k) c34s11)
@[go_sem] theorem c34s12eq (P : Program) (ρ : Env) (H : Heap) (Q : Post) : vc P c34s12 ρ H Q = vc P (.seq (.ops c34r8 c34k) c34s11) ρ H Q := rfl
def c34s13 : SCode := (.cond (.tmp 13) c34s7 c34s12)
@[go_sem] theorem c34s13eq (P : Program) (ρ : Env) (H : Heap) (Q : Post) : vc P c34s13 ρ H Q = vc P (.cond (.tmp 13) c34s7 c34s12) ρ H Q := rfl
def c34s14 : SCode := (.seq (.ops c34r5 c34k) c34s13)
@[go_sem] theorem c34s14eq (P : Program) (ρ : Env) (H : Heap) (Q : Post) : vc P c34s14 ρ H Q = vc P (.seq (.ops c34r5 c34k) c34s13) ρ H Q := rfl
def c34s15 : SCode := (.cond (.tmp 7) c34s4 c34s14)
@[go_sem] theorem c34s15eq (P : Program) (ρ : Env) (H : Heap) (Q : Post) : vc P c34s15 ρ H Q = vc P (.cond (.tmp 7) c34s4 c34s14) ρ H Q := rfl
def c34s16 : SCode := (.block 0 (.seq (.ops c34r2 c34k) c34s15))
@[go_sem] theorem c34s16eq (P : Program) (ρ : Env) (H : Heap) (Q : Post) : vc P c34s16 ρ H Q = vc P (.block 0 (.seq (.ops c34r2 c34k) c34s15)) ρ H Q := rfl
@[go_sem] def c34r17 : List GOp := [(.op none (some 28) (.v (.mv (.tmp 0)))),
  (.op none (some 29) (.v (.fa 2 (.tmp 3)))),
  (.op none (some 30) (.ld none (.tmp 29))),
  (.op none (some 31) (.call 40 [(.tmp 28), (.tmp 30)])),
  (.op none (some 4) (.v (.mv (.tmp 31))))]
def c34s18 : SCode := (.seq (.ops c34r17 c34k) .ret)
@[go_sem] theorem c34s18eq (P : Program) (ρ : Env) (H : Heap) (Q : Post) : vc P c34s18 ρ H Q = vc P (.seq (.ops c34r17 c34k) .ret) ρ H Q := rfl
def c34s19 : SCode := (.seq (.seq (.ops c34r1 c34k) c34s16) c34s18)
@[go_sem] theorem c34s19eq (P : Program) (ρ : Env) (H : Heap) (Q : Post) : vc P c34s19 ρ H Q = vc P (.seq (.seq (.ops c34r1 c34k) c34s16) c34s18) ρ H Q := rfl
def c34 : Gx.Fn := ⟨32, c34k, (.seq (.ops c34r0 c34k) c34s19), [(.tmp 4)]⟩
theorem c34ok : stripFn Try.prog c34k Try.f34 = some c34 := by kernel_rfl

/- (*wire.Reader).begin -/
@[go_sem] def c35k : List Nat := [0, 2, 7]
@[go_sem] def c35r0 : List GOp := [(.op none (some 2) (.v (.mv (.const (.bool false)))))]
@[go_sem] def c35r1 : List GOp := [(.op none (some 3) (.v (.mv (.tmp 0)))),
  (.op none (some 4) (.v (.nc (.tmp 3)))),
  (.op none (some 5) (.v (.fa 3 (.tmp 4)))),
  (.op none (some 6) (.ld none (.tmp 5))),
  (.op none (some 7) (.v (.bin .neq (.tmp 6) (.const (.int .i64 0)))))]
@[go_sem] def c35r2 : List GOp := [(.op none (some 2) (.v (.mv (.const (.bool false)))))]
def c35s3 : SCode := (.seq (.ops c35r2 c35k) .ret)
@[go_sem] theorem c35s3eq (P : Program) (ρ : Env) (H : Heap) (Q : Post) : vc P c35s3 ρ H Q = vc P (.seq (.ops c35r2 c35k) .ret) ρ H Q := rfl
def c35s4 : SCode := (.cond (.tmp 7) c35s3 .skip)
@[go_sem] theorem c35s4eq (P : Program) (ρ : Env) (H : Heap) (Q : Post) : vc P c35s4 ρ H Q = vc P (.cond (.tmp 7) c35s3 .skip) ρ H Q := rfl
@[go_sem] def c35r5 : List GOp := [(.op none (some 8) (.v (.mv (.tmp 0)))),
  (.op none (some 9) (.v (.mv (.tmp 0)))),
  (.op none (some 10) (.v (.nc (.tmp 9)))),
  (.op none (some 11) (.v (.fa 1 (.tmp 10)))),
  (.op none (some 12) (.ld none (.tmp 11))),
  (.op none (some 13) (.v (.nc (.tmp 8)))),
  (.op none (some 14) (.v (.fa 2 (.tmp 13)))),
  (.op none none (.st 1 (.tmp 14) (.tmp 12)))]
@[go_sem] def c35r6 : List GOp := [(.op none (some 2) (.v (.mv (.const (.bool true)))))]
def c35s7 : SCode := (.seq (.ops c35r6 c35k) .ret)
@[go_sem] theorem c35s7eq (P : Program) (ρ : Env) (H : Heap) (Q : Post) : vc P c35s7 ρ H Q = vc P (.seq (.ops c35r6 c35k) .ret) ρ H Q := rfl
def c35s8 : SCode := (.seq (.ops c35r5 c35k) c35s7)
@[go_sem] theorem c35s8eq (P : Program) (ρ : Env) (H : Heap) (Q : Post) : vc P c35s8 ρ H Q = vc P (.seq (.ops c35r5 c35k) c35s7) ρ H Q := rfl
def c35s9 : SCode := (.seq (.seq (.ops c35r1 c35k) c35s4) c35s8)
@[go_sem] theorem c35s9eq (P : Program) (ρ : Env) (H : Heap) (Q : Post) : vc P c35s9 ρ H Q = vc P (.seq (.seq (.ops c35r1 c35k) c35s4) c35s8) ρ H Q := rfl
def c35 : Gx.Fn := ⟨15, c35k, (.seq (.ops c35r0 c35k) c35s9), [(.tmp 2)]⟩
theorem c35ok : stripFn Try.prog c35k Try.f35 = some c35 := by kernel_rfl

/- (*wire.Reader).number -/
@[go_sem] def c36k : List Nat := [0, 2, 3, 4, 5, 6, 7, 8, 21, 39, 49]
@[go_sem] def c36r0 : List GOp := [(.op none (some 2) (.v (.mv (.const (.int .u64 0))))),
  (.op none (some 3) (.v (.mv (.const (.int .i64 0))))),
  (.op none (some 4) (.v (.mv (.const (.bool false)))))]
@[go_sem] def c36r1 : List GOp := [(.op none (some 7) (.v (.mv (.const (.int .i64 0)))))]
@[go_sem] def c36r2 : List GOp := [(.op none (some 8) (.v (.bin .lss (.tmp 7) (.const (.int .i64 10)))))]
@[go_sem] def c36r3 : List GOp := [(.op none (some 9) (.v (.mv (.tmp 7)))),
  (.op none (some 5) (.v (.mv (.tmp 9))))]
@[go_sem] def c36r4 : List GOp := [(.op none (some 10) (.v (.mv (.tmp 0)))),
  (.op none (some 11) (.v (.nc (.tmp 10)))),
  (.op none (some 12) (.v (.fa 1 (.tmp 11)))),
  (.op none (some 13) (.ld none (.tmp 12))),
  (.op none (some 14) (.v (.mv (.tmp 5)))),
  (.op none (some 15) (.v (.bin .add (.tmp 13) (.tmp 14)))),
  (.op none (some 16) (.v (.mv (.tmp 0)))),
  (.op none (some 17) (.v (.nc (.tmp 16)))),
  (.op none (some 18) (.v (.fa 0 (.tmp 17)))),
  (.op none (some 19) (.ld none (.tmp 18))),
  (.op none (some 20) (.v (.len (.tmp 19)))),
  (.op none (some 21) (.v (.bin .geq (.tmp 15) (.tmp 20))))]
@[go_sem] def c36r5 : List GOp := [(.op none (some 2) (.v (.mv (.const (.int .u64 0))))),
  (.op none (some 3) (.v (.mv (.const (.int .i64 0))))),
  (.op none (some 4) (.v (.mv (.const (.bool false)))))]
def c36s6 : SCode := (.seq (.ops c36r5 c36k) .ret)
@[go_sem] theorem c36s6eq (P : Program) (ρ : Env) (H : Heap) (Q : Post) : vc P c36s6 ρ H Q = vc P (.seq (.ops c36r5 c36k) .ret) ρ H Q := rfl
def c36s7 : SCode := (.cond (.tmp 21) c36s6 .skip)
@[go_sem] theorem c36s7eq (P : Program) (ρ : Env) (H : Heap) (Q : Post) : vc P c36s7 ρ H Q = vc P (.cond (.tmp 21) c36s6 .skip) ρ H Q := rfl
@[go_sem] def c36r8 : List GOp := [(.op none (some 22) (.v (.mv (.tmp 0)))),
  (.op none (some 23) (.v (.nc (.tmp 22)))),
  (.op none (some 24) (.v (.fa 0 (.tmp 23)))),
  (.op none (some 25) (.ld none (.tmp 24))),
  (.op none (some 26) (.v (.mv (.tmp 0)))),
  (.op none (some 27) (.v (.nc (.tmp 26)))),
  (.op none (some 28) (.v (.fa 1 (.tmp 27)))),
  (.op none (some 29) (.ld none (.tmp 28))),
  (.op none (some 30) (.v (.mv (.tmp 5)))),
  (.op none (some 31) (.v (.bin .add (.tmp 29) (.tmp 30)))),
  (.op none (some 32) (.v (.ix 1 (.tmp 25) (.tmp 31)))),
  (.op none (some 33) (.ld none (.tmp 32))),
  (.op none (some 6) (.v (.mv (.tmp 33))))]
@[go_sem] def c36r9 : List GOp := [(.op none (some 34) (.v (.mv (.tmp 5)))),
  (.op none (some 35) (.v (.bin .eql (.tmp 34) (.const (.int .i64 9))))),
  (.op none (some 36) (.v (.mv (.tmp 35)))),
  (.sel 36 true [(37, (.v (.mv (.tmp 6)))), (38, (.v (.bin .gtr (.tmp 37) (.const (.int .u8 1)))))] 39 (.tmp 38) (.const (.bool false)))]
@[go_sem] def c36r10 : List GOp := [(.op none (some 2) (.v (.mv (.const (.int .u64 0))))),
  (.op none (some 3) (.v (.mv (.const (.int .i64 0))))),
  (.op none (some 4) (.v (.mv (.const (.bool false)))))]
def c36s11 : SCode := (.seq (.ops c36r10 c36k) .ret)
@[go_sem] theorem c36s11eq (P : Program) (ρ : Env) (H : Heap) (Q : Post) : vc P c36s11 ρ H Q = vc P (.seq (.ops c36r10 c36k) .ret) ρ H Q := rfl
def c36s12 : SCode := (.cond (.tmp 39) c36s11 .skip)
@[go_sem] theorem c36s12eq (P : Program) (ρ : Env) (H : Heap) (Q : Post) : vc P c36s12 ρ H Q = vc P (.cond (.tmp 39) c36s11 .skip) ρ H Q := rfl
@[go_sem] def c36r13 : List GOp := [(.op none (some 40) (.v (.mv (.tmp 2)))),
  (.op none (some 41) (.v (.mv (.tmp 6)))),
  (.op none (some 42) (.v (.bin .and (.tmp 41) (.const (.int .u8 127))))),
  (.op none (some 43) (.v (.cvi .u64 (.tmp 42)))),
  (.op none (some 44) (.v (.mv (.tmp 5)))),
  (.op none (some 45) (.v (.bin .mul (.const (.int .i64 7)) (.tmp 44)))),
  (.op none (some 46) (.v (.bin .shl (.tmp 43) (.tmp 45)))),
  (.op none (some 47) (.v (.bin .or (.tmp 40) (.tmp 46)))),
  (.op none (some 2) (.v (.mv (.tmp 47))))]
@[go_sem] def c36r14 : List GOp := [(.op none (some 48) (.v (.mv (.tmp 6)))),
  (.op none (some 49) (.v (.bin .lss (.tmp 48) (.const (.int .u8 128)))))]
@[go_sem] def c36r15 : List GOp := [(.op none (some 50) (.v (.mv (.tmp 2)))),
  (.op none (some 51) (.v (.mv (.tmp 0)))),
  (.op none (some 52) (.v (.nc (.tmp 51)))),
  (.op none (some 53) (.v (.fa 1 (.tmp 52)))),
  (.op none (some 54) (.ld none (.tmp 53))),
  (.op none (some 55) (.v (.mv (.tmp 5)))),
  (.op none (some 56) (.v (.bin .add (.tmp 54) (.tmp 55)))),
  (.op none (some 57) (.v (.bin .add (.tmp 56) (.const (.int .i64 1))))),
  (.op none (some 58) (.v (.mv (.tmp 6)))),
  (.op none (some 59) (.v (.bin .neq (.tmp 58) (.const (.int .u8 0))))),
  (.op none (some 60) (.v (.mv (.tmp 59)))),
  (.sel 60 false [(61, (.v (.mv (.tmp 5)))), (62, (.v (.bin .eql (.tmp 61) (.const (.int .i64 0)))))] 63 (.const (.bool true)) (.tmp 62)),
  (.op none (some 2) (.v (.mv (.tmp 50)))),
  (.op none (some 3) (.v (.mv (.tmp 57)))),
  (.op none (some 4) (.v (.mv (.tmp 63))))]
def c36s16 : SCode := (.seq (.dq c36r15 c36k) .ret)
@[go_sem] theorem c36s16eq (P : Program) (ρ : Env) (H : Heap) (Q : Post) : vc P c36s16 ρ H Q = vc P (.seq (.dq c36r15 c36k) .ret) ρ H Q := rfl
def c36s17 : SCode := (.cond (.tmp 49) c36s16 .skip)
@[go_sem] theorem c36s17eq (P : Program) (ρ : Env) (H : Heap) (Q : Post) : vc P c36s17 ρ H Q = vc P (.cond (.tmp 49) c36s16 .skip) ρ H Q := rfl
def c36s18 : SCode := (.seq (.ops c36r14 c36k) c36s17)
@[go_sem] theorem c36s18eq (P : Program) (ρ : Env) (H : Heap) (Q : Post) : vc P c36s18 ρ H Q = vc P (.seq (.ops c36r14 c36k) c36s17) ρ H Q := rfl
def c36s19 : SCode := (.seq (.ops c36r13 c36k) c36s18)
@[go_sem] theorem c36s19eq (P : Program) (ρ : Env) (H : Heap) (Q : Post) : vc P c36s19 ρ H Q = vc P (.seq (.ops c36r13 c36k) c36s18) ρ H Q := rfl
def c36s20 : SCode := (.seq (.seq (.ops c36r9 c36k) c36s12) c36s19)
@[go_sem] theorem c36s20eq (P : Program) (ρ : Env) (H : Heap) (Q : Post) : vc P c36s20 ρ H Q = vc P (.seq (.seq (.ops c36r9 c36k) c36s12) c36s19) ρ H Q := rfl
def c36s21 : SCode := (.seq (.dq c36r8 c36k) c36s20)
@[go_sem] theorem c36s21eq (P : Program) (ρ : Env) (H : Heap) (Q : Post) : vc P c36s21 ρ H Q = vc P (.seq (.dq c36r8 c36k) c36s20) ρ H Q := rfl
def c36s22 : SCode := (.seq (.seq (.dq c36r4 c36k) c36s7) c36s21)
@[go_sem] theorem c36s22eq (P : Program) (ρ : Env) (H : Heap) (Q : Post) : vc P c36s22 ρ H Q = vc P (.seq (.seq (.dq c36r4 c36k) c36s7) c36s21) ρ H Q := rfl
@[go_sem] def c36r23 : List GOp := [(.op none (some 64) (.v (.bin .add (.tmp 7) (.const (.int .i64 1))))),
  (.op none (some 7) (.v (.mv (.tmp 64))))]
def c36s24 : SCode := (.ops c36r23 c36k)
@[go_sem] theorem c36s24eq (P : Program) (ρ : Env) (H : Heap) (Q : Post) : vc P c36s24 ρ H Q = vc P (.ops c36r23 c36k) ρ H Q := rfl
def c36s25 : SCode := (.seq (.block 1 (.seq (.ops c36r3 c36k) c36s22)) c36s24)
@[go_sem] theorem c36s25eq (P : Program) (ρ : Env) (H : Heap) (Q : Post) : vc P c36s25 ρ H Q = vc P (.seq (.block 1 (.seq (.ops c36r3 c36k) c36s22)) c36s24) ρ H Q := rfl
def c36s26 : SCode := (.seq (.cond (.tmp 8) .skip (.exit 0)) c36s25)
@[go_sem] theorem c36s26eq (P : Program) (ρ : Env) (H : Heap) (Q : Post) : vc P c36s26 ρ H Q = vc P (.seq (.cond (.tmp 8) .skip (.exit 0)) c36s25) ρ H Q := rfl
def c36s27 : SCode := (.seq (.ops c36r2 c36k) c36s26)
@[go_sem] theorem c36s27eq (P : Program) (ρ : Env) (H : Heap) (Q : Post) : vc P c36s27 ρ H Q = vc P (.seq (.ops c36r2 c36k) c36s26) ρ H Q := rfl
def c36s28 : SCode := (.block 0 (.loop c36s27))
@[go_sem] theorem c36s28eq (P : Program) (ρ : Env) (H : Heap) (Q : Post) : vc P c36s28 ρ H Q = vc P (.block 0 (.loop c36s27)) ρ H Q := rfl
@[go_sem] def c36r29 : List GOp := [(.op none (some 2) (.v (.mv (.const (.int .u64 0))))),
  (.op none (some 3) (.v (.mv (.const (.int .i64 0))))),
  (.op none (some 4) (.v (.mv (.const (.bool false)))))]
def c36s30 : SCode := (.seq (.ops c36r29 c36k) .ret)
@[go_sem] theorem c36s30eq (P : Program) (ρ : Env) (H : Heap) (Q : Post) : vc P c36s30 ρ H Q = vc P (.seq (.ops c36r29 c36k) .ret) ρ H Q := rfl
def c36s31 : SCode := (.seq (.seq (.ops c36r1 c36k) c36s28) c36s30)
@[go_sem] theorem c36s31eq (P : Program) (ρ : Env) (H : Heap) (Q : Post) : vc P c36s31 ρ H Q = vc P (.seq (.seq (.ops c36r1 c36k) c36s28) c36s30) ρ H Q := rfl
def c36 : Gx.Fn := ⟨65, c36k, (.seq (.ops c36r0 c36k) c36s31), [(.tmp 2), (.tmp 3), (.tmp 4)]⟩
theorem c36ok : stripFn Try.prog c36k Try.f36 = some c36 := by kernel_rfl

/- plexusref01.Uint -/
@[go_sem] def c37k : List Nat := [0, 1, 4, 5, 10]
@[go_sem] def c37r0 : List GOp := [(.op none (some 4) (.v (.mv (.const (.slice none 0 0)))))]
@[go_sem] def c37r1 : List GOp := [(.op none (some 6) (.bs 5 0 [] [])),
  (.op none (some 7) (.v (.mv (.tmp 0)))),
  (.op none (some 8) (.ap 25 25 (.tmp 6) (.tmp 7))),
  (.op none (some 5) (.v (.mv (.tmp 8))))]
@[go_sem] def c37r2 : List GOp := [(.op none (some 9) (.v (.mv (.tmp 1)))),
  (.op none (some 10) (.v (.bin .geq (.tmp 9) (.const (.int .u64 128)))))]
def c37s3 : SCode := (.cond (.tmp 10) .skip (.exit 0))
@[go_sem] theorem c37s3eq (P : Program) (ρ : Env) (H : Heap) (Q : Post) : vc P c37s3 ρ H Q = vc P (.cond (.tmp 10) .skip (.exit 0)) ρ H Q := rfl
@[go_sem] def c37r4 : List GOp := [(.op none (some 11) (.v (.mv (.tmp 5)))),
  (.op none (some 12) (.v (.mv (.tmp 1)))),
  (.op none (some 13) (.v (.bin .rem (.tmp 12) (.const (.int .u64 128))))),
  (.op none (some 14) (.v (.cvi .u8 (.tmp 13)))),
  (.op none (some 15) (.v (.bin .add (.tmp 14) (.const (.int .u8 128))))),
  (.op none (some 16) (.bs 5 1 [(.int .u8 0)] [(0, (1, (.tmp 15)))])),
  (.op none (some 17) (.ap 25 25 (.tmp 11) (.tmp 16))),
  (.op none (some 5) (.v (.mv (.tmp 17))))]
@[go_sem] def c37r5 : List GOp := [(.op none (some 18) (.v (.mv (.tmp 1)))),
  (.op none (some 19) (.v (.bin .quo (.tmp 18) (.const (.int .u64 128))))),
  (.op none (some 1) (.v (.mv (.tmp 19))))]
def c37s6 : SCode := (.ops c37r5 c37k)
@[go_sem] theorem c37s6eq (P : Program) (ρ : Env) (H : Heap) (Q : Post) : vc P c37s6 ρ H Q = vc P (.ops c37r5 c37k) ρ H Q := rfl
def c37s7 : SCode := (.block 1 (.seq (.ops c37r4 c37k) c37s6))
@[go_sem] theorem c37s7eq (P : Program) (ρ : Env) (H : Heap) (Q : Post) : vc P c37s7 ρ H Q = vc P (.block 1 (.seq (.ops c37r4 c37k) c37s6)) ρ H Q := rfl
def c37s8 : SCode := (.seq (.seq (.ops c37r2 c37k) c37s3) c37s7)
@[go_sem] theorem c37s8eq (P : Program) (ρ : Env) (H : Heap) (Q : Post) : vc P c37s8 ρ H Q = vc P (.seq (.seq (.ops c37r2 c37k) c37s3) c37s7) ρ H Q := rfl
@[go_sem] def c37r9 : List GOp := [(.op none (some 20) (.v (.mv (.tmp 5)))),
  (.op none (some 21) (.v (.mv (.tmp 1)))),
  (.op none (some 22) (.v (.cvi .u8 (.tmp 21)))),
  (.op none (some 23) (.bs 5 1 [(.int .u8 0)] [(0, (1, (.tmp 22)))])),
  (.op none (some 24) (.ap 25 25 (.tmp 20) (.tmp 23))),
  (.op none (some 4) (.v (.mv (.tmp 24))))]
def c37s10 : SCode := (.seq (.ops c37r9 c37k) .ret)
@[go_sem] theorem c37s10eq (P : Program) (ρ : Env) (H : Heap) (Q : Post) : vc P c37s10 ρ H Q = vc P (.seq (.ops c37r9 c37k) .ret) ρ H Q := rfl
def c37s11 : SCode := (.seq (.block 0 (.loop c37s8)) c37s10)
@[go_sem] theorem c37s11eq (P : Program) (ρ : Env) (H : Heap) (Q : Post) : vc P c37s11 ρ H Q = vc P (.seq (.block 0 (.loop c37s8)) c37s10) ρ H Q := rfl
def c37s12 : SCode := (.seq (.ops c37r1 c37k) c37s11)
@[go_sem] theorem c37s12eq (P : Program) (ρ : Env) (H : Heap) (Q : Post) : vc P c37s12 ρ H Q = vc P (.seq (.ops c37r1 c37k) c37s11) ρ H Q := rfl
def c37 : Gx.Fn := ⟨25, c37k, (.seq (.ops c37r0 c37k) c37s12), [(.tmp 4)]⟩
theorem c37ok : stripFn Try.prog c37k Try.f37 = some c37 := by kernel_rfl

/- plexusref01.Int -/
@[go_sem] def c38k : List Nat := [0, 1, 4, 6]
@[go_sem] def c38r0 : List GOp := [(.op none (some 4) (.v (.mv (.const (.slice none 0 0)))))]
@[go_sem] def c38r1 : List GOp := [(.op none (some 5) (.v (.mv (.tmp 1)))),
  (.op none (some 6) (.v (.bin .geq (.tmp 5) (.const (.int .i64 0)))))]
@[go_sem] def c38r2 : List GOp := [(.op none (some 7) (.v (.mv (.tmp 0)))),
  (.op none (some 8) (.v (.mv (.tmp 1)))),
  (.op none (some 9) (.v (.cvi .u64 (.tmp 8)))),
  (.op none (some 10) (.v (.bin .mul (.const (.int .u64 2)) (.tmp 9)))),
  (.op none (some 11) (.call 37 [(.tmp 7), (.tmp 10)])),
  (.op none (some 4) (.v (.mv (.tmp 11))))]
def c38s3 : SCode := (.seq (.ops c38r2 c38k) .ret)
@[go_sem] theorem c38s3eq (P : Program) (ρ : Env) (H : Heap) (Q : Post) : vc P c38s3 ρ H Q = vc P (.seq (.ops c38r2 c38k) .ret) ρ H Q := rfl
def c38s4 : SCode := (.cond (.tmp 6) c38s3 .skip)
@[go_sem] theorem c38s4eq (P : Program) (ρ : Env) (H : Heap) (Q : Post) : vc P c38s4 ρ H Q = vc P (.cond (.tmp 6) c38s3 .skip) ρ H Q := rfl
@[go_sem] def c38r5 : List GOp := [(.op none (some 12) (.v (.mv (.tmp 0)))),
  (.op none (some 13) (.v (.mv (.tmp 1)))),
  (.op none (some 14) (.v (.bin .add (.tmp 13) (.const (.int .i64 1))))),
  (.op none (some 15) (.v (.un .neg (.tmp 14)))),
  (.op none (some 16) (.v (.cvi .u64 (.tmp 15)))),
  (.op none (some 17) (.v (.bin .mul (.const (.int .u64 2)) (.tmp 16)))),
  (.op none (some 18) (.v (.bin .add (.tmp 17) (.const (.int .u64 1))))),
  (.op none (some 19) (.call 37 [(.tmp 12), (.tmp 18)])),
  (.op none (some 4) (.v (.mv (.tmp 19))))]
def c38s6 : SCode := (.seq (.ops c38r5 c38k) .ret)
@[go_sem] theorem c38s6eq (P : Program) (ρ : Env) (H : Heap) (Q : Post) : vc P c38s6 ρ H Q = vc P (.seq (.ops c38r5 c38k) .ret) ρ H Q := rfl
def c38s7 : SCode := (.seq (.seq (.ops c38r1 c38k) c38s4) c38s6)
@[go_sem] theorem c38s7eq (P : Program) (ρ : Env) (H : Heap) (Q : Post) : vc P c38s7 ρ H Q = vc P (.seq (.seq (.ops c38r1 c38k) c38s4) c38s6) ρ H Q := rfl
def c38 : Gx.Fn := ⟨20, c38k, (.seq (.ops c38r0 c38k) c38s7), [(.tmp 4)]⟩
theorem c38ok : stripFn Try.prog c38k Try.f38 = some c38 := by kernel_rfl

/- plexusref01.Bool -/
@[go_sem] def c39k : List Nat := [0, 1, 4, 5]
@[go_sem] def c39r0 : List GOp := [(.op none (some 4) (.v (.mv (.const (.slice none 0 0)))))]
@[go_sem] def c39r1 : List GOp := [(.op none (some 5) (.v (.mv (.tmp 1))))]
@[go_sem] def c39r2 : List GOp := [(.op none (some 6) (.bs 5 0 [] [])),
  (.op none (some 7) (.v (.mv (.tmp 0)))),
  (.op none (some 8) (.ap 25 25 (.tmp 6) (.tmp 7))),
  (.op none (some 9) (.bs 5 1 [(.int .u8 0)] [(0, (1, (.const (.int .u8 1))))])),
  (.op none (some 10) (.ap 25 25 (.tmp 8) (.tmp 9))),
  (.op none (some 4) (.v (.mv (.tmp 10))))]
def c39s3 : SCode := (.seq (.ops c39r2 c39k) .ret)
@[go_sem] theorem c39s3eq (P : Program) (ρ : Env) (H : Heap) (Q : Post) : vc P c39s3 ρ H Q = vc P (.seq (.ops c39r2 c39k) .ret) ρ H Q := rfl
def c39s4 : SCode := (.cond (.tmp 5) c39s3 .skip)
@[go_sem] theorem c39s4eq (P : Program) (ρ : Env) (H : Heap) (Q : Post) : vc P c39s4 ρ H Q = vc P (.cond (.tmp 5) c39s3 .skip) ρ H Q := rfl
@[go_sem] def c39r5 : List GOp := [(.op none (some 11) (.bs 5 0 [] [])),
  (.op none (some 12) (.v (.mv (.tmp 0)))),
  (.op none (some 13) (.ap 25 25 (.tmp 11) (.tmp 12))),
  (.op none (some 14) (.bs 5 1 [(.int .u8 0)] [(0, (1, (.const (.int .u8 0))))])),
  (.op none (some 15) (.ap 25 25 (.tmp 13) (.tmp 14))),
  (.op none (some 4) (.v (.mv (.tmp 15))))]
def c39s6 : SCode := (.seq (.ops c39r5 c39k) .ret)
@[go_sem] theorem c39s6eq (P : Program) (ρ : Env) (H : Heap) (Q : Post) : vc P c39s6 ρ H Q = vc P (.seq (.ops c39r5 c39k) .ret) ρ H Q := rfl
def c39s7 : SCode := (.seq (.seq (.ops c39r1 c39k) c39s4) c39s6)
@[go_sem] theorem c39s7eq (P : Program) (ρ : Env) (H : Heap) (Q : Post) : vc P c39s7 ρ H Q = vc P (.seq (.seq (.ops c39r1 c39k) c39s4) c39s6) ρ H Q := rfl
def c39 : Gx.Fn := ⟨16, c39k, (.seq (.ops c39r0 c39k) c39s7), [(.tmp 4)]⟩
theorem c39ok : stripFn Try.prog c39k Try.f39 = some c39 := by kernel_rfl

/- plexusref01.Bytes -/
@[go_sem] def c40k : List Nat := [0, 1, 4]
@[go_sem] def c40r0 : List GOp := [(.op none (some 4) (.v (.mv (.const (.slice none 0 0)))))]
@[go_sem] def c40r1 : List GOp := [(.op none (some 5) (.v (.mv (.tmp 0)))),
  (.op none (some 6) (.v (.mv (.tmp 1)))),
  (.op none (some 7) (.v (.len (.tmp 6)))),
  (.op none (some 8) (.v (.cvi .u64 (.tmp 7)))),
  (.op none (some 9) (.call 37 [(.tmp 5), (.tmp 8)])),
  (.op none (some 10) (.v (.mv (.tmp 1)))),
  (.op none (some 11) (.ap 25 25 (.tmp 9) (.tmp 10))),
  (.op none (some 4) (.v (.mv (.tmp 11))))]
def c40s2 : SCode := (.seq (.ops c40r1 c40k) .ret)
@[go_sem] theorem c40s2eq (P : Program) (ρ : Env) (H : Heap) (Q : Post) : vc P c40s2 ρ H Q = vc P (.seq (.ops c40r1 c40k) .ret) ρ H Q := rfl
def c40 : Gx.Fn := ⟨12, c40k, (.seq (.ops c40r0 c40k) c40s2), [(.tmp 4)]⟩
theorem c40ok : stripFn Try.prog c40k Try.f40 = some c40 := by kernel_rfl

end Go.Proofs.Ytighhngepdmmlaa
