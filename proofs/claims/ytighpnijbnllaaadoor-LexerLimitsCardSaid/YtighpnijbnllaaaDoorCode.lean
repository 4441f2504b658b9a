/- Generated: the stripped code of Go functions, each held against the loaded program. -/
import Derived.Test.YtighpnijbnllaaaDoorProg
import Derived.Test.YtighpnijbnllaaaDoorGx13
namespace Go.Proofs.YtighpnijbnllaaaDoor
open Gx Go
variable (P : Program) (E : Chain → Heap → Prop) (σ : Slots) (H : Heap) (Q : Post)

/- plexuslaw15.LexerWords -/
@[go_sem] def c3k : List Nat := [0, 2, 4]
@[go_sem] def c3r0 : List GOp := [(.op none (.s 1) (.v (.mv (.c (.bool false)))))]
@[go_sem] def c3r1 : List GOp := [(.op none .t (.call 14 [])),
  (.op none (.s 2) (.v (.un .not (.t 0))))]
@[go_sem] def c3r2 : List GOp := [(.op none (.s 1) (.v (.mv (.c (.bool false)))))]
def c3s3 : SCode := (.cond (.s 2) (.seq (.ops c3r2) .ret) .skip)
@[go_sem] theorem c3s3eq : vc P E c3s3 σ H Q = vc P E (.cond (.s 2) (.seq (.ops c3r2) .ret) .skip) σ H Q := rfl
@[go_sem] def c3r4 : List GOp := [(.op none .t (.v (.mv (.s 0)))),
  (.op none .t (.call 15 [(.t 0)])),
  (.op none .t (.v (.mv (.s 0)))),
  (.op none .t (.call 16 [(.t 0)])),
  (.op none .t (.v (.beq false (.t 2) (.t 0)))),
  (.op none .t (.v (.mv (.t 0)))),
  (.op (some ((.t 0), (true, true))) .t (.v (.mv (.s 0)))),
  (.op (some ((.t 1), (true, false))) .t (.call 17 [(.t 0)])),
  (.op (some ((.t 2), (true, false))) .t (.v (.mv (.s 0)))),
  (.op (some ((.t 3), (true, false))) .t (.call 18 [(.t 0)])),
  (.op (some ((.t 4), (true, false))) .t (.v (.beq false (.t 2) (.t 0)))),
  (.op none .t (.v (.pick (.t 5) (.t 0) (.c (.bool false))))),
  (.op none (.s 1) (.v (.mv (.t 0))))]
def c3s5 : SCode := (.seq (.seq (.ops c3r1) c3s3) (.seq (.ops c3r4) .ret))
@[go_sem] theorem c3s5eq : vc P E c3s5 σ H Q = vc P E (.seq (.seq (.ops c3r1) c3s3) (.seq (.ops c3r4) .ret)) σ H Q := rfl
def c3 : Gx.Fn := ⟨17, c3k, (.seq (.ops c3r0) c3s5), [(.tmp (.s 1))]⟩
theorem c3ok : stripFn Tryd.prog c3k Tryd.f3 = some c3 := by kernel_rfl

/- plexuslaw15.LexerNext -/
@[go_sem] def c4k : List Nat := [0, 1, 4, 5, 6, 7, 8, 9, 10, 12, 15]
@[go_sem] def c4r0 : List GOp := [(.op none (.s 2) (.v (.mv (.c (.bool false)))))]
@[go_sem] def c4r1 : List GOp := [(.op none .t (.call 14 [])),
  (.op none (.s 9) (.v (.un .not (.t 0))))]
@[go_sem] def c4r2 : List GOp := [(.op none (.s 2) (.v (.mv (.c (.bool false)))))]
def c4s3 : SCode := (.cond (.s 9) (.seq (.ops c4r2) .ret) .skip)
@[go_sem] theorem c4s3eq : vc P E c4s3 σ H Q = vc P E (.cond (.s 9) (.seq (.ops c4r2) .ret) .skip) σ H Q := rfl
@[go_sem] def c4r4 : List GOp := [(.op none .t (.v (.mv (.s 0)))),
  (.op none .t (.v (.slen (.t 0)))),
  (.op none (.s 10) (.v (.bin .gtr (.t 0) (.c (.int .i64 2000)))))]
@[go_sem] def c4r5 : List GOp := [(.op none (.s 2) (.v (.mv (.c (.bool true)))))]
def c4s6 : SCode := (.cond (.s 10) (.seq (.ops c4r5) .ret) .skip)
@[go_sem] theorem c4s6eq : vc P E c4s6 σ H Q = vc P E (.cond (.s 10) (.seq (.ops c4r5) .ret) .skip) σ H Q := rfl
@[go_sem] def c4r7 : List GOp := [(.op none .t (.v (.mv (.s 0)))),
  (.op none .t (.v (.mv (.s 1)))),
  (.op none .t (.call 19 [(.t 1), (.t 0)])),
  (.op none .t (.v (.mv (.t 0)))),
  (.op none .t (.v (.ext (.t 0) 0))),
  (.op none .t (.v (.ext (.t 1) 1))),
  (.op none .t (.v (.ext (.t 2) 2))),
  (.op none (.s 3) (.al 25 [(.int .i64 0), (.string ⟨⟨[]⟩⟩), (.int .i64 0), (.int .i64 0)])),
  (.op none (.s 5) (.al 28 [(.int .i64 0), (.int .i64 0)])),
  (.op none .no (.st 4 (.s 3) (.t 2))),
  (.op none (.s 4) (.v (.mv (.t 1)))),
  (.op none .no (.st 2 (.s 5) (.t 0)))]
@[go_sem] def c4r8 : List GOp := [(.op none .t (.v (.mv (.s 0)))),
  (.op none .t (.v (.mv (.s 1)))),
  (.op none .t (.call 20 [(.t 1), (.t 0)])),
  (.op none .t (.v (.mv (.t 0)))),
  (.op none .t (.v (.ext (.t 0) 0))),
  (.op none .t (.v (.ext (.t 1) 1))),
  (.op none .t (.v (.ext (.t 2) 2))),
  (.op none (.s 6) (.al 25 [(.int .i64 0), (.string ⟨⟨[]⟩⟩), (.int .i64 0), (.int .i64 0)])),
  (.op none (.s 8) (.al 28 [(.int .i64 0), (.int .i64 0)])),
  (.op none .no (.st 4 (.s 6) (.t 2))),
  (.op none (.s 7) (.v (.mv (.t 1)))),
  (.op none .no (.st 2 (.s 8) (.t 0)))]
@[go_sem] def c4r9 : List GOp := [(.op none .t (.ld (some 4) (.s 3))),
  (.op none .t (.ld (some 4) (.s 6))),
  (.op none .t (.v (.steq false [(0, .i), (1, .s), (2, .i), (3, .i)] (.t 1) (.t 0)))),
  (.op none .t (.v (.mv (.t 0)))),
  (.sel (.t 0) true [(.op (.v (.mv (.s 4)))), (.op (.v (.mv (.s 7)))), (.op (.v (.bin .eql (.t 1) (.t 0))))] .t (.t 0) (.c (.bool false))),
  (.op none .t (.v (.mv (.t 0)))),
  (.op (some ((.t 0), (true, true))) .t (.ld (some 2) (.s 5))),
  (.op (some ((.t 1), (true, false))) .t (.ld (some 2) (.s 8))),
  (.op (some ((.t 2), (true, false))) .t (.v (.steq false [(0, .i), (1, .i)] (.t 1) (.t 0)))),
  (.op none .t (.v (.pick (.t 3) (.t 0) (.c (.bool false))))),
  (.op none (.s 2) (.v (.mv (.t 0))))]
def c4s10 : SCode := (.seq (.ops c4r8) (.seq (.ops c4r9) .ret))
@[go_sem] theorem c4s10eq : vc P E c4s10 σ H Q = vc P E (.seq (.ops c4r8) (.seq (.ops c4r9) .ret)) σ H Q := rfl
def c4s11 : SCode := (.seq (.ops c4r7) c4s10)
@[go_sem] theorem c4s11eq : vc P E c4s11 σ H Q = vc P E (.seq (.ops c4r7) c4s10) σ H Q := rfl
def c4s12 : SCode := (.seq (.seq (.ops c4r4) c4s6) c4s11)
@[go_sem] theorem c4s12eq : vc P E c4s12 σ H Q = vc P E (.seq (.seq (.ops c4r4) c4s6) c4s11) σ H Q := rfl
def c4s13 : SCode := (.seq (.seq (.ops c4r1) c4s3) c4s12)
@[go_sem] theorem c4s13eq : vc P E c4s13 σ H Q = vc P E (.seq (.seq (.ops c4r1) c4s3) c4s12) σ H Q := rfl
def c4 : Gx.Fn := ⟨43, c4k, (.seq (.ops c4r0) c4s13), [(.tmp (.s 2))]⟩
theorem c4ok : stripFn Tryd.prog c4k Tryd.f4 = some c4 := by kernel_rfl

/- plexuslaw15.LexerLex -/
@[go_sem] def c5k : List Nat := [0, 2, 3, 4, 5, 6, 8, 11]
@[go_sem] def c5r0 : List GOp := [(.op none (.s 1) (.v (.mv (.c (.bool false)))))]
@[go_sem] def c5r1 : List GOp := [(.op none .t (.call 14 [])),
  (.op none (.s 6) (.v (.un .not (.t 0))))]
@[go_sem] def c5r2 : List GOp := [(.op none (.s 1) (.v (.mv (.c (.bool false)))))]
def c5s3 : SCode := (.cond (.s 6) (.seq (.ops c5r2) .ret) .skip)
@[go_sem] theorem c5s3eq : vc P E c5s3 σ H Q = vc P E (.cond (.s 6) (.seq (.ops c5r2) .ret) .skip) σ H Q := rfl
@[go_sem] def c5r4 : List GOp := [(.op none .t (.v (.mv (.s 0)))),
  (.op none .t (.v (.slen (.t 0)))),
  (.op none (.s 7) (.v (.bin .gtr (.t 0) (.c (.int .i64 2000)))))]
@[go_sem] def c5r5 : List GOp := [(.op none (.s 1) (.v (.mv (.c (.bool true)))))]
def c5s6 : SCode := (.cond (.s 7) (.seq (.ops c5r5) .ret) .skip)
@[go_sem] theorem c5s6eq : vc P E c5s6 σ H Q = vc P E (.cond (.s 7) (.seq (.ops c5r5) .ret) .skip) σ H Q := rfl
@[go_sem] def c5r7 : List GOp := [(.op none .t (.v (.mv (.s 0)))),
  (.op none .t (.call 21 [(.t 0)])),
  (.op none .t (.v (.mv (.t 0)))),
  (.op none .t (.v (.ext (.t 0) 0))),
  (.op none .t (.v (.ext (.t 1) 1))),
  (.op none (.s 3) (.al 28 [(.int .i64 0), (.int .i64 0)])),
  (.op none (.s 2) (.v (.mv (.t 1)))),
  (.op none .no (.st 2 (.s 3) (.t 0)))]
@[go_sem] def c5r8 : List GOp := [(.op none .t (.v (.mv (.s 0)))),
  (.op none .t (.call 22 [(.t 0)])),
  (.op none .t (.v (.mv (.t 0)))),
  (.op none .t (.v (.ext (.t 0) 0))),
  (.op none .t (.v (.ext (.t 1) 1))),
  (.op none (.s 5) (.al 28 [(.int .i64 0), (.int .i64 0)])),
  (.op none (.s 4) (.v (.mv (.t 1)))),
  (.op none .no (.st 2 (.s 5) (.t 0)))]
@[go_sem] def c5r9 : List GOp := [(.op none .t (.ld (some 2) (.s 3))),
  (.op none .t (.ld (some 2) (.s 5))),
  (.op none .t (.v (.steq false [(0, .i), (1, .i)] (.t 1) (.t 0)))),
  (.op none .t (.v (.mv (.t 0)))),
  (.op (some ((.t 0), (true, true))) .t (.v (.mv (.s 2)))),
  (.op (some ((.t 1), (true, false))) .t (.v (.mv (.s 4)))),
  (.op (some ((.t 2), (true, false))) .t (.call 23 [(.t 1), (.t 0), (.c (.bool true))])),
  (.op none .t (.v (.pick (.t 3) (.t 0) (.c (.bool false))))),
  (.op none (.s 1) (.v (.mv (.t 0))))]
def c5s10 : SCode := (.seq (.ops c5r8) (.seq (.ops c5r9) .ret))
@[go_sem] theorem c5s10eq : vc P E c5s10 σ H Q = vc P E (.seq (.ops c5r8) (.seq (.ops c5r9) .ret)) σ H Q := rfl
def c5s11 : SCode := (.seq (.ops c5r7) c5s10)
@[go_sem] theorem c5s11eq : vc P E c5s11 σ H Q = vc P E (.seq (.ops c5r7) c5s10) σ H Q := rfl
def c5s12 : SCode := (.seq (.seq (.ops c5r4) c5s6) c5s11)
@[go_sem] theorem c5s12eq : vc P E c5s12 σ H Q = vc P E (.seq (.seq (.ops c5r4) c5s6) c5s11) σ H Q := rfl
def c5s13 : SCode := (.seq (.seq (.ops c5r1) c5s3) c5s12)
@[go_sem] theorem c5s13eq : vc P E c5s13 σ H Q = vc P E (.seq (.seq (.ops c5r1) c5s3) c5s12) σ H Q := rfl
def c5 : Gx.Fn := ⟨30, c5k, (.seq (.ops c5r0) c5s13), [(.tmp (.s 1))]⟩
theorem c5ok : stripFn Tryd.prog c5k Tryd.f5 = some c5 := by kernel_rfl

/- plexuslaw15.LexerSteps -/
@[go_sem] def c6k : List Nat := [0, 2, 3, 4, 5, 6, 7, 8, 9, 11, 14, 23, 35, 71, 74]
@[go_sem] def c6r0 : List GOp := [(.op none (.s 1) (.v (.mv (.c (.bool false)))))]
@[go_sem] def c6r1 : List GOp := [(.op none .t (.call 14 [])),
  (.op none (.s 9) (.v (.un .not (.t 0))))]
@[go_sem] def c6r2 : List GOp := [(.op none (.s 1) (.v (.mv (.c (.bool false)))))]
def c6s3 : SCode := (.cond (.s 9) (.seq (.ops c6r2) .ret) .skip)
@[go_sem] theorem c6s3eq : vc P E c6s3 σ H Q = vc P E (.cond (.s 9) (.seq (.ops c6r2) .ret) .skip) σ H Q := rfl
@[go_sem] def c6r4 : List GOp := [(.op none .t (.v (.mv (.s 0)))),
  (.op none .t (.v (.slen (.t 0)))),
  (.op none (.s 10) (.v (.bin .gtr (.t 0) (.c (.int .i64 2000)))))]
@[go_sem] def c6r5 : List GOp := [(.op none (.s 1) (.v (.mv (.c (.bool true)))))]
def c6s6 : SCode := (.cond (.s 10) (.seq (.ops c6r5) .ret) .skip)
@[go_sem] theorem c6s6eq : vc P E c6s6 σ H Q = vc P E (.cond (.s 10) (.seq (.ops c6r5) .ret) .skip) σ H Q := rfl
@[go_sem] def c6r7 : List GOp := [(.op none .t (.v (.mv (.s 0)))),
  (.op none .t (.call 21 [(.t 0)])),
  (.op none .t (.v (.mv (.t 0)))),
  (.op none .t (.v (.ext (.t 0) 0))),
  (.op none .t (.v (.ext (.t 1) 1))),
  (.op none (.s 3) (.al 28 [(.int .i64 0), (.int .i64 0)])),
  (.op none (.s 2) (.v (.mv (.t 1)))),
  (.op none .no (.st 2 (.s 3) (.t 0)))]
@[go_sem] def c6r8 : List GOp := [(.op none (.s 4) (.v (.mv (.c (.int .i64 0)))))]
@[go_sem] def c6r9 : List GOp := [(.op none (.s 5) (.v (.mv (.c (.int .i64 0)))))]
@[go_sem] def c6r10 : List GOp := [(.op none .t (.v (.mv (.s 5)))),
  (.op none .t (.v (.mv (.s 0)))),
  (.op none .t (.v (.slen (.t 0)))),
  (.op none (.s 11) (.v (.bin .leq (.t 2) (.t 0))))]
def c6s11 : SCode := (.cond (.s 11) .skip (.exit 0))
@[go_sem] theorem c6s11eq : vc P E c6s11 σ H Q = vc P E (.cond (.s 11) .skip (.exit 0)) σ H Q := rfl
@[go_sem] def c6r12 : List GOp := [(.op none .t (.v (.mv (.s 0)))),
  (.op none .t (.v (.mv (.s 4)))),
  (.op none .t (.call 19 [(.t 1), (.t 0)])),
  (.op none .t (.v (.mv (.t 0)))),
  (.op none .t (.v (.ext (.t 0) 0))),
  (.op none .t (.v (.ext (.t 1) 1))),
  (.op none .t (.v (.ext (.t 2) 2))),
  (.op none (.s 6) (.al 25 [(.int .i64 0), (.string ⟨⟨[]⟩⟩), (.int .i64 0), (.int .i64 0)])),
  (.op none (.s 8) (.al 28 [(.int .i64 0), (.int .i64 0)])),
  (.op none .no (.st 4 (.s 6) (.t 2))),
  (.op none (.s 7) (.v (.mv (.t 1)))),
  (.op none .no (.st 2 (.s 8) (.t 0)))]
@[go_sem] def c6r13 : List GOp := [(.op none .t (.v (.fa 0 (.s 8)))),
  (.op none .t (.ld none (.t 0))),
  (.op none (.s 12) (.v (.bin .neq (.t 0) (.c (.int .i64 0)))))]
@[go_sem] def c6r14 : List GOp := [(.op none .t (.ld (some 2) (.s 3))),
  (.op none .t (.ld (some 2) (.s 8))),
  (.op none .t (.v (.steq false [(0, .i), (1, .i)] (.t 1) (.t 0)))),
  (.op none .t (.v (.mv (.t 0)))),
  (.sel (.t 0) true [(.op (.v (.mv (.s 2)))), (.op (.v (.len (.t 0)))), (.op (.v (.bin .eql (.t 0) (.c (.int .i64 0)))))] .t (.t 0) (.c (.bool false))),
  (.op none (.s 1) (.v (.mv (.t 0))))]
def c6s15 : SCode := (.seq (.ops c6r14) .ret)
@[go_sem] theorem c6s15eq : vc P E c6s15 σ H Q = vc P E (.seq (.ops c6r14) .ret) σ H Q := rfl
def c6s16 : SCode := (.cond (.s 12) c6s15 .skip)
@[go_sem] theorem c6s16eq : vc P E c6s16 σ H Q = vc P E (.cond (.s 12) c6s15 .skip) σ H Q := rfl
@[go_sem] def c6r17 : List GOp := [(.op none .t (.v (.fa 0 (.s 3)))),
  (.op none .t (.ld none (.t 0))),
  (.op none .t (.v (.bin .eql (.t 0) (.c (.int .i64 0))))),
  (.op none .t (.v (.mv (.t 0)))),
  (.op (some ((.t 0), (true, true))) .t (.v (.mv (.s 5)))),
  (.op (some ((.t 1), (true, false))) .t (.v (.mv (.s 2)))),
  (.op (some ((.t 2), (true, false))) .t (.v (.len (.t 0)))),
  (.op (some ((.t 3), (true, false))) .t (.v (.bin .geq (.t 2) (.t 0)))),
  (.op (some ((.t 4), (true, false))) .t (.v (.mv (.t 0)))),
  (.op (some ((.t 0), (false, true))) .t (.v (.mv (.s 2)))),
  (.op (some ((.t 1), (false, false))) .t (.v (.mv (.s 5)))),
  (.op (some ((.t 2), (false, false))) .t (.v (.ix 4 (.t 1) (.t 0)))),
  (.op (some ((.t 3), (false, false))) .t (.ld (some 4) (.t 0))),
  (.op (some ((.t 4), (false, false))) .t (.ld (some 4) (.s 6))),
  (.op (some ((.t 5), (false, false))) .t (.v (.steq true [(0, .i), (1, .s), (2, .i), (3, .i)] (.t 1) (.t 0)))),
  (.op (some ((.t 11), (true, true))) .t (.v (.pick (.t 6) (.c (.bool true)) (.t 0)))),
  (.op none .t (.v (.pick (.t 12) (.t 0) (.c (.bool false))))),
  (.op none .t (.v (.mv (.t 0)))),
  (.sel (.t 0) false [(.op (.v (.mv (.s 7)))), (.op (.v (.mv (.s 4)))), (.op (.v (.bin .lss (.t 1) (.t 0))))] .t (.c (.bool true)) (.t 0)),
  (.op none .t (.v (.mv (.t 0)))),
  (.sel (.t 0) false [(.op (.v (.mv (.s 7)))), (.op (.v (.mv (.s 0)))), (.op (.v (.slen (.t 0)))), (.op (.v (.bin .gtr (.t 2) (.t 0))))] (.s 13) (.c (.bool true)) (.t 0))]
@[go_sem] def c6r18 : List GOp := [(.op none (.s 1) (.v (.mv (.c (.bool false)))))]
def c6s19 : SCode := (.seq (.ops c6r18) .ret)
@[go_sem] theorem c6s19eq : vc P E c6s19 σ H Q = vc P E (.seq (.ops c6r18) .ret) σ H Q := rfl
def c6s20 : SCode := (.cond (.s 13) c6s19 .skip)
@[go_sem] theorem c6s20eq : vc P E c6s20 σ H Q = vc P E (.cond (.s 13) c6s19 .skip) σ H Q := rfl
@[go_sem] def c6r21 : List GOp := [(.op none .t (.v (.fa 0 (.s 6)))),
  (.op none .t (.ld none (.t 0))),
  (.op none (.s 14) (.v (.bin .eql (.t 0) (.c (.int .i64 6)))))]
@[go_sem] def c6r22 : List GOp := [(.op none .t (.v (.fa 0 (.s 3)))),
  (.op none .t (.ld none (.t 0))),
  (.op none .t (.v (.bin .eql (.t 0) (.c (.int .i64 0))))),
  (.op none .t (.v (.mv (.t 0)))),
  (.sel (.t 0) true [(.op (.v (.mv (.s 2)))), (.op (.v (.len (.t 0)))), (.op (.v (.mv (.s 5)))), (.op (.v (.bin .add (.t 0) (.c (.int .i64 1))))), (.op (.v (.bin .eql (.t 2) (.t 0))))] .t (.t 0) (.c (.bool false))),
  (.op none .t (.v (.mv (.t 0)))),
  (.sel (.t 0) true [(.op (.v (.fa 3 (.s 6)))), (.op (.ld none (.t 0))), (.op (.v (.mv (.s 0)))), (.op (.v (.slen (.t 0)))), (.op (.v (.bin .eql (.t 2) (.t 0))))] .t (.t 0) (.c (.bool false))),
  (.op none (.s 1) (.v (.mv (.t 0))))]
def c6s23 : SCode := (.seq (.ops c6r22) .ret)
@[go_sem] theorem c6s23eq : vc P E c6s23 σ H Q = vc P E (.seq (.ops c6r22) .ret) σ H Q := rfl
def c6s24 : SCode := (.cond (.s 14) c6s23 .skip)
@[go_sem] theorem c6s24eq : vc P E c6s24 σ H Q = vc P E (.cond (.s 14) c6s23 .skip) σ H Q := rfl
@[go_sem] def c6r25 : List GOp := [(.op none .t (.v (.mv (.s 7)))),
  (.op none (.s 4) (.v (.mv (.t 0))))]
def c6s26 : SCode := (.ops c6r25)
@[go_sem] theorem c6s26eq : vc P E c6s26 σ H Q = vc P E (.ops c6r25) σ H Q := rfl
def c6s27 : SCode := (.seq (.seq (.ops c6r21) c6s24) c6s26)
@[go_sem] theorem c6s27eq : vc P E c6s27 σ H Q = vc P E (.seq (.seq (.ops c6r21) c6s24) c6s26) σ H Q := rfl
def c6s28 : SCode := (.seq (.seq (.dq c6r17) c6s20) c6s27)
@[go_sem] theorem c6s28eq : vc P E c6s28 σ H Q = vc P E (.seq (.seq (.dq c6r17) c6s20) c6s27) σ H Q := rfl
def c6s29 : SCode := (.seq (.seq (.ops c6r13) c6s16) c6s28)
@[go_sem] theorem c6s29eq : vc P E c6s29 σ H Q = vc P E (.seq (.seq (.ops c6r13) c6s16) c6s28) σ H Q := rfl
@[go_sem] def c6r30 : List GOp := [(.op none .t (.v (.mv (.s 5)))),
  (.op none .t (.v (.bin .add (.t 0) (.c (.int .i64 1))))),
  (.op none (.s 5) (.v (.mv (.t 0))))]
def c6s31 : SCode := (.ops c6r30)
@[go_sem] theorem c6s31eq : vc P E c6s31 σ H Q = vc P E (.ops c6r30) σ H Q := rfl
def c6s32 : SCode := (.seq (.block 1 (.seq (.ops c6r12) c6s29)) c6s31)
@[go_sem] theorem c6s32eq : vc P E c6s32 σ H Q = vc P E (.seq (.block 1 (.seq (.ops c6r12) c6s29)) c6s31) σ H Q := rfl
def c6s33 : SCode := (.seq (.seq (.ops c6r10) c6s11) c6s32)
@[go_sem] theorem c6s33eq : vc P E c6s33 σ H Q = vc P E (.seq (.seq (.ops c6r10) c6s11) c6s32) σ H Q := rfl
def c6s34 : SCode := (.block 0 (.loop c6k c6s33))
@[go_sem] theorem c6s34eq : vc P E c6s34 σ H Q = vc P E (.block 0 (.loop c6k c6s33)) σ H Q := rfl
@[go_sem] def c6r35 : List GOp := [(.op none (.s 1) (.v (.mv (.c (.bool false)))))]
def c6s36 : SCode := (.seq (.ops c6r35) .ret)
@[go_sem] theorem c6s36eq : vc P E c6s36 σ H Q = vc P E (.seq (.ops c6r35) .ret) σ H Q := rfl
def c6s37 : SCode := (.seq (.seq (.ops c6r9) c6s34) c6s36)
@[go_sem] theorem c6s37eq : vc P E c6s37 σ H Q = vc P E (.seq (.seq (.ops c6r9) c6s34) c6s36) σ H Q := rfl
def c6s38 : SCode := (.seq (.ops c6r8) c6s37)
@[go_sem] theorem c6s38eq : vc P E c6s38 σ H Q = vc P E (.seq (.ops c6r8) c6s37) σ H Q := rfl
def c6s39 : SCode := (.seq (.ops c6r7) c6s38)
@[go_sem] theorem c6s39eq : vc P E c6s39 σ H Q = vc P E (.seq (.ops c6r7) c6s38) σ H Q := rfl
def c6s40 : SCode := (.seq (.seq (.ops c6r4) c6s6) c6s39)
@[go_sem] theorem c6s40eq : vc P E c6s40 σ H Q = vc P E (.seq (.seq (.ops c6r4) c6s6) c6s39) σ H Q := rfl
def c6s41 : SCode := (.seq (.seq (.ops c6r1) c6s3) c6s40)
@[go_sem] theorem c6s41eq : vc P E c6s41 σ H Q = vc P E (.seq (.seq (.ops c6r1) c6s3) c6s40) σ H Q := rfl
def c6 : Gx.Fn := ⟨93, c6k, (.seq (.ops c6r0) c6s41), [(.tmp (.s 1))]⟩
theorem c6ok : stripFn Tryd.prog c6k Tryd.f6 = some c6 := by kernel_rfl

/- plexuslaw15.LexerTexts -/
@[go_sem] def c7k : List Nat := [0, 2, 3, 4, 5, 6, 7, 8, 9, 11, 14, 18, 27, 45, 47]
@[go_sem] def c7r0 : List GOp := [(.op none (.s 1) (.v (.mv (.c (.bool false)))))]
@[go_sem] def c7r1 : List GOp := [(.op none .t (.call 14 [])),
  (.op none (.s 9) (.v (.un .not (.t 0))))]
@[go_sem] def c7r2 : List GOp := [(.op none (.s 1) (.v (.mv (.c (.bool false)))))]
def c7s3 : SCode := (.cond (.s 9) (.seq (.ops c7r2) .ret) .skip)
@[go_sem] theorem c7s3eq : vc P E c7s3 σ H Q = vc P E (.cond (.s 9) (.seq (.ops c7r2) .ret) .skip) σ H Q := rfl
@[go_sem] def c7r4 : List GOp := [(.op none .t (.v (.mv (.s 0)))),
  (.op none .t (.v (.len (.t 0)))),
  (.op none (.s 10) (.v (.bin .gtr (.t 0) (.c (.int .i64 200)))))]
@[go_sem] def c7r5 : List GOp := [(.op none (.s 1) (.v (.mv (.c (.bool true)))))]
def c7s6 : SCode := (.cond (.s 10) (.seq (.ops c7r5) .ret) .skip)
@[go_sem] theorem c7s6eq : vc P E c7s6 σ H Q = vc P E (.cond (.s 10) (.seq (.ops c7r5) .ret) .skip) σ H Q := rfl
@[go_sem] def c7r7 : List GOp := [(.op none (.s 2) (.v (.mv (.c (.int .i64 0)))))]
@[go_sem] def c7r8 : List GOp := [(.op none .t (.v (.mv (.s 2)))),
  (.op none .t (.v (.mv (.s 0)))),
  (.op none .t (.v (.len (.t 0)))),
  (.op none (.s 11) (.v (.bin .lss (.t 2) (.t 0))))]
def c7s9 : SCode := (.cond (.s 11) .skip (.exit 0))
@[go_sem] theorem c7s9eq : vc P E c7s9 σ H Q = vc P E (.cond (.s 11) .skip (.exit 0)) σ H Q := rfl
@[go_sem] def c7r10 : List GOp := [(.op none .t (.v (.mv (.s 0)))),
  (.op none .t (.v (.mv (.s 2)))),
  (.op none .t (.v (.ix 4 (.t 1) (.t 0)))),
  (.op none .t (.v (.fa 1 (.t 0)))),
  (.op none .t (.ld none (.t 0))),
  (.op none .t (.v (.slen (.t 0)))),
  (.op none (.s 12) (.v (.bin .gtr (.t 0) (.c (.int .i64 100)))))]
@[go_sem] def c7r11 : List GOp := [(.op none (.s 1) (.v (.mv (.c (.bool true)))))]
def c7s12 : SCode := (.seq (.ops c7r11) .ret)
@[go_sem] theorem c7s12eq : vc P E c7s12 σ H Q = vc P E (.seq (.ops c7r11) .ret) σ H Q := rfl
def c7s13 : SCode := (.cond (.s 12) c7s12 .skip)
@[go_sem] theorem c7s13eq : vc P E c7s13 σ H Q = vc P E (.cond (.s 12) c7s12 .skip) σ H Q := rfl
@[go_sem] def c7r14 : List GOp := [(.op none .t (.v (.mv (.s 2)))),
  (.op none .t (.v (.bin .add (.t 0) (.c (.int .i64 1))))),
  (.op none (.s 2) (.v (.mv (.t 0))))]
def c7s15 : SCode := (.ops c7r14)
@[go_sem] theorem c7s15eq : vc P E c7s15 σ H Q = vc P E (.ops c7r14) σ H Q := rfl
def c7s16 : SCode := (.seq (.block 1 (.seq (.ops c7r10) c7s13)) c7s15)
@[go_sem] theorem c7s16eq : vc P E c7s16 σ H Q = vc P E (.seq (.block 1 (.seq (.ops c7r10) c7s13)) c7s15) σ H Q := rfl
def c7s17 : SCode := (.seq (.seq (.ops c7r8) c7s9) c7s16)
@[go_sem] theorem c7s17eq : vc P E c7s17 σ H Q = vc P E (.seq (.seq (.ops c7r8) c7s9) c7s16) σ H Q := rfl
def c7s18 : SCode := (.block 0 (.loop c7k c7s17))
@[go_sem] theorem c7s18eq : vc P E c7s18 σ H Q = vc P E (.block 0 (.loop c7k c7s17)) σ H Q := rfl
@[go_sem] def c7r19 : List GOp := [(.op none .t (.v (.mv (.s 0)))),
  (.op none .t (.call 24 [(.t 0)])),
  (.op none .t (.v (.mv (.t 0)))),
  (.op none .t (.v (.ext (.t 0) 0))),
  (.op none .t (.v (.ext (.t 1) 1))),
  (.op none (.s 3) (.v (.mv (.t 1)))),
  (.op none (.s 4) (.v (.mv (.t 0))))]
@[go_sem] def c7r20 : List GOp := [(.op none .t (.v (.mv (.s 0)))),
  (.op none .t (.call 25 [(.t 0)])),
  (.op none .t (.v (.mv (.t 0)))),
  (.op none .t (.v (.ext (.t 0) 0))),
  (.op none .t (.v (.ext (.t 1) 1))),
  (.op none (.s 5) (.v (.mv (.t 1)))),
  (.op none (.s 6) (.v (.mv (.t 0))))]
@[go_sem] def c7r21 : List GOp := [(.op none .t (.v (.mv (.s 3)))),
  (.op none .t (.v (.mv (.s 5)))),
  (.op none .t (.v (.bin .neq (.t 1) (.t 0)))),
  (.op none .t (.v (.mv (.t 0)))),
  (.sel (.t 0) false [(.op (.v (.mv (.s 4)))), (.op (.v (.mv (.s 6)))), (.op (.v (.bin .neq (.t 1) (.t 0))))] (.s 13) (.c (.bool true)) (.t 0))]
@[go_sem] def c7r22 : List GOp := [(.op none (.s 1) (.v (.mv (.c (.bool false)))))]
def c7s23 : SCode := (.seq (.ops c7r22) .ret)
@[go_sem] theorem c7s23eq : vc P E c7s23 σ H Q = vc P E (.seq (.ops c7r22) .ret) σ H Q := rfl
def c7s24 : SCode := (.cond (.s 13) c7s23 .skip)
@[go_sem] theorem c7s24eq : vc P E c7s24 σ H Q = vc P E (.cond (.s 13) c7s23 .skip) σ H Q := rfl
@[go_sem] def c7r25 : List GOp := [(.op none .t (.v (.mv (.s 4)))),
  (.op none (.s 14) (.v (.bin .neq (.t 0) (.c (.int .i64 0)))))]
@[go_sem] def c7r26 : List GOp := [(.op none (.s 1) (.v (.mv (.c (.bool true)))))]
def c7s27 : SCode := (.seq (.ops c7r26) .ret)
@[go_sem] theorem c7s27eq : vc P E c7s27 σ H Q = vc P E (.seq (.ops c7r26) .ret) σ H Q := rfl
def c7s28 : SCode := (.cond (.s 14) c7s27 .skip)
@[go_sem] theorem c7s28eq : vc P E c7s28 σ H Q = vc P E (.cond (.s 14) c7s27 .skip) σ H Q := rfl
@[go_sem] def c7r29 : List GOp := [(.op none .t (.v (.mv (.s 3)))),
  (.op none .t (.call 21 [(.t 0)])),
  (.op none .t (.v (.mv (.t 0)))),
  (.op none .t (.v (.ext (.t 0) 0))),
  (.op none .t (.v (.ext (.t 1) 1))),
  (.op none (.s 8) (.al 28 [(.int .i64 0), (.int .i64 0)])),
  (.op none (.s 7) (.v (.mv (.t 1)))),
  (.op none .no (.st 2 (.s 8) (.t 0)))]
@[go_sem] def c7r30 : List GOp := [(.op none .t (.v (.fa 0 (.s 8)))),
  (.op none .t (.ld none (.t 0))),
  (.op none .t (.v (.bin .eql (.t 0) (.c (.int .i64 0))))),
  (.op none .t (.v (.mv (.t 0)))),
  (.op (some ((.t 0), (true, true))) .t (.v (.mv (.s 7)))),
  (.op (some ((.t 1), (true, false))) .t (.v (.mv (.s 0)))),
  (.op (some ((.t 2), (true, false))) .t (.call 23 [(.t 1), (.t 0), (.c (.bool false))])),
  (.op none .t (.v (.pick (.t 3) (.t 0) (.c (.bool false))))),
  (.op none (.s 1) (.v (.mv (.t 0))))]
def c7s31 : SCode := (.seq (.ops c7r30) .ret)
@[go_sem] theorem c7s31eq : vc P E c7s31 σ H Q = vc P E (.seq (.ops c7r30) .ret) σ H Q := rfl
def c7s32 : SCode := (.seq (.ops c7r29) c7s31)
@[go_sem] theorem c7s32eq : vc P E c7s32 σ H Q = vc P E (.seq (.ops c7r29) c7s31) σ H Q := rfl
def c7s33 : SCode := (.seq (.seq (.ops c7r25) c7s28) c7s32)
@[go_sem] theorem c7s33eq : vc P E c7s33 σ H Q = vc P E (.seq (.seq (.ops c7r25) c7s28) c7s32) σ H Q := rfl
def c7s34 : SCode := (.seq (.seq (.ops c7r21) c7s24) c7s33)
@[go_sem] theorem c7s34eq : vc P E c7s34 σ H Q = vc P E (.seq (.seq (.ops c7r21) c7s24) c7s33) σ H Q := rfl
def c7s35 : SCode := (.seq (.ops c7r20) c7s34)
@[go_sem] theorem c7s35eq : vc P E c7s35 σ H Q = vc P E (.seq (.ops c7r20) c7s34) σ H Q := rfl
def c7s36 : SCode := (.seq (.ops c7r19) c7s35)
@[go_sem] theorem c7s36eq : vc P E c7s36 σ H Q = vc P E (.seq (.ops c7r19) c7s35) σ H Q := rfl
def c7s37 : SCode := (.seq (.seq (.ops c7r7) c7s18) c7s36)
@[go_sem] theorem c7s37eq : vc P E c7s37 σ H Q = vc P E (.seq (.seq (.ops c7r7) c7s18) c7s36) σ H Q := rfl
def c7s38 : SCode := (.seq (.seq (.ops c7r4) c7s6) c7s37)
@[go_sem] theorem c7s38eq : vc P E c7s38 σ H Q = vc P E (.seq (.seq (.ops c7r4) c7s6) c7s37) σ H Q := rfl
def c7s39 : SCode := (.seq (.seq (.ops c7r1) c7s3) c7s38)
@[go_sem] theorem c7s39eq : vc P E c7s39 σ H Q = vc P E (.seq (.seq (.ops c7r1) c7s3) c7s38) σ H Q := rfl
def c7 : Gx.Fn := ⟨61, c7k, (.seq (.ops c7r0) c7s39), [(.tmp (.s 1))]⟩
theorem c7ok : stripFn Tryd.prog c7k Tryd.f7 = some c7 := by kernel_rfl

/- plexuslaw15.LexerAgain -/
@[go_sem] def c8k : List Nat := [0, 2, 3, 4, 5, 6, 7, 8, 9, 10, 12, 15, 23]
@[go_sem] def c8r0 : List GOp := [(.op none (.s 1) (.v (.mv (.c (.bool false)))))]
@[go_sem] def c8r1 : List GOp := [(.op none .t (.call 14 [])),
  (.op none (.s 10) (.v (.un .not (.t 0))))]
@[go_sem] def c8r2 : List GOp := [(.op none (.s 1) (.v (.mv (.c (.bool false)))))]
def c8s3 : SCode := (.cond (.s 10) (.seq (.ops c8r2) .ret) .skip)
@[go_sem] theorem c8s3eq : vc P E c8s3 σ H Q = vc P E (.cond (.s 10) (.seq (.ops c8r2) .ret) .skip) σ H Q := rfl
@[go_sem] def c8r4 : List GOp := [(.op none .t (.v (.mv (.s 0)))),
  (.op none .t (.v (.slen (.t 0)))),
  (.op none (.s 11) (.v (.bin .gtr (.t 0) (.c (.int .i64 2000)))))]
@[go_sem] def c8r5 : List GOp := [(.op none (.s 1) (.v (.mv (.c (.bool true)))))]
def c8s6 : SCode := (.cond (.s 11) (.seq (.ops c8r5) .ret) .skip)
@[go_sem] theorem c8s6eq : vc P E c8s6 σ H Q = vc P E (.cond (.s 11) (.seq (.ops c8r5) .ret) .skip) σ H Q := rfl
@[go_sem] def c8r7 : List GOp := [(.op none .t (.v (.mv (.s 0)))),
  (.op none .t (.call 21 [(.t 0)])),
  (.op none .t (.v (.mv (.t 0)))),
  (.op none .t (.v (.ext (.t 0) 0))),
  (.op none .t (.v (.ext (.t 1) 1))),
  (.op none (.s 3) (.al 28 [(.int .i64 0), (.int .i64 0)])),
  (.op none (.s 2) (.v (.mv (.t 1)))),
  (.op none .no (.st 2 (.s 3) (.t 0)))]
@[go_sem] def c8r8 : List GOp := [(.op none .t (.v (.fa 0 (.s 3)))),
  (.op none .t (.ld none (.t 0))),
  (.op none (.s 12) (.v (.bin .neq (.t 0) (.c (.int .i64 0)))))]
@[go_sem] def c8r9 : List GOp := [(.op none (.s 1) (.v (.mv (.c (.bool true)))))]
def c8s10 : SCode := (.cond (.s 12) (.seq (.ops c8r9) .ret) .skip)
@[go_sem] theorem c8s10eq : vc P E c8s10 σ H Q = vc P E (.cond (.s 12) (.seq (.ops c8r9) .ret) .skip) σ H Q := rfl
@[go_sem] def c8r11 : List GOp := [(.op none .t (.v (.mv (.s 2)))),
  (.op none .t (.call 24 [(.t 0)])),
  (.op none .t (.v (.mv (.t 0)))),
  (.op none .t (.v (.ext (.t 0) 0))),
  (.op none .t (.v (.ext (.t 1) 1))),
  (.op none (.s 4) (.v (.mv (.t 1)))),
  (.op none (.s 5) (.v (.mv (.t 0))))]
@[go_sem] def c8r12 : List GOp := [(.op none .t (.v (.mv (.s 4)))),
  (.op none .t (.call 21 [(.t 0)])),
  (.op none .t (.v (.mv (.t 0)))),
  (.op none .t (.v (.ext (.t 0) 0))),
  (.op none .t (.v (.ext (.t 1) 1))),
  (.op none (.s 7) (.al 28 [(.int .i64 0), (.int .i64 0)])),
  (.op none (.s 6) (.v (.mv (.t 1)))),
  (.op none .no (.st 2 (.s 7) (.t 0)))]
@[go_sem] def c8r13 : List GOp := [(.op none .t (.v (.mv (.s 6)))),
  (.op none .t (.call 24 [(.t 0)])),
  (.op none .t (.v (.mv (.t 0)))),
  (.op none .t (.v (.ext (.t 0) 0))),
  (.op none .t (.v (.ext (.t 1) 1))),
  (.op none (.s 8) (.v (.mv (.t 1)))),
  (.op none (.s 9) (.v (.mv (.t 0))))]
@[go_sem] def c8r14 : List GOp := [(.op none .t (.v (.mv (.s 5)))),
  (.op none .t (.v (.bin .eql (.t 0) (.c (.int .i64 0))))),
  (.op none .t (.v (.mv (.t 0)))),
  (.sel (.t 0) true [(.op (.v (.fa 0 (.s 7)))), (.op (.ld none (.t 0))), (.op (.v (.bin .eql (.t 0) (.c (.int .i64 0)))))] .t (.t 0) (.c (.bool false))),
  (.op none .t (.v (.mv (.t 0)))),
  (.sel (.t 0) true [(.op (.v (.mv (.s 9)))), (.op (.v (.bin .eql (.t 0) (.c (.int .i64 0)))))] .t (.t 0) (.c (.bool false))),
  (.op none .t (.v (.mv (.t 0)))),
  (.sel (.t 0) true [(.op (.v (.mv (.s 4)))), (.op (.v (.mv (.s 8)))), (.op (.v (.bin .eql (.t 1) (.t 0))))] .t (.t 0) (.c (.bool false))),
  (.op none .t (.v (.mv (.t 0)))),
  (.op (some ((.t 0), (true, true))) .t (.v (.mv (.s 2)))),
  (.op (some ((.t 1), (true, false))) .t (.v (.mv (.s 6)))),
  (.op (some ((.t 2), (true, false))) .t (.call 23 [(.t 1), (.t 0), (.c (.bool false))])),
  (.op none .t (.v (.pick (.t 3) (.t 0) (.c (.bool false))))),
  (.op none (.s 1) (.v (.mv (.t 0))))]
def c8s15 : SCode := (.seq (.ops c8r14) .ret)
@[go_sem] theorem c8s15eq : vc P E c8s15 σ H Q = vc P E (.seq (.ops c8r14) .ret) σ H Q := rfl
def c8s16 : SCode := (.seq (.ops c8r13) c8s15)
@[go_sem] theorem c8s16eq : vc P E c8s16 σ H Q = vc P E (.seq (.ops c8r13) c8s15) σ H Q := rfl
def c8s17 : SCode := (.seq (.ops c8r12) c8s16)
@[go_sem] theorem c8s17eq : vc P E c8s17 σ H Q = vc P E (.seq (.ops c8r12) c8s16) σ H Q := rfl
def c8s18 : SCode := (.seq (.ops c8r11) c8s17)
@[go_sem] theorem c8s18eq : vc P E c8s18 σ H Q = vc P E (.seq (.ops c8r11) c8s17) σ H Q := rfl
def c8s19 : SCode := (.seq (.seq (.ops c8r8) c8s10) c8s18)
@[go_sem] theorem c8s19eq : vc P E c8s19 σ H Q = vc P E (.seq (.seq (.ops c8r8) c8s10) c8s18) σ H Q := rfl
def c8s20 : SCode := (.seq (.ops c8r7) c8s19)
@[go_sem] theorem c8s20eq : vc P E c8s20 σ H Q = vc P E (.seq (.ops c8r7) c8s19) σ H Q := rfl
def c8s21 : SCode := (.seq (.seq (.ops c8r4) c8s6) c8s20)
@[go_sem] theorem c8s21eq : vc P E c8s21 σ H Q = vc P E (.seq (.seq (.ops c8r4) c8s6) c8s20) σ H Q := rfl
def c8s22 : SCode := (.seq (.seq (.ops c8r1) c8s3) c8s21)
@[go_sem] theorem c8s22eq : vc P E c8s22 σ H Q = vc P E (.seq (.seq (.ops c8r1) c8s3) c8s21) σ H Q := rfl
def c8 : Gx.Fn := ⟨60, c8k, (.seq (.ops c8r0) c8s22), [(.tmp (.s 1))]⟩
theorem c8ok : stripFn Tryd.prog c8k Tryd.f8 = some c8 := by kernel_rfl

/- plexuslaw15.LexerBlanks -/
@[go_sem] def c9k : List Nat := [0, 1, 2, 6, 7, 8, 9, 10, 11, 12, 14, 22, 26, 32, 50, 63]
@[go_sem] def c9r0 : List GOp := [(.op none (.s 3) (.v (.mv (.c (.bool false)))))]
@[go_sem] def c9r1 : List GOp := [(.op none .t (.call 14 [])),
  (.op none (.s 10) (.v (.un .not (.t 0))))]
@[go_sem] def c9r2 : List GOp := [(.op none (.s 3) (.v (.mv (.c (.bool false)))))]
def c9s3 : SCode := (.cond (.s 10) (.seq (.ops c9r2) .ret) .skip)
@[go_sem] theorem c9s3eq : vc P E c9s3 σ H Q = vc P E (.cond (.s 10) (.seq (.ops c9r2) .ret) .skip) σ H Q := rfl
@[go_sem] def c9r4 : List GOp := [(.op none .t (.v (.mv (.s 0)))),
  (.op none .t (.v (.slen (.t 0)))),
  (.op none .t (.v (.bin .gtr (.t 0) (.c (.int .i64 2000))))),
  (.op none .t (.v (.mv (.t 0)))),
  (.sel (.t 0) false [(.op (.v (.mv (.s 1)))), (.op (.v (.slen (.t 0)))), (.op (.v (.bin .gtr (.t 0) (.c (.int .i64 2000)))))] (.s 11) (.c (.bool true)) (.t 0))]
@[go_sem] def c9r5 : List GOp := [(.op none (.s 3) (.v (.mv (.c (.bool true)))))]
def c9s6 : SCode := (.cond (.s 11) (.seq (.ops c9r5) .ret) .skip)
@[go_sem] theorem c9s6eq : vc P E c9s6 σ H Q = vc P E (.cond (.s 11) (.seq (.ops c9r5) .ret) .skip) σ H Q := rfl
@[go_sem] def c9r7 : List GOp := [(.op none (.s 4) (.v (.mv (.c (.int .i64 0)))))]
@[go_sem] def c9r8 : List GOp := [(.op none .t (.v (.mv (.s 4)))),
  (.op none .t (.v (.mv (.s 1)))),
  (.op none .t (.v (.slen (.t 0)))),
  (.op none (.s 12) (.v (.bin .lss (.t 2) (.t 0))))]
def c9s9 : SCode := (.cond (.s 12) .skip (.exit 0))
@[go_sem] theorem c9s9eq : vc P E c9s9 σ H Q = vc P E (.cond (.s 12) .skip (.exit 0)) σ H Q := rfl
@[go_sem] def c9r10 : List GOp := [(.op none .t (.v (.mv (.s 1)))),
  (.op none .t (.v (.mv (.s 4)))),
  (.op none .t (.v (.six (.t 1) (.t 0)))),
  (.op none (.s 13) (.v (.bin .eql (.t 0) (.c (.int .u8 10)))))]
@[go_sem] def c9r11 : List GOp := [(.op none (.s 3) (.v (.mv (.c (.bool true)))))]
def c9s12 : SCode := (.seq (.ops c9r11) .ret)
@[go_sem] theorem c9s12eq : vc P E c9s12 σ H Q = vc P E (.seq (.ops c9r11) .ret) σ H Q := rfl
def c9s13 : SCode := (.cond (.s 13) c9s12 .skip)
@[go_sem] theorem c9s13eq : vc P E c9s13 σ H Q = vc P E (.cond (.s 13) c9s12 .skip) σ H Q := rfl
@[go_sem] def c9r14 : List GOp := [(.op none .t (.v (.mv (.s 4)))),
  (.op none .t (.v (.bin .add (.t 0) (.c (.int .i64 1))))),
  (.op none (.s 4) (.v (.mv (.t 0))))]
def c9s15 : SCode := (.ops c9r14)
@[go_sem] theorem c9s15eq : vc P E c9s15 σ H Q = vc P E (.ops c9r14) σ H Q := rfl
def c9s16 : SCode := (.seq (.block 1 (.seq (.ops c9r10) c9s13)) c9s15)
@[go_sem] theorem c9s16eq : vc P E c9s16 σ H Q = vc P E (.seq (.block 1 (.seq (.ops c9r10) c9s13)) c9s15) σ H Q := rfl
def c9s17 : SCode := (.seq (.seq (.ops c9r8) c9s9) c9s16)
@[go_sem] theorem c9s17eq : vc P E c9s17 σ H Q = vc P E (.seq (.seq (.ops c9r8) c9s9) c9s16) σ H Q := rfl
def c9s18 : SCode := (.block 0 (.loop c9k c9s17))
@[go_sem] theorem c9s18eq : vc P E c9s18 σ H Q = vc P E (.block 0 (.loop c9k c9s17)) σ H Q := rfl
@[go_sem] def c9r19 : List GOp := [(.op none .t (.v (.mv (.s 0)))),
  (.op none .t (.call 21 [(.t 0)])),
  (.op none .t (.v (.mv (.t 0)))),
  (.op none .t (.v (.ext (.t 0) 0))),
  (.op none .t (.v (.ext (.t 1) 1))),
  (.op none (.s 6) (.al 28 [(.int .i64 0), (.int .i64 0)])),
  (.op none (.s 5) (.v (.mv (.t 1)))),
  (.op none .no (.st 2 (.s 6) (.t 0)))]
@[go_sem] def c9r20 : List GOp := [(.op none .t (.v (.fa 0 (.s 6)))),
  (.op none .t (.ld none (.t 0))),
  (.op none .t (.v (.bin .neq (.t 0) (.c (.int .i64 0))))),
  (.op none .t (.v (.mv (.t 0)))),
  (.sel (.t 0) false [(.op (.v (.mv (.s 2)))), (.op (.v (.bin .lss (.t 0) (.c (.int .i64 0)))))] .t (.c (.bool true)) (.t 0)),
  (.op none .t (.v (.mv (.t 0)))),
  (.sel (.t 0) false [(.op (.v (.mv (.s 2)))), (.op (.v (.mv (.s 5)))), (.op (.v (.len (.t 0)))), (.op (.v (.bin .geq (.t 2) (.t 0))))] (.s 14) (.c (.bool true)) (.t 0))]
@[go_sem] def c9r21 : List GOp := [(.op none (.s 3) (.v (.mv (.c (.bool true)))))]
def c9s22 : SCode := (.seq (.ops c9r21) .ret)
@[go_sem] theorem c9s22eq : vc P E c9s22 σ H Q = vc P E (.seq (.ops c9r21) .ret) σ H Q := rfl
def c9s23 : SCode := (.cond (.s 14) c9s22 .skip)
@[go_sem] theorem c9s23eq : vc P E c9s23 σ H Q = vc P E (.cond (.s 14) c9s22 .skip) σ H Q := rfl
@[go_sem] def c9r24 : List GOp := [(.op none .t (.v (.mv (.s 5)))),
  (.op none .t (.v (.mv (.s 2)))),
  (.op none .t (.v (.ix 4 (.t 1) (.t 0)))),
  (.op none .t (.v (.fa 3 (.t 0)))),
  (.op none .t (.ld none (.t 0))),
  (.op none (.s 7) (.v (.mv (.t 0))))]
@[go_sem] def c9r25 : List GOp := [(.op none .t (.v (.mv (.s 7)))),
  (.op none .t (.v (.bin .lss (.t 0) (.c (.int .i64 0))))),
  (.op none .t (.v (.mv (.t 0)))),
  (.sel (.t 0) false [(.op (.v (.mv (.s 7)))), (.op (.v (.mv (.s 0)))), (.op (.v (.slen (.t 0)))), (.op (.v (.bin .gtr (.t 2) (.t 0))))] (.s 15) (.c (.bool true)) (.t 0))]
@[go_sem] def c9r26 : List GOp := [(.op none (.s 3) (.v (.mv (.c (.bool true)))))]
def c9s27 : SCode := (.seq (.ops c9r26) .ret)
@[go_sem] theorem c9s27eq : vc P E c9s27 σ H Q = vc P E (.seq (.ops c9r26) .ret) σ H Q := rfl
def c9s28 : SCode := (.cond (.s 15) c9s27 .skip)
@[go_sem] theorem c9s28eq : vc P E c9s28 σ H Q = vc P E (.cond (.s 15) c9s27 .skip) σ H Q := rfl
@[go_sem] def c9d29 : DT := (.rd none .t (.v (.mv (.s 0))) [11, 17] (.rd none .t (.v (.mv (.s 7))) [11, 17] (.rd none .t (.v (.ssl (.t 1) none (some (.t 0)))) [11, 17] (.rd none .t (.v (.bin .add (.t 0) (.c (.string ⟨⟨[32, 9, 35]⟩⟩)))) [11, 17] (.rd none .t (.v (.mv (.s 1))) [11, 17] (.rd none .t (.v (.bin .add (.t 1) (.t 0))) [11, 17] (.rd none .t (.v (.bin .add (.t 0) (.c (.string ⟨⟨[13, 10]⟩⟩)))) [11, 17] (.rd none .t (.v (.mv (.s 0))) [11, 17] (.rd none .t (.v (.mv (.s 7))) [11, 17] (.rd none .t (.v (.ssl (.t 1) (some (.t 0)) none)) [11, 17] (.rd none .t (.v (.bin .add (.t 3) (.t 0))) [11, 17] (.br (.ef 11 none .t (.call 21 [(.t 0)]) (.rd none .t (.v (.mv (.t 0))) [17] (.rd none .t (.v (.ext (.t 0) 0)) [17] (.rd none .t (.v (.ext (.t 1) 1)) [17] (.ef 15 none (.s 9) (.al 28 [(.int .i64 0), (.int .i64 0)]) (.rd none (.s 8) (.v (.mv (.t 1))) [17] (.ef 17 none .no (.st 2 (.s 9) (.t 0)) .done))))))) (.ef 15 none (.s 9) (.al 28 [(.int .i64 0), (.int .i64 0)]) (.ef 11 none .t (.call 21 [(.t 0)]) (.rd none .t (.v (.mv (.t 0))) [17] (.rd none .t (.v (.ext (.t 0) 0)) [17] (.rd none .t (.v (.ext (.t 1) 1)) [17] (.rd none (.s 8) (.v (.mv (.t 1))) [17] (.ef 17 none .no (.st 2 (.s 9) (.t 0)) .done)))))))))))))))))))
@[go_sem] def c9r30 : List GOp := [(.op none .t (.v (.fa 0 (.s 9)))),
  (.op none .t (.ld none (.t 0))),
  (.op none .t (.v (.bin .eql (.t 0) (.c (.int .i64 0))))),
  (.op none .t (.v (.mv (.t 0)))),
  (.op (some ((.t 0), (true, true))) .t (.v (.mv (.s 5)))),
  (.op (some ((.t 1), (true, false))) .t (.v (.mv (.s 8)))),
  (.op (some ((.t 2), (true, false))) .t (.call 23 [(.t 1), (.t 0), (.c (.bool false))])),
  (.op none .t (.v (.pick (.t 3) (.t 0) (.c (.bool false))))),
  (.op none (.s 3) (.v (.mv (.t 0))))]
def c9s31 : SCode := (.seq (.ops c9r30) .ret)
@[go_sem] theorem c9s31eq : vc P E c9s31 σ H Q = vc P E (.seq (.ops c9r30) .ret) σ H Q := rfl
def c9s32 : SCode := (.seq (.de c9d29) c9s31)
@[go_sem] theorem c9s32eq : vc P E c9s32 σ H Q = vc P E (.seq (.de c9d29) c9s31) σ H Q := rfl
def c9s33 : SCode := (.seq (.seq (.ops c9r25) c9s28) c9s32)
@[go_sem] theorem c9s33eq : vc P E c9s33 σ H Q = vc P E (.seq (.seq (.ops c9r25) c9s28) c9s32) σ H Q := rfl
def c9s34 : SCode := (.seq (.ops c9r24) c9s33)
@[go_sem] theorem c9s34eq : vc P E c9s34 σ H Q = vc P E (.seq (.ops c9r24) c9s33) σ H Q := rfl
def c9s35 : SCode := (.seq (.seq (.ops c9r20) c9s23) c9s34)
@[go_sem] theorem c9s35eq : vc P E c9s35 σ H Q = vc P E (.seq (.seq (.ops c9r20) c9s23) c9s34) σ H Q := rfl
def c9s36 : SCode := (.seq (.ops c9r19) c9s35)
@[go_sem] theorem c9s36eq : vc P E c9s36 σ H Q = vc P E (.seq (.ops c9r19) c9s35) σ H Q := rfl
def c9s37 : SCode := (.seq (.seq (.ops c9r7) c9s18) c9s36)
@[go_sem] theorem c9s37eq : vc P E c9s37 σ H Q = vc P E (.seq (.seq (.ops c9r7) c9s18) c9s36) σ H Q := rfl
def c9s38 : SCode := (.seq (.seq (.ops c9r4) c9s6) c9s37)
@[go_sem] theorem c9s38eq : vc P E c9s38 σ H Q = vc P E (.seq (.seq (.ops c9r4) c9s6) c9s37) σ H Q := rfl
def c9s39 : SCode := (.seq (.seq (.ops c9r1) c9s3) c9s38)
@[go_sem] theorem c9s39eq : vc P E c9s39 σ H Q = vc P E (.seq (.seq (.ops c9r1) c9s3) c9s38) σ H Q := rfl
def c9 : Gx.Fn := ⟨87, c9k, (.seq (.ops c9r0) c9s39), [(.tmp (.s 3))]⟩
theorem c9ok : stripFn Tryd.prog c9k Tryd.f9 = some c9 := by kernel_rfl

/- plexuslaw15.LexerSpells -/
@[go_sem] def c10k : List Nat := [0, 2, 3, 4, 5, 6, 7, 8, 10, 13, 21, 41, 94]
@[go_sem] def c10r0 : List GOp := [(.op none (.s 1) (.v (.mv (.c (.bool false)))))]
@[go_sem] def c10r1 : List GOp := [(.op none .t (.call 14 [])),
  (.op none (.s 8) (.v (.un .not (.t 0))))]
@[go_sem] def c10r2 : List GOp := [(.op none (.s 1) (.v (.mv (.c (.bool false)))))]
def c10s3 : SCode := (.seq (.ops c10r2) .ret)
@[go_sem] theorem c10s3eq : vc P E c10s3 σ H Q = vc P E (.seq (.ops c10r2) .ret) σ H Q := rfl
def c10s4 : SCode := (.cond (.s 8) c10s3 .skip)
@[go_sem] theorem c10s4eq : vc P E c10s4 σ H Q = vc P E (.cond (.s 8) c10s3 .skip) σ H Q := rfl
@[go_sem] def c10r5 : List GOp := [(.op none .t (.v (.mv (.s 0)))),
  (.op none .t (.v (.slen (.t 0)))),
  (.op none (.s 9) (.v (.bin .gtr (.t 0) (.c (.int .i64 2000)))))]
@[go_sem] def c10r6 : List GOp := [(.op none (.s 1) (.v (.mv (.c (.bool true)))))]
def c10s7 : SCode := (.seq (.ops c10r6) .ret)
@[go_sem] theorem c10s7eq : vc P E c10s7 σ H Q = vc P E (.seq (.ops c10r6) .ret) σ H Q := rfl
def c10s8 : SCode := (.cond (.s 9) c10s7 .skip)
@[go_sem] theorem c10s8eq : vc P E c10s8 σ H Q = vc P E (.cond (.s 9) c10s7 .skip) σ H Q := rfl
@[go_sem] def c10r9 : List GOp := [(.op none .t (.v (.mv (.s 0)))),
  (.op none .t (.call 21 [(.t 0)])),
  (.op none .t (.v (.mv (.t 0)))),
  (.op none .t (.v (.ext (.t 0) 0))),
  (.op none .t (.v (.ext (.t 1) 1))),
  (.op none (.s 3) (.al 28 [(.int .i64 0), (.int .i64 0)])),
  (.op none (.s 2) (.v (.mv (.t 1)))),
  (.op none .no (.st 2 (.s 3) (.t 0)))]
@[go_sem] def c10r10 : List GOp := [(.op none .t (.v (.fa 0 (.s 3)))),
  (.op none .t (.ld none (.t 0))),
  (.op none (.s 10) (.v (.bin .neq (.t 0) (.c (.int .i64 0)))))]
@[go_sem] def c10r11 : List GOp := [(.op none .t (.v (.mv (.s 2)))),
  (.op none .t (.v (.len (.t 0)))),
  (.op none .t (.v (.bin .eql (.t 0) (.c (.int .i64 0))))),
  (.op none .t (.v (.mv (.t 0)))),
  (.sel (.t 0) true [(.op (.v (.fa 1 (.s 3)))), (.op (.ld none (.t 0))), (.op (.v (.bin .geq (.t 0) (.c (.int .i64 0)))))] .t (.t 0) (.c (.bool false))),
  (.op none .t (.v (.mv (.t 0)))),
  (.sel (.t 0) true [(.op (.v (.fa 1 (.s 3)))), (.op (.ld none (.t 0))), (.op (.v (.mv (.s 0)))), (.op (.v (.slen (.t 0)))), (.op (.v (.bin .leq (.t 2) (.t 0))))] .t (.t 0) (.c (.bool false))),
  (.op none (.s 1) (.v (.mv (.t 0))))]
def c10s12 : SCode := (.seq (.ops c10r11) .ret)
@[go_sem] theorem c10s12eq : vc P E c10s12 σ H Q = vc P E (.seq (.ops c10r11) .ret) σ H Q := rfl
def c10s13 : SCode := (.cond (.s 10) c10s12 .skip)
@[go_sem] theorem c10s13eq : vc P E c10s13 σ H Q = vc P E (.cond (.s 10) c10s12 .skip) σ H Q := rfl
@[go_sem] def c10r14 : List GOp := [(.op none (.s 4) (.v (.mv (.c (.int .i64 0)))))]
@[go_sem] def c10r15 : List GOp := [(.op none (.s 5) (.v (.mv (.c (.int .i64 0)))))]
@[go_sem] def c10r16 : List GOp := [(.op none .t (.v (.mv (.s 5)))),
  (.op none .t (.v (.mv (.s 2)))),
  (.op none .t (.v (.len (.t 0)))),
  (.op none .t (.v (.bin .sub (.t 0) (.c (.int .i64 1))))),
  (.op none (.s 11) (.v (.bin .lss (.t 3) (.t 0))))]
def c10s17 : SCode := (.cond (.s 11) .skip (.exit 0))
@[go_sem] theorem c10s17eq : vc P E c10s17 σ H Q = vc P E (.cond (.s 11) .skip (.exit 0)) σ H Q := rfl
@[go_sem] def c10r18 : List GOp := [(.op none .t (.v (.mv (.s 2)))),
  (.op none .t (.v (.mv (.s 5)))),
  (.op none .t (.v (.ix 4 (.t 1) (.t 0)))),
  (.op none .t (.ld (some 4) (.t 0))),
  (.op none .t (.call 26 [(.t 0)])),
  (.op none .t (.v (.mv (.t 0)))),
  (.op none .t (.v (.ext (.t 0) 0))),
  (.op none .t (.v (.ext (.t 1) 1))),
  (.op none (.s 6) (.v (.mv (.t 1)))),
  (.op none (.s 7) (.v (.mv (.t 0))))]
@[go_sem] def c10r19 : List GOp := [(.op none .t (.v (.mv (.s 7)))),
  (.op none .t (.v (.un .not (.t 0)))),
  (.op none .t (.v (.mv (.t 0)))),
  (.op (some ((.t 0), (false, true))) .t (.v (.mv (.s 2)))),
  (.op (some ((.t 1), (false, false))) .t (.v (.mv (.s 5)))),
  (.op (some ((.t 2), (false, false))) .t (.v (.ix 4 (.t 1) (.t 0)))),
  (.op (some ((.t 3), (false, false))) .t (.v (.fa 3 (.t 0)))),
  (.op (some ((.t 4), (false, false))) .t (.ld none (.t 0))),
  (.op (some ((.t 5), (false, false))) .t (.v (.mv (.s 4)))),
  (.op (some ((.t 6), (false, false))) .t (.v (.bin .lss (.t 1) (.t 0)))),
  (.op none .t (.v (.pick (.t 7) (.c (.bool true)) (.t 0)))),
  (.op none .t (.v (.mv (.t 0)))),
  (.op (some ((.t 0), (false, true))) .t (.v (.mv (.s 2)))),
  (.op (some ((.t 1), (false, false))) .t (.v (.mv (.s 5)))),
  (.op (some ((.t 2), (false, false))) .t (.v (.ix 4 (.t 1) (.t 0)))),
  (.op (some ((.t 3), (false, false))) .t (.v (.fa 3 (.t 0)))),
  (.op (some ((.t 4), (false, false))) .t (.ld none (.t 0))),
  (.op (some ((.t 5), (false, false))) .t (.v (.mv (.s 0)))),
  (.op (some ((.t 6), (false, false))) .t (.v (.slen (.t 0)))),
  (.op (some ((.t 7), (false, false))) .t (.v (.mv (.s 6)))),
  (.op (some ((.t 8), (false, false))) .t (.v (.slen (.t 0)))),
  (.op (some ((.t 9), (false, false))) .t (.v (.bin .sub (.t 2) (.t 0)))),
  (.op (some ((.t 10), (false, false))) .t (.v (.bin .gtr (.t 5) (.t 0)))),
  (.op none .t (.v (.pick (.t 11) (.c (.bool true)) (.t 0)))),
  (.op none .t (.v (.mv (.t 0)))),
  (.op (some ((.t 0), (false, true))) .t (.v (.mv (.s 0)))),
  (.op (some ((.t 1), (false, false))) .t (.v (.mv (.s 2)))),
  (.op (some ((.t 2), (false, false))) .t (.v (.mv (.s 5)))),
  (.op (some ((.t 3), (false, false))) .t (.v (.ix 4 (.t 1) (.t 0)))),
  (.op (some ((.t 4), (false, false))) .t (.v (.fa 3 (.t 0)))),
  (.op (some ((.t 5), (false, false))) .t (.ld none (.t 0))),
  (.op (some ((.t 6), (false, false))) .t (.v (.mv (.s 2)))),
  (.op (some ((.t 7), (false, false))) .t (.v (.mv (.s 5)))),
  (.op (some ((.t 8), (false, false))) .t (.v (.ix 4 (.t 1) (.t 0)))),
  (.op (some ((.t 9), (false, false))) .t (.v (.fa 3 (.t 0)))),
  (.op (some ((.t 10), (false, false))) .t (.ld none (.t 0))),
  (.op (some ((.t 11), (false, false))) .t (.v (.mv (.s 6)))),
  (.op (some ((.t 12), (false, false))) .t (.v (.slen (.t 0)))),
  (.op (some ((.t 13), (false, false))) .t (.v (.bin .add (.t 2) (.t 0)))),
  (.op (some ((.t 14), (false, false))) .t (.v (.ssl (.t 13) (some (.t 8)) (some (.t 0))))),
  (.op (some ((.t 15), (false, false))) .t (.v (.mv (.s 6)))),
  (.op (some ((.t 16), (false, false))) .t (.v (.bin .neq (.t 1) (.t 0)))),
  (.op none (.s 12) (.v (.pick (.t 17) (.c (.bool true)) (.t 0))))]
@[go_sem] def c10r20 : List GOp := [(.op none (.s 1) (.v (.mv (.c (.bool false)))))]
def c10s21 : SCode := (.seq (.ops c10r20) .ret)
@[go_sem] theorem c10s21eq : vc P E c10s21 σ H Q = vc P E (.seq (.ops c10r20) .ret) σ H Q := rfl
def c10s22 : SCode := (.cond (.s 12) c10s21 .skip)
@[go_sem] theorem c10s22eq : vc P E c10s22 σ H Q = vc P E (.cond (.s 12) c10s21 .skip) σ H Q := rfl
@[go_sem] def c10r23 : List GOp := [(.op none .t (.v (.mv (.s 2)))),
  (.op none .t (.v (.mv (.s 5)))),
  (.op none .t (.v (.ix 4 (.t 1) (.t 0)))),
  (.op none .t (.v (.fa 3 (.t 0)))),
  (.op none .t (.ld none (.t 0))),
  (.op none .t (.v (.mv (.s 6)))),
  (.op none .t (.v (.slen (.t 0)))),
  (.op none .t (.v (.bin .add (.t 2) (.t 0)))),
  (.op none (.s 4) (.v (.mv (.t 0))))]
def c10s24 : SCode := (.ops c10r23)
@[go_sem] theorem c10s24eq : vc P E c10s24 σ H Q = vc P E (.ops c10r23) σ H Q := rfl
def c10s25 : SCode := (.seq (.seq (.dq c10r19) c10s22) c10s24)
@[go_sem] theorem c10s25eq : vc P E c10s25 σ H Q = vc P E (.seq (.seq (.dq c10r19) c10s22) c10s24) σ H Q := rfl
@[go_sem] def c10r26 : List GOp := [(.op none .t (.v (.mv (.s 5)))),
  (.op none .t (.v (.bin .add (.t 0) (.c (.int .i64 1))))),
  (.op none (.s 5) (.v (.mv (.t 0))))]
def c10s27 : SCode := (.ops c10r26)
@[go_sem] theorem c10s27eq : vc P E c10s27 σ H Q = vc P E (.ops c10r26) σ H Q := rfl
def c10s28 : SCode := (.seq (.block 1 (.seq (.ops c10r18) c10s25)) c10s27)
@[go_sem] theorem c10s28eq : vc P E c10s28 σ H Q = vc P E (.seq (.block 1 (.seq (.ops c10r18) c10s25)) c10s27) σ H Q := rfl
def c10s29 : SCode := (.seq (.seq (.ops c10r16) c10s17) c10s28)
@[go_sem] theorem c10s29eq : vc P E c10s29 σ H Q = vc P E (.seq (.seq (.ops c10r16) c10s17) c10s28) σ H Q := rfl
def c10s30 : SCode := (.block 0 (.loop c10k c10s29))
@[go_sem] theorem c10s30eq : vc P E c10s30 σ H Q = vc P E (.block 0 (.loop c10k c10s29)) σ H Q := rfl
@[go_sem] def c10r31 : List GOp := [(.op none .t (.v (.mv (.s 2)))),
  (.op none .t (.v (.len (.t 0)))),
  (.op none .t (.v (.bin .gtr (.t 0) (.c (.int .i64 0))))),
  (.op none .t (.v (.mv (.t 0)))),
  (.op (some ((.t 0), (true, true))) .t (.v (.mv (.s 2)))),
  (.op (some ((.t 1), (true, false))) .t (.v (.mv (.s 2)))),
  (.op (some ((.t 2), (true, false))) .t (.v (.len (.t 0)))),
  (.op (some ((.t 3), (true, false))) .t (.v (.bin .sub (.t 0) (.c (.int .i64 1))))),
  (.op (some ((.t 4), (true, false))) .t (.v (.ix 4 (.t 3) (.t 0)))),
  (.op (some ((.t 5), (true, false))) .t (.ld (some 4) (.t 0))),
  (.op (some ((.t 6), (true, false))) .t (.v (.mv (.s 0)))),
  (.op (some ((.t 7), (true, false))) .t (.v (.slen (.t 0)))),
  (.op (some ((.t 8), (true, false))) .t (.v (.bld [(.int .i64 0), (.string ⟨⟨[]⟩⟩), (.int .i64 0), (.int .i64 0)] [(0, (1, (.c (.int .i64 6)))), (3, (1, (.t 0)))]))),
  (.op (some ((.t 9), (true, false))) .t (.v (.steq false [(0, .i), (1, .s), (2, .i), (3, .i)] (.t 3) (.t 0)))),
  (.op none .t (.v (.pick (.t 10) (.t 0) (.c (.bool false))))),
  (.op none .t (.v (.mv (.t 0)))),
  (.sel (.t 0) true [(.op (.v (.mv (.s 4)))), (.op (.v (.mv (.s 0)))), (.op (.v (.slen (.t 0)))), (.op (.v (.bin .leq (.t 2) (.t 0))))] .t (.t 0) (.c (.bool false))),
  (.op none (.s 1) (.v (.mv (.t 0))))]
def c10s32 : SCode := (.seq (.ops c10r31) .ret)
@[go_sem] theorem c10s32eq : vc P E c10s32 σ H Q = vc P E (.seq (.ops c10r31) .ret) σ H Q := rfl
def c10s33 : SCode := (.seq (.seq (.ops c10r15) c10s30) c10s32)
@[go_sem] theorem c10s33eq : vc P E c10s33 σ H Q = vc P E (.seq (.seq (.ops c10r15) c10s30) c10s32) σ H Q := rfl
def c10s34 : SCode := (.seq (.ops c10r14) c10s33)
@[go_sem] theorem c10s34eq : vc P E c10s34 σ H Q = vc P E (.seq (.ops c10r14) c10s33) σ H Q := rfl
def c10s35 : SCode := (.seq (.seq (.ops c10r10) c10s13) c10s34)
@[go_sem] theorem c10s35eq : vc P E c10s35 σ H Q = vc P E (.seq (.seq (.ops c10r10) c10s13) c10s34) σ H Q := rfl
def c10s36 : SCode := (.seq (.ops c10r9) c10s35)
@[go_sem] theorem c10s36eq : vc P E c10s36 σ H Q = vc P E (.seq (.ops c10r9) c10s35) σ H Q := rfl
def c10s37 : SCode := (.seq (.seq (.ops c10r5) c10s8) c10s36)
@[go_sem] theorem c10s37eq : vc P E c10s37 σ H Q = vc P E (.seq (.seq (.ops c10r5) c10s8) c10s36) σ H Q := rfl
def c10s38 : SCode := (.seq (.seq (.ops c10r1) c10s4) c10s37)
@[go_sem] theorem c10s38eq : vc P E c10s38 σ H Q = vc P E (.seq (.seq (.ops c10r1) c10s4) c10s37) σ H Q := rfl
def c10 : Gx.Fn := ⟨124, c10k, (.seq (.ops c10r0) c10s38), [(.tmp (.s 1))]⟩
theorem c10ok : stripFn Tryd.prog c10k Tryd.f10 = some c10 := by kernel_rfl

/- plexuslaw15.LexerFaults -/
@[go_sem] def c11k : List Nat := [0, 2, 4, 5, 6, 8, 11, 19, 32]
@[go_sem] def c11r0 : List GOp := [(.op none (.s 1) (.v (.mv (.c (.bool false)))))]
@[go_sem] def c11r1 : List GOp := [(.op none .t (.call 14 [])),
  (.op none (.s 5) (.v (.un .not (.t 0))))]
@[go_sem] def c11r2 : List GOp := [(.op none (.s 1) (.v (.mv (.c (.bool false)))))]
def c11s3 : SCode := (.seq (.ops c11r2) .ret)
@[go_sem] theorem c11s3eq : vc P E c11s3 σ H Q = vc P E (.seq (.ops c11r2) .ret) σ H Q := rfl
def c11s4 : SCode := (.cond (.s 5) c11s3 .skip)
@[go_sem] theorem c11s4eq : vc P E c11s4 σ H Q = vc P E (.cond (.s 5) c11s3 .skip) σ H Q := rfl
@[go_sem] def c11r5 : List GOp := [(.op none .t (.v (.mv (.s 0)))),
  (.op none .t (.v (.slen (.t 0)))),
  (.op none (.s 6) (.v (.bin .gtr (.t 0) (.c (.int .i64 2000)))))]
@[go_sem] def c11r6 : List GOp := [(.op none (.s 1) (.v (.mv (.c (.bool true)))))]
def c11s7 : SCode := (.seq (.ops c11r6) .ret)
@[go_sem] theorem c11s7eq : vc P E c11s7 σ H Q = vc P E (.seq (.ops c11r6) .ret) σ H Q := rfl
def c11s8 : SCode := (.cond (.s 6) c11s7 .skip)
@[go_sem] theorem c11s8eq : vc P E c11s8 σ H Q = vc P E (.cond (.s 6) c11s7 .skip) σ H Q := rfl
@[go_sem] def c11r9 : List GOp := [(.op none .t (.v (.mv (.s 0)))),
  (.op none .t (.call 21 [(.t 0)])),
  (.op none .t (.v (.mv (.t 0)))),
  (.op none .t (.v (.ext (.t 0) 0))),
  (.op none .t (.v (.ext (.t 1) 1))),
  (.op none (.s 2) (.al 28 [(.int .i64 0), (.int .i64 0)])),
  (.op none .t (.v (.mv (.t 1)))),
  (.op none .no (.st 2 (.s 2) (.t 1)))]
@[go_sem] def c11r10 : List GOp := [(.op none .t (.v (.fa 0 (.s 2)))),
  (.op none .t (.ld none (.t 0))),
  (.op none (.s 7) (.v (.bin .eql (.t 0) (.c (.int .i64 0)))))]
@[go_sem] def c11r11 : List GOp := [(.op none .t (.v (.fa 1 (.s 2)))),
  (.op none .t (.ld none (.t 0))),
  (.op none .t (.v (.bin .eql (.t 0) (.c (.int .i64 0))))),
  (.op none (.s 1) (.v (.mv (.t 0))))]
def c11s12 : SCode := (.seq (.ops c11r11) .ret)
@[go_sem] theorem c11s12eq : vc P E c11s12 σ H Q = vc P E (.seq (.ops c11r11) .ret) σ H Q := rfl
def c11s13 : SCode := (.cond (.s 7) c11s12 .skip)
@[go_sem] theorem c11s13eq : vc P E c11s13 σ H Q = vc P E (.cond (.s 7) c11s12 .skip) σ H Q := rfl
@[go_sem] def c11r14 : List GOp := [(.op none .t (.v (.fa 1 (.s 2)))),
  (.op none .t (.ld none (.t 0))),
  (.op none .t (.v (.bin .lss (.t 0) (.c (.int .i64 0))))),
  (.op none .t (.v (.mv (.t 0)))),
  (.sel (.t 0) false [(.op (.v (.fa 1 (.s 2)))), (.op (.ld none (.t 0))), (.op (.v (.mv (.s 0)))), (.op (.v (.slen (.t 0)))), (.op (.v (.bin .geq (.t 2) (.t 0))))] (.s 8) (.c (.bool true)) (.t 0))]
@[go_sem] def c11r15 : List GOp := [(.op none (.s 1) (.v (.mv (.c (.bool false)))))]
def c11s16 : SCode := (.seq (.ops c11r15) .ret)
@[go_sem] theorem c11s16eq : vc P E c11s16 σ H Q = vc P E (.seq (.ops c11r15) .ret) σ H Q := rfl
def c11s17 : SCode := (.cond (.s 8) c11s16 .skip)
@[go_sem] theorem c11s17eq : vc P E c11s17 σ H Q = vc P E (.cond (.s 8) c11s16 .skip) σ H Q := rfl
@[go_sem] def c11r18 : List GOp := [(.op none .t (.v (.mv (.s 0)))),
  (.op none .t (.v (.fa 1 (.s 2)))),
  (.op none .t (.ld none (.t 0))),
  (.op none .t (.v (.ssl (.t 2) none (some (.t 0))))),
  (.op none .t (.call 21 [(.t 0)])),
  (.op none .t (.v (.mv (.t 0)))),
  (.op none .t (.v (.ext (.t 0) 0))),
  (.op none .t (.v (.ext (.t 1) 1))),
  (.op none (.s 4) (.al 28 [(.int .i64 0), (.int .i64 0)])),
  (.op none (.s 3) (.v (.mv (.t 1)))),
  (.op none .no (.st 2 (.s 4) (.t 0)))]
@[go_sem] def c11r19 : List GOp := [(.op none .t (.v (.fa 0 (.s 4)))),
  (.op none .t (.ld none (.t 0))),
  (.op none .t (.v (.bin .eql (.t 0) (.c (.int .i64 0))))),
  (.op none .t (.v (.mv (.t 0)))),
  (.sel (.t 0) true [(.op (.v (.mv (.s 3)))), (.op (.v (.len (.t 0)))), (.op (.v (.bin .gtr (.t 0) (.c (.int .i64 0)))))] .t (.t 0) (.c (.bool false))),
  (.op none .t (.v (.mv (.t 0)))),
  (.op (some ((.t 0), (true, true))) .t (.v (.mv (.s 3)))),
  (.op (some ((.t 1), (true, false))) .t (.v (.mv (.s 3)))),
  (.op (some ((.t 2), (true, false))) .t (.v (.len (.t 0)))),
  (.op (some ((.t 3), (true, false))) .t (.v (.bin .sub (.t 0) (.c (.int .i64 1))))),
  (.op (some ((.t 4), (true, false))) .t (.v (.ix 4 (.t 3) (.t 0)))),
  (.op (some ((.t 5), (true, false))) .t (.v (.fa 3 (.t 0)))),
  (.op (some ((.t 6), (true, false))) .t (.ld none (.t 0))),
  (.op (some ((.t 7), (true, false))) .t (.v (.fa 1 (.s 2)))),
  (.op (some ((.t 8), (true, false))) .t (.ld none (.t 0))),
  (.op (some ((.t 9), (true, false))) .t (.v (.bin .eql (.t 2) (.t 0)))),
  (.op none .t (.v (.pick (.t 10) (.t 0) (.c (.bool false))))),
  (.op none (.s 1) (.v (.mv (.t 0))))]
def c11s20 : SCode := (.seq (.dq c11r19) .ret)
@[go_sem] theorem c11s20eq : vc P E c11s20 σ H Q = vc P E (.seq (.dq c11r19) .ret) σ H Q := rfl
def c11s21 : SCode := (.seq (.ops c11r18) c11s20)
@[go_sem] theorem c11s21eq : vc P E c11s21 σ H Q = vc P E (.seq (.ops c11r18) c11s20) σ H Q := rfl
def c11s22 : SCode := (.seq (.seq (.ops c11r14) c11s17) c11s21)
@[go_sem] theorem c11s22eq : vc P E c11s22 σ H Q = vc P E (.seq (.seq (.ops c11r14) c11s17) c11s21) σ H Q := rfl
def c11s23 : SCode := (.seq (.seq (.ops c11r10) c11s13) c11s22)
@[go_sem] theorem c11s23eq : vc P E c11s23 σ H Q = vc P E (.seq (.seq (.ops c11r10) c11s13) c11s22) σ H Q := rfl
def c11s24 : SCode := (.seq (.ops c11r9) c11s23)
@[go_sem] theorem c11s24eq : vc P E c11s24 σ H Q = vc P E (.seq (.ops c11r9) c11s23) σ H Q := rfl
def c11s25 : SCode := (.seq (.seq (.ops c11r5) c11s8) c11s24)
@[go_sem] theorem c11s25eq : vc P E c11s25 σ H Q = vc P E (.seq (.seq (.ops c11r5) c11s8) c11s24) σ H Q := rfl
def c11s26 : SCode := (.seq (.seq (.ops c11r1) c11s4) c11s25)
@[go_sem] theorem c11s26eq : vc P E c11s26 σ H Q = vc P E (.seq (.seq (.ops c11r1) c11s4) c11s25) σ H Q := rfl
def c11 : Gx.Fn := ⟨61, c11k, (.seq (.ops c11r0) c11s26), [(.tmp (.s 1))]⟩
theorem c11ok : stripFn Tryd.prog c11k Tryd.f11 = some c11 := by kernel_rfl

/- plexuslaw15.LexerLimits -/
@[go_sem] def c12k : List Nat := [0, 1, 4, 5, 6, 7, 8, 9, 10, 11, 12, 13, 14, 16, 27, 37, 61, 91]
@[go_sem] def c12r0 : List GOp := [(.op none (.s 2) (.v (.mv (.c (.bool false)))))]
@[go_sem] def c12r1 : List GOp := [(.op none .t (.call 14 [])),
  (.op none (.s 13) (.v (.un .not (.t 0))))]
@[go_sem] def c12r2 : List GOp := [(.op none (.s 2) (.v (.mv (.c (.bool false)))))]
def c12s3 : SCode := (.seq (.ops c12r2) .ret)
@[go_sem] theorem c12s3eq : vc P E c12s3 σ H Q = vc P E (.seq (.ops c12r2) .ret) σ H Q := rfl
def c12s4 : SCode := (.cond (.s 13) c12s3 .skip)
@[go_sem] theorem c12s4eq : vc P E c12s4 σ H Q = vc P E (.cond (.s 13) c12s3 .skip) σ H Q := rfl
@[go_sem] def c12r5 : List GOp := [(.op none .t (.v (.mv (.s 0)))),
  (.op none .t (.v (.slen (.t 0)))),
  (.op none .t (.v (.bin .gtr (.t 0) (.c (.int .i64 100))))),
  (.op none .t (.v (.mv (.t 0)))),
  (.sel (.t 0) false [(.op (.v (.mv (.s 1)))), (.op (.v (.bin .lss (.t 0) (.c (.int .i64 (-2))))))] .t (.c (.bool true)) (.t 0)),
  (.op none .t (.v (.mv (.t 0)))),
  (.sel (.t 0) false [(.op (.v (.mv (.s 1)))), (.op (.v (.bin .gtr (.t 0) (.c (.int .i64 2)))))] (.s 14) (.c (.bool true)) (.t 0))]
@[go_sem] def c12r6 : List GOp := [(.op none (.s 2) (.v (.mv (.c (.bool true)))))]
def c12s7 : SCode := (.seq (.ops c12r6) .ret)
@[go_sem] theorem c12s7eq : vc P E c12s7 σ H Q = vc P E (.seq (.ops c12r6) .ret) σ H Q := rfl
def c12s8 : SCode := (.cond (.s 14) c12s7 .skip)
@[go_sem] theorem c12s8eq : vc P E c12s8 σ H Q = vc P E (.cond (.s 14) c12s7 .skip) σ H Q := rfl
@[go_sem] def c12r9 : List GOp := [(.op none .t (.v (.mv (.s 0)))),
  (.op none .t (.v (.slen (.t 0)))),
  (.op none .t (.v (.bin .sub (.c (.int .i64 65536)) (.t 0)))),
  (.op none .t (.v (.mv (.s 1)))),
  (.op none .t (.v (.bin .add (.t 1) (.t 0)))),
  (.op none .t (.mk 5 1 1 (.int .u8 0) (.t 0) (.t 0))),
  (.op none (.s 3) (.v (.mv (.t 0))))]
@[go_sem] def c12r10 : List GOp := [(.op none (.s 4) (.v (.mv (.c (.int .i64 0)))))]
@[go_sem] def c12r11 : List GOp := [(.op none .t (.v (.mv (.s 4)))),
  (.op none .t (.v (.mv (.s 3)))),
  (.op none .t (.v (.len (.t 0)))),
  (.op none (.s 15) (.v (.bin .lss (.t 2) (.t 0))))]
def c12s12 : SCode := (.cond (.s 15) .skip (.exit 0))
@[go_sem] theorem c12s12eq : vc P E c12s12 σ H Q = vc P E (.cond (.s 15) .skip (.exit 0)) σ H Q := rfl
@[go_sem] def c12r13 : List GOp := [(.op none .t (.v (.mv (.s 3)))),
  (.op none .t (.v (.mv (.s 4)))),
  (.op none .t (.v (.ix 1 (.t 1) (.t 0)))),
  (.op none .no (.st 1 (.t 0) (.c (.int .u8 32))))]
@[go_sem] def c12r14 : List GOp := [(.op none .t (.v (.mv (.s 4)))),
  (.op none .t (.v (.bin .add (.t 0) (.c (.int .i64 1))))),
  (.op none (.s 4) (.v (.mv (.t 0))))]
def c12s15 : SCode := (.ops c12r14)
@[go_sem] theorem c12s15eq : vc P E c12s15 σ H Q = vc P E (.ops c12r14) σ H Q := rfl
def c12s16 : SCode := (.seq (.block 1 (.ops c12r13)) c12s15)
@[go_sem] theorem c12s16eq : vc P E c12s16 σ H Q = vc P E (.seq (.block 1 (.ops c12r13)) c12s15) σ H Q := rfl
def c12s17 : SCode := (.seq (.seq (.ops c12r11) c12s12) c12s16)
@[go_sem] theorem c12s17eq : vc P E c12s17 σ H Q = vc P E (.seq (.seq (.ops c12r11) c12s12) c12s16) σ H Q := rfl
def c12s18 : SCode := (.block 0 (.loop c12k c12s17))
@[go_sem] theorem c12s18eq : vc P E c12s18 σ H Q = vc P E (.block 0 (.loop c12k c12s17)) σ H Q := rfl
@[go_sem] def c12r19 : List GOp := [(.op none .t (.v (.mv (.s 3)))),
  (.op none .t (.b2s (.t 0))),
  (.op none .t (.v (.mv (.s 0)))),
  (.op none .t (.v (.bin .add (.t 1) (.t 0)))),
  (.op none (.s 5) (.v (.mv (.t 0))))]
@[go_sem] def c12r20 : List GOp := [(.op none .t (.v (.mv (.s 5)))),
  (.op none .t (.call 21 [(.t 0)])),
  (.op none .t (.v (.mv (.t 0)))),
  (.op none .t (.v (.ext (.t 0) 0))),
  (.op none .t (.v (.ext (.t 1) 1))),
  (.op none (.s 7) (.al 28 [(.int .i64 0), (.int .i64 0)])),
  (.op none (.s 6) (.v (.mv (.t 1)))),
  (.op none .no (.st 2 (.s 7) (.t 0)))]
@[go_sem] def c12r21 : List GOp := [(.op none .t (.v (.mv (.s 5)))),
  (.op none .t (.v (.mv (.s 3)))),
  (.op none .t (.v (.len (.t 0)))),
  (.op none .t (.call 19 [(.t 2), (.t 0)])),
  (.op none .t (.v (.mv (.t 0)))),
  (.op none .t (.v (.ext (.t 0) 0))),
  (.op none .t (.v (.ext (.t 1) 1))),
  (.op none .t (.v (.ext (.t 2) 2))),
  (.op none (.s 8) (.al 25 [(.int .i64 0), (.string ⟨⟨[]⟩⟩), (.int .i64 0), (.int .i64 0)])),
  (.op none (.s 10) (.al 28 [(.int .i64 0), (.int .i64 0)])),
  (.op none .no (.st 4 (.s 8) (.t 2))),
  (.op none (.s 9) (.v (.mv (.t 1)))),
  (.op none .no (.st 2 (.s 10) (.t 0)))]
@[go_sem] def c12r22 : List GOp := [(.op none .t (.v (.mv (.s 1)))),
  (.op none (.s 16) (.v (.bin .gtr (.t 0) (.c (.int .i64 0)))))]
@[go_sem] def c12r23 : List GOp := [(.op none .t (.ld (some 2) (.s 7))),
  (.op none .t (.v (.bld [(.int .i64 0), (.int .i64 0)] [(0, (1, (.c (.int .i64 6)))), (1, (1, (.c (.int .i64 65536))))]))),
  (.op none .t (.v (.steq false [(0, .i), (1, .i)] (.t 1) (.t 0)))),
  (.op none .t (.v (.mv (.t 0)))),
  (.op (some ((.t 0), (true, true))) .t (.ld (some 2) (.s 10))),
  (.op (some ((.t 1), (true, false))) .t (.ld (some 2) (.s 7))),
  (.op (some ((.t 2), (true, false))) .t (.v (.steq false [(0, .i), (1, .i)] (.t 1) (.t 0)))),
  (.op none .t (.v (.pick (.t 3) (.t 0) (.c (.bool false))))),
  (.op none .t (.v (.mv (.t 0)))),
  (.sel (.t 0) true [(.op (.v (.mv (.s 6)))), (.op (.v (.len (.t 0)))), (.op (.v (.bin .eql (.t 0) (.c (.int .i64 0)))))] .t (.t 0) (.c (.bool false))),
  (.op none .t (.v (.mv (.t 0)))),
  (.op (some ((.t 0), (true, true))) .t (.ld (some 4) (.s 8))),
  (.op (some ((.t 1), (true, false))) .t (.v (.bld [(.int .i64 0), (.string ⟨⟨[]⟩⟩), (.int .i64 0), (.int .i64 0)] []))),
  (.op (some ((.t 2), (true, false))) .t (.v (.steq false [(0, .i), (1, .s), (2, .i), (3, .i)] (.t 1) (.t 0)))),
  (.op none .t (.v (.pick (.t 3) (.t 0) (.c (.bool false))))),
  (.op none .t (.v (.mv (.t 0)))),
  (.sel (.t 0) true [(.op (.v (.mv (.s 9)))), (.op (.v (.bin .eql (.t 0) (.c (.int .i64 0)))))] .t (.t 0) (.c (.bool false))),
  (.op none (.s 2) (.v (.mv (.t 0))))]
def c12s24 : SCode := (.seq (.ops c12r23) .ret)
@[go_sem] theorem c12s24eq : vc P E c12s24 σ H Q = vc P E (.seq (.ops c12r23) .ret) σ H Q := rfl
def c12s25 : SCode := (.cond (.s 16) c12s24 .skip)
@[go_sem] theorem c12s25eq : vc P E c12s25 σ H Q = vc P E (.cond (.s 16) c12s24 .skip) σ H Q := rfl
@[go_sem] def c12r26 : List GOp := [(.op none .t (.v (.mv (.s 0)))),
  (.op none .t (.call 22 [(.t 0)])),
  (.op none .t (.v (.mv (.t 0)))),
  (.op none .t (.v (.ext (.t 0) 0))),
  (.op none .t (.v (.ext (.t 1) 1))),
  (.op none (.s 12) (.al 28 [(.int .i64 0), (.int .i64 0)])),
  (.op none (.s 11) (.v (.mv (.t 1)))),
  (.op none .no (.st 2 (.s 12) (.t 0)))]
@[go_sem] def c12r27 : List GOp := [(.op none .t (.v (.fa 0 (.s 12)))),
  (.op none .t (.ld none (.t 0))),
  (.op none (.s 17) (.v (.bin .neq (.t 0) (.c (.int .i64 0)))))]
@[go_sem] def c12r28 : List GOp := [(.op none .t (.v (.fa 0 (.s 7)))),
  (.op none .t (.ld none (.t 0))),
  (.op none .t (.v (.fa 0 (.s 12)))),
  (.op none .t (.ld none (.t 0))),
  (.op none .t (.v (.bin .eql (.t 2) (.t 0)))),
  (.op none .t (.v (.mv (.t 0)))),
  (.sel (.t 0) true [(.op (.v (.fa 1 (.s 7)))), (.op (.ld none (.t 0))), (.op (.v (.fa 1 (.s 12)))), (.op (.ld none (.t 0))), (.op (.v (.mv (.s 3)))), (.op (.v (.len (.t 0)))), (.op (.v (.bin .add (.t 2) (.t 0)))), (.op (.v (.bin .eql (.t 5) (.t 0))))] .t (.t 0) (.c (.bool false))),
  (.op none (.s 2) (.v (.mv (.t 0))))]
def c12s29 : SCode := (.seq (.ops c12r28) .ret)
@[go_sem] theorem c12s29eq : vc P E c12s29 σ H Q = vc P E (.seq (.ops c12r28) .ret) σ H Q := rfl
def c12s30 : SCode := (.cond (.s 17) c12s29 .skip)
@[go_sem] theorem c12s30eq : vc P E c12s30 σ H Q = vc P E (.cond (.s 17) c12s29 .skip) σ H Q := rfl
@[go_sem] def c12d31 : DT := (.rd none .t (.v (.fa 0 (.s 7))) [11] (.rd none .t (.ld none (.t 0)) [11] (.rd none .t (.v (.bin .eql (.t 0) (.c (.int .i64 0)))) [11] (.rd none .t (.v (.mv (.t 0))) [11] (.rd (some ((.t 0), true)) .t (.v (.fa 0 (.s 10))) [11] (.rd (some ((.t 1), true)) .t (.ld none (.t 0)) [11] (.rd (some ((.t 2), true)) .t (.v (.bin .eql (.t 0) (.c (.int .i64 0)))) [11] (.rd none .t (.v (.pick (.t 3) (.t 0) (.c (.bool false)))) [11] (.rd none .t (.v (.mv (.t 0))) [11] (.rd (some ((.t 0), true)) .t (.v (.mv (.s 6))) [11] (.rd (some ((.t 1), true)) .t (.v (.mv (.s 11))) [11] (.ef 11 (some ((.t 2), true)) .t (.call 23 [(.t 1), (.t 0), (.c (.bool false))]) (.rd none .t (.v (.pick (.t 3) (.t 0) (.c (.bool false)))) [] (.rd none .t (.v (.mv (.t 0))) [] (.rd (some ((.t 0), true)) .t (.v (.mv (.s 6))) [] (.rd (some ((.t 1), true)) .t (.v (.ix 4 (.t 0) (.c (.int .i64 0)))) [] (.rd (some ((.t 2), true)) .t (.v (.fa 3 (.t 0))) [] (.rd (some ((.t 3), true)) .t (.ld none (.t 0)) [] (.rd (some ((.t 4), true)) .t (.v (.fa 3 (.s 8))) [] (.rd (some ((.t 5), true)) .t (.ld none (.t 0)) [] (.rd (some ((.t 6), true)) .t (.v (.bin .eql (.t 2) (.t 0))) [] (.rd none .t (.v (.pick (.t 7) (.t 0) (.c (.bool false)))) [] (.rd none (.s 2) (.v (.mv (.t 0))) [] .done)))))))))))))))))))))))
def c12s32 : SCode := (.seq (.de c12d31) .ret)
@[go_sem] theorem c12s32eq : vc P E c12s32 σ H Q = vc P E (.seq (.de c12d31) .ret) σ H Q := rfl
def c12s33 : SCode := (.seq (.seq (.ops c12r27) c12s30) c12s32)
@[go_sem] theorem c12s33eq : vc P E c12s33 σ H Q = vc P E (.seq (.seq (.ops c12r27) c12s30) c12s32) σ H Q := rfl
def c12s34 : SCode := (.seq (.ops c12r26) c12s33)
@[go_sem] theorem c12s34eq : vc P E c12s34 σ H Q = vc P E (.seq (.ops c12r26) c12s33) σ H Q := rfl
def c12s35 : SCode := (.seq (.seq (.ops c12r22) c12s25) c12s34)
@[go_sem] theorem c12s35eq : vc P E c12s35 σ H Q = vc P E (.seq (.seq (.ops c12r22) c12s25) c12s34) σ H Q := rfl
def c12s36 : SCode := (.seq (.ops c12r21) c12s35)
@[go_sem] theorem c12s36eq : vc P E c12s36 σ H Q = vc P E (.seq (.ops c12r21) c12s35) σ H Q := rfl
def c12s37 : SCode := (.seq (.ops c12r20) c12s36)
@[go_sem] theorem c12s37eq : vc P E c12s37 σ H Q = vc P E (.seq (.ops c12r20) c12s36) σ H Q := rfl
def c12s38 : SCode := (.seq (.ops c12r19) c12s37)
@[go_sem] theorem c12s38eq : vc P E c12s38 σ H Q = vc P E (.seq (.ops c12r19) c12s37) σ H Q := rfl
def c12s39 : SCode := (.seq (.seq (.ops c12r10) c12s18) c12s38)
@[go_sem] theorem c12s39eq : vc P E c12s39 σ H Q = vc P E (.seq (.seq (.ops c12r10) c12s18) c12s38) σ H Q := rfl
def c12s40 : SCode := (.seq (.ops c12r9) c12s39)
@[go_sem] theorem c12s40eq : vc P E c12s40 σ H Q = vc P E (.seq (.ops c12r9) c12s39) σ H Q := rfl
def c12s41 : SCode := (.seq (.seq (.ops c12r5) c12s8) c12s40)
@[go_sem] theorem c12s41eq : vc P E c12s41 σ H Q = vc P E (.seq (.seq (.ops c12r5) c12s8) c12s40) σ H Q := rfl
def c12s42 : SCode := (.seq (.seq (.ops c12r1) c12s4) c12s41)
@[go_sem] theorem c12s42eq : vc P E c12s42 σ H Q = vc P E (.seq (.seq (.ops c12r1) c12s4) c12s41) σ H Q := rfl
def c12 : Gx.Fn := ⟨129, c12k, (.seq (.ops c12r0) c12s42), [(.tmp (.s 2))]⟩
theorem c12ok : stripFn Tryd.prog c12k Tryd.f12 = some c12 := by kernel_rfl

/- plexuslaw15.LexerPlaces -/
@[go_sem] def c13k : List Nat := [0, 1, 4, 5, 6, 7, 8, 10, 13]
@[go_sem] def c13r0 : List GOp := [(.op none (.s 2) (.v (.mv (.c (.bool false)))))]
@[go_sem] def c13r1 : List GOp := [(.op none .t (.call 14 [])),
  (.op none (.s 7) (.v (.un .not (.t 0))))]
@[go_sem] def c13r2 : List GOp := [(.op none (.s 2) (.v (.mv (.c (.bool false)))))]
def c13s3 : SCode := (.seq (.ops c13r2) .ret)
@[go_sem] theorem c13s3eq : vc P E c13s3 σ H Q = vc P E (.seq (.ops c13r2) .ret) σ H Q := rfl
def c13s4 : SCode := (.cond (.s 7) c13s3 .skip)
@[go_sem] theorem c13s4eq : vc P E c13s4 σ H Q = vc P E (.cond (.s 7) c13s3 .skip) σ H Q := rfl
@[go_sem] def c13r5 : List GOp := [(.op none .t (.v (.mv (.s 0)))),
  (.op none .t (.v (.slen (.t 0)))),
  (.op none (.s 8) (.v (.bin .gtr (.t 0) (.c (.int .i64 2000)))))]
@[go_sem] def c13r6 : List GOp := [(.op none (.s 2) (.v (.mv (.c (.bool true)))))]
def c13s7 : SCode := (.seq (.ops c13r6) .ret)
@[go_sem] theorem c13s7eq : vc P E c13s7 σ H Q = vc P E (.seq (.ops c13r6) .ret) σ H Q := rfl
def c13s8 : SCode := (.cond (.s 8) c13s7 .skip)
@[go_sem] theorem c13s8eq : vc P E c13s8 σ H Q = vc P E (.cond (.s 8) c13s7 .skip) σ H Q := rfl
@[go_sem] def c13r9 : List GOp := [(.op none .t (.v (.mv (.s 0)))),
  (.op none .t (.v (.mv (.s 1)))),
  (.op none .t (.call 27 [(.t 1), (.t 0)])),
  (.op none .t (.v (.mv (.t 0)))),
  (.op none .t (.v (.ext (.t 0) 0))),
  (.op none .t (.v (.ext (.t 1) 1))),
  (.op none (.s 3) (.v (.mv (.t 1)))),
  (.op none (.s 4) (.v (.mv (.t 0))))]
@[go_sem] def c13r10 : List GOp := [(.op none .t (.v (.mv (.s 0)))),
  (.op none .t (.v (.mv (.s 1)))),
  (.op none .t (.call 28 [(.t 1), (.t 0)])),
  (.op none .t (.v (.mv (.t 0)))),
  (.op none .t (.v (.ext (.t 0) 0))),
  (.op none .t (.v (.ext (.t 1) 1))),
  (.op none (.s 5) (.v (.mv (.t 1)))),
  (.op none (.s 6) (.v (.mv (.t 0))))]
@[go_sem] def c13r11 : List GOp := [(.op none .t (.v (.mv (.s 3)))),
  (.op none .t (.v (.mv (.s 5)))),
  (.op none .t (.v (.bin .eql (.t 1) (.t 0)))),
  (.op none .t (.v (.mv (.t 0)))),
  (.sel (.t 0) true [(.op (.v (.mv (.s 4)))), (.op (.v (.mv (.s 6)))), (.op (.v (.bin .eql (.t 1) (.t 0))))] .t (.t 0) (.c (.bool false))),
  (.op none (.s 2) (.v (.mv (.t 0))))]
def c13s12 : SCode := (.seq (.ops c13r11) .ret)
@[go_sem] theorem c13s12eq : vc P E c13s12 σ H Q = vc P E (.seq (.ops c13r11) .ret) σ H Q := rfl
def c13s13 : SCode := (.seq (.ops c13r10) c13s12)
@[go_sem] theorem c13s13eq : vc P E c13s13 σ H Q = vc P E (.seq (.ops c13r10) c13s12) σ H Q := rfl
def c13s14 : SCode := (.seq (.ops c13r9) c13s13)
@[go_sem] theorem c13s14eq : vc P E c13s14 σ H Q = vc P E (.seq (.ops c13r9) c13s13) σ H Q := rfl
def c13s15 : SCode := (.seq (.seq (.ops c13r5) c13s8) c13s14)
@[go_sem] theorem c13s15eq : vc P E c13s15 σ H Q = vc P E (.seq (.seq (.ops c13r5) c13s8) c13s14) σ H Q := rfl
def c13s16 : SCode := (.seq (.seq (.ops c13r1) c13s4) c13s15)
@[go_sem] theorem c13s16eq : vc P E c13s16 σ H Q = vc P E (.seq (.seq (.ops c13r1) c13s4) c13s15) σ H Q := rfl
def c13 : Gx.Fn := ⟨34, c13k, (.seq (.ops c13r0) c13s16), [(.tmp (.s 2))]⟩
theorem c13ok : stripFn Tryd.prog c13k Tryd.f13 = some c13 := by kernel_rfl

/- plexuslaw15.awake -/
@[go_sem] def c14k : List Nat := [0, 1, 2, 4, 5, 6, 7, 8, 9, 10, 11]
@[go_sem] def c14r0 : List GOp := [(.op none (.s 0) (.v (.mv (.c (.bool false)))))]
@[go_sem] def c14r1 : List GOp := [(.op none .t (.call 21 [(.c (.string ⟨⟨[111, 98, 106, 101, 99, 116, 32, 99, 97, 114, 116, 45, 49, 32, 58, 32, 115, 101, 116, 59, 32, 35, 32, 109, 121, 32, 99, 97, 114, 116]⟩⟩))])),
  (.op none .t (.v (.mv (.t 0)))),
  (.op none .t (.v (.ext (.t 0) 0))),
  (.op none .t (.v (.ext (.t 1) 1))),
  (.op none (.s 2) (.al 28 [(.int .i64 0), (.int .i64 0)])),
  (.op none (.s 1) (.v (.mv (.t 1)))),
  (.op none .no (.st 2 (.s 2) (.t 0)))]
@[go_sem] def c14r2 : List GOp := [(.op none .t (.call 21 [(.c (.string ⟨⟨[120, 32, 39, 115, 101, 116]⟩⟩))])),
  (.op none .t (.v (.mv (.t 0)))),
  (.op none .t (.v (.ext (.t 0) 0))),
  (.op none .t (.v (.ext (.t 1) 1))),
  (.op none (.s 3) (.al 28 [(.int .i64 0), (.int .i64 0)])),
  (.op none .t (.v (.mv (.t 1)))),
  (.op none .no (.st 2 (.s 3) (.t 1)))]
@[go_sem] def c14r3 : List GOp := [(.op none .t (.v (.bld [(.int .i64 0), (.string ⟨⟨[]⟩⟩), (.int .i64 0), (.int .i64 0)] [(0, (1, (.c (.int .i64 1)))), (1, (1, (.c (.string ⟨⟨[97]⟩⟩))))]))),
  (.op none .t (.v (.bld [(.int .i64 0), (.string ⟨⟨[]⟩⟩), (.int .i64 0), (.int .i64 0)] [(0, (1, (.c (.int .i64 3)))), (2, (1, (.c (.int .i64 12))))]))),
  (.op none .t (.v (.bld [(.int .i64 0), (.string ⟨⟨[]⟩⟩), (.int .i64 0), (.int .i64 0)] [(0, (1, (.c (.int .i64 6))))]))),
  (.op none .t (.bs 25 3 [(.int .i64 0), (.string ⟨⟨[]⟩⟩), (.int .i64 0), (.int .i64 0), (.int .i64 0), (.string ⟨⟨[]⟩⟩), (.int .i64 0), (.int .i64 0), (.int .i64 0), (.string ⟨⟨[]⟩⟩), (.int .i64 0), (.int .i64 0)] [(0, (4, (.t 2))), (4, (4, (.t 1))), (8, (4, (.t 0)))])),
  (.op none .t (.call 24 [(.t 0)])),
  (.op none .t (.v (.mv (.t 0)))),
  (.op none .t (.v (.ext (.t 0) 0))),
  (.op none .t (.v (.ext (.t 1) 1))),
  (.op none (.s 4) (.v (.mv (.t 1)))),
  (.op none (.s 5) (.v (.mv (.t 0))))]
@[go_sem] def c14r4 : List GOp := [(.op none .t (.call 19 [(.c (.string ⟨⟨[97, 32, 45, 32, 49]⟩⟩)), (.c (.int .i64 1))])),
  (.op none .t (.v (.mv (.t 0)))),
  (.op none .t (.v (.ext (.t 0) 0))),
  (.op none .t (.v (.ext (.t 1) 1))),
  (.op none .t (.v (.ext (.t 2) 2))),
  (.op none (.s 6) (.al 25 [(.int .i64 0), (.string ⟨⟨[]⟩⟩), (.int .i64 0), (.int .i64 0)])),
  (.op none (.s 8) (.al 28 [(.int .i64 0), (.int .i64 0)])),
  (.op none .no (.st 4 (.s 6) (.t 2))),
  (.op none (.s 7) (.v (.mv (.t 1)))),
  (.op none .no (.st 2 (.s 8) (.t 0)))]
@[go_sem] def c14r5 : List GOp := [(.op none .t (.call 27 [(.c (.string ⟨⟨[97, 10, 98, 99]⟩⟩)), (.c (.int .i64 3))])),
  (.op none .t (.v (.mv (.t 0)))),
  (.op none .t (.v (.ext (.t 0) 0))),
  (.op none .t (.v (.ext (.t 1) 1))),
  (.op none (.s 9) (.v (.mv (.t 1)))),
  (.op none (.s 10) (.v (.mv (.t 0))))]
@[go_sem] def c14r6 : List GOp := [(.op none .t (.call 15 [(.c (.string ⟨⟨[108, 101, 113]⟩⟩))])),
  (.op none .t (.v (.mv (.t 0)))),
  (.op (some ((.t 0), (true, true))) .t (.call 17 [(.c (.string ⟨⟨[61, 62]⟩⟩))])),
  (.op none .t (.v (.pick (.t 1) (.t 0) (.c (.bool false))))),
  (.op none .t (.v (.mv (.t 0)))),
  (.sel (.t 0) true [(.op (.v (.fa 0 (.s 2)))), (.op (.ld none (.t 0))), (.op (.v (.bin .eql (.t 0) (.c (.int .i64 0)))))] .t (.t 0) (.c (.bool false))),
  (.op none .t (.v (.mv (.t 0)))),
  (.sel (.t 0) true [(.op (.v (.mv (.s 1)))), (.op (.v (.len (.t 0)))), (.op (.v (.bin .eql (.t 0) (.c (.int .i64 6)))))] .t (.t 0) (.c (.bool false))),
  (.op none .t (.v (.mv (.t 0)))),
  (.op (some ((.t 0), (true, true))) .t (.v (.mv (.s 1)))),
  (.op (some ((.t 1), (true, false))) .t (.v (.ix 4 (.t 0) (.c (.int .i64 1))))),
  (.op (some ((.t 2), (true, false))) .t (.v (.fa 1 (.t 0)))),
  (.op (some ((.t 3), (true, false))) .t (.ld none (.t 0))),
  (.op (some ((.t 4), (true, false))) .t (.v (.bin .eql (.t 0) (.c (.string ⟨⟨[99, 97, 114, 116, 45, 49]⟩⟩))))),
  (.op none .t (.v (.pick (.t 5) (.t 0) (.c (.bool false))))),
  (.op none .t (.v (.mv (.t 0)))),
  (.op (some ((.t 0), (true, true))) .t (.v (.mv (.s 1)))),
  (.op (some ((.t 1), (true, false))) .t (.v (.ix 4 (.t 0) (.c (.int .i64 5))))),
  (.op (some ((.t 2), (true, false))) .t (.v (.fa 3 (.t 0)))),
  (.op (some ((.t 3), (true, false))) .t (.ld none (.t 0))),
  (.op (some ((.t 4), (true, false))) .t (.v (.bin .eql (.t 0) (.c (.int .i64 30))))),
  (.op none .t (.v (.pick (.t 5) (.t 0) (.c (.bool false))))),
  (.op none .t (.v (.mv (.t 0)))),
  (.sel (.t 0) true [(.op (.v (.fa 0 (.s 3)))), (.op (.ld none (.t 0))), (.op (.v (.bin .eql (.t 0) (.c (.int .i64 2)))))] .t (.t 0) (.c (.bool false))),
  (.op none .t (.v (.mv (.t 0)))),
  (.sel (.t 0) true [(.op (.v (.fa 1 (.s 3)))), (.op (.ld none (.t 0))), (.op (.v (.bin .eql (.t 0) (.c (.int .i64 2)))))] .t (.t 0) (.c (.bool false))),
  (.op none .t (.v (.mv (.t 0)))),
  (.sel (.t 0) true [(.op (.v (.mv (.s 5)))), (.op (.v (.bin .eql (.t 0) (.c (.int .i64 0)))))] .t (.t 0) (.c (.bool false))),
  (.op none .t (.v (.mv (.t 0)))),
  (.sel (.t 0) true [(.op (.v (.mv (.s 4)))), (.op (.v (.bin .eql (.t 0) (.c (.string ⟨⟨[97, 32, 49, 50]⟩⟩)))))] .t (.t 0) (.c (.bool false))),
  (.op none .t (.v (.mv (.t 0)))),
  (.sel (.t 0) true [(.op (.v (.fa 1 (.s 6)))), (.op (.ld none (.t 0))), (.op (.v (.bin .eql (.t 0) (.c (.string ⟨⟨[45]⟩⟩)))))] .t (.t 0) (.c (.bool false))),
  (.op none .t (.v (.mv (.t 0)))),
  (.sel (.t 0) true [(.op (.v (.mv (.s 7)))), (.op (.v (.bin .eql (.t 0) (.c (.int .i64 3)))))] .t (.t 0) (.c (.bool false))),
  (.op none .t (.v (.mv (.t 0)))),
  (.sel (.t 0) true [(.op (.v (.fa 0 (.s 8)))), (.op (.ld none (.t 0))), (.op (.v (.bin .eql (.t 0) (.c (.int .i64 0)))))] .t (.t 0) (.c (.bool false))),
  (.op none .t (.v (.mv (.t 0)))),
  (.sel (.t 0) true [(.op (.v (.mv (.s 9)))), (.op (.v (.bin .eql (.t 0) (.c (.int .i64 2)))))] .t (.t 0) (.c (.bool false))),
  (.op none .t (.v (.mv (.t 0)))),
  (.sel (.t 0) true [(.op (.v (.mv (.s 10)))), (.op (.v (.bin .eql (.t 0) (.c (.int .i64 2)))))] .t (.t 0) (.c (.bool false))),
  (.op none (.s 0) (.v (.mv (.t 0))))]
def c14s7 : SCode := (.seq (.ops c14r6) .ret)
@[go_sem] theorem c14s7eq : vc P E c14s7 σ H Q = vc P E (.seq (.ops c14r6) .ret) σ H Q := rfl
def c14s8 : SCode := (.seq (.ops c14r5) c14s7)
@[go_sem] theorem c14s8eq : vc P E c14s8 σ H Q = vc P E (.seq (.ops c14r5) c14s7) σ H Q := rfl
def c14s9 : SCode := (.seq (.ops c14r4) c14s8)
@[go_sem] theorem c14s9eq : vc P E c14s9 σ H Q = vc P E (.seq (.ops c14r4) c14s8) σ H Q := rfl
def c14s10 : SCode := (.seq (.ops c14r3) c14s9)
@[go_sem] theorem c14s10eq : vc P E c14s10 σ H Q = vc P E (.seq (.ops c14r3) c14s9) σ H Q := rfl
def c14s11 : SCode := (.seq (.ops c14r2) c14s10)
@[go_sem] theorem c14s11eq : vc P E c14s11 σ H Q = vc P E (.seq (.ops c14r2) c14s10) σ H Q := rfl
def c14s12 : SCode := (.seq (.ops c14r1) c14s11)
@[go_sem] theorem c14s12eq : vc P E c14s12 σ H Q = vc P E (.seq (.ops c14r1) c14s11) σ H Q := rfl
def c14 : Gx.Fn := ⟨105, c14k, (.seq (.ops c14r0) c14s12), [(.tmp (.s 0))]⟩
theorem c14ok : stripFn Tryd.prog c14k Tryd.f14 = some c14 := by kernel_rfl

/- lexer.Keyword -/
@[go_sem] def c15k : List Nat := [0, 2, 3]
@[go_sem] def c15r0 : List GOp := [(.op none (.s 1) (.v (.mv (.c (.bool false)))))]
@[go_sem] def c15r1 : List GOp := [(.op none .t (.bs 9 44 [(.string ⟨⟨[]⟩⟩), (.string ⟨⟨[]⟩⟩), (.string ⟨⟨[]⟩⟩), (.string ⟨⟨[]⟩⟩), (.string ⟨⟨[]⟩⟩), (.string ⟨⟨[]⟩⟩), (.string ⟨⟨[]⟩⟩), (.string ⟨⟨[]⟩⟩), (.string ⟨⟨[]⟩⟩), (.string ⟨⟨[]⟩⟩), (.string ⟨⟨[]⟩⟩), (.string ⟨⟨[]⟩⟩), (.string ⟨⟨[]⟩⟩), (.string ⟨⟨[]⟩⟩), (.string ⟨⟨[]⟩⟩), (.string ⟨⟨[]⟩⟩), (.string ⟨⟨[]⟩⟩), (.string ⟨⟨[]⟩⟩), (.string ⟨⟨[]⟩⟩), (.string ⟨⟨[]⟩⟩), (.string ⟨⟨[]⟩⟩), (.string ⟨⟨[]⟩⟩), (.string ⟨⟨[]⟩⟩), (.string ⟨⟨[]⟩⟩), (.string ⟨⟨[]⟩⟩), (.string ⟨⟨[]⟩⟩), (.string ⟨⟨[]⟩⟩), (.string ⟨⟨[]⟩⟩), (.string ⟨⟨[]⟩⟩), (.string ⟨⟨[]⟩⟩), (.string ⟨⟨[]⟩⟩), (.string ⟨⟨[]⟩⟩), (.string ⟨⟨[]⟩⟩), (.string ⟨⟨[]⟩⟩), (.string ⟨⟨[]⟩⟩), (.string ⟨⟨[]⟩⟩), (.string ⟨⟨[]⟩⟩), (.string ⟨⟨[]⟩⟩), (.string ⟨⟨[]⟩⟩), (.string ⟨⟨[]⟩⟩), (.string ⟨⟨[]⟩⟩), (.string ⟨⟨[]⟩⟩), (.string ⟨⟨[]⟩⟩), (.string ⟨⟨[]⟩⟩)] [(0, (1, (.c (.string ⟨⟨[97, 110, 100]⟩⟩)))), (1, (1, (.c (.string ⟨⟨[98, 111, 111, 108]⟩⟩)))), (2, (1, (.c (.string ⟨⟨[98, 111, 116, 116, 111, 109]⟩⟩)))), (3, (1, (.c (.string ⟨⟨[99, 108, 111, 115, 101, 100]⟩⟩)))), (4, (1, (.c (.string ⟨⟨[99, 111, 110, 102, 108, 105, 99, 116]⟩⟩)))), (5, (1, (.c (.string ⟨⟨[101, 108, 115, 101]⟩⟩)))), (6, (1, (.c (.string ⟨⟨[102, 97, 108, 115, 101]⟩⟩)))), (7, (1, (.c (.string ⟨⟨[102, 105, 114, 115, 116]⟩⟩)))), (8, (1, (.c (.string ⟨⟨[102, 108, 97, 103]⟩⟩)))), (9, (1, (.c (.string ⟨⟨[102, 108, 97, 116]⟩⟩)))), (10, (1, (.c (.string ⟨⟨[105, 102]⟩⟩)))), (11, (1, (.c (.string ⟨⟨[105, 110]⟩⟩)))), (12, (1, (.c (.string ⟨⟨[105, 110, 116]⟩⟩)))), (13, (1, (.c (.string ⟨⟨[106, 111, 105, 110]⟩⟩)))), (14, (1, (.c (.string ⟨⟨[107, 101, 121, 115]⟩⟩)))), (15, (1, (.c (.string ⟨⟨[108, 97, 116, 116, 105, 99, 101]⟩⟩)))), (16, (1, (.c (.string ⟨⟨[108, 101, 113]⟩⟩)))), (17, (1, (.c (.string ⟨⟨[108, 101, 120]⟩⟩)))), (18, (1, (.c (.string ⟨⟨[109, 97, 112]⟩⟩)))), (19, (1, (.c (.string ⟨⟨[109, 97, 120]⟩⟩)))), (20, (1, (.c (.string ⟨⟨[109, 105, 110]⟩⟩)))), (21, (1, (.c (.string ⟨⟨[110, 97, 109, 101]⟩⟩)))), (22, (1, (.c (.string ⟨⟨[110, 97, 109, 101, 115]⟩⟩)))), (23, (1, (.c (.string ⟨⟨[110, 111, 116]⟩⟩)))), (24, (1, (.c (.string ⟨⟨[110, 117, 109]⟩⟩)))), (25, (1, (.c (.string ⟨⟨[110, 117, 109, 98, 101, 114]⟩⟩)))), (26, (1, (.c (.string ⟨⟨[111, 98, 106, 101, 99, 116]⟩⟩)))), (27, (1, (.c (.string ⟨⟨[111, 110]⟩⟩)))), (28, (1, (.c (.string ⟨⟨[111, 110, 101]⟩⟩)))), (29, (1, (.c (.string ⟨⟨[111, 114]⟩⟩)))), (30, (1, (.c (.string ⟨⟨[112, 97, 105, 114]⟩⟩)))), (31, (1, (.c (.string ⟨⟨[113, 117, 101, 114, 121]⟩⟩)))), (32, (1, (.c (.string ⟨⟨[114, 101, 99]⟩⟩)))), (33, (1, (.c (.string ⟨⟨[114, 101, 103, 105, 115, 116, 101, 114]⟩⟩)))), (34, (1, (.c (.string ⟨⟨[115]⟩⟩)))), (35, (1, (.c (.string ⟨⟨[115, 101, 99, 111, 110, 100]⟩⟩)))), (36, (1, (.c (.string ⟨⟨[115, 101, 116]⟩⟩)))), (37, (1, (.c (.string ⟨⟨[115, 105, 122, 101]⟩⟩)))), (38, (1, (.c (.string ⟨⟨[115, 117, 109]⟩⟩)))), (39, (1, (.c (.string ⟨⟨[116, 104, 101, 110]⟩⟩)))), (40, (1, (.c (.string ⟨⟨[116, 114, 117, 101]⟩⟩)))), (41, (1, (.c (.string ⟨⟨[117, 112, 100, 97, 116, 101]⟩⟩)))), (42, (1, (.c (.string ⟨⟨[118, 97, 108, 117, 101, 115]⟩⟩)))), (43, (1, (.c (.string ⟨⟨[119, 114, 105, 116, 101]⟩⟩))))])),
  (.op none (.s 2) (.v (.mv (.t 0))))]
@[go_sem] def c15r2 : List GOp := [(.op none .t (.v (.mv (.s 2)))),
  (.op none .t (.v (.mv (.s 0)))),
  (.op none .t (.call 29 [(.t 1), (.t 0)])),
  (.op none (.s 1) (.v (.mv (.t 0))))]
def c15s3 : SCode := (.seq (.ops c15r2) .ret)
@[go_sem] theorem c15s3eq : vc P E c15s3 σ H Q = vc P E (.seq (.ops c15r2) .ret) σ H Q := rfl
def c15s4 : SCode := (.seq (.ops c15r1) c15s3)
@[go_sem] theorem c15s4eq : vc P E c15s4 σ H Q = vc P E (.seq (.ops c15r1) c15s3) σ H Q := rfl
def c15 : Gx.Fn := ⟨8, c15k, (.seq (.ops c15r0) c15s4), [(.tmp (.s 1))]⟩
theorem c15ok : stripFn Tryd.prog c15k Tryd.f15 = some c15 := by kernel_rfl

/- plexusref15.Keyword -/
@[go_sem] def c16k : List Nat := [0, 2]
@[go_sem] def c16r0 : List GOp := [(.op none (.s 1) (.v (.mv (.c (.bool false)))))]
@[go_sem] def c16r1 : List GOp := [(.op none .t (.call 31 [])),
  (.op none .t (.v (.mv (.s 0)))),
  (.op none .t (.call 30 [(.t 1), (.t 0)])),
  (.op none (.s 1) (.v (.mv (.t 0))))]
def c16s2 : SCode := (.seq (.ops c16r1) .ret)
@[go_sem] theorem c16s2eq : vc P E c16s2 σ H Q = vc P E (.seq (.ops c16r1) .ret) σ H Q := rfl
def c16 : Gx.Fn := ⟨6, c16k, (.seq (.ops c16r0) c16s2), [(.tmp (.s 1))]⟩
theorem c16ok : stripFn Tryd.prog c16k Tryd.f16 = some c16 := by kernel_rfl

/- lexer.Sign -/
@[go_sem] def c17k : List Nat := [0, 2, 3]
@[go_sem] def c17r0 : List GOp := [(.op none (.s 1) (.v (.mv (.c (.bool false)))))]
@[go_sem] def c17r1 : List GOp := [(.op none .t (.bs 9 17 [(.string ⟨⟨[]⟩⟩), (.string ⟨⟨[]⟩⟩), (.string ⟨⟨[]⟩⟩), (.string ⟨⟨[]⟩⟩), (.string ⟨⟨[]⟩⟩), (.string ⟨⟨[]⟩⟩), (.string ⟨⟨[]⟩⟩), (.string ⟨⟨[]⟩⟩), (.string ⟨⟨[]⟩⟩), (.string ⟨⟨[]⟩⟩), (.string ⟨⟨[]⟩⟩), (.string ⟨⟨[]⟩⟩), (.string ⟨⟨[]⟩⟩), (.string ⟨⟨[]⟩⟩), (.string ⟨⟨[]⟩⟩), (.string ⟨⟨[]⟩⟩), (.string ⟨⟨[]⟩⟩)] [(0, (1, (.c (.string ⟨⟨[61]⟩⟩)))), (1, (1, (.c (.string ⟨⟨[58]⟩⟩)))), (2, (1, (.c (.string ⟨⟨[59]⟩⟩)))), (3, (1, (.c (.string ⟨⟨[44]⟩⟩)))), (4, (1, (.c (.string ⟨⟨[40]⟩⟩)))), (5, (1, (.c (.string ⟨⟨[41]⟩⟩)))), (6, (1, (.c (.string ⟨⟨[123]⟩⟩)))), (7, (1, (.c (.string ⟨⟨[125]⟩⟩)))), (8, (1, (.c (.string ⟨⟨[91]⟩⟩)))), (9, (1, (.c (.string ⟨⟨[93]⟩⟩)))), (10, (1, (.c (.string ⟨⟨[46]⟩⟩)))), (11, (1, (.c (.string ⟨⟨[43]⟩⟩)))), (12, (1, (.c (.string ⟨⟨[45]⟩⟩)))), (13, (1, (.c (.string ⟨⟨[60]⟩⟩)))), (14, (1, (.c (.string ⟨⟨[60, 61]⟩⟩)))), (15, (1, (.c (.string ⟨⟨[61, 61]⟩⟩)))), (16, (1, (.c (.string ⟨⟨[61, 62]⟩⟩))))])),
  (.op none (.s 2) (.v (.mv (.t 0))))]
@[go_sem] def c17r2 : List GOp := [(.op none .t (.v (.mv (.s 2)))),
  (.op none .t (.v (.mv (.s 0)))),
  (.op none .t (.call 29 [(.t 1), (.t 0)])),
  (.op none (.s 1) (.v (.mv (.t 0))))]
def c17s3 : SCode := (.seq (.ops c17r2) .ret)
@[go_sem] theorem c17s3eq : vc P E c17s3 σ H Q = vc P E (.seq (.ops c17r2) .ret) σ H Q := rfl
def c17s4 : SCode := (.seq (.ops c17r1) c17s3)
@[go_sem] theorem c17s4eq : vc P E c17s4 σ H Q = vc P E (.seq (.ops c17r1) c17s3) σ H Q := rfl
def c17 : Gx.Fn := ⟨8, c17k, (.seq (.ops c17r0) c17s4), [(.tmp (.s 1))]⟩
theorem c17ok : stripFn Tryd.prog c17k Tryd.f17 = some c17 := by kernel_rfl

/- plexusref15.Sign -/
@[go_sem] def c18k : List Nat := [0, 2]
@[go_sem] def c18r0 : List GOp := [(.op none (.s 1) (.v (.mv (.c (.bool false)))))]
@[go_sem] def c18r1 : List GOp := [(.op none .t (.call 32 [])),
  (.op none .t (.v (.mv (.s 0)))),
  (.op none .t (.call 30 [(.t 1), (.t 0)])),
  (.op none (.s 1) (.v (.mv (.t 0))))]
def c18s2 : SCode := (.seq (.ops c18r1) .ret)
@[go_sem] theorem c18s2eq : vc P E c18s2 σ H Q = vc P E (.seq (.ops c18r1) .ret) σ H Q := rfl
def c18 : Gx.Fn := ⟨6, c18k, (.seq (.ops c18r0) c18s2), [(.tmp (.s 1))]⟩
theorem c18ok : stripFn Tryd.prog c18k Tryd.f18 = some c18 := by kernel_rfl

/- lexer.Next -/
@[go_sem] def c19k : List Nat := [0, 1, 4, 5, 6, 7, 8, 9, 10, 13, 23, 37]
@[go_sem] def c19r0 : List GOp := [(.op none (.s 2) (.al 25 [(.int .i64 0), (.string ⟨⟨[]⟩⟩), (.int .i64 0), (.int .i64 0)])),
  (.op none (.s 3) (.v (.mv (.c (.int .i64 0))))),
  (.op none (.s 4) (.al 28 [(.int .i64 0), (.int .i64 0)]))]
@[go_sem] def c19r1 : List GOp := [(.op none .t (.v (.mv (.s 0)))),
  (.op none .t (.v (.slen (.t 0)))),
  (.op none (.s 9) (.v (.bin .gtr (.t 0) (.c (.int .i64 65536)))))]
@[go_sem] def c19r2 : List GOp := [(.op none .t (.v (.bld [(.int .i64 0), (.string ⟨⟨[]⟩⟩), (.int .i64 0), (.int .i64 0)] []))),
  (.op none .t (.v (.bld [(.int .i64 0), (.int .i64 0)] [(0, (1, (.c (.int .i64 6)))), (1, (1, (.c (.int .i64 65536))))]))),
  (.op none .no (.st 4 (.s 2) (.t 1))),
  (.op none (.s 3) (.v (.mv (.c (.int .i64 0))))),
  (.op none .no (.st 2 (.s 4) (.t 0)))]
def c19s3 : SCode := (.seq (.ops c19r2) .ret)
@[go_sem] theorem c19s3eq : vc P E c19s3 σ H Q = vc P E (.seq (.ops c19r2) .ret) σ H Q := rfl
def c19s4 : SCode := (.cond (.s 9) c19s3 .skip)
@[go_sem] theorem c19s4eq : vc P E c19s4 σ H Q = vc P E (.cond (.s 9) c19s3 .skip) σ H Q := rfl
@[go_sem] def c19r5 : List GOp := [(.op none .t (.v (.mv (.s 1)))),
  (.op none .t (.v (.bin .lss (.t 0) (.c (.int .i64 0))))),
  (.op none .t (.v (.mv (.t 0)))),
  (.sel (.t 0) false [(.op (.v (.mv (.s 1)))), (.op (.v (.mv (.s 0)))), (.op (.v (.slen (.t 0)))), (.op (.v (.bin .gtr (.t 2) (.t 0))))] (.s 10) (.c (.bool true)) (.t 0))]
@[go_sem] def c19r6 : List GOp := [(.op none .t (.v (.bld [(.int .i64 0), (.string ⟨⟨[]⟩⟩), (.int .i64 0), (.int .i64 0)] []))),
  (.op none .t (.v (.bld [(.int .i64 0), (.int .i64 0)] [(0, (1, (.c (.int .i64 1))))]))),
  (.op none .no (.st 4 (.s 2) (.t 1))),
  (.op none (.s 3) (.v (.mv (.c (.int .i64 0))))),
  (.op none .no (.st 2 (.s 4) (.t 0)))]
def c19s7 : SCode := (.seq (.ops c19r6) .ret)
@[go_sem] theorem c19s7eq : vc P E c19s7 σ H Q = vc P E (.seq (.ops c19r6) .ret) σ H Q := rfl
def c19s8 : SCode := (.cond (.s 10) c19s7 .skip)
@[go_sem] theorem c19s8eq : vc P E c19s8 σ H Q = vc P E (.cond (.s 10) c19s7 .skip) σ H Q := rfl
@[go_sem] def c19r9 : List GOp := [(.op none .t (.v (.mv (.s 0)))),
  (.op none .t (.v (.mv (.s 1)))),
  (.op none .t (.v (.bld [(.string ⟨⟨[]⟩⟩), (.int .i64 0)] [(0, (1, (.t 1))), (1, (1, (.t 0)))]))),
  (.op none (.s 5) (.al 49 [(.string ⟨⟨[]⟩⟩), (.int .i64 0)])),
  (.op none .no (.st 2 (.s 5) (.t 0)))]
@[go_sem] def c19r10 : List GOp := [(.op none .t (.call 33 [(.s 5)]))]
@[go_sem] def c19r11 : List GOp := [(.op none .t (.v (.fa 1 (.s 5)))),
  (.op none .t (.ld none (.t 0))),
  (.op none (.s 6) (.v (.mv (.t 0))))]
@[go_sem] def c19r12 : List GOp := [(.op none .t (.call 34 [(.s 5)])),
  (.op none .t (.v (.mv (.t 0)))),
  (.op none .t (.v (.ext (.t 0) 0))),
  (.op none .t (.v (.ext (.t 1) 1))),
  (.op none (.s 7) (.al 25 [(.int .i64 0), (.string ⟨⟨[]⟩⟩), (.int .i64 0), (.int .i64 0)])),
  (.op none .no (.st 4 (.s 7) (.t 1))),
  (.op none (.s 8) (.v (.mv (.t 0))))]
@[go_sem] def c19r13 : List GOp := [(.op none .t (.v (.mv (.s 8)))),
  (.op none (.s 11) (.v (.bin .neq (.t 0) (.c (.int .i64 0)))))]
@[go_sem] def c19r14 : List GOp := [(.op none .t (.v (.bld [(.int .i64 0), (.string ⟨⟨[]⟩⟩), (.int .i64 0), (.int .i64 0)] []))),
  (.op none .t (.v (.mv (.s 8)))),
  (.op none .t (.v (.mv (.s 6)))),
  (.op none .t (.v (.bld [(.int .i64 0), (.int .i64 0)] [(0, (1, (.t 1))), (1, (1, (.t 0)))]))),
  (.op none .no (.st 4 (.s 2) (.t 3))),
  (.op none (.s 3) (.v (.mv (.c (.int .i64 0))))),
  (.op none .no (.st 2 (.s 4) (.t 0)))]
def c19s15 : SCode := (.seq (.ops c19r14) .ret)
@[go_sem] theorem c19s15eq : vc P E c19s15 σ H Q = vc P E (.seq (.ops c19r14) .ret) σ H Q := rfl
def c19s16 : SCode := (.cond (.s 11) c19s15 .skip)
@[go_sem] theorem c19s16eq : vc P E c19s16 σ H Q = vc P E (.cond (.s 11) c19s15 .skip) σ H Q := rfl
@[go_sem] def c19d17 : DT := (.rd none .t (.ld (some 4) (.s 7)) [4, 6] (.rd none .t (.v (.fa 1 (.s 5))) [6] (.rd none .t (.ld none (.t 0)) [6] (.rd none .t (.v (.bld [(.int .i64 0), (.int .i64 0)] [])) [6] (.ef 4 none .no (.st 4 (.s 2) (.t 3)) (.rd none (.s 3) (.v (.mv (.t 1))) [6] (.ef 6 none .no (.st 2 (.s 4) (.t 0)) .done)))))))
def c19s18 : SCode := (.seq (.de c19d17) .ret)
@[go_sem] theorem c19s18eq : vc P E c19s18 σ H Q = vc P E (.seq (.de c19d17) .ret) σ H Q := rfl
def c19s19 : SCode := (.seq (.seq (.ops c19r13) c19s16) c19s18)
@[go_sem] theorem c19s19eq : vc P E c19s19 σ H Q = vc P E (.seq (.seq (.ops c19r13) c19s16) c19s18) σ H Q := rfl
def c19s20 : SCode := (.seq (.ops c19r12) c19s19)
@[go_sem] theorem c19s20eq : vc P E c19s20 σ H Q = vc P E (.seq (.ops c19r12) c19s19) σ H Q := rfl
def c19s21 : SCode := (.seq (.ops c19r11) c19s20)
@[go_sem] theorem c19s21eq : vc P E c19s21 σ H Q = vc P E (.seq (.ops c19r11) c19s20) σ H Q := rfl
def c19s22 : SCode := (.seq (.ops c19r10) c19s21)
@[go_sem] theorem c19s22eq : vc P E c19s22 σ H Q = vc P E (.seq (.ops c19r10) c19s21) σ H Q := rfl
def c19s23 : SCode := (.seq (.ops c19r9) c19s22)
@[go_sem] theorem c19s23eq : vc P E c19s23 σ H Q = vc P E (.seq (.ops c19r9) c19s22) σ H Q := rfl
def c19s24 : SCode := (.seq (.seq (.ops c19r5) c19s8) c19s23)
@[go_sem] theorem c19s24eq : vc P E c19s24 σ H Q = vc P E (.seq (.seq (.ops c19r5) c19s8) c19s23) σ H Q := rfl
def c19s25 : SCode := (.seq (.seq (.ops c19r1) c19s4) c19s24)
@[go_sem] theorem c19s25eq : vc P E c19s25 σ H Q = vc P E (.seq (.seq (.ops c19r1) c19s4) c19s24) σ H Q := rfl
def c19 : Gx.Fn := ⟨46, c19k, (.seq (.ops c19r0) c19s25), [(.cell (.s 2) (some 4)), (.tmp (.s 3)), (.cell (.s 4) (some 2))]⟩
theorem c19ok : stripFn Tryd.prog c19k Tryd.f19 = some c19 := by kernel_rfl

/- plexusref15.Next -/
@[go_sem] def c20k : List Nat := [0, 1, 4, 5, 6, 7, 10, 22, 33]
@[go_sem] def c20r0 : List GOp := [(.op none (.s 2) (.al 25 [(.int .i64 0), (.string ⟨⟨[]⟩⟩), (.int .i64 0), (.int .i64 0)])),
  (.op none (.s 3) (.v (.mv (.c (.int .i64 0))))),
  (.op none (.s 4) (.al 28 [(.int .i64 0), (.int .i64 0)]))]
@[go_sem] def c20r1 : List GOp := [(.op none .t (.v (.mv (.s 0)))),
  (.op none .t (.v (.slen (.t 0)))),
  (.op none (.s 6) (.v (.bin .gtr (.t 0) (.c (.int .i64 65536)))))]
@[go_sem] def c20r2 : List GOp := [(.op none .t (.call 35 [(.c (.int .i64 6)), (.c (.int .i64 65536))])),
  (.op none .t (.v (.ext (.t 0) 0))),
  (.op none .t (.v (.ext (.t 1) 1))),
  (.op none .t (.v (.ext (.t 2) 2))),
  (.op none .no (.st 4 (.s 2) (.t 2))),
  (.op none (.s 3) (.v (.mv (.t 1)))),
  (.op none .no (.st 2 (.s 4) (.t 0)))]
def c20s3 : SCode := (.seq (.ops c20r2) .ret)
@[go_sem] theorem c20s3eq : vc P E c20s3 σ H Q = vc P E (.seq (.ops c20r2) .ret) σ H Q := rfl
def c20s4 : SCode := (.cond (.s 6) c20s3 .skip)
@[go_sem] theorem c20s4eq : vc P E c20s4 σ H Q = vc P E (.cond (.s 6) c20s3 .skip) σ H Q := rfl
@[go_sem] def c20r5 : List GOp := [(.op none .t (.v (.mv (.s 1)))),
  (.op none .t (.v (.bin .lss (.t 0) (.c (.int .i64 0))))),
  (.op none .t (.v (.mv (.t 0)))),
  (.sel (.t 0) false [(.op (.v (.mv (.s 1)))), (.op (.v (.mv (.s 0)))), (.op (.v (.slen (.t 0)))), (.op (.v (.bin .gtr (.t 2) (.t 0))))] (.s 7) (.c (.bool true)) (.t 0))]
@[go_sem] def c20r6 : List GOp := [(.op none .t (.call 35 [(.c (.int .i64 1)), (.c (.int .i64 0))])),
  (.op none .t (.v (.ext (.t 0) 0))),
  (.op none .t (.v (.ext (.t 1) 1))),
  (.op none .t (.v (.ext (.t 2) 2))),
  (.op none .no (.st 4 (.s 2) (.t 2))),
  (.op none (.s 3) (.v (.mv (.t 1)))),
  (.op none .no (.st 2 (.s 4) (.t 0)))]
def c20s7 : SCode := (.seq (.ops c20r6) .ret)
@[go_sem] theorem c20s7eq : vc P E c20s7 σ H Q = vc P E (.seq (.ops c20r6) .ret) σ H Q := rfl
def c20s8 : SCode := (.cond (.s 7) c20s7 .skip)
@[go_sem] theorem c20s8eq : vc P E c20s8 σ H Q = vc P E (.cond (.s 7) c20s7 .skip) σ H Q := rfl
@[go_sem] def c20r9 : List GOp := [(.op none .t (.v (.mv (.s 0)))),
  (.op none .t (.v (.mv (.s 1)))),
  (.op none .t (.call 36 [(.t 1), (.t 0)])),
  (.op none (.s 5) (.v (.mv (.t 0))))]
@[go_sem] def c20r10 : List GOp := [(.op none .t (.v (.mv (.s 5)))),
  (.op none .t (.v (.mv (.s 0)))),
  (.op none .t (.v (.slen (.t 0)))),
  (.op none (.s 8) (.v (.bin .eql (.t 2) (.t 0))))]
@[go_sem] def c20r11 : List GOp := [(.op none .t (.v (.mv (.s 5)))),
  (.op none .t (.v (.bld [(.int .i64 0), (.string ⟨⟨[]⟩⟩), (.int .i64 0), (.int .i64 0)] [(0, (1, (.c (.int .i64 6)))), (3, (1, (.t 0)))]))),
  (.op none .t (.v (.mv (.s 5)))),
  (.op none .t (.v (.bld [(.int .i64 0), (.int .i64 0)] []))),
  (.op none .no (.st 4 (.s 2) (.t 2))),
  (.op none (.s 3) (.v (.mv (.t 1)))),
  (.op none .no (.st 2 (.s 4) (.t 0)))]
def c20s12 : SCode := (.seq (.ops c20r11) .ret)
@[go_sem] theorem c20s12eq : vc P E c20s12 σ H Q = vc P E (.seq (.ops c20r11) .ret) σ H Q := rfl
def c20s13 : SCode := (.cond (.s 8) c20s12 .skip)
@[go_sem] theorem c20s13eq : vc P E c20s13 σ H Q = vc P E (.cond (.s 8) c20s12 .skip) σ H Q := rfl
@[go_sem] def c20r14 : List GOp := [(.op none .t (.v (.mv (.s 0)))),
  (.op none .t (.v (.mv (.s 5)))),
  (.op none .t (.call 37 [(.t 1), (.t 0)])),
  (.op none .t (.v (.ext (.t 0) 0))),
  (.op none .t (.v (.ext (.t 1) 1))),
  (.op none .t (.v (.ext (.t 2) 2))),
  (.op none .no (.st 4 (.s 2) (.t 2))),
  (.op none (.s 3) (.v (.mv (.t 1)))),
  (.op none .no (.st 2 (.s 4) (.t 0)))]
def c20s15 : SCode := (.seq (.ops c20r14) .ret)
@[go_sem] theorem c20s15eq : vc P E c20s15 σ H Q = vc P E (.seq (.ops c20r14) .ret) σ H Q := rfl
def c20s16 : SCode := (.seq (.seq (.ops c20r10) c20s13) c20s15)
@[go_sem] theorem c20s16eq : vc P E c20s16 σ H Q = vc P E (.seq (.seq (.ops c20r10) c20s13) c20s15) σ H Q := rfl
def c20s17 : SCode := (.seq (.ops c20r9) c20s16)
@[go_sem] theorem c20s17eq : vc P E c20s17 σ H Q = vc P E (.seq (.ops c20r9) c20s16) σ H Q := rfl
def c20s18 : SCode := (.seq (.seq (.ops c20r5) c20s8) c20s17)
@[go_sem] theorem c20s18eq : vc P E c20s18 σ H Q = vc P E (.seq (.seq (.ops c20r5) c20s8) c20s17) σ H Q := rfl
def c20s19 : SCode := (.seq (.seq (.ops c20r1) c20s4) c20s18)
@[go_sem] theorem c20s19eq : vc P E c20s19 σ H Q = vc P E (.seq (.seq (.ops c20r1) c20s4) c20s18) σ H Q := rfl
def c20 : Gx.Fn := ⟨44, c20k, (.seq (.ops c20r0) c20s19), [(.cell (.s 2) (some 4)), (.tmp (.s 3)), (.cell (.s 4) (some 2))]⟩
theorem c20ok : stripFn Tryd.prog c20k Tryd.f20 = some c20 := by kernel_rfl

/- lexer.Lex -/
@[go_sem] def c21k : List Nat := [0, 2, 3, 4, 5, 6, 7, 8, 18, 26]
@[go_sem] def c21r0 : List GOp := [(.op none (.s 1) (.v (.mv (.c (.slice none 0 0))))),
  (.op none (.s 2) (.al 28 [(.int .i64 0), (.int .i64 0)]))]
@[go_sem] def c21r1 : List GOp := [(.op none (.s 3) (.v (.mv (.c (.slice none 0 0)))))]
@[go_sem] def c21r2 : List GOp := [(.op none (.s 4) (.v (.mv (.c (.int .i64 0)))))]
@[go_sem] def c21r3 : List GOp := [(.op none .t (.v (.mv (.s 0)))),
  (.op none .t (.v (.mv (.s 4)))),
  (.op none .t (.call 19 [(.t 1), (.t 0)])),
  (.op none .t (.v (.mv (.t 0)))),
  (.op none .t (.v (.ext (.t 0) 0))),
  (.op none .t (.v (.ext (.t 1) 1))),
  (.op none .t (.v (.ext (.t 2) 2))),
  (.op none (.s 5) (.al 25 [(.int .i64 0), (.string ⟨⟨[]⟩⟩), (.int .i64 0), (.int .i64 0)])),
  (.op none (.s 7) (.al 28 [(.int .i64 0), (.int .i64 0)])),
  (.op none .no (.st 4 (.s 5) (.t 2))),
  (.op none (.s 6) (.v (.mv (.t 1)))),
  (.op none .no (.st 2 (.s 7) (.t 0)))]
@[go_sem] def c21r4 : List GOp := [(.op none .t (.v (.fa 0 (.s 7)))),
  (.op none .t (.ld none (.t 0))),
  (.op none (.s 8) (.v (.bin .neq (.t 0) (.c (.int .i64 0)))))]
@[go_sem] def c21d5 : DT := (.rd none .t (.ld (some 2) (.s 7)) [2] (.rd none (.s 1) (.v (.mv (.c (.slice none 0 0)))) [2] (.ef 2 none .no (.st 2 (.s 2) (.t 0)) .done)))
def c21s6 : SCode := (.cond (.s 8) (.seq (.de c21d5) .ret) .skip)
@[go_sem] theorem c21s6eq : vc P E c21s6 σ H Q = vc P E (.cond (.s 8) (.seq (.de c21d5) .ret) .skip) σ H Q := rfl
@[go_sem] def c21r7 : List GOp := [(.op none .t (.v (.mv (.s 3)))),
  (.op none .t (.ld (some 4) (.s 5))),
  (.op none .t (.bs 25 1 [(.int .i64 0), (.string ⟨⟨[]⟩⟩), (.int .i64 0), (.int .i64 0)] [(0, (4, (.t 0)))])),
  (.op none .t (.ap 32 32 (.t 2) (.t 0))),
  (.op none (.s 3) (.v (.mv (.t 0))))]
@[go_sem] def c21r8 : List GOp := [(.op none .t (.v (.fa 0 (.s 5)))),
  (.op none .t (.ld none (.t 0))),
  (.op none (.s 9) (.v (.bin .eql (.t 0) (.c (.int .i64 6)))))]
@[go_sem] def c21r9 : List GOp := [(.op none .t (.v (.mv (.s 3)))),
  (.op none .t (.v (.bld [(.int .i64 0), (.int .i64 0)] []))),
  (.op none (.s 1) (.v (.mv (.t 1)))),
  (.op none .no (.st 2 (.s 2) (.t 0)))]
def c21s10 : SCode := (.seq (.ops c21r9) .ret)
@[go_sem] theorem c21s10eq : vc P E c21s10 σ H Q = vc P E (.seq (.ops c21r9) .ret) σ H Q := rfl
def c21s11 : SCode := (.cond (.s 9) c21s10 .skip)
@[go_sem] theorem c21s11eq : vc P E c21s11 σ H Q = vc P E (.cond (.s 9) c21s10 .skip) σ H Q := rfl
@[go_sem] def c21r12 : List GOp := [(.op none .t (.v (.mv (.s 6)))),
  (.op none (.s 4) (.v (.mv (.t 0))))]
def c21s13 : SCode := (.ops c21r12)
@[go_sem] theorem c21s13eq : vc P E c21s13 σ H Q = vc P E (.ops c21r12) σ H Q := rfl
def c21s14 : SCode := (.seq (.seq (.ops c21r8) c21s11) c21s13)
@[go_sem] theorem c21s14eq : vc P E c21s14 σ H Q = vc P E (.seq (.seq (.ops c21r8) c21s11) c21s13) σ H Q := rfl
def c21s15 : SCode := (.seq (.ops c21r7) c21s14)
@[go_sem] theorem c21s15eq : vc P E c21s15 σ H Q = vc P E (.seq (.ops c21r7) c21s14) σ H Q := rfl
def c21s16 : SCode := (.seq (.seq (.ops c21r4) c21s6) c21s15)
@[go_sem] theorem c21s16eq : vc P E c21s16 σ H Q = vc P E (.seq (.seq (.ops c21r4) c21s6) c21s15) σ H Q := rfl
def c21s17 : SCode := (.block 1 (.seq (.ops c21r3) c21s16))
@[go_sem] theorem c21s17eq : vc P E c21s17 σ H Q = vc P E (.block 1 (.seq (.ops c21r3) c21s16)) σ H Q := rfl
def c21s18 : SCode := (.block 0 (.loop c21k c21s17))
@[go_sem] theorem c21s18eq : vc P E c21s18 σ H Q = vc P E (.block 0 (.loop c21k c21s17)) σ H Q := rfl
def c21s19 : SCode := (.seq (.ops c21r2) c21s18)
@[go_sem] theorem c21s19eq : vc P E c21s19 σ H Q = vc P E (.seq (.ops c21r2) c21s18) σ H Q := rfl
def c21s20 : SCode := (.seq (.ops c21r1) c21s19)
@[go_sem] theorem c21s20eq : vc P E c21s20 σ H Q = vc P E (.seq (.ops c21r1) c21s19) σ H Q := rfl
def c21 : Gx.Fn := ⟨30, c21k, (.seq (.ops c21r0) c21s20), [(.tmp (.s 1)), (.cell (.s 2) (some 2))]⟩
theorem c21ok : stripFn Tryd.prog c21k Tryd.f21 = some c21 := by kernel_rfl

/- plexusref15.Lex -/
@[go_sem] def c22k : List Nat := [0, 2, 3, 4, 5, 6, 7, 8, 18, 26]
@[go_sem] def c22r0 : List GOp := [(.op none (.s 1) (.v (.mv (.c (.slice none 0 0))))),
  (.op none (.s 2) (.al 28 [(.int .i64 0), (.int .i64 0)]))]
@[go_sem] def c22r1 : List GOp := [(.op none (.s 3) (.v (.mv (.c (.slice none 0 0)))))]
@[go_sem] def c22r2 : List GOp := [(.op none (.s 4) (.v (.mv (.c (.int .i64 0)))))]
@[go_sem] def c22r3 : List GOp := [(.op none .t (.v (.mv (.s 0)))),
  (.op none .t (.v (.mv (.s 4)))),
  (.op none .t (.call 20 [(.t 1), (.t 0)])),
  (.op none .t (.v (.mv (.t 0)))),
  (.op none .t (.v (.ext (.t 0) 0))),
  (.op none .t (.v (.ext (.t 1) 1))),
  (.op none .t (.v (.ext (.t 2) 2))),
  (.op none (.s 5) (.al 25 [(.int .i64 0), (.string ⟨⟨[]⟩⟩), (.int .i64 0), (.int .i64 0)])),
  (.op none (.s 7) (.al 28 [(.int .i64 0), (.int .i64 0)])),
  (.op none .no (.st 4 (.s 5) (.t 2))),
  (.op none (.s 6) (.v (.mv (.t 1)))),
  (.op none .no (.st 2 (.s 7) (.t 0)))]
@[go_sem] def c22r4 : List GOp := [(.op none .t (.v (.fa 0 (.s 7)))),
  (.op none .t (.ld none (.t 0))),
  (.op none (.s 8) (.v (.bin .neq (.t 0) (.c (.int .i64 0)))))]
@[go_sem] def c22d5 : DT := (.rd none .t (.ld (some 2) (.s 7)) [2] (.rd none (.s 1) (.v (.mv (.c (.slice none 0 0)))) [2] (.ef 2 none .no (.st 2 (.s 2) (.t 0)) .done)))
def c22s6 : SCode := (.cond (.s 8) (.seq (.de c22d5) .ret) .skip)
@[go_sem] theorem c22s6eq : vc P E c22s6 σ H Q = vc P E (.cond (.s 8) (.seq (.de c22d5) .ret) .skip) σ H Q := rfl
@[go_sem] def c22r7 : List GOp := [(.op none .t (.v (.mv (.s 3)))),
  (.op none .t (.ld (some 4) (.s 5))),
  (.op none .t (.bs 25 1 [(.int .i64 0), (.string ⟨⟨[]⟩⟩), (.int .i64 0), (.int .i64 0)] [(0, (4, (.t 0)))])),
  (.op none .t (.ap 32 32 (.t 2) (.t 0))),
  (.op none (.s 3) (.v (.mv (.t 0))))]
@[go_sem] def c22r8 : List GOp := [(.op none .t (.v (.fa 0 (.s 5)))),
  (.op none .t (.ld none (.t 0))),
  (.op none (.s 9) (.v (.bin .eql (.t 0) (.c (.int .i64 6)))))]
@[go_sem] def c22r9 : List GOp := [(.op none .t (.v (.mv (.s 3)))),
  (.op none .t (.v (.bld [(.int .i64 0), (.int .i64 0)] []))),
  (.op none (.s 1) (.v (.mv (.t 1)))),
  (.op none .no (.st 2 (.s 2) (.t 0)))]
def c22s10 : SCode := (.seq (.ops c22r9) .ret)
@[go_sem] theorem c22s10eq : vc P E c22s10 σ H Q = vc P E (.seq (.ops c22r9) .ret) σ H Q := rfl
def c22s11 : SCode := (.cond (.s 9) c22s10 .skip)
@[go_sem] theorem c22s11eq : vc P E c22s11 σ H Q = vc P E (.cond (.s 9) c22s10 .skip) σ H Q := rfl
@[go_sem] def c22r12 : List GOp := [(.op none .t (.v (.mv (.s 6)))),
  (.op none (.s 4) (.v (.mv (.t 0))))]
def c22s13 : SCode := (.ops c22r12)
@[go_sem] theorem c22s13eq : vc P E c22s13 σ H Q = vc P E (.ops c22r12) σ H Q := rfl
def c22s14 : SCode := (.seq (.seq (.ops c22r8) c22s11) c22s13)
@[go_sem] theorem c22s14eq : vc P E c22s14 σ H Q = vc P E (.seq (.seq (.ops c22r8) c22s11) c22s13) σ H Q := rfl
def c22s15 : SCode := (.seq (.ops c22r7) c22s14)
@[go_sem] theorem c22s15eq : vc P E c22s15 σ H Q = vc P E (.seq (.ops c22r7) c22s14) σ H Q := rfl
def c22s16 : SCode := (.seq (.seq (.ops c22r4) c22s6) c22s15)
@[go_sem] theorem c22s16eq : vc P E c22s16 σ H Q = vc P E (.seq (.seq (.ops c22r4) c22s6) c22s15) σ H Q := rfl
def c22s17 : SCode := (.block 1 (.seq (.ops c22r3) c22s16))
@[go_sem] theorem c22s17eq : vc P E c22s17 σ H Q = vc P E (.block 1 (.seq (.ops c22r3) c22s16)) σ H Q := rfl
def c22s18 : SCode := (.block 0 (.loop c22k c22s17))
@[go_sem] theorem c22s18eq : vc P E c22s18 σ H Q = vc P E (.block 0 (.loop c22k c22s17)) σ H Q := rfl
def c22s19 : SCode := (.seq (.ops c22r2) c22s18)
@[go_sem] theorem c22s19eq : vc P E c22s19 σ H Q = vc P E (.seq (.ops c22r2) c22s18) σ H Q := rfl
def c22s20 : SCode := (.seq (.ops c22r1) c22s19)
@[go_sem] theorem c22s20eq : vc P E c22s20 σ H Q = vc P E (.seq (.ops c22r1) c22s19) σ H Q := rfl
def c22 : Gx.Fn := ⟨30, c22k, (.seq (.ops c22r0) c22s20), [(.tmp (.s 1)), (.cell (.s 2) (some 2))]⟩
theorem c22ok : stripFn Tryd.prog c22k Tryd.f22 = some c22 := by kernel_rfl

/- plexusref15.Same -/
@[go_sem] def c23k : List Nat := [0, 1, 2, 6, 7, 12, 16, 71]
@[go_sem] def c23r0 : List GOp := [(.op none (.s 3) (.v (.mv (.c (.bool false)))))]
@[go_sem] def c23r1 : List GOp := [(.op none .t (.v (.mv (.s 0)))),
  (.op none .t (.v (.len (.t 0)))),
  (.op none .t (.v (.mv (.s 1)))),
  (.op none .t (.v (.len (.t 0)))),
  (.op none (.s 5) (.v (.bin .neq (.t 2) (.t 0))))]
@[go_sem] def c23r2 : List GOp := [(.op none (.s 3) (.v (.mv (.c (.bool false)))))]
def c23s3 : SCode := (.seq (.ops c23r2) .ret)
@[go_sem] theorem c23s3eq : vc P E c23s3 σ H Q = vc P E (.seq (.ops c23r2) .ret) σ H Q := rfl
def c23s4 : SCode := (.cond (.s 5) c23s3 .skip)
@[go_sem] theorem c23s4eq : vc P E c23s4 σ H Q = vc P E (.cond (.s 5) c23s3 .skip) σ H Q := rfl
@[go_sem] def c23r5 : List GOp := [(.op none (.s 4) (.v (.mv (.c (.int .i64 0)))))]
@[go_sem] def c23r6 : List GOp := [(.op none .t (.v (.mv (.s 4)))),
  (.op none .t (.v (.mv (.s 0)))),
  (.op none .t (.v (.len (.t 0)))),
  (.op none (.s 6) (.v (.bin .lss (.t 2) (.t 0))))]
def c23s7 : SCode := (.cond (.s 6) .skip (.exit 0))
@[go_sem] theorem c23s7eq : vc P E c23s7 σ H Q = vc P E (.cond (.s 6) .skip (.exit 0)) σ H Q := rfl
@[go_sem] def c23r8 : List GOp := [(.op none .t (.v (.mv (.s 0)))),
  (.op none .t (.v (.mv (.s 4)))),
  (.op none .t (.v (.ix 4 (.t 1) (.t 0)))),
  (.op none .t (.v (.fa 0 (.t 0)))),
  (.op none .t (.ld none (.t 0))),
  (.op none .t (.v (.mv (.s 1)))),
  (.op none .t (.v (.mv (.s 4)))),
  (.op none .t (.v (.ix 4 (.t 1) (.t 0)))),
  (.op none .t (.v (.fa 0 (.t 0)))),
  (.op none .t (.ld none (.t 0))),
  (.op none .t (.v (.bin .neq (.t 5) (.t 0)))),
  (.op none .t (.v (.mv (.t 0)))),
  (.op (some ((.t 0), (false, true))) .t (.v (.mv (.s 0)))),
  (.op (some ((.t 1), (false, false))) .t (.v (.mv (.s 4)))),
  (.op (some ((.t 2), (false, false))) .t (.v (.ix 4 (.t 1) (.t 0)))),
  (.op (some ((.t 3), (false, false))) .t (.v (.fa 1 (.t 0)))),
  (.op (some ((.t 4), (false, false))) .t (.ld none (.t 0))),
  (.op (some ((.t 5), (false, false))) .t (.v (.mv (.s 1)))),
  (.op (some ((.t 6), (false, false))) .t (.v (.mv (.s 4)))),
  (.op (some ((.t 7), (false, false))) .t (.v (.ix 4 (.t 1) (.t 0)))),
  (.op (some ((.t 8), (false, false))) .t (.v (.fa 1 (.t 0)))),
  (.op (some ((.t 9), (false, false))) .t (.ld none (.t 0))),
  (.op (some ((.t 10), (false, false))) .t (.v (.bin .neq (.t 5) (.t 0)))),
  (.op none .t (.v (.pick (.t 11) (.c (.bool true)) (.t 0)))),
  (.op none .t (.v (.mv (.t 0)))),
  (.op (some ((.t 0), (false, true))) .t (.v (.mv (.s 0)))),
  (.op (some ((.t 1), (false, false))) .t (.v (.mv (.s 4)))),
  (.op (some ((.t 2), (false, false))) .t (.v (.ix 4 (.t 1) (.t 0)))),
  (.op (some ((.t 3), (false, false))) .t (.v (.fa 2 (.t 0)))),
  (.op (some ((.t 4), (false, false))) .t (.ld none (.t 0))),
  (.op (some ((.t 5), (false, false))) .t (.v (.mv (.s 1)))),
  (.op (some ((.t 6), (false, false))) .t (.v (.mv (.s 4)))),
  (.op (some ((.t 7), (false, false))) .t (.v (.ix 4 (.t 1) (.t 0)))),
  (.op (some ((.t 8), (false, false))) .t (.v (.fa 2 (.t 0)))),
  (.op (some ((.t 9), (false, false))) .t (.ld none (.t 0))),
  (.op (some ((.t 10), (false, false))) .t (.v (.bin .neq (.t 5) (.t 0)))),
  (.op none .t (.v (.pick (.t 11) (.c (.bool true)) (.t 0)))),
  (.op none .t (.v (.mv (.t 0)))),
  (.op (some ((.t 0), (false, true))) .t (.v (.mv (.s 2)))),
  (.op (some ((.t 1), (false, false))) .t (.v (.mv (.t 0)))),
  (.op (some ((.t 0), (true, true))) .t (.v (.mv (.s 0)))),
  (.op (some ((.t 1), (true, false))) .t (.v (.mv (.s 4)))),
  (.op (some ((.t 2), (true, false))) .t (.v (.ix 4 (.t 1) (.t 0)))),
  (.op (some ((.t 3), (true, false))) .t (.v (.fa 3 (.t 0)))),
  (.op (some ((.t 4), (true, false))) .t (.ld none (.t 0))),
  (.op (some ((.t 5), (true, false))) .t (.v (.mv (.s 1)))),
  (.op (some ((.t 6), (true, false))) .t (.v (.mv (.s 4)))),
  (.op (some ((.t 7), (true, false))) .t (.v (.ix 4 (.t 1) (.t 0)))),
  (.op (some ((.t 8), (true, false))) .t (.v (.fa 3 (.t 0)))),
  (.op (some ((.t 9), (true, false))) .t (.ld none (.t 0))),
  (.op (some ((.t 10), (true, false))) .t (.v (.bin .neq (.t 5) (.t 0)))),
  (.op (some ((.t 13), (false, true))) .t (.v (.pick (.t 11) (.t 0) (.c (.bool false))))),
  (.op none (.s 7) (.v (.pick (.t 14) (.c (.bool true)) (.t 0))))]
@[go_sem] def c23r9 : List GOp := [(.op none (.s 3) (.v (.mv (.c (.bool false)))))]
def c23s10 : SCode := (.seq (.ops c23r9) .ret)
@[go_sem] theorem c23s10eq : vc P E c23s10 σ H Q = vc P E (.seq (.ops c23r9) .ret) σ H Q := rfl
def c23s11 : SCode := (.cond (.s 7) c23s10 .skip)
@[go_sem] theorem c23s11eq : vc P E c23s11 σ H Q = vc P E (.cond (.s 7) c23s10 .skip) σ H Q := rfl
@[go_sem] def c23r12 : List GOp := [(.op none .t (.v (.mv (.s 4)))),
  (.op none .t (.v (.bin .add (.t 0) (.c (.int .i64 1))))),
  (.op none (.s 4) (.v (.mv (.t 0))))]
def c23s13 : SCode := (.ops c23r12)
@[go_sem] theorem c23s13eq : vc P E c23s13 σ H Q = vc P E (.ops c23r12) σ H Q := rfl
def c23s14 : SCode := (.seq (.block 1 (.seq (.dq c23r8) c23s11)) c23s13)
@[go_sem] theorem c23s14eq : vc P E c23s14 σ H Q = vc P E (.seq (.block 1 (.seq (.dq c23r8) c23s11)) c23s13) σ H Q := rfl
def c23s15 : SCode := (.seq (.seq (.ops c23r6) c23s7) c23s14)
@[go_sem] theorem c23s15eq : vc P E c23s15 σ H Q = vc P E (.seq (.seq (.ops c23r6) c23s7) c23s14) σ H Q := rfl
def c23s16 : SCode := (.block 0 (.loop c23k c23s15))
@[go_sem] theorem c23s16eq : vc P E c23s16 σ H Q = vc P E (.block 0 (.loop c23k c23s15)) σ H Q := rfl
@[go_sem] def c23r17 : List GOp := [(.op none (.s 3) (.v (.mv (.c (.bool true)))))]
def c23s18 : SCode := (.seq (.ops c23r17) .ret)
@[go_sem] theorem c23s18eq : vc P E c23s18 σ H Q = vc P E (.seq (.ops c23r17) .ret) σ H Q := rfl
def c23s19 : SCode := (.seq (.seq (.ops c23r5) c23s16) c23s18)
@[go_sem] theorem c23s19eq : vc P E c23s19 σ H Q = vc P E (.seq (.seq (.ops c23r5) c23s16) c23s18) σ H Q := rfl
def c23s20 : SCode := (.seq (.seq (.ops c23r1) c23s4) c23s19)
@[go_sem] theorem c23s20eq : vc P E c23s20 σ H Q = vc P E (.seq (.seq (.ops c23r1) c23s4) c23s19) σ H Q := rfl
def c23 : Gx.Fn := ⟨72, c23k, (.seq (.ops c23r0) c23s20), [(.tmp (.s 3))]⟩
theorem c23ok : stripFn Tryd.prog c23k Tryd.f23 = some c23 := by kernel_rfl

/- lexer.Text -/
@[go_sem] def c24k : List Nat := [0, 2, 3, 4, 5, 6, 7, 8, 9, 10, 11, 12, 13, 34, 37, 45, 50]
@[go_sem] def c24r0 : List GOp := [(.op none (.s 1) (.v (.mv (.c (.string ⟨⟨[]⟩⟩))))),
  (.op none (.s 2) (.v (.mv (.c (.int .i64 0)))))]
@[go_sem] def c24r1 : List GOp := [(.op none (.s 3) (.v (.mv (.c (.slice none 0 0)))))]
@[go_sem] def c24r2 : List GOp := [(.op none (.s 9) (.v (.mv (.s 0)))),
  (.op none (.s 10) (.v (.len (.s 9)))),
  (.op none (.s 11) (.v (.mv (.c (.int .i64 0)))))]
@[go_sem] def c24r3 : List GOp := [(.op none (.s 12) (.v (.bin .lss (.s 11) (.s 10))))]
@[go_sem] def c24r4 : List GOp := [(.op none .t (.v (.mv (.s 11)))),
  (.op none .t (.v (.ix 4 (.s 9) (.s 11)))),
  (.op none .t (.ld (some 4) (.t 0))),
  (.op none (.s 5) (.al 25 [(.int .i64 0), (.string ⟨⟨[]⟩⟩), (.int .i64 0), (.int .i64 0)])),
  (.op none (.s 4) (.v (.mv (.t 2)))),
  (.op none .no (.st 4 (.s 5) (.t 0)))]
@[go_sem] def c24r5 : List GOp := [(.op none .t (.ld (some 4) (.s 5))),
  (.op none .t (.call 38 [(.t 0)])),
  (.op none .t (.v (.mv (.t 0)))),
  (.op none .t (.v (.ext (.t 0) 0))),
  (.op none .t (.v (.ext (.t 1) 1))),
  (.op none (.s 6) (.v (.mv (.t 1)))),
  (.op none (.s 7) (.v (.mv (.t 0))))]
@[go_sem] def c24r6 : List GOp := [(.op none .t (.v (.mv (.s 7)))),
  (.op none .t (.v (.un .not (.t 0)))),
  (.op none .t (.v (.mv (.t 0)))),
  (.sel (.t 0) false [(.op (.v (.fa 0 (.s 5)))), (.op (.ld none (.t 0))), (.op (.v (.bin .eql (.t 0) (.c (.int .i64 6))))), (.op (.v (.mv (.s 4)))), (.op (.v (.mv (.s 0)))), (.op (.v (.len (.t 0)))), (.op (.v (.bin .sub (.t 0) (.c (.int .i64 1))))), (.op (.v (.bin .eql (.t 3) (.t 0)))), (.op (.v (.beq true (.t 5) (.t 0))))] (.s 13) (.c (.bool true)) (.t 0))]
@[go_sem] def c24r7 : List GOp := [(.op none (.s 1) (.v (.mv (.c (.string ⟨⟨[]⟩⟩))))),
  (.op none (.s 2) (.v (.mv (.c (.int .i64 1)))))]
def c24s8 : SCode := (.seq (.ops c24r7) .ret)
@[go_sem] theorem c24s8eq : vc P E c24s8 σ H Q = vc P E (.seq (.ops c24r7) .ret) σ H Q := rfl
def c24s9 : SCode := (.cond (.s 13) c24s8 .skip)
@[go_sem] theorem c24s9eq : vc P E c24s9 σ H Q = vc P E (.cond (.s 13) c24s8 .skip) σ H Q := rfl
@[go_sem] def c24r10 : List GOp := [(.op none .t (.v (.fa 0 (.s 5)))),
  (.op none .t (.ld none (.t 0))),
  (.op none (.s 14) (.v (.bin .neq (.t 0) (.c (.int .i64 6)))))]
@[go_sem] def c24r11 : List GOp := [(.op none .t (.v (.mv (.s 3)))),
  (.op none .t (.v (.mv (.s 6)))),
  (.op none .t (.bs 9 1 [(.string ⟨⟨[]⟩⟩)] [(0, (1, (.t 0)))])),
  (.op none .t (.ap 45 45 (.t 2) (.t 0))),
  (.op none (.s 3) (.v (.mv (.t 0))))]
def c24s12 : SCode := (.cond (.s 14) (.ops c24r11) .skip)
@[go_sem] theorem c24s12eq : vc P E c24s12 σ H Q = vc P E (.cond (.s 14) (.ops c24r11) .skip) σ H Q := rfl
def c24s13 : SCode := (.seq (.ops c24r10) c24s12)
@[go_sem] theorem c24s13eq : vc P E c24s13 σ H Q = vc P E (.seq (.ops c24r10) c24s12) σ H Q := rfl
def c24s14 : SCode := (.seq (.seq (.ops c24r6) c24s9) c24s13)
@[go_sem] theorem c24s14eq : vc P E c24s14 σ H Q = vc P E (.seq (.seq (.ops c24r6) c24s9) c24s13) σ H Q := rfl
def c24s15 : SCode := (.seq (.ops c24r5) c24s14)
@[go_sem] theorem c24s15eq : vc P E c24s15 σ H Q = vc P E (.seq (.ops c24r5) c24s14) σ H Q := rfl
@[go_sem] def c24r16 : List GOp := [(.op none .t (.v (.bin .add (.s 11) (.c (.int .i64 1))))),
  (.op none (.s 11) (.v (.mv (.t 0))))]
def c24s17 : SCode := (.ops c24r16)
@[go_sem] theorem c24s17eq : vc P E c24s17 σ H Q = vc P E (.ops c24r16) σ H Q := rfl
def c24s18 : SCode := (.seq (.block 1 (.seq (.ops c24r4) c24s15)) c24s17)
@[go_sem] theorem c24s18eq : vc P E c24s18 σ H Q = vc P E (.seq (.block 1 (.seq (.ops c24r4) c24s15)) c24s17) σ H Q := rfl
def c24s19 : SCode := (.seq (.cond (.s 12) .skip (.exit 0)) c24s18)
@[go_sem] theorem c24s19eq : vc P E c24s19 σ H Q = vc P E (.seq (.cond (.s 12) .skip (.exit 0)) c24s18) σ H Q := rfl
def c24s20 : SCode := (.seq (.ops c24r3) c24s19)
@[go_sem] theorem c24s20eq : vc P E c24s20 σ H Q = vc P E (.seq (.ops c24r3) c24s19) σ H Q := rfl
def c24s21 : SCode := (.block 0 (.loop c24k c24s20))
@[go_sem] theorem c24s21eq : vc P E c24s21 σ H Q = vc P E (.block 0 (.loop c24k c24s20)) σ H Q := rfl
@[go_sem] def c24r22 : List GOp := [(.op none .t (.v (.mv (.s 0)))),
  (.op none .t (.v (.len (.t 0)))),
  (.op none (.s 15) (.v (.bin .eql (.t 0) (.c (.int .i64 0)))))]
@[go_sem] def c24r23 : List GOp := [(.op none (.s 1) (.v (.mv (.c (.string ⟨⟨[]⟩⟩))))),
  (.op none (.s 2) (.v (.mv (.c (.int .i64 1)))))]
def c24s24 : SCode := (.seq (.ops c24r23) .ret)
@[go_sem] theorem c24s24eq : vc P E c24s24 σ H Q = vc P E (.seq (.ops c24r23) .ret) σ H Q := rfl
def c24s25 : SCode := (.cond (.s 15) c24s24 .skip)
@[go_sem] theorem c24s25eq : vc P E c24s25 σ H Q = vc P E (.cond (.s 15) c24s24 .skip) σ H Q := rfl
@[go_sem] def c24r26 : List GOp := [(.op none .t (.v (.mv (.s 3)))),
  (.op none .t (.call 39 [(.t 0), (.c (.string ⟨⟨[32]⟩⟩))])),
  (.op none (.s 8) (.v (.mv (.t 0))))]
@[go_sem] def c24r27 : List GOp := [(.op none .t (.v (.mv (.s 8)))),
  (.op none .t (.v (.slen (.t 0)))),
  (.op none (.s 16) (.v (.bin .gtr (.t 0) (.c (.int .i64 65536)))))]
@[go_sem] def c24r28 : List GOp := [(.op none (.s 1) (.v (.mv (.c (.string ⟨⟨[]⟩⟩))))),
  (.op none (.s 2) (.v (.mv (.c (.int .i64 6)))))]
def c24s29 : SCode := (.seq (.ops c24r28) .ret)
@[go_sem] theorem c24s29eq : vc P E c24s29 σ H Q = vc P E (.seq (.ops c24r28) .ret) σ H Q := rfl
def c24s30 : SCode := (.cond (.s 16) c24s29 .skip)
@[go_sem] theorem c24s30eq : vc P E c24s30 σ H Q = vc P E (.cond (.s 16) c24s29 .skip) σ H Q := rfl
@[go_sem] def c24r31 : List GOp := [(.op none .t (.v (.mv (.s 8)))),
  (.op none (.s 1) (.v (.mv (.t 0)))),
  (.op none (.s 2) (.v (.mv (.c (.int .i64 0)))))]
def c24s32 : SCode := (.seq (.ops c24r31) .ret)
@[go_sem] theorem c24s32eq : vc P E c24s32 σ H Q = vc P E (.seq (.ops c24r31) .ret) σ H Q := rfl
def c24s33 : SCode := (.seq (.seq (.ops c24r27) c24s30) c24s32)
@[go_sem] theorem c24s33eq : vc P E c24s33 σ H Q = vc P E (.seq (.seq (.ops c24r27) c24s30) c24s32) σ H Q := rfl
def c24s34 : SCode := (.seq (.ops c24r26) c24s33)
@[go_sem] theorem c24s34eq : vc P E c24s34 σ H Q = vc P E (.seq (.ops c24r26) c24s33) σ H Q := rfl
def c24s35 : SCode := (.seq (.seq (.ops c24r22) c24s25) c24s34)
@[go_sem] theorem c24s35eq : vc P E c24s35 σ H Q = vc P E (.seq (.seq (.ops c24r22) c24s25) c24s34) σ H Q := rfl
def c24s36 : SCode := (.seq (.seq (.ops c24r2) c24s21) c24s35)
@[go_sem] theorem c24s36eq : vc P E c24s36 σ H Q = vc P E (.seq (.seq (.ops c24r2) c24s21) c24s35) σ H Q := rfl
def c24s37 : SCode := (.seq (.ops c24r1) c24s36)
@[go_sem] theorem c24s37eq : vc P E c24s37 σ H Q = vc P E (.seq (.ops c24r1) c24s36) σ H Q := rfl
def c24 : Gx.Fn := ⟨52, c24k, (.seq (.ops c24r0) c24s37), [(.tmp (.s 1)), (.tmp (.s 2))]⟩
theorem c24ok : stripFn Tryd.prog c24k Tryd.f24 = some c24 := by kernel_rfl

/- plexusref15.Text -/
@[go_sem] def c25k : List Nat := [0, 2, 3, 4, 5, 6, 7, 8, 37, 40, 52, 54, 62]
@[go_sem] def c25r0 : List GOp := [(.op none (.s 1) (.v (.mv (.c (.string ⟨⟨[]⟩⟩))))),
  (.op none (.s 2) (.v (.mv (.c (.int .i64 0)))))]
@[go_sem] def c25r1 : List GOp := [(.op none .t (.v (.mv (.s 0)))),
  (.op none .t (.v (.len (.t 0)))),
  (.op none .t (.v (.bin .sub (.t 0) (.c (.int .i64 1))))),
  (.op none (.s 3) (.v (.mv (.t 0))))]
@[go_sem] def c25r2 : List GOp := [(.op none .t (.v (.mv (.s 3)))),
  (.op none .t (.v (.bin .lss (.t 0) (.c (.int .i64 0))))),
  (.op none .t (.v (.mv (.t 0)))),
  (.op (some ((.t 0), (false, true))) .t (.v (.mv (.s 0)))),
  (.op (some ((.t 1), (false, false))) .t (.v (.mv (.s 3)))),
  (.op (some ((.t 2), (false, false))) .t (.v (.ix 4 (.t 1) (.t 0)))),
  (.op (some ((.t 3), (false, false))) .t (.v (.fa 0 (.t 0)))),
  (.op (some ((.t 4), (false, false))) .t (.ld none (.t 0))),
  (.op (some ((.t 5), (false, false))) .t (.v (.bin .neq (.t 0) (.c (.int .i64 6))))),
  (.op none .t (.v (.pick (.t 6) (.c (.bool true)) (.t 0)))),
  (.op none .t (.v (.mv (.t 0)))),
  (.op (some ((.t 0), (false, true))) .t (.v (.mv (.s 0)))),
  (.op (some ((.t 1), (false, false))) .t (.v (.mv (.s 3)))),
  (.op (some ((.t 2), (false, false))) .t (.v (.ix 4 (.t 1) (.t 0)))),
  (.op (some ((.t 3), (false, false))) .t (.v (.fa 1 (.t 0)))),
  (.op (some ((.t 4), (false, false))) .t (.ld none (.t 0))),
  (.op (some ((.t 5), (false, false))) .t (.v (.bin .neq (.t 0) (.c (.string ⟨⟨[]⟩⟩))))),
  (.op none .t (.v (.pick (.t 6) (.c (.bool true)) (.t 0)))),
  (.op none .t (.v (.mv (.t 0)))),
  (.op (some ((.t 0), (false, true))) .t (.v (.mv (.s 0)))),
  (.op (some ((.t 1), (false, false))) .t (.v (.mv (.s 3)))),
  (.op (some ((.t 2), (false, false))) .t (.v (.ix 4 (.t 1) (.t 0)))),
  (.op (some ((.t 3), (false, false))) .t (.v (.fa 2 (.t 0)))),
  (.op (some ((.t 4), (false, false))) .t (.ld none (.t 0))),
  (.op (some ((.t 5), (false, false))) .t (.v (.bin .neq (.t 0) (.c (.int .i64 0))))),
  (.op none (.s 8) (.v (.pick (.t 6) (.c (.bool true)) (.t 0))))]
@[go_sem] def c25r3 : List GOp := [(.op none (.s 1) (.v (.mv (.c (.string ⟨⟨[]⟩⟩))))),
  (.op none (.s 2) (.v (.mv (.c (.int .i64 1)))))]
def c25s4 : SCode := (.seq (.ops c25r3) .ret)
@[go_sem] theorem c25s4eq : vc P E c25s4 σ H Q = vc P E (.seq (.ops c25r3) .ret) σ H Q := rfl
def c25s5 : SCode := (.cond (.s 8) c25s4 .skip)
@[go_sem] theorem c25s5eq : vc P E c25s5 σ H Q = vc P E (.cond (.s 8) c25s4 .skip) σ H Q := rfl
@[go_sem] def c25r6 : List GOp := [(.op none (.s 4) (.v (.mv (.c (.string ⟨⟨[]⟩⟩)))))]
@[go_sem] def c25r7 : List GOp := [(.op none (.s 5) (.v (.mv (.c (.int .i64 0)))))]
@[go_sem] def c25r8 : List GOp := [(.op none .t (.v (.mv (.s 5)))),
  (.op none .t (.v (.mv (.s 3)))),
  (.op none (.s 9) (.v (.bin .lss (.t 1) (.t 0))))]
def c25s9 : SCode := (.cond (.s 9) .skip (.exit 0))
@[go_sem] theorem c25s9eq : vc P E c25s9 σ H Q = vc P E (.cond (.s 9) .skip (.exit 0)) σ H Q := rfl
@[go_sem] def c25r10 : List GOp := [(.op none .t (.v (.mv (.s 0)))),
  (.op none .t (.v (.mv (.s 5)))),
  (.op none .t (.v (.ix 4 (.t 1) (.t 0)))),
  (.op none .t (.ld (some 4) (.t 0))),
  (.op none .t (.call 26 [(.t 0)])),
  (.op none .t (.v (.mv (.t 0)))),
  (.op none .t (.v (.ext (.t 0) 0))),
  (.op none .t (.v (.ext (.t 1) 1))),
  (.op none (.s 6) (.v (.mv (.t 1)))),
  (.op none (.s 7) (.v (.mv (.t 0))))]
@[go_sem] def c25r11 : List GOp := [(.op none .t (.v (.mv (.s 7)))),
  (.op none (.s 10) (.v (.un .not (.t 0))))]
@[go_sem] def c25r12 : List GOp := [(.op none (.s 1) (.v (.mv (.c (.string ⟨⟨[]⟩⟩))))),
  (.op none (.s 2) (.v (.mv (.c (.int .i64 1)))))]
def c25s13 : SCode := (.seq (.ops c25r12) .ret)
@[go_sem] theorem c25s13eq : vc P E c25s13 σ H Q = vc P E (.seq (.ops c25r12) .ret) σ H Q := rfl
def c25s14 : SCode := (.cond (.s 10) c25s13 .skip)
@[go_sem] theorem c25s14eq : vc P E c25s14 σ H Q = vc P E (.cond (.s 10) c25s13 .skip) σ H Q := rfl
@[go_sem] def c25r15 : List GOp := [(.op none .t (.v (.mv (.s 5)))),
  (.op none (.s 11) (.v (.bin .gtr (.t 0) (.c (.int .i64 0)))))]
@[go_sem] def c25r16 : List GOp := [(.op none .t (.v (.mv (.s 4)))),
  (.op none .t (.v (.bin .add (.t 0) (.c (.string ⟨⟨[32]⟩⟩))))),
  (.op none (.s 4) (.v (.mv (.t 0))))]
def c25s17 : SCode := (.cond (.s 11) (.ops c25r16) .skip)
@[go_sem] theorem c25s17eq : vc P E c25s17 σ H Q = vc P E (.cond (.s 11) (.ops c25r16) .skip) σ H Q := rfl
@[go_sem] def c25r18 : List GOp := [(.op none .t (.v (.mv (.s 4)))),
  (.op none .t (.v (.mv (.s 6)))),
  (.op none .t (.v (.bin .add (.t 1) (.t 0)))),
  (.op none (.s 4) (.v (.mv (.t 0))))]
def c25s19 : SCode := (.ops c25r18)
@[go_sem] theorem c25s19eq : vc P E c25s19 σ H Q = vc P E (.ops c25r18) σ H Q := rfl
def c25s20 : SCode := (.seq (.seq (.ops c25r15) c25s17) c25s19)
@[go_sem] theorem c25s20eq : vc P E c25s20 σ H Q = vc P E (.seq (.seq (.ops c25r15) c25s17) c25s19) σ H Q := rfl
def c25s21 : SCode := (.seq (.seq (.ops c25r11) c25s14) c25s20)
@[go_sem] theorem c25s21eq : vc P E c25s21 σ H Q = vc P E (.seq (.seq (.ops c25r11) c25s14) c25s20) σ H Q := rfl
@[go_sem] def c25r22 : List GOp := [(.op none .t (.v (.mv (.s 5)))),
  (.op none .t (.v (.bin .add (.t 0) (.c (.int .i64 1))))),
  (.op none (.s 5) (.v (.mv (.t 0))))]
def c25s23 : SCode := (.ops c25r22)
@[go_sem] theorem c25s23eq : vc P E c25s23 σ H Q = vc P E (.ops c25r22) σ H Q := rfl
def c25s24 : SCode := (.seq (.block 1 (.seq (.ops c25r10) c25s21)) c25s23)
@[go_sem] theorem c25s24eq : vc P E c25s24 σ H Q = vc P E (.seq (.block 1 (.seq (.ops c25r10) c25s21)) c25s23) σ H Q := rfl
def c25s25 : SCode := (.seq (.seq (.ops c25r8) c25s9) c25s24)
@[go_sem] theorem c25s25eq : vc P E c25s25 σ H Q = vc P E (.seq (.seq (.ops c25r8) c25s9) c25s24) σ H Q := rfl
def c25s26 : SCode := (.block 0 (.loop c25k c25s25))
@[go_sem] theorem c25s26eq : vc P E c25s26 σ H Q = vc P E (.block 0 (.loop c25k c25s25)) σ H Q := rfl
@[go_sem] def c25r27 : List GOp := [(.op none .t (.v (.mv (.s 4)))),
  (.op none .t (.v (.slen (.t 0)))),
  (.op none (.s 12) (.v (.bin .gtr (.t 0) (.c (.int .i64 65536)))))]
@[go_sem] def c25r28 : List GOp := [(.op none (.s 1) (.v (.mv (.c (.string ⟨⟨[]⟩⟩))))),
  (.op none (.s 2) (.v (.mv (.c (.int .i64 6)))))]
def c25s29 : SCode := (.seq (.ops c25r28) .ret)
@[go_sem] theorem c25s29eq : vc P E c25s29 σ H Q = vc P E (.seq (.ops c25r28) .ret) σ H Q := rfl
def c25s30 : SCode := (.cond (.s 12) c25s29 .skip)
@[go_sem] theorem c25s30eq : vc P E c25s30 σ H Q = vc P E (.cond (.s 12) c25s29 .skip) σ H Q := rfl
@[go_sem] def c25r31 : List GOp := [(.op none .t (.v (.mv (.s 4)))),
  (.op none (.s 1) (.v (.mv (.t 0)))),
  (.op none (.s 2) (.v (.mv (.c (.int .i64 0)))))]
def c25s32 : SCode := (.seq (.ops c25r31) .ret)
@[go_sem] theorem c25s32eq : vc P E c25s32 σ H Q = vc P E (.seq (.ops c25r31) .ret) σ H Q := rfl
def c25s33 : SCode := (.seq (.seq (.ops c25r27) c25s30) c25s32)
@[go_sem] theorem c25s33eq : vc P E c25s33 σ H Q = vc P E (.seq (.seq (.ops c25r27) c25s30) c25s32) σ H Q := rfl
def c25s34 : SCode := (.seq (.seq (.ops c25r7) c25s26) c25s33)
@[go_sem] theorem c25s34eq : vc P E c25s34 σ H Q = vc P E (.seq (.seq (.ops c25r7) c25s26) c25s33) σ H Q := rfl
def c25s35 : SCode := (.seq (.ops c25r6) c25s34)
@[go_sem] theorem c25s35eq : vc P E c25s35 σ H Q = vc P E (.seq (.ops c25r6) c25s34) σ H Q := rfl
def c25s36 : SCode := (.seq (.seq (.ops c25r2) c25s5) c25s35)
@[go_sem] theorem c25s36eq : vc P E c25s36 σ H Q = vc P E (.seq (.seq (.ops c25r2) c25s5) c25s35) σ H Q := rfl
def c25s37 : SCode := (.seq (.ops c25r1) c25s36)
@[go_sem] theorem c25s37eq : vc P E c25s37 σ H Q = vc P E (.seq (.ops c25r1) c25s36) σ H Q := rfl
def c25 : Gx.Fn := ⟨64, c25k, (.seq (.ops c25r0) c25s37), [(.tmp (.s 1)), (.tmp (.s 2))]⟩
theorem c25ok : stripFn Tryd.prog c25k Tryd.f25 = some c25 := by kernel_rfl

/- plexusref15.Spelling -/
@[go_sem] def c26k : List Nat := [0, 1, 2, 3, 6, 19, 25, 27, 28, 41, 48, 57]
@[go_sem] def c26r0 : List GOp := [(.op none (.s 1) (.bx 25 (.s 0))),
  (.op none (.s 2) (.v (.mv (.c (.string ⟨⟨[]⟩⟩))))),
  (.op none (.s 3) (.v (.mv (.c (.bool false)))))]
@[go_sem] def c26r1 : List GOp := [(.op none .t (.v (.fa 0 (.s 1)))),
  (.op none .t (.ld none (.t 0))),
  (.op none (.s 4) (.v (.bin .eql (.t 0) (.c (.int .i64 3)))))]
@[go_sem] def c26r2 : List GOp := [(.op none .t (.v (.fa 1 (.s 1)))),
  (.op none .t (.ld none (.t 0))),
  (.op none .t (.v (.bin .neq (.t 0) (.c (.string ⟨⟨[]⟩⟩))))),
  (.op none .t (.v (.mv (.t 0)))),
  (.sel (.t 0) false [(.op (.v (.fa 2 (.s 1)))), (.op (.ld none (.t 0))), (.op (.v (.bin .lss (.t 0) (.c (.int .i64 0)))))] .t (.c (.bool true)) (.t 0)),
  (.op none .t (.v (.mv (.t 0)))),
  (.sel (.t 0) false [(.op (.v (.fa 2 (.s 1)))), (.op (.ld none (.t 0))), (.op (.v (.bin .gtr (.t 0) (.c (.int .i64 1000000000000000)))))] (.s 5) (.c (.bool true)) (.t 0))]
@[go_sem] def c26r3 : List GOp := [(.op none (.s 2) (.v (.mv (.c (.string ⟨⟨[]⟩⟩))))),
  (.op none (.s 3) (.v (.mv (.c (.bool false)))))]
def c26s4 : SCode := (.seq (.ops c26r3) .ret)
@[go_sem] theorem c26s4eq : vc P E c26s4 σ H Q = vc P E (.seq (.ops c26r3) .ret) σ H Q := rfl
def c26s5 : SCode := (.cond (.s 5) c26s4 .skip)
@[go_sem] theorem c26s5eq : vc P E c26s5 σ H Q = vc P E (.cond (.s 5) c26s4 .skip) σ H Q := rfl
@[go_sem] def c26r6 : List GOp := [(.op none .t (.v (.fa 2 (.s 1)))),
  (.op none .t (.ld none (.t 0))),
  (.op none .t (.call 40 [(.t 0)])),
  (.op none (.s 2) (.v (.mv (.t 0)))),
  (.op none (.s 3) (.v (.mv (.c (.bool true)))))]
def c26s7 : SCode := (.seq (.ops c26r6) .ret)
@[go_sem] theorem c26s7eq : vc P E c26s7 σ H Q = vc P E (.seq (.ops c26r6) .ret) σ H Q := rfl
def c26s8 : SCode := (.seq (.seq (.ops c26r2) c26s5) c26s7)
@[go_sem] theorem c26s8eq : vc P E c26s8 σ H Q = vc P E (.seq (.seq (.ops c26r2) c26s5) c26s7) σ H Q := rfl
def c26s9 : SCode := (.cond (.s 4) c26s8 .skip)
@[go_sem] theorem c26s9eq : vc P E c26s9 σ H Q = vc P E (.cond (.s 4) c26s8 .skip) σ H Q := rfl
@[go_sem] def c26r10 : List GOp := [(.op none .t (.v (.fa 2 (.s 1)))),
  (.op none .t (.ld none (.t 0))),
  (.op none (.s 6) (.v (.bin .neq (.t 0) (.c (.int .i64 0)))))]
@[go_sem] def c26r11 : List GOp := [(.op none (.s 2) (.v (.mv (.c (.string ⟨⟨[]⟩⟩))))),
  (.op none (.s 3) (.v (.mv (.c (.bool false)))))]
def c26s12 : SCode := (.seq (.ops c26r11) .ret)
@[go_sem] theorem c26s12eq : vc P E c26s12 σ H Q = vc P E (.seq (.ops c26r11) .ret) σ H Q := rfl
def c26s13 : SCode := (.cond (.s 6) c26s12 .skip)
@[go_sem] theorem c26s13eq : vc P E c26s13 σ H Q = vc P E (.cond (.s 6) c26s12 .skip) σ H Q := rfl
@[go_sem] def c26r14 : List GOp := [(.op none .t (.v (.fa 0 (.s 1)))),
  (.op none (.s 7) (.ld none (.t 0)))]
@[go_sem] def c26r15 : List GOp := [(.op none .t (.v (.bin .eql (.s 7) (.c (.int .i64 1))))),
  (.op none (.s 8) (.v (.mv (.t 0))))]
@[go_sem] def c26d16 : DT := (.rd none .t (.v (.fa 1 (.s 1))) [] (.rd none .t (.ld none (.t 0)) [] (.rd none .t (.v (.fa 1 (.s 1))) [4, 8] (.rd none .t (.ld none (.t 0)) [4, 8] (.ef 4 none .t (.call 41 [(.t 0)]) (.rd none .t (.v (.mv (.t 0))) [8] (.rd (some ((.t 0), true)) .t (.v (.fa 1 (.s 1))) [8] (.rd (some ((.t 1), true)) .t (.ld none (.t 0)) [8] (.ef 8 (some ((.t 2), true)) .t (.call 16 [(.t 0)]) (.rd (some ((.t 3), true)) .t (.v (.un .not (.t 0))) [] (.rd none .t (.v (.pick (.t 4) (.t 0) (.c (.bool false)))) [] (.rd none (.s 2) (.v (.mv (.t 9))) [] (.rd none (.s 3) (.v (.mv (.t 0))) [] .done)))))))))))))
def c26s17 : SCode := (.seq (.de c26d16) .ret)
@[go_sem] theorem c26s17eq : vc P E c26s17 σ H Q = vc P E (.seq (.de c26d16) .ret) σ H Q := rfl
@[go_sem] def c26r18 : List GOp := [(.op none .t (.v (.bin .eql (.s 7) (.c (.int .i64 2))))),
  (.op none (.s 9) (.v (.mv (.t 0))))]
@[go_sem] def c26d19 : DT := (.rd none .t (.v (.fa 1 (.s 1))) [] (.rd none .t (.ld none (.t 0)) [] (.rd none .t (.v (.fa 1 (.s 1))) [4] (.rd none .t (.ld none (.t 0)) [4] (.ef 4 none .t (.call 16 [(.t 0)]) (.rd none (.s 2) (.v (.mv (.t 3))) [] (.rd none (.s 3) (.v (.mv (.t 0))) [] .done)))))))
def c26s20 : SCode := (.seq (.de c26d19) .ret)
@[go_sem] theorem c26s20eq : vc P E c26s20 σ H Q = vc P E (.seq (.de c26d19) .ret) σ H Q := rfl
@[go_sem] def c26r21 : List GOp := [(.op none .t (.v (.bin .eql (.s 7) (.c (.int .i64 4))))),
  (.op none (.s 10) (.v (.mv (.t 0))))]
@[go_sem] def c26d22 : DT := (.rd none .t (.v (.fa 1 (.s 1))) [] (.rd none .t (.ld none (.t 0)) [] (.rd none .t (.v (.bin .add (.c (.string ⟨⟨[39]⟩⟩)) (.t 0))) [] (.rd none .t (.v (.bin .add (.t 0) (.c (.string ⟨⟨[39]⟩⟩)))) [] (.rd none .t (.v (.fa 1 (.s 1))) [6] (.rd none .t (.ld none (.t 0)) [6] (.ef 6 none .t (.call 41 [(.t 0)]) (.rd none (.s 2) (.v (.mv (.t 3))) [] (.rd none (.s 3) (.v (.mv (.t 0))) [] .done)))))))))
def c26s23 : SCode := (.seq (.de c26d22) .ret)
@[go_sem] theorem c26s23eq : vc P E c26s23 σ H Q = vc P E (.seq (.de c26d22) .ret) σ H Q := rfl
@[go_sem] def c26r24 : List GOp := [(.op none .t (.v (.bin .eql (.s 7) (.c (.int .i64 5))))),
  (.op none (.s 11) (.v (.mv (.t 0))))]
@[go_sem] def c26d25 : DT := (.rd none .t (.v (.fa 1 (.s 1))) [] (.rd none .t (.ld none (.t 0)) [] (.rd none .t (.v (.fa 1 (.s 1))) [4] (.rd none .t (.ld none (.t 0)) [4] (.ef 4 none .t (.call 18 [(.t 0)]) (.rd none (.s 2) (.v (.mv (.t 3))) [] (.rd none (.s 3) (.v (.mv (.t 0))) [] .done)))))))
def c26s26 : SCode := (.seq (.de c26d25) .ret)
@[go_sem] theorem c26s26eq : vc P E c26s26 σ H Q = vc P E (.seq (.de c26d25) .ret) σ H Q := rfl
def c26s27 : SCode := (.cond (.s 11) c26s26 .skip)
@[go_sem] theorem c26s27eq : vc P E c26s27 σ H Q = vc P E (.cond (.s 11) c26s26 .skip) σ H Q := rfl
def c26s28 : SCode := (.seq (.ops c26r24) c26s27)
@[go_sem] theorem c26s28eq : vc P E c26s28 σ H Q = vc P E (.seq (.ops c26r24) c26s27) σ H Q := rfl
def c26s29 : SCode := (.cond (.s 10) c26s23 c26s28)
@[go_sem] theorem c26s29eq : vc P E c26s29 σ H Q = vc P E (.cond (.s 10) c26s23 c26s28) σ H Q := rfl
def c26s30 : SCode := (.seq (.ops c26r21) c26s29)
@[go_sem] theorem c26s30eq : vc P E c26s30 σ H Q = vc P E (.seq (.ops c26r21) c26s29) σ H Q := rfl
def c26s31 : SCode := (.cond (.s 9) c26s20 c26s30)
@[go_sem] theorem c26s31eq : vc P E c26s31 σ H Q = vc P E (.cond (.s 9) c26s20 c26s30) σ H Q := rfl
def c26s32 : SCode := (.seq (.ops c26r18) c26s31)
@[go_sem] theorem c26s32eq : vc P E c26s32 σ H Q = vc P E (.seq (.ops c26r18) c26s31) σ H Q := rfl
def c26s33 : SCode := (.cond (.s 8) c26s17 c26s32)
@[go_sem] theorem c26s33eq : vc P E c26s33 σ H Q = vc P E (.cond (.s 8) c26s17 c26s32) σ H Q := rfl
def c26s34 : SCode := (.block 0 (.seq (.ops c26r15) c26s33))
@[go_sem] theorem c26s34eq : vc P E c26s34 σ H Q = vc P E (.block 0 (.seq (.ops c26r15) c26s33)) σ H Q := rfl
@[go_sem] def c26r35 : List GOp := [(.op none (.s 2) (.v (.mv (.c (.string ⟨⟨[]⟩⟩))))),
  (.op none (.s 3) (.v (.mv (.c (.bool false)))))]
def c26s36 : SCode := (.seq (.ops c26r35) .ret)
@[go_sem] theorem c26s36eq : vc P E c26s36 σ H Q = vc P E (.seq (.ops c26r35) .ret) σ H Q := rfl
def c26s37 : SCode := (.seq (.seq (.ops c26r14) c26s34) c26s36)
@[go_sem] theorem c26s37eq : vc P E c26s37 σ H Q = vc P E (.seq (.seq (.ops c26r14) c26s34) c26s36) σ H Q := rfl
def c26s38 : SCode := (.seq (.seq (.ops c26r10) c26s13) c26s37)
@[go_sem] theorem c26s38eq : vc P E c26s38 σ H Q = vc P E (.seq (.seq (.ops c26r10) c26s13) c26s37) σ H Q := rfl
def c26s39 : SCode := (.seq (.seq (.ops c26r1) c26s9) c26s38)
@[go_sem] theorem c26s39eq : vc P E c26s39 σ H Q = vc P E (.seq (.seq (.ops c26r1) c26s9) c26s38) σ H Q := rfl
def c26 : Gx.Fn := ⟨64, c26k, (.seq (.ops c26r0) c26s39), [(.tmp (.s 2)), (.tmp (.s 3))]⟩
theorem c26ok : stripFn Tryd.prog c26k Tryd.f26 = some c26 := by kernel_rfl

/- lexer.Place -/
@[go_sem] def c27k : List Nat := [0, 1, 4, 5, 6, 14]
@[go_sem] def c27r0 : List GOp := [(.op none (.s 2) (.v (.mv (.c (.int .i64 0))))),
  (.op none (.s 3) (.v (.mv (.c (.int .i64 0)))))]
@[go_sem] def c27r1 : List GOp := [(.op none .t (.v (.mv (.s 1)))),
  (.op none .t (.v (.bin .lss (.t 0) (.c (.int .i64 0))))),
  (.op none .t (.v (.mv (.t 0)))),
  (.sel (.t 0) false [(.op (.v (.mv (.s 1)))), (.op (.v (.mv (.s 0)))), (.op (.v (.slen (.t 0)))), (.op (.v (.bin .gtr (.t 2) (.t 0))))] (.s 5) (.c (.bool true)) (.t 0))]
@[go_sem] def c27r2 : List GOp := [(.op none (.s 2) (.v (.mv (.c (.int .i64 0))))),
  (.op none (.s 3) (.v (.mv (.c (.int .i64 0)))))]
def c27s3 : SCode := (.seq (.ops c27r2) .ret)
@[go_sem] theorem c27s3eq : vc P E c27s3 σ H Q = vc P E (.seq (.ops c27r2) .ret) σ H Q := rfl
def c27s4 : SCode := (.cond (.s 5) c27s3 .skip)
@[go_sem] theorem c27s4eq : vc P E c27s4 σ H Q = vc P E (.cond (.s 5) c27s3 .skip) σ H Q := rfl
@[go_sem] def c27r5 : List GOp := [(.op none .t (.v (.mv (.s 0)))),
  (.op none .t (.v (.mv (.s 1)))),
  (.op none .t (.v (.ssl (.t 1) none (some (.t 0))))),
  (.op none (.s 4) (.v (.mv (.t 0))))]
@[go_sem] def c27r6 : List GOp := [(.op none .t (.v (.mv (.s 4)))),
  (.op none .t (.call 42 [(.t 0), (.c (.string ⟨⟨[10]⟩⟩))])),
  (.op none .t (.v (.bin .add (.t 0) (.c (.int .i64 1))))),
  (.op none .t (.v (.mv (.s 1)))),
  (.op none .t (.v (.mv (.s 4)))),
  (.op none .t (.call 43 [(.t 0), (.c (.int .u8 10))])),
  (.op none .t (.v (.bin .add (.t 0) (.c (.int .i64 1))))),
  (.op none .t (.v (.bin .sub (.t 3) (.t 0)))),
  (.op none .t (.v (.bin .add (.t 0) (.c (.int .i64 1))))),
  (.op none (.s 2) (.v (.mv (.t 6)))),
  (.op none (.s 3) (.v (.mv (.t 0))))]
def c27s7 : SCode := (.seq (.ops c27r6) .ret)
@[go_sem] theorem c27s7eq : vc P E c27s7 σ H Q = vc P E (.seq (.ops c27r6) .ret) σ H Q := rfl
def c27s8 : SCode := (.seq (.ops c27r5) c27s7)
@[go_sem] theorem c27s8eq : vc P E c27s8 σ H Q = vc P E (.seq (.ops c27r5) c27s7) σ H Q := rfl
def c27s9 : SCode := (.seq (.seq (.ops c27r1) c27s4) c27s8)
@[go_sem] theorem c27s9eq : vc P E c27s9 σ H Q = vc P E (.seq (.seq (.ops c27r1) c27s4) c27s8) σ H Q := rfl
def c27 : Gx.Fn := ⟨27, c27k, (.seq (.ops c27r0) c27s9), [(.tmp (.s 2)), (.tmp (.s 3))]⟩
theorem c27ok : stripFn Tryd.prog c27k Tryd.f27 = some c27 := by kernel_rfl

/- plexusref15.Place -/
@[go_sem] def c28k : List Nat := [0, 1, 4, 5, 6, 7, 8, 16, 19, 27]
@[go_sem] def c28r0 : List GOp := [(.op none (.s 2) (.v (.mv (.c (.int .i64 0))))),
  (.op none (.s 3) (.v (.mv (.c (.int .i64 0)))))]
@[go_sem] def c28r1 : List GOp := [(.op none .t (.v (.mv (.s 1)))),
  (.op none .t (.v (.bin .lss (.t 0) (.c (.int .i64 0))))),
  (.op none .t (.v (.mv (.t 0)))),
  (.sel (.t 0) false [(.op (.v (.mv (.s 1)))), (.op (.v (.mv (.s 0)))), (.op (.v (.slen (.t 0)))), (.op (.v (.bin .gtr (.t 2) (.t 0))))] (.s 7) (.c (.bool true)) (.t 0))]
@[go_sem] def c28r2 : List GOp := [(.op none (.s 2) (.v (.mv (.c (.int .i64 0))))),
  (.op none (.s 3) (.v (.mv (.c (.int .i64 0)))))]
def c28s3 : SCode := (.seq (.ops c28r2) .ret)
@[go_sem] theorem c28s3eq : vc P E c28s3 σ H Q = vc P E (.seq (.ops c28r2) .ret) σ H Q := rfl
def c28s4 : SCode := (.cond (.s 7) c28s3 .skip)
@[go_sem] theorem c28s4eq : vc P E c28s4 σ H Q = vc P E (.cond (.s 7) c28s3 .skip) σ H Q := rfl
@[go_sem] def c28r5 : List GOp := [(.op none (.s 4) (.v (.mv (.c (.int .i64 1))))),
  (.op none (.s 5) (.v (.mv (.c (.int .i64 1)))))]
@[go_sem] def c28r6 : List GOp := [(.op none (.s 6) (.v (.mv (.c (.int .i64 0)))))]
@[go_sem] def c28r7 : List GOp := [(.op none .t (.v (.mv (.s 6)))),
  (.op none .t (.v (.mv (.s 1)))),
  (.op none (.s 8) (.v (.bin .lss (.t 1) (.t 0))))]
def c28s8 : SCode := (.cond (.s 8) .skip (.exit 0))
@[go_sem] theorem c28s8eq : vc P E c28s8 σ H Q = vc P E (.cond (.s 8) .skip (.exit 0)) σ H Q := rfl
@[go_sem] def c28r9 : List GOp := [(.op none .t (.v (.mv (.s 5)))),
  (.op none .t (.v (.bin .add (.t 0) (.c (.int .i64 1))))),
  (.op none (.s 5) (.v (.mv (.t 0))))]
@[go_sem] def c28r10 : List GOp := [(.op none .t (.v (.mv (.s 0)))),
  (.op none .t (.v (.mv (.s 6)))),
  (.op none .t (.v (.six (.t 1) (.t 0)))),
  (.op none (.s 9) (.v (.bin .eql (.t 0) (.c (.int .u8 10)))))]
@[go_sem] def c28r11 : List GOp := [(.op none .t (.v (.mv (.s 4)))),
  (.op none .t (.v (.bin .add (.t 0) (.c (.int .i64 1))))),
  (.op none (.s 4) (.v (.mv (.t 0)))),
  (.op none (.s 5) (.v (.mv (.c (.int .i64 1)))))]
def c28s12 : SCode := (.cond (.s 9) (.ops c28r11) .skip)
@[go_sem] theorem c28s12eq : vc P E c28s12 σ H Q = vc P E (.cond (.s 9) (.ops c28r11) .skip) σ H Q := rfl
def c28s13 : SCode := (.seq (.ops c28r10) c28s12)
@[go_sem] theorem c28s13eq : vc P E c28s13 σ H Q = vc P E (.seq (.ops c28r10) c28s12) σ H Q := rfl
@[go_sem] def c28r14 : List GOp := [(.op none .t (.v (.mv (.s 6)))),
  (.op none .t (.v (.bin .add (.t 0) (.c (.int .i64 1))))),
  (.op none (.s 6) (.v (.mv (.t 0))))]
def c28s15 : SCode := (.ops c28r14)
@[go_sem] theorem c28s15eq : vc P E c28s15 σ H Q = vc P E (.ops c28r14) σ H Q := rfl
def c28s16 : SCode := (.seq (.block 1 (.seq (.ops c28r9) c28s13)) c28s15)
@[go_sem] theorem c28s16eq : vc P E c28s16 σ H Q = vc P E (.seq (.block 1 (.seq (.ops c28r9) c28s13)) c28s15) σ H Q := rfl
def c28s17 : SCode := (.seq (.seq (.ops c28r7) c28s8) c28s16)
@[go_sem] theorem c28s17eq : vc P E c28s17 σ H Q = vc P E (.seq (.seq (.ops c28r7) c28s8) c28s16) σ H Q := rfl
def c28s18 : SCode := (.block 0 (.loop c28k c28s17))
@[go_sem] theorem c28s18eq : vc P E c28s18 σ H Q = vc P E (.block 0 (.loop c28k c28s17)) σ H Q := rfl
@[go_sem] def c28r19 : List GOp := [(.op none .t (.v (.mv (.s 4)))),
  (.op none .t (.v (.mv (.s 5)))),
  (.op none (.s 2) (.v (.mv (.t 1)))),
  (.op none (.s 3) (.v (.mv (.t 0))))]
def c28s20 : SCode := (.seq (.ops c28r19) .ret)
@[go_sem] theorem c28s20eq : vc P E c28s20 σ H Q = vc P E (.seq (.ops c28r19) .ret) σ H Q := rfl
def c28s21 : SCode := (.seq (.seq (.ops c28r6) c28s18) c28s20)
@[go_sem] theorem c28s21eq : vc P E c28s21 σ H Q = vc P E (.seq (.seq (.ops c28r6) c28s18) c28s20) σ H Q := rfl
def c28s22 : SCode := (.seq (.ops c28r5) c28s21)
@[go_sem] theorem c28s22eq : vc P E c28s22 σ H Q = vc P E (.seq (.ops c28r5) c28s21) σ H Q := rfl
def c28s23 : SCode := (.seq (.seq (.ops c28r1) c28s4) c28s22)
@[go_sem] theorem c28s23eq : vc P E c28s23 σ H Q = vc P E (.seq (.seq (.ops c28r1) c28s4) c28s22) σ H Q := rfl
def c28 : Gx.Fn := ⟨32, c28k, (.seq (.ops c28r0) c28s23), [(.tmp (.s 2)), (.tmp (.s 3))]⟩
theorem c28ok : stripFn Tryd.prog c28k Tryd.f28 = some c28 := by kernel_rfl

/- slices.Contains[[]string,string] -/
@[go_sem] def c29k : List Nat := [0, 1, 4]
@[go_sem] def c29r0 : List GOp := [(.op none (.s 2) (.v (.mv (.c (.bool false)))))]
@[go_sem] def c29r1 : List GOp := [(.op none .t (.v (.mv (.s 0)))),
  (.op none .t (.v (.mv (.s 1)))),
  (.op none .t (.call 44 [(.t 1), (.t 0)])),
  (.op none .t (.v (.bin .geq (.t 0) (.c (.int .i64 0))))),
  (.op none (.s 2) (.v (.mv (.t 0))))]
def c29s2 : SCode := (.seq (.ops c29r1) .ret)
@[go_sem] theorem c29s2eq : vc P E c29s2 σ H Q = vc P E (.seq (.ops c29r1) .ret) σ H Q := rfl
def c29 : Gx.Fn := ⟨9, c29k, (.seq (.ops c29r0) c29s2), [(.tmp (.s 2))]⟩
theorem c29ok : stripFn Tryd.prog c29k Tryd.f29 = some c29 := by kernel_rfl

/- plexusref15.in -/
@[go_sem] def c30k : List Nat := [0, 1, 4, 5, 9, 17]
@[go_sem] def c30r0 : List GOp := [(.op none (.s 2) (.v (.mv (.c (.bool false)))))]
@[go_sem] def c30r1 : List GOp := [(.op none (.s 3) (.v (.mv (.c (.int .i64 0)))))]
@[go_sem] def c30r2 : List GOp := [(.op none .t (.v (.mv (.s 3)))),
  (.op none .t (.v (.mv (.s 0)))),
  (.op none .t (.v (.len (.t 0)))),
  (.op none (.s 4) (.v (.bin .lss (.t 2) (.t 0))))]
def c30s3 : SCode := (.cond (.s 4) .skip (.exit 0))
@[go_sem] theorem c30s3eq : vc P E c30s3 σ H Q = vc P E (.cond (.s 4) .skip (.exit 0)) σ H Q := rfl
@[go_sem] def c30r4 : List GOp := [(.op none .t (.v (.mv (.s 0)))),
  (.op none .t (.v (.mv (.s 3)))),
  (.op none .t (.v (.ix 1 (.t 1) (.t 0)))),
  (.op none .t (.ld none (.t 0))),
  (.op none .t (.v (.mv (.s 1)))),
  (.op none (.s 5) (.v (.bin .eql (.t 1) (.t 0))))]
@[go_sem] def c30r5 : List GOp := [(.op none (.s 2) (.v (.mv (.c (.bool true)))))]
def c30s6 : SCode := (.seq (.ops c30r5) .ret)
@[go_sem] theorem c30s6eq : vc P E c30s6 σ H Q = vc P E (.seq (.ops c30r5) .ret) σ H Q := rfl
def c30s7 : SCode := (.cond (.s 5) c30s6 .skip)
@[go_sem] theorem c30s7eq : vc P E c30s7 σ H Q = vc P E (.cond (.s 5) c30s6 .skip) σ H Q := rfl
@[go_sem] def c30r8 : List GOp := [(.op none .t (.v (.mv (.s 3)))),
  (.op none .t (.v (.bin .add (.t 0) (.c (.int .i64 1))))),
  (.op none (.s 3) (.v (.mv (.t 0))))]
def c30s9 : SCode := (.ops c30r8)
@[go_sem] theorem c30s9eq : vc P E c30s9 σ H Q = vc P E (.ops c30r8) σ H Q := rfl
def c30s10 : SCode := (.seq (.block 1 (.seq (.ops c30r4) c30s7)) c30s9)
@[go_sem] theorem c30s10eq : vc P E c30s10 σ H Q = vc P E (.seq (.block 1 (.seq (.ops c30r4) c30s7)) c30s9) σ H Q := rfl
def c30s11 : SCode := (.seq (.seq (.ops c30r2) c30s3) c30s10)
@[go_sem] theorem c30s11eq : vc P E c30s11 σ H Q = vc P E (.seq (.seq (.ops c30r2) c30s3) c30s10) σ H Q := rfl
def c30s12 : SCode := (.block 0 (.loop c30k c30s11))
@[go_sem] theorem c30s12eq : vc P E c30s12 σ H Q = vc P E (.block 0 (.loop c30k c30s11)) σ H Q := rfl
@[go_sem] def c30r13 : List GOp := [(.op none (.s 2) (.v (.mv (.c (.bool false)))))]
def c30s14 : SCode := (.seq (.ops c30r13) .ret)
@[go_sem] theorem c30s14eq : vc P E c30s14 σ H Q = vc P E (.seq (.ops c30r13) .ret) σ H Q := rfl
def c30s15 : SCode := (.seq (.seq (.ops c30r1) c30s12) c30s14)
@[go_sem] theorem c30s15eq : vc P E c30s15 σ H Q = vc P E (.seq (.seq (.ops c30r1) c30s12) c30s14) σ H Q := rfl
def c30 : Gx.Fn := ⟨18, c30k, (.seq (.ops c30r0) c30s15), [(.tmp (.s 2))]⟩
theorem c30ok : stripFn Tryd.prog c30k Tryd.f30 = some c30 := by kernel_rfl

/- plexusref15.keywords -/
@[go_sem] def c31k : List Nat := [0]
@[go_sem] def c31r0 : List GOp := [(.op none (.s 0) (.v (.mv (.c (.slice none 0 0)))))]
@[go_sem] def c31r1 : List GOp := [(.op none .t (.bs 9 44 [(.string ⟨⟨[]⟩⟩), (.string ⟨⟨[]⟩⟩), (.string ⟨⟨[]⟩⟩), (.string ⟨⟨[]⟩⟩), (.string ⟨⟨[]⟩⟩), (.string ⟨⟨[]⟩⟩), (.string ⟨⟨[]⟩⟩), (.string ⟨⟨[]⟩⟩), (.string ⟨⟨[]⟩⟩), (.string ⟨⟨[]⟩⟩), (.string ⟨⟨[]⟩⟩), (.string ⟨⟨[]⟩⟩), (.string ⟨⟨[]⟩⟩), (.string ⟨⟨[]⟩⟩), (.string ⟨⟨[]⟩⟩), (.string ⟨⟨[]⟩⟩), (.string ⟨⟨[]⟩⟩), (.string ⟨⟨[]⟩⟩), (.string ⟨⟨[]⟩⟩), (.string ⟨⟨[]⟩⟩), (.string ⟨⟨[]⟩⟩), (.string ⟨⟨[]⟩⟩), (.string ⟨⟨[]⟩⟩), (.string ⟨⟨[]⟩⟩), (.string ⟨⟨[]⟩⟩), (.string ⟨⟨[]⟩⟩), (.string ⟨⟨[]⟩⟩), (.string ⟨⟨[]⟩⟩), (.string ⟨⟨[]⟩⟩), (.string ⟨⟨[]⟩⟩), (.string ⟨⟨[]⟩⟩), (.string ⟨⟨[]⟩⟩), (.string ⟨⟨[]⟩⟩), (.string ⟨⟨[]⟩⟩), (.string ⟨⟨[]⟩⟩), (.string ⟨⟨[]⟩⟩), (.string ⟨⟨[]⟩⟩), (.string ⟨⟨[]⟩⟩), (.string ⟨⟨[]⟩⟩), (.string ⟨⟨[]⟩⟩), (.string ⟨⟨[]⟩⟩), (.string ⟨⟨[]⟩⟩), (.string ⟨⟨[]⟩⟩), (.string ⟨⟨[]⟩⟩)] [(0, (1, (.c (.string ⟨⟨[97, 110, 100]⟩⟩)))), (1, (1, (.c (.string ⟨⟨[98, 111, 111, 108]⟩⟩)))), (2, (1, (.c (.string ⟨⟨[98, 111, 116, 116, 111, 109]⟩⟩)))), (3, (1, (.c (.string ⟨⟨[99, 108, 111, 115, 101, 100]⟩⟩)))), (4, (1, (.c (.string ⟨⟨[99, 111, 110, 102, 108, 105, 99, 116]⟩⟩)))), (5, (1, (.c (.string ⟨⟨[101, 108, 115, 101]⟩⟩)))), (6, (1, (.c (.string ⟨⟨[102, 97, 108, 115, 101]⟩⟩)))), (7, (1, (.c (.string ⟨⟨[102, 105, 114, 115, 116]⟩⟩)))), (8, (1, (.c (.string ⟨⟨[102, 108, 97, 103]⟩⟩)))), (9, (1, (.c (.string ⟨⟨[102, 108, 97, 116]⟩⟩)))), (10, (1, (.c (.string ⟨⟨[105, 102]⟩⟩)))), (11, (1, (.c (.string ⟨⟨[105, 110]⟩⟩)))), (12, (1, (.c (.string ⟨⟨[105, 110, 116]⟩⟩)))), (13, (1, (.c (.string ⟨⟨[106, 111, 105, 110]⟩⟩)))), (14, (1, (.c (.string ⟨⟨[107, 101, 121, 115]⟩⟩)))), (15, (1, (.c (.string ⟨⟨[108, 97, 116, 116, 105, 99, 101]⟩⟩)))), (16, (1, (.c (.string ⟨⟨[108, 101, 113]⟩⟩)))), (17, (1, (.c (.string ⟨⟨[108, 101, 120]⟩⟩)))), (18, (1, (.c (.string ⟨⟨[109, 97, 112]⟩⟩)))), (19, (1, (.c (.string ⟨⟨[109, 97, 120]⟩⟩)))), (20, (1, (.c (.string ⟨⟨[109, 105, 110]⟩⟩)))), (21, (1, (.c (.string ⟨⟨[110, 97, 109, 101]⟩⟩)))), (22, (1, (.c (.string ⟨⟨[110, 97, 109, 101, 115]⟩⟩)))), (23, (1, (.c (.string ⟨⟨[110, 111, 116]⟩⟩)))), (24, (1, (.c (.string ⟨⟨[110, 117, 109]⟩⟩)))), (25, (1, (.c (.string ⟨⟨[110, 117, 109, 98, 101, 114]⟩⟩)))), (26, (1, (.c (.string ⟨⟨[111, 98, 106, 101, 99, 116]⟩⟩)))), (27, (1, (.c (.string ⟨⟨[111, 110]⟩⟩)))), (28, (1, (.c (.string ⟨⟨[111, 110, 101]⟩⟩)))), (29, (1, (.c (.string ⟨⟨[111, 114]⟩⟩)))), (30, (1, (.c (.string ⟨⟨[112, 97, 105, 114]⟩⟩)))), (31, (1, (.c (.string ⟨⟨[113, 117, 101, 114, 121]⟩⟩)))), (32, (1, (.c (.string ⟨⟨[114, 101, 99]⟩⟩)))), (33, (1, (.c (.string ⟨⟨[114, 101, 103, 105, 115, 116, 101, 114]⟩⟩)))), (34, (1, (.c (.string ⟨⟨[115]⟩⟩)))), (35, (1, (.c (.string ⟨⟨[115, 101, 99, 111, 110, 100]⟩⟩)))), (36, (1, (.c (.string ⟨⟨[115, 101, 116]⟩⟩)))), (37, (1, (.c (.string ⟨⟨[115, 105, 122, 101]⟩⟩)))), (38, (1, (.c (.string ⟨⟨[115, 117, 109]⟩⟩)))), (39, (1, (.c (.string ⟨⟨[116, 104, 101, 110]⟩⟩)))), (40, (1, (.c (.string ⟨⟨[116, 114, 117, 101]⟩⟩)))), (41, (1, (.c (.string ⟨⟨[117, 112, 100, 97, 116, 101]⟩⟩)))), (42, (1, (.c (.string ⟨⟨[118, 97, 108, 117, 101, 115]⟩⟩)))), (43, (1, (.c (.string ⟨⟨[119, 114, 105, 116, 101]⟩⟩))))])),
  (.op none (.s 0) (.v (.mv (.t 0))))]
def c31s2 : SCode := (.seq (.ops c31r1) .ret)
@[go_sem] theorem c31s2eq : vc P E c31s2 σ H Q = vc P E (.seq (.ops c31r1) .ret) σ H Q := rfl
def c31 : Gx.Fn := ⟨2, c31k, (.seq (.ops c31r0) c31s2), [(.tmp (.s 0))]⟩
theorem c31ok : stripFn Tryd.prog c31k Tryd.f31 = some c31 := by kernel_rfl

/- plexusref15.signs -/
@[go_sem] def c32k : List Nat := [0]
@[go_sem] def c32r0 : List GOp := [(.op none (.s 0) (.v (.mv (.c (.slice none 0 0)))))]
@[go_sem] def c32r1 : List GOp := [(.op none .t (.bs 9 17 [(.string ⟨⟨[]⟩⟩), (.string ⟨⟨[]⟩⟩), (.string ⟨⟨[]⟩⟩), (.string ⟨⟨[]⟩⟩), (.string ⟨⟨[]⟩⟩), (.string ⟨⟨[]⟩⟩), (.string ⟨⟨[]⟩⟩), (.string ⟨⟨[]⟩⟩), (.string ⟨⟨[]⟩⟩), (.string ⟨⟨[]⟩⟩), (.string ⟨⟨[]⟩⟩), (.string ⟨⟨[]⟩⟩), (.string ⟨⟨[]⟩⟩), (.string ⟨⟨[]⟩⟩), (.string ⟨⟨[]⟩⟩), (.string ⟨⟨[]⟩⟩), (.string ⟨⟨[]⟩⟩)] [(0, (1, (.c (.string ⟨⟨[60, 61]⟩⟩)))), (1, (1, (.c (.string ⟨⟨[61, 61]⟩⟩)))), (2, (1, (.c (.string ⟨⟨[61, 62]⟩⟩)))), (3, (1, (.c (.string ⟨⟨[61]⟩⟩)))), (4, (1, (.c (.string ⟨⟨[58]⟩⟩)))), (5, (1, (.c (.string ⟨⟨[59]⟩⟩)))), (6, (1, (.c (.string ⟨⟨[44]⟩⟩)))), (7, (1, (.c (.string ⟨⟨[40]⟩⟩)))), (8, (1, (.c (.string ⟨⟨[41]⟩⟩)))), (9, (1, (.c (.string ⟨⟨[123]⟩⟩)))), (10, (1, (.c (.string ⟨⟨[125]⟩⟩)))), (11, (1, (.c (.string ⟨⟨[91]⟩⟩)))), (12, (1, (.c (.string ⟨⟨[93]⟩⟩)))), (13, (1, (.c (.string ⟨⟨[46]⟩⟩)))), (14, (1, (.c (.string ⟨⟨[43]⟩⟩)))), (15, (1, (.c (.string ⟨⟨[45]⟩⟩)))), (16, (1, (.c (.string ⟨⟨[60]⟩⟩))))])),
  (.op none (.s 0) (.v (.mv (.t 0))))]
def c32s2 : SCode := (.seq (.ops c32r1) .ret)
@[go_sem] theorem c32s2eq : vc P E c32s2 σ H Q = vc P E (.seq (.ops c32r1) .ret) σ H Q := rfl
def c32 : Gx.Fn := ⟨2, c32k, (.seq (.ops c32r0) c32s2), [(.tmp (.s 0))]⟩
theorem c32ok : stripFn Tryd.prog c32k Tryd.f32 = some c32 := by kernel_rfl

/- (*lexer.scanner).skip -/
@[go_sem] def c33k : List Nat := [0, 25]
@[go_sem] def c33r0 : List GOp := [(.op none .t (.v (.mv (.s 0)))),
  (.op none .t (.call 45 [(.t 0), (.f 46)]))]
@[go_sem] def c33r1 : List GOp := [(.op none .t (.v (.mv (.s 0)))),
  (.op none .t (.v (.nc (.t 0)))),
  (.op none .t (.v (.fa 1 (.t 0)))),
  (.op none .t (.ld none (.t 0))),
  (.op none .t (.v (.mv (.s 0)))),
  (.op none .t (.v (.nc (.t 0)))),
  (.op none .t (.v (.fa 0 (.t 0)))),
  (.op none .t (.ld none (.t 0))),
  (.op none .t (.v (.slen (.t 0)))),
  (.op none .t (.v (.bin .geq (.t 5) (.t 0)))),
  (.op none .t (.v (.mv (.t 0)))),
  (.op (some ((.t 0), (false, true))) .t (.v (.mv (.s 0)))),
  (.op (some ((.t 1), (false, false))) .t (.v (.nc (.t 0)))),
  (.op (some ((.t 2), (false, false))) .t (.v (.fa 0 (.t 0)))),
  (.op (some ((.t 3), (false, false))) .t (.ld none (.t 0))),
  (.op (some ((.t 4), (false, false))) .t (.v (.mv (.s 0)))),
  (.op (some ((.t 5), (false, false))) .t (.v (.nc (.t 0)))),
  (.op (some ((.t 6), (false, false))) .t (.v (.fa 1 (.t 0)))),
  (.op (some ((.t 7), (false, false))) .t (.ld none (.t 0))),
  (.op (some ((.t 8), (false, false))) .t (.v (.six (.t 4) (.t 0)))),
  (.op (some ((.t 9), (false, false))) .t (.v (.bin .neq (.t 0) (.c (.int .u8 35))))),
  (.op none (.s 1) (.v (.pick (.t 10) (.c (.bool true)) (.t 0))))]
def c33s2 : SCode := (.cond (.s 1) .ret .skip)
@[go_sem] theorem c33s2eq : vc P E c33s2 σ H Q = vc P E (.cond (.s 1) .ret .skip) σ H Q := rfl
@[go_sem] def c33r3 : List GOp := [(.op none .t (.v (.mv (.s 0)))),
  (.op none .t (.call 45 [(.t 0), (.f 47)]))]
def c33s4 : SCode := (.ops c33r3)
@[go_sem] theorem c33s4eq : vc P E c33s4 σ H Q = vc P E (.ops c33r3) σ H Q := rfl
def c33s5 : SCode := (.seq (.seq (.dq c33r1) c33s2) c33s4)
@[go_sem] theorem c33s5eq : vc P E c33s5 σ H Q = vc P E (.seq (.seq (.dq c33r1) c33s2) c33s4) σ H Q := rfl
def c33s6 : SCode := (.block 1 (.seq (.ops c33r0) c33s5))
@[go_sem] theorem c33s6eq : vc P E c33s6 σ H Q = vc P E (.block 1 (.seq (.ops c33r0) c33s5)) σ H Q := rfl
def c33 : Gx.Fn := ⟨28, c33k, (.block 0 (.loop c33k c33s6)), []⟩
theorem c33ok : stripFn Tryd.prog c33k Tryd.f33 = some c33 := by kernel_rfl

/- (*lexer.scanner).token -/
@[go_sem] def c34k : List Nat := [0, 2, 3, 4, 5, 6, 7, 8, 9, 24, 64, 85, 95, 105, 109, 111, 123, 135, 140, 174, 186]
@[go_sem] def c34r0 : List GOp := [(.op none (.s 1) (.al 25 [(.int .i64 0), (.string ⟨⟨[]⟩⟩), (.int .i64 0), (.int .i64 0)])),
  (.op none (.s 2) (.v (.mv (.c (.int .i64 0)))))]
@[go_sem] def c34r1 : List GOp := [(.op none .t (.v (.mv (.s 0)))),
  (.op none .t (.v (.nc (.t 0)))),
  (.op none .t (.v (.fa 1 (.t 0)))),
  (.op none .t (.ld none (.t 0))),
  (.op none .t (.v (.bld [(.int .i64 0), (.string ⟨⟨[]⟩⟩), (.int .i64 0), (.int .i64 0)] [(3, (1, (.t 0)))]))),
  (.op none (.s 3) (.al 25 [(.int .i64 0), (.string ⟨⟨[]⟩⟩), (.int .i64 0), (.int .i64 0)])),
  (.op none .no (.st 4 (.s 3) (.t 0)))]
@[go_sem] def c34r2 : List GOp := [(.op none .t (.v (.mv (.s 0)))),
  (.op none .t (.v (.nc (.t 0)))),
  (.op none .t (.v (.fa 1 (.t 0)))),
  (.op none .t (.ld none (.t 0))),
  (.op none .t (.v (.mv (.s 0)))),
  (.op none .t (.v (.nc (.t 0)))),
  (.op none .t (.v (.fa 0 (.t 0)))),
  (.op none .t (.ld none (.t 0))),
  (.op none .t (.v (.slen (.t 0)))),
  (.op none (.s 9) (.v (.bin .eql (.t 5) (.t 0))))]
@[go_sem] def c34r3 : List GOp := [(.op none .t (.v (.fa 0 (.s 3)))),
  (.op none .no (.st 1 (.t 0) (.c (.int .i64 6))))]
@[go_sem] def c34r4 : List GOp := [(.op none .t (.ld (some 4) (.s 3))),
  (.op none .no (.st 4 (.s 1) (.t 0))),
  (.op none (.s 2) (.v (.mv (.c (.int .i64 0)))))]
def c34s5 : SCode := (.seq (.ops c34r4) .ret)
@[go_sem] theorem c34s5eq : vc P E c34s5 σ H Q = vc P E (.seq (.ops c34r4) .ret) σ H Q := rfl
def c34s6 : SCode := (.seq (.ops c34r3) c34s5)
@[go_sem] theorem c34s6eq : vc P E c34s6 σ H Q = vc P E (.seq (.ops c34r3) c34s5) σ H Q := rfl
def c34s7 : SCode := (.cond (.s 9) c34s6 .skip)
@[go_sem] theorem c34s7eq : vc P E c34s7 σ H Q = vc P E (.cond (.s 9) c34s6 .skip) σ H Q := rfl
@[go_sem] def c34r8 : List GOp := [(.op none .t (.v (.mv (.s 0)))),
  (.op none .t (.v (.nc (.t 0)))),
  (.op none .t (.v (.fa 0 (.t 0)))),
  (.op none .t (.ld none (.t 0))),
  (.op none .t (.v (.mv (.s 0)))),
  (.op none .t (.v (.nc (.t 0)))),
  (.op none .t (.v (.fa 1 (.t 0)))),
  (.op none .t (.ld none (.t 0))),
  (.op none .t (.v (.six (.t 4) (.t 0)))),
  (.op none (.s 4) (.v (.mv (.t 0))))]
@[go_sem] def c34r9 : List GOp := [(.op none .t (.v (.mv (.s 4)))),
  (.op none .t (.call 48 [(.t 0)])),
  (.op none (.s 12) (.v (.mv (.t 0))))]
@[go_sem] def c34r10 : List GOp := [(.op none .t (.v (.mv (.s 0)))),
  (.op none .t (.call 45 [(.t 0), (.f 49)])),
  (.op none .t (.v (.fa 1 (.s 3)))),
  (.op none .no (.st 1 (.t 0) (.t 1)))]
@[go_sem] def c34r11 : List GOp := [(.op none .t (.v (.fa 0 (.s 3)))),
  (.op none .no (.st 1 (.t 0) (.c (.int .i64 1))))]
@[go_sem] def c34r12 : List GOp := [(.op none .t (.v (.fa 1 (.s 3)))),
  (.op none .t (.ld none (.t 0))),
  (.op none .t (.v (.slen (.t 0)))),
  (.op none (.s 13) (.v (.bin .gtr (.t 0) (.c (.int .i64 16)))))]
@[go_sem] def c34r13 : List GOp := [(.op none .t (.ld (some 4) (.s 3))),
  (.op none .no (.st 4 (.s 1) (.t 0))),
  (.op none (.s 2) (.v (.mv (.c (.int .i64 3)))))]
def c34s14 : SCode := (.seq (.ops c34r13) .ret)
@[go_sem] theorem c34s14eq : vc P E c34s14 σ H Q = vc P E (.seq (.ops c34r13) .ret) σ H Q := rfl
def c34s15 : SCode := (.cond (.s 13) c34s14 .skip)
@[go_sem] theorem c34s15eq : vc P E c34s15 σ H Q = vc P E (.cond (.s 13) c34s14 .skip) σ H Q := rfl
@[go_sem] def c34r16 : List GOp := [(.op none .t (.v (.fa 1 (.s 3)))),
  (.op none .t (.ld none (.t 0))),
  (.op none (.s 14) (.call 15 [(.t 0)]))]
@[go_sem] def c34r17 : List GOp := [(.op none .t (.v (.fa 0 (.s 3)))),
  (.op none .no (.st 1 (.t 0) (.c (.int .i64 2))))]
def c34s18 : SCode := (.cond (.s 14) (.ops c34r17) .skip)
@[go_sem] theorem c34s18eq : vc P E c34s18 σ H Q = vc P E (.cond (.s 14) (.ops c34r17) .skip) σ H Q := rfl
def c34s19 : SCode := (.seq (.ops c34r16) c34s18)
@[go_sem] theorem c34s19eq : vc P E c34s19 σ H Q = vc P E (.seq (.ops c34r16) c34s18) σ H Q := rfl
def c34s20 : SCode := (.seq (.seq (.ops c34r12) c34s15) c34s19)
@[go_sem] theorem c34s20eq : vc P E c34s20 σ H Q = vc P E (.seq (.seq (.ops c34r12) c34s15) c34s19) σ H Q := rfl
def c34s21 : SCode := (.seq (.ops c34r11) c34s20)
@[go_sem] theorem c34s21eq : vc P E c34s21 σ H Q = vc P E (.seq (.ops c34r11) c34s20) σ H Q := rfl
def c34s22 : SCode := (.seq (.ops c34r10) c34s21)
@[go_sem] theorem c34s22eq : vc P E c34s22 σ H Q = vc P E (.seq (.ops c34r10) c34s21) σ H Q := rfl
@[go_sem] def c34r23 : List GOp := [(.op none .t (.v (.mv (.s 4)))),
  (.op none .t (.call 50 [(.t 0)])),
  (.op none (.s 15) (.v (.mv (.t 0))))]
@[go_sem] def c34r24 : List GOp := [(.op none .t (.v (.mv (.s 0)))),
  (.op none .t (.call 45 [(.t 0), (.f 50)])),
  (.op none (.s 5) (.v (.mv (.t 0))))]
@[go_sem] def c34r25 : List GOp := [(.op none .t (.v (.mv (.s 5)))),
  (.op none .t (.v (.slen (.t 0)))),
  (.op none .t (.v (.bin .gtr (.t 0) (.c (.int .i64 1))))),
  (.op none .t (.v (.mv (.t 0)))),
  (.op (some ((.t 0), (true, true))) .t (.v (.mv (.s 5)))),
  (.op (some ((.t 1), (true, false))) .t (.v (.six (.t 0) (.c (.int .i64 0))))),
  (.op (some ((.t 2), (true, false))) .t (.v (.bin .eql (.t 0) (.c (.int .u8 48))))),
  (.op none (.s 16) (.v (.pick (.t 3) (.t 0) (.c (.bool false)))))]
@[go_sem] def c34r26 : List GOp := [(.op none .t (.ld (some 4) (.s 3))),
  (.op none .no (.st 4 (.s 1) (.t 0))),
  (.op none (.s 2) (.v (.mv (.c (.int .i64 2)))))]
def c34s27 : SCode := (.seq (.ops c34r26) .ret)
@[go_sem] theorem c34s27eq : vc P E c34s27 σ H Q = vc P E (.seq (.ops c34r26) .ret) σ H Q := rfl
def c34s28 : SCode := (.cond (.s 16) c34s27 .skip)
@[go_sem] theorem c34s28eq : vc P E c34s28 σ H Q = vc P E (.cond (.s 16) c34s27 .skip) σ H Q := rfl
@[go_sem] def c34r29 : List GOp := [(.op none .t (.v (.mv (.s 5)))),
  (.op none .t (.call 51 [(.t 0), (.c (.int .i64 10)), (.c (.int .i64 64))])),
  (.op none .t (.v (.mv (.t 0)))),
  (.op none .t (.v (.ext (.t 0) 0))),
  (.op none .t (.v (.ext (.t 1) 1))),
  (.op none (.s 6) (.v (.mv (.t 1)))),
  (.op none (.s 7) (.v (.mv (.t 0))))]
@[go_sem] def c34r30 : List GOp := [(.op none .t (.v (.mv (.s 7)))),
  (.op none .t (.v (.isnilf true (.t 0)))),
  (.op none .t (.v (.mv (.t 0)))),
  (.sel (.t 0) false [(.op (.v (.mv (.s 6)))), (.op (.v (.bin .gtr (.t 0) (.c (.int .i64 1000000000000000)))))] (.s 17) (.c (.bool true)) (.t 0))]
@[go_sem] def c34r31 : List GOp := [(.op none .t (.ld (some 4) (.s 3))),
  (.op none .no (.st 4 (.s 1) (.t 0))),
  (.op none (.s 2) (.v (.mv (.c (.int .i64 5)))))]
def c34s32 : SCode := (.seq (.ops c34r31) .ret)
@[go_sem] theorem c34s32eq : vc P E c34s32 σ H Q = vc P E (.seq (.ops c34r31) .ret) σ H Q := rfl
def c34s33 : SCode := (.cond (.s 17) c34s32 .skip)
@[go_sem] theorem c34s33eq : vc P E c34s33 σ H Q = vc P E (.cond (.s 17) c34s32 .skip) σ H Q := rfl
@[go_sem] def c34r34 : List GOp := [(.op none .t (.v (.mv (.s 6)))),
  (.op none .t (.v (.fa 0 (.s 3)))),
  (.op none .no (.st 1 (.t 0) (.c (.int .i64 3)))),
  (.op none .t (.v (.fa 2 (.s 3)))),
  (.op none .no (.st 1 (.t 0) (.t 2)))]
def c34s35 : SCode := (.ops c34r34)
@[go_sem] theorem c34s35eq : vc P E c34s35 σ H Q = vc P E (.ops c34r34) σ H Q := rfl
def c34s36 : SCode := (.seq (.seq (.ops c34r30) c34s33) c34s35)
@[go_sem] theorem c34s36eq : vc P E c34s36 σ H Q = vc P E (.seq (.seq (.ops c34r30) c34s33) c34s35) σ H Q := rfl
def c34s37 : SCode := (.seq (.ops c34r29) c34s36)
@[go_sem] theorem c34s37eq : vc P E c34s37 σ H Q = vc P E (.seq (.ops c34r29) c34s36) σ H Q := rfl
def c34s38 : SCode := (.seq (.seq (.ops c34r25) c34s28) c34s37)
@[go_sem] theorem c34s38eq : vc P E c34s38 σ H Q = vc P E (.seq (.seq (.ops c34r25) c34s28) c34s37) σ H Q := rfl
def c34s39 : SCode := (.seq (.ops c34r24) c34s38)
@[go_sem] theorem c34s39eq : vc P E c34s39 σ H Q = vc P E (.seq (.ops c34r24) c34s38) σ H Q := rfl
@[go_sem] def c34r40 : List GOp := [(.op none .t (.v (.mv (.s 4)))),
  (.op none .t (.v (.bin .eql (.t 0) (.c (.int .u8 39))))),
  (.op none (.s 18) (.v (.mv (.t 0))))]
@[go_sem] def c34r41 : List GOp := [(.op none .t (.v (.mv (.s 0)))),
  (.op none .t (.v (.nc (.t 0)))),
  (.op none .t (.v (.fa 1 (.t 0)))),
  (.op none .t (.ld none (.t 0))),
  (.op none .t (.v (.bin .add (.t 0) (.c (.int .i64 1))))),
  (.op none .t (.v (.nc (.t 4)))),
  (.op none .t (.v (.fa 1 (.t 0)))),
  (.op none .no (.st 1 (.t 0) (.t 2)))]
@[go_sem] def c34r42 : List GOp := [(.op none .t (.v (.mv (.s 0)))),
  (.op none .t (.call 45 [(.t 0), (.f 49)])),
  (.op none .t (.v (.fa 1 (.s 3)))),
  (.op none .no (.st 1 (.t 0) (.t 1)))]
@[go_sem] def c34r43 : List GOp := [(.op none .t (.v (.mv (.s 0)))),
  (.op none .t (.v (.nc (.t 0)))),
  (.op none .t (.v (.fa 1 (.t 0)))),
  (.op none .t (.ld none (.t 0))),
  (.op none .t (.v (.mv (.s 0)))),
  (.op none .t (.v (.nc (.t 0)))),
  (.op none .t (.v (.fa 0 (.t 0)))),
  (.op none .t (.ld none (.t 0))),
  (.op none .t (.v (.slen (.t 0)))),
  (.op none .t (.v (.bin .eql (.t 5) (.t 0)))),
  (.op none .t (.v (.mv (.t 0)))),
  (.op (some ((.t 0), (false, true))) .t (.v (.mv (.s 0)))),
  (.op (some ((.t 1), (false, false))) .t (.v (.nc (.t 0)))),
  (.op (some ((.t 2), (false, false))) .t (.v (.fa 0 (.t 0)))),
  (.op (some ((.t 3), (false, false))) .t (.ld none (.t 0))),
  (.op (some ((.t 4), (false, false))) .t (.v (.mv (.s 0)))),
  (.op (some ((.t 5), (false, false))) .t (.v (.nc (.t 0)))),
  (.op (some ((.t 6), (false, false))) .t (.v (.fa 1 (.t 0)))),
  (.op (some ((.t 7), (false, false))) .t (.ld none (.t 0))),
  (.op (some ((.t 8), (false, false))) .t (.v (.six (.t 4) (.t 0)))),
  (.op (some ((.t 9), (false, false))) .t (.v (.bin .neq (.t 0) (.c (.int .u8 39))))),
  (.op none (.s 19) (.v (.pick (.t 10) (.c (.bool true)) (.t 0))))]
@[go_sem] def c34r44 : List GOp := [(.op none .t (.ld (some 4) (.s 3))),
  (.op none .no (.st 4 (.s 1) (.t 0))),
  (.op none (.s 2) (.v (.mv (.c (.int .i64 2)))))]
def c34s45 : SCode := (.seq (.ops c34r44) .ret)
@[go_sem] theorem c34s45eq : vc P E c34s45 σ H Q = vc P E (.seq (.ops c34r44) .ret) σ H Q := rfl
def c34s46 : SCode := (.cond (.s 19) c34s45 .skip)
@[go_sem] theorem c34s46eq : vc P E c34s46 σ H Q = vc P E (.cond (.s 19) c34s45 .skip) σ H Q := rfl
@[go_sem] def c34r47 : List GOp := [(.op none .t (.v (.mv (.s 0)))),
  (.op none .t (.v (.nc (.t 0)))),
  (.op none .t (.v (.fa 1 (.t 0)))),
  (.op none .t (.ld none (.t 0))),
  (.op none .t (.v (.bin .add (.t 0) (.c (.int .i64 1))))),
  (.op none .t (.v (.nc (.t 4)))),
  (.op none .t (.v (.fa 1 (.t 0)))),
  (.op none .no (.st 1 (.t 0) (.t 2)))]
@[go_sem] def c34r48 : List GOp := [(.op none .t (.v (.fa 1 (.s 3)))),
  (.op none .t (.ld none (.t 0))),
  (.op none .t (.call 52 [(.t 0)])),
  (.op none (.s 20) (.v (.un .not (.t 0))))]
@[go_sem] def c34r49 : List GOp := [(.op none .t (.ld (some 4) (.s 3))),
  (.op none .no (.st 4 (.s 1) (.t 0))),
  (.op none (.s 2) (.v (.mv (.c (.int .i64 3)))))]
def c34s50 : SCode := (.seq (.ops c34r49) .ret)
@[go_sem] theorem c34s50eq : vc P E c34s50 σ H Q = vc P E (.seq (.ops c34r49) .ret) σ H Q := rfl
def c34s51 : SCode := (.cond (.s 20) c34s50 .skip)
@[go_sem] theorem c34s51eq : vc P E c34s51 σ H Q = vc P E (.cond (.s 20) c34s50 .skip) σ H Q := rfl
@[go_sem] def c34r52 : List GOp := [(.op none .t (.v (.fa 0 (.s 3)))),
  (.op none .no (.st 1 (.t 0) (.c (.int .i64 4))))]
def c34s53 : SCode := (.ops c34r52)
@[go_sem] theorem c34s53eq : vc P E c34s53 σ H Q = vc P E (.ops c34r52) σ H Q := rfl
def c34s54 : SCode := (.seq (.seq (.ops c34r48) c34s51) c34s53)
@[go_sem] theorem c34s54eq : vc P E c34s54 σ H Q = vc P E (.seq (.seq (.ops c34r48) c34s51) c34s53) σ H Q := rfl
def c34s55 : SCode := (.seq (.ops c34r47) c34s54)
@[go_sem] theorem c34s55eq : vc P E c34s55 σ H Q = vc P E (.seq (.ops c34r47) c34s54) σ H Q := rfl
def c34s56 : SCode := (.seq (.seq (.dq c34r43) c34s46) c34s55)
@[go_sem] theorem c34s56eq : vc P E c34s56 σ H Q = vc P E (.seq (.seq (.dq c34r43) c34s46) c34s55) σ H Q := rfl
def c34s57 : SCode := (.seq (.ops c34r42) c34s56)
@[go_sem] theorem c34s57eq : vc P E c34s57 σ H Q = vc P E (.seq (.ops c34r42) c34s56) σ H Q := rfl
def c34s58 : SCode := (.seq (.ops c34r41) c34s57)
@[go_sem] theorem c34s58eq : vc P E c34s58 σ H Q = vc P E (.seq (.ops c34r41) c34s57) σ H Q := rfl
@[go_sem] def c34r59 : List GOp := [(.op none (.s 8) (.v (.mv (.c (.int .i64 2)))))]
@[go_sem] def c34d60 : DT := (.rd none .t (.v (.mv (.s 0))) [26] (.rd none .t (.v (.nc (.t 0))) [26] (.rd none .t (.v (.fa 1 (.t 0))) [26] (.rd none .t (.ld none (.t 0)) [26] (.rd none .t (.v (.bin .add (.t 0) (.c (.int .i64 2)))) [26] (.rd none .t (.v (.mv (.s 0))) [26] (.rd none .t (.v (.nc (.t 0))) [26] (.rd none .t (.v (.fa 0 (.t 0))) [26] (.rd none .t (.ld none (.t 0)) [26] (.rd none .t (.v (.slen (.t 0))) [26] (.rd none .t (.v (.bin .gtr (.t 5) (.t 0))) [26] (.rd none .t (.v (.mv (.t 0))) [26] (.rd (some ((.t 0), false)) .t (.v (.mv (.s 0))) [26] (.rd (some ((.t 1), false)) .t (.v (.nc (.t 0))) [26] (.rd (some ((.t 2), false)) .t (.v (.fa 0 (.t 0))) [26] (.rd (some ((.t 3), false)) .t (.ld none (.t 0)) [26] (.rd (some ((.t 4), false)) .t (.v (.mv (.s 0))) [26] (.rd (some ((.t 5), false)) .t (.v (.nc (.t 0))) [26] (.rd (some ((.t 6), false)) .t (.v (.fa 1 (.t 0))) [26] (.rd (some ((.t 7), false)) .t (.ld none (.t 0)) [26] (.rd (some ((.t 8), false)) .t (.v (.mv (.s 0))) [26] (.rd (some ((.t 9), false)) .t (.v (.nc (.t 0))) [26] (.rd (some ((.t 10), false)) .t (.v (.fa 1 (.t 0))) [26] (.rd (some ((.t 11), false)) .t (.ld none (.t 0)) [26] (.rd (some ((.t 12), false)) .t (.v (.bin .add (.t 0) (.c (.int .i64 2)))) [26] (.rd (some ((.t 13), false)) .t (.v (.ssl (.t 9) (some (.t 5)) (some (.t 0)))) [26] (.ef 26 (some ((.t 14), false)) .t (.call 17 [(.t 0)]) (.rd (some ((.t 15), false)) .t (.v (.un .not (.t 0))) [] (.rd none (.s 10) (.v (.pick (.t 16) (.c (.bool true)) (.t 0))) [] .done)))))))))))))))))))))))))))))
@[go_sem] def c34r61 : List GOp := [(.op none (.s 8) (.v (.mv (.c (.int .i64 1)))))]
def c34s62 : SCode := (.cond (.s 10) (.ops c34r61) .skip)
@[go_sem] theorem c34s62eq : vc P E c34s62 σ H Q = vc P E (.cond (.s 10) (.ops c34r61) .skip) σ H Q := rfl
@[go_sem] def c34d63 : DT := (.rd none .t (.v (.mv (.s 0))) [18] (.rd none .t (.v (.nc (.t 0))) [18] (.rd none .t (.v (.fa 0 (.t 0))) [18] (.rd none .t (.ld none (.t 0)) [18] (.rd none .t (.v (.mv (.s 0))) [18] (.rd none .t (.v (.nc (.t 0))) [18] (.rd none .t (.v (.fa 1 (.t 0))) [18] (.rd none .t (.ld none (.t 0)) [18] (.rd none .t (.v (.mv (.s 0))) [18] (.rd none .t (.v (.nc (.t 0))) [18] (.rd none .t (.v (.fa 1 (.t 0))) [18] (.rd none .t (.ld none (.t 0)) [18] (.rd none .t (.v (.mv (.s 8))) [18] (.rd none .t (.v (.bin .add (.t 1) (.t 0))) [18] (.rd none .t (.v (.ssl (.t 10) (some (.t 6)) (some (.t 0)))) [18] (.rd none .t (.v (.fa 0 (.s 3))) [16, 18] (.ef 16 none .no (.st 1 (.t 0) (.c (.int .i64 5))) (.rd none .t (.v (.fa 1 (.s 3))) [18] (.ef 18 none .no (.st 1 (.t 0) (.t 2)) .done)))))))))))))))))))
@[go_sem] def c34r64 : List GOp := [(.op none .t (.v (.fa 1 (.s 3)))),
  (.op none .t (.ld none (.t 0))),
  (.op none .t (.call 17 [(.t 0)])),
  (.op none (.s 11) (.v (.un .not (.t 0))))]
@[go_sem] def c34r65 : List GOp := [(.op none .t (.ld (some 4) (.s 3))),
  (.op none .no (.st 4 (.s 1) (.t 0))),
  (.op none (.s 2) (.v (.mv (.c (.int .i64 2)))))]
def c34s66 : SCode := (.seq (.ops c34r65) .ret)
@[go_sem] theorem c34s66eq : vc P E c34s66 σ H Q = vc P E (.seq (.ops c34r65) .ret) σ H Q := rfl
def c34s67 : SCode := (.cond (.s 11) c34s66 .skip)
@[go_sem] theorem c34s67eq : vc P E c34s67 σ H Q = vc P E (.cond (.s 11) c34s66 .skip) σ H Q := rfl
@[go_sem] def c34r68 : List GOp := [(.op none .t (.v (.mv (.s 0)))),
  (.op none .t (.v (.nc (.t 0)))),
  (.op none .t (.v (.fa 1 (.t 0)))),
  (.op none .t (.ld none (.t 0))),
  (.op none .t (.v (.mv (.s 8)))),
  (.op none .t (.v (.bin .add (.t 1) (.t 0)))),
  (.op none .t (.v (.nc (.t 5)))),
  (.op none .t (.v (.fa 1 (.t 0)))),
  (.op none .no (.st 1 (.t 0) (.t 2)))]
def c34s69 : SCode := (.ops c34r68)
@[go_sem] theorem c34s69eq : vc P E c34s69 σ H Q = vc P E (.ops c34r68) σ H Q := rfl
def c34s70 : SCode := (.seq (.seq (.ops c34r64) c34s67) c34s69)
@[go_sem] theorem c34s70eq : vc P E c34s70 σ H Q = vc P E (.seq (.seq (.ops c34r64) c34s67) c34s69) σ H Q := rfl
def c34s71 : SCode := (.seq (.de c34d63) c34s70)
@[go_sem] theorem c34s71eq : vc P E c34s71 σ H Q = vc P E (.seq (.de c34d63) c34s70) σ H Q := rfl
def c34s72 : SCode := (.seq (.seq (.de c34d60) c34s62) c34s71)
@[go_sem] theorem c34s72eq : vc P E c34s72 σ H Q = vc P E (.seq (.seq (.de c34d60) c34s62) c34s71) σ H Q := rfl
def c34s73 : SCode := (.seq (.ops c34r59) c34s72)
@[go_sem] theorem c34s73eq : vc P E c34s73 σ H Q = vc P E (.seq (.ops c34r59) c34s72) σ H Q := rfl
def c34s74 : SCode := (.cond (.s 18) c34s58 c34s73)
@[go_sem] theorem c34s74eq : vc P E c34s74 σ H Q = vc P E (.cond (.s 18) c34s58 c34s73) σ H Q := rfl
def c34s75 : SCode := (.seq (.ops c34r40) c34s74)
@[go_sem] theorem c34s75eq : vc P E c34s75 σ H Q = vc P E (.seq (.ops c34r40) c34s74) σ H Q := rfl
def c34s76 : SCode := (.cond (.s 15) c34s39 c34s75)
@[go_sem] theorem c34s76eq : vc P E c34s76 σ H Q = vc P E (.cond (.s 15) c34s39 c34s75) σ H Q := rfl
def c34s77 : SCode := (.seq (.ops c34r23) c34s76)
@[go_sem] theorem c34s77eq : vc P E c34s77 σ H Q = vc P E (.seq (.ops c34r23) c34s76) σ H Q := rfl
def c34s78 : SCode := (.cond (.s 12) c34s22 c34s77)
@[go_sem] theorem c34s78eq : vc P E c34s78 σ H Q = vc P E (.cond (.s 12) c34s22 c34s77) σ H Q := rfl
@[go_sem] def c34r79 : List GOp := [(.op none .t (.ld (some 4) (.s 3))),
  (.op none .no (.st 4 (.s 1) (.t 0))),
  (.op none (.s 2) (.v (.mv (.c (.int .i64 0)))))]
def c34s80 : SCode := (.seq (.ops c34r79) .ret)
@[go_sem] theorem c34s80eq : vc P E c34s80 σ H Q = vc P E (.seq (.ops c34r79) .ret) σ H Q := rfl
def c34s81 : SCode := (.seq (.block 0 (.seq (.ops c34r9) c34s78)) c34s80)
@[go_sem] theorem c34s81eq : vc P E c34s81 σ H Q = vc P E (.seq (.block 0 (.seq (.ops c34r9) c34s78)) c34s80) σ H Q := rfl
def c34s82 : SCode := (.seq (.dq c34r8) c34s81)
@[go_sem] theorem c34s82eq : vc P E c34s82 σ H Q = vc P E (.seq (.dq c34r8) c34s81) σ H Q := rfl
def c34s83 : SCode := (.seq (.seq (.dq c34r2) c34s7) c34s82)
@[go_sem] theorem c34s83eq : vc P E c34s83 σ H Q = vc P E (.seq (.seq (.dq c34r2) c34s7) c34s82) σ H Q := rfl
def c34s84 : SCode := (.seq (.ops c34r1) c34s83)
@[go_sem] theorem c34s84eq : vc P E c34s84 σ H Q = vc P E (.seq (.ops c34r1) c34s83) σ H Q := rfl
def c34 : Gx.Fn := ⟨190, c34k, (.seq (.ops c34r0) c34s84), [(.cell (.s 1) (some 4)), (.tmp (.s 2))]⟩
theorem c34ok : stripFn Tryd.prog c34k Tryd.f34 = some c34 := by kernel_rfl

/- plexusref15.fault -/
@[go_sem] def c35k : List Nat := [0, 1, 4, 5, 6]
@[go_sem] def c35r0 : List GOp := [(.op none (.s 2) (.al 25 [(.int .i64 0), (.string ⟨⟨[]⟩⟩), (.int .i64 0), (.int .i64 0)])),
  (.op none (.s 3) (.v (.mv (.c (.int .i64 0))))),
  (.op none (.s 4) (.al 28 [(.int .i64 0), (.int .i64 0)]))]
@[go_sem] def c35r1 : List GOp := [(.op none .t (.v (.bld [(.int .i64 0), (.string ⟨⟨[]⟩⟩), (.int .i64 0), (.int .i64 0)] []))),
  (.op none .t (.v (.mv (.s 0)))),
  (.op none .t (.v (.mv (.s 1)))),
  (.op none .t (.v (.bld [(.int .i64 0), (.int .i64 0)] [(0, (1, (.t 1))), (1, (1, (.t 0)))]))),
  (.op none .no (.st 4 (.s 2) (.t 3))),
  (.op none (.s 3) (.v (.mv (.c (.int .i64 0))))),
  (.op none .no (.st 2 (.s 4) (.t 0)))]
def c35s2 : SCode := (.seq (.ops c35r1) .ret)
@[go_sem] theorem c35s2eq : vc P E c35s2 σ H Q = vc P E (.seq (.ops c35r1) .ret) σ H Q := rfl
def c35 : Gx.Fn := ⟨11, c35k, (.seq (.ops c35r0) c35s2), [(.cell (.s 2) (some 4)), (.tmp (.s 3)), (.cell (.s 4) (some 2))]⟩
theorem c35ok : stripFn Tryd.prog c35k Tryd.f35 = some c35 := by kernel_rfl

/- plexusref15.skip -/
@[go_sem] def c36k : List Nat := [0, 1, 4, 20, 24, 36]
@[go_sem] def c36r0 : List GOp := [(.op none (.s 2) (.v (.mv (.c (.int .i64 0)))))]
@[go_sem] def c36r1 : List GOp := [(.op none .t (.v (.mv (.s 1)))),
  (.op none .t (.v (.mv (.s 0)))),
  (.op none .t (.v (.slen (.t 0)))),
  (.op none .t (.v (.bin .lss (.t 2) (.t 0)))),
  (.op none .t (.v (.mv (.t 0)))),
  (.op (some ((.t 0), (true, true))) .t (.v (.mv (.s 0)))),
  (.op (some ((.t 1), (true, false))) .t (.v (.mv (.s 1)))),
  (.op (some ((.t 2), (true, false))) .t (.v (.six (.t 1) (.t 0)))),
  (.op (some ((.t 3), (true, false))) .t (.call 53 [(.t 0)])),
  (.op (some ((.t 4), (true, false))) .t (.v (.mv (.t 0)))),
  (.op (some ((.t 0), (false, true))) .t (.v (.mv (.s 0)))),
  (.op (some ((.t 1), (false, false))) .t (.v (.mv (.s 1)))),
  (.op (some ((.t 2), (false, false))) .t (.v (.six (.t 1) (.t 0)))),
  (.op (some ((.t 3), (false, false))) .t (.v (.bin .eql (.t 0) (.c (.int .u8 35))))),
  (.op (some ((.t 9), (true, true))) .t (.v (.pick (.t 4) (.c (.bool true)) (.t 0)))),
  (.op none (.s 3) (.v (.pick (.t 10) (.t 0) (.c (.bool false)))))]
def c36s2 : SCode := (.cond (.s 3) .skip (.exit 0))
@[go_sem] theorem c36s2eq : vc P E c36s2 σ H Q = vc P E (.cond (.s 3) .skip (.exit 0)) σ H Q := rfl
@[go_sem] def c36r3 : List GOp := [(.op none .t (.v (.mv (.s 0)))),
  (.op none .t (.v (.mv (.s 1)))),
  (.op none .t (.v (.six (.t 1) (.t 0)))),
  (.op none (.s 4) (.v (.bin .neq (.t 0) (.c (.int .u8 35)))))]
@[go_sem] def c36r4 : List GOp := [(.op none .t (.v (.mv (.s 1)))),
  (.op none .t (.v (.bin .add (.t 0) (.c (.int .i64 1))))),
  (.op none (.s 1) (.v (.mv (.t 0))))]
def c36s5 : SCode := (.seq (.ops c36r4) (.exit 1))
@[go_sem] theorem c36s5eq : vc P E c36s5 σ H Q = vc P E (.seq (.ops c36r4) (.exit 1)) σ H Q := rfl
def c36s6 : SCode := (.cond (.s 4) c36s5 .skip)
@[go_sem] theorem c36s6eq : vc P E c36s6 σ H Q = vc P E (.cond (.s 4) c36s5 .skip) σ H Q := rfl
@[go_sem] def c36r7 : List GOp := [(.op none .t (.v (.mv (.s 1)))),
  (.op none .t (.v (.mv (.s 0)))),
  (.op none .t (.v (.slen (.t 0)))),
  (.op none .t (.v (.bin .lss (.t 2) (.t 0)))),
  (.op none .t (.v (.mv (.t 0)))),
  (.op (some ((.t 0), (true, true))) .t (.v (.mv (.s 0)))),
  (.op (some ((.t 1), (true, false))) .t (.v (.mv (.s 1)))),
  (.op (some ((.t 2), (true, false))) .t (.v (.six (.t 1) (.t 0)))),
  (.op (some ((.t 3), (true, false))) .t (.v (.bin .neq (.t 0) (.c (.int .u8 10))))),
  (.op none (.s 5) (.v (.pick (.t 4) (.t 0) (.c (.bool false)))))]
def c36s8 : SCode := (.cond (.s 5) .skip (.exit 2))
@[go_sem] theorem c36s8eq : vc P E c36s8 σ H Q = vc P E (.cond (.s 5) .skip (.exit 2)) σ H Q := rfl
@[go_sem] def c36r9 : List GOp := [(.op none .t (.v (.mv (.s 1)))),
  (.op none .t (.v (.bin .add (.t 0) (.c (.int .i64 1))))),
  (.op none (.s 1) (.v (.mv (.t 0))))]
def c36s10 : SCode := (.seq (.seq (.ops c36r7) c36s8) (.block 3 (.ops c36r9)))
@[go_sem] theorem c36s10eq : vc P E c36s10 σ H Q = vc P E (.seq (.seq (.ops c36r7) c36s8) (.block 3 (.ops c36r9))) σ H Q := rfl
def c36s11 : SCode := (.block 2 (.loop c36k c36s10))
@[go_sem] theorem c36s11eq : vc P E c36s11 σ H Q = vc P E (.block 2 (.loop c36k c36s10)) σ H Q := rfl
def c36s12 : SCode := (.block 1 (.seq (.seq (.ops c36r3) c36s6) c36s11))
@[go_sem] theorem c36s12eq : vc P E c36s12 σ H Q = vc P E (.block 1 (.seq (.seq (.ops c36r3) c36s6) c36s11)) σ H Q := rfl
def c36s13 : SCode := (.seq (.seq (.ops c36r1) c36s2) c36s12)
@[go_sem] theorem c36s13eq : vc P E c36s13 σ H Q = vc P E (.seq (.seq (.ops c36r1) c36s2) c36s12) σ H Q := rfl
@[go_sem] def c36r14 : List GOp := [(.op none .t (.v (.mv (.s 1)))),
  (.op none (.s 2) (.v (.mv (.t 0))))]
def c36s15 : SCode := (.seq (.ops c36r14) .ret)
@[go_sem] theorem c36s15eq : vc P E c36s15 σ H Q = vc P E (.seq (.ops c36r14) .ret) σ H Q := rfl
def c36s16 : SCode := (.seq (.block 0 (.loop c36k c36s13)) c36s15)
@[go_sem] theorem c36s16eq : vc P E c36s16 σ H Q = vc P E (.seq (.block 0 (.loop c36k c36s13)) c36s15) σ H Q := rfl
def c36 : Gx.Fn := ⟨40, c36k, (.seq (.ops c36r0) c36s16), [(.tmp (.s 2))]⟩
theorem c36ok : stripFn Tryd.prog c36k Tryd.f36 = some c36 := by kernel_rfl

/- plexusref15.token -/
@[go_sem] def c37k : List Nat := [0, 1, 4, 5, 6, 7, 8, 9, 10, 11, 12, 13, 18, 25, 35, 46, 54, 68, 80, 100, 126]
@[go_sem] def c37r0 : List GOp := [(.op none (.s 2) (.al 25 [(.int .i64 0), (.string ⟨⟨[]⟩⟩), (.int .i64 0), (.int .i64 0)])),
  (.op none (.s 3) (.v (.mv (.c (.int .i64 0))))),
  (.op none (.s 4) (.al 28 [(.int .i64 0), (.int .i64 0)]))]
@[go_sem] def c37r1 : List GOp := [(.op none .t (.v (.mv (.s 0)))),
  (.op none .t (.v (.mv (.s 1)))),
  (.op none .t (.v (.six (.t 1) (.t 0)))),
  (.op none (.s 5) (.v (.mv (.t 0))))]
@[go_sem] def c37r2 : List GOp := [(.op none .t (.v (.mv (.s 5)))),
  (.op none (.s 12) (.call 54 [(.t 0)]))]
@[go_sem] def c37r3 : List GOp := [(.op none .t (.v (.mv (.s 0)))),
  (.op none .t (.v (.mv (.s 1)))),
  (.op none .t (.call 55 [(.t 1), (.t 0)])),
  (.op none (.s 6) (.v (.mv (.t 0))))]
@[go_sem] def c37r4 : List GOp := [(.op none .t (.v (.mv (.s 6)))),
  (.op none .t (.v (.mv (.s 1)))),
  (.op none .t (.v (.bin .sub (.t 1) (.t 0)))),
  (.op none (.s 13) (.v (.bin .gtr (.t 0) (.c (.int .i64 16)))))]
@[go_sem] def c37r5 : List GOp := [(.op none .t (.v (.mv (.s 1)))),
  (.op none .t (.call 35 [(.c (.int .i64 3)), (.t 0)])),
  (.op none .t (.v (.ext (.t 0) 0))),
  (.op none .t (.v (.ext (.t 1) 1))),
  (.op none .t (.v (.ext (.t 2) 2))),
  (.op none .no (.st 4 (.s 2) (.t 2))),
  (.op none (.s 3) (.v (.mv (.t 1)))),
  (.op none .no (.st 2 (.s 4) (.t 0)))]
def c37s6 : SCode := (.seq (.ops c37r5) .ret)
@[go_sem] theorem c37s6eq : vc P E c37s6 σ H Q = vc P E (.seq (.ops c37r5) .ret) σ H Q := rfl
def c37s7 : SCode := (.cond (.s 13) c37s6 .skip)
@[go_sem] theorem c37s7eq : vc P E c37s7 σ H Q = vc P E (.cond (.s 13) c37s6 .skip) σ H Q := rfl
@[go_sem] def c37r8 : List GOp := [(.op none (.s 7) (.v (.mv (.c (.int .i64 1)))))]
@[go_sem] def c37r9 : List GOp := [(.op none .t (.v (.mv (.s 0)))),
  (.op none .t (.v (.mv (.s 1)))),
  (.op none .t (.v (.mv (.s 6)))),
  (.op none .t (.v (.ssl (.t 2) (some (.t 1)) (some (.t 0))))),
  (.op none (.s 14) (.call 16 [(.t 0)]))]
@[go_sem] def c37r10 : List GOp := [(.op none (.s 7) (.v (.mv (.c (.int .i64 2)))))]
def c37s11 : SCode := (.cond (.s 14) (.ops c37r10) .skip)
@[go_sem] theorem c37s11eq : vc P E c37s11 σ H Q = vc P E (.cond (.s 14) (.ops c37r10) .skip) σ H Q := rfl
@[go_sem] def c37r12 : List GOp := [(.op none .t (.v (.mv (.s 7)))),
  (.op none .t (.v (.mv (.s 0)))),
  (.op none .t (.v (.mv (.s 1)))),
  (.op none .t (.v (.mv (.s 6)))),
  (.op none .t (.v (.ssl (.t 2) (some (.t 1)) (some (.t 0))))),
  (.op none .t (.v (.mv (.s 1)))),
  (.op none .t (.v (.bld [(.int .i64 0), (.string ⟨⟨[]⟩⟩), (.int .i64 0), (.int .i64 0)] [(0, (1, (.t 5))), (1, (1, (.t 1))), (3, (1, (.t 0)))]))),
  (.op none .t (.v (.mv (.s 6)))),
  (.op none .t (.v (.bld [(.int .i64 0), (.int .i64 0)] []))),
  (.op none .no (.st 4 (.s 2) (.t 2))),
  (.op none (.s 3) (.v (.mv (.t 1)))),
  (.op none .no (.st 2 (.s 4) (.t 0)))]
def c37s13 : SCode := (.seq (.ops c37r12) .ret)
@[go_sem] theorem c37s13eq : vc P E c37s13 σ H Q = vc P E (.seq (.ops c37r12) .ret) σ H Q := rfl
def c37s14 : SCode := (.seq (.seq (.ops c37r9) c37s11) c37s13)
@[go_sem] theorem c37s14eq : vc P E c37s14 σ H Q = vc P E (.seq (.seq (.ops c37r9) c37s11) c37s13) σ H Q := rfl
def c37s15 : SCode := (.seq (.ops c37r8) c37s14)
@[go_sem] theorem c37s15eq : vc P E c37s15 σ H Q = vc P E (.seq (.ops c37r8) c37s14) σ H Q := rfl
def c37s16 : SCode := (.seq (.seq (.ops c37r4) c37s7) c37s15)
@[go_sem] theorem c37s16eq : vc P E c37s16 σ H Q = vc P E (.seq (.seq (.ops c37r4) c37s7) c37s15) σ H Q := rfl
def c37s17 : SCode := (.seq (.ops c37r3) c37s16)
@[go_sem] theorem c37s17eq : vc P E c37s17 σ H Q = vc P E (.seq (.ops c37r3) c37s16) σ H Q := rfl
def c37s18 : SCode := (.cond (.s 12) c37s17 .skip)
@[go_sem] theorem c37s18eq : vc P E c37s18 σ H Q = vc P E (.cond (.s 12) c37s17 .skip) σ H Q := rfl
@[go_sem] def c37r19 : List GOp := [(.op none .t (.v (.mv (.s 5)))),
  (.op none (.s 15) (.call 56 [(.t 0)]))]
@[go_sem] def c37r20 : List GOp := [(.op none .t (.v (.mv (.s 0)))),
  (.op none .t (.v (.mv (.s 1)))),
  (.op none .t (.call 57 [(.t 1), (.t 0)])),
  (.op none .t (.v (.ext (.t 0) 0))),
  (.op none .t (.v (.ext (.t 1) 1))),
  (.op none .t (.v (.ext (.t 2) 2))),
  (.op none .no (.st 4 (.s 2) (.t 2))),
  (.op none (.s 3) (.v (.mv (.t 1)))),
  (.op none .no (.st 2 (.s 4) (.t 0)))]
def c37s21 : SCode := (.seq (.ops c37r20) .ret)
@[go_sem] theorem c37s21eq : vc P E c37s21 σ H Q = vc P E (.seq (.ops c37r20) .ret) σ H Q := rfl
def c37s22 : SCode := (.cond (.s 15) c37s21 .skip)
@[go_sem] theorem c37s22eq : vc P E c37s22 σ H Q = vc P E (.cond (.s 15) c37s21 .skip) σ H Q := rfl
@[go_sem] def c37r23 : List GOp := [(.op none .t (.v (.mv (.s 5)))),
  (.op none (.s 16) (.v (.bin .eql (.t 0) (.c (.int .u8 39)))))]
@[go_sem] def c37r24 : List GOp := [(.op none .t (.v (.mv (.s 0)))),
  (.op none .t (.v (.mv (.s 1)))),
  (.op none .t (.v (.bin .add (.t 0) (.c (.int .i64 1))))),
  (.op none .t (.call 55 [(.t 2), (.t 0)])),
  (.op none (.s 8) (.v (.mv (.t 0))))]
@[go_sem] def c37r25 : List GOp := [(.op none .t (.v (.mv (.s 8)))),
  (.op none .t (.v (.mv (.s 0)))),
  (.op none .t (.v (.slen (.t 0)))),
  (.op none .t (.v (.bin .eql (.t 2) (.t 0)))),
  (.op none .t (.v (.mv (.t 0)))),
  (.op (some ((.t 0), (false, true))) .t (.v (.mv (.s 0)))),
  (.op (some ((.t 1), (false, false))) .t (.v (.mv (.s 8)))),
  (.op (some ((.t 2), (false, false))) .t (.v (.six (.t 1) (.t 0)))),
  (.op (some ((.t 3), (false, false))) .t (.v (.bin .neq (.t 0) (.c (.int .u8 39))))),
  (.op none (.s 17) (.v (.pick (.t 4) (.c (.bool true)) (.t 0))))]
@[go_sem] def c37r26 : List GOp := [(.op none .t (.v (.mv (.s 1)))),
  (.op none .t (.call 35 [(.c (.int .i64 2)), (.t 0)])),
  (.op none .t (.v (.ext (.t 0) 0))),
  (.op none .t (.v (.ext (.t 1) 1))),
  (.op none .t (.v (.ext (.t 2) 2))),
  (.op none .no (.st 4 (.s 2) (.t 2))),
  (.op none (.s 3) (.v (.mv (.t 1)))),
  (.op none .no (.st 2 (.s 4) (.t 0)))]
def c37s27 : SCode := (.seq (.ops c37r26) .ret)
@[go_sem] theorem c37s27eq : vc P E c37s27 σ H Q = vc P E (.seq (.ops c37r26) .ret) σ H Q := rfl
def c37s28 : SCode := (.cond (.s 17) c37s27 .skip)
@[go_sem] theorem c37s28eq : vc P E c37s28 σ H Q = vc P E (.cond (.s 17) c37s27 .skip) σ H Q := rfl
@[go_sem] def c37r29 : List GOp := [(.op none .t (.v (.mv (.s 0)))),
  (.op none .t (.v (.mv (.s 1)))),
  (.op none .t (.v (.bin .add (.t 0) (.c (.int .i64 1))))),
  (.op none .t (.v (.mv (.s 8)))),
  (.op none .t (.v (.ssl (.t 3) (some (.t 1)) (some (.t 0))))),
  (.op none .t (.call 41 [(.t 0)])),
  (.op none (.s 18) (.v (.un .not (.t 0))))]
@[go_sem] def c37r30 : List GOp := [(.op none .t (.v (.mv (.s 1)))),
  (.op none .t (.call 35 [(.c (.int .i64 3)), (.t 0)])),
  (.op none .t (.v (.ext (.t 0) 0))),
  (.op none .t (.v (.ext (.t 1) 1))),
  (.op none .t (.v (.ext (.t 2) 2))),
  (.op none .no (.st 4 (.s 2) (.t 2))),
  (.op none (.s 3) (.v (.mv (.t 1)))),
  (.op none .no (.st 2 (.s 4) (.t 0)))]
def c37s31 : SCode := (.seq (.ops c37r30) .ret)
@[go_sem] theorem c37s31eq : vc P E c37s31 σ H Q = vc P E (.seq (.ops c37r30) .ret) σ H Q := rfl
def c37s32 : SCode := (.cond (.s 18) c37s31 .skip)
@[go_sem] theorem c37s32eq : vc P E c37s32 σ H Q = vc P E (.cond (.s 18) c37s31 .skip) σ H Q := rfl
@[go_sem] def c37r33 : List GOp := [(.op none .t (.v (.mv (.s 0)))),
  (.op none .t (.v (.mv (.s 1)))),
  (.op none .t (.v (.bin .add (.t 0) (.c (.int .i64 1))))),
  (.op none .t (.v (.mv (.s 8)))),
  (.op none .t (.v (.ssl (.t 3) (some (.t 1)) (some (.t 0))))),
  (.op none .t (.v (.mv (.s 1)))),
  (.op none .t (.v (.bld [(.int .i64 0), (.string ⟨⟨[]⟩⟩), (.int .i64 0), (.int .i64 0)] [(0, (1, (.c (.int .i64 4)))), (1, (1, (.t 1))), (3, (1, (.t 0)))]))),
  (.op none .t (.v (.mv (.s 8)))),
  (.op none .t (.v (.bin .add (.t 0) (.c (.int .i64 1))))),
  (.op none .t (.v (.bld [(.int .i64 0), (.int .i64 0)] []))),
  (.op none .no (.st 4 (.s 2) (.t 3))),
  (.op none (.s 3) (.v (.mv (.t 1)))),
  (.op none .no (.st 2 (.s 4) (.t 0)))]
def c37s34 : SCode := (.seq (.ops c37r33) .ret)
@[go_sem] theorem c37s34eq : vc P E c37s34 σ H Q = vc P E (.seq (.ops c37r33) .ret) σ H Q := rfl
def c37s35 : SCode := (.seq (.seq (.ops c37r29) c37s32) c37s34)
@[go_sem] theorem c37s35eq : vc P E c37s35 σ H Q = vc P E (.seq (.seq (.ops c37r29) c37s32) c37s34) σ H Q := rfl
def c37s36 : SCode := (.seq (.seq (.ops c37r25) c37s28) c37s35)
@[go_sem] theorem c37s36eq : vc P E c37s36 σ H Q = vc P E (.seq (.seq (.ops c37r25) c37s28) c37s35) σ H Q := rfl
def c37s37 : SCode := (.seq (.ops c37r24) c37s36)
@[go_sem] theorem c37s37eq : vc P E c37s37 σ H Q = vc P E (.seq (.ops c37r24) c37s36) σ H Q := rfl
def c37s38 : SCode := (.cond (.s 16) c37s37 .skip)
@[go_sem] theorem c37s38eq : vc P E c37s38 σ H Q = vc P E (.cond (.s 16) c37s37 .skip) σ H Q := rfl
@[go_sem] def c37r39 : List GOp := [(.op none .t (.call 32 [])),
  (.op none (.s 9) (.v (.mv (.t 0))))]
@[go_sem] def c37r40 : List GOp := [(.op none (.s 10) (.v (.mv (.c (.int .i64 0)))))]
@[go_sem] def c37r41 : List GOp := [(.op none .t (.v (.mv (.s 10)))),
  (.op none .t (.v (.mv (.s 9)))),
  (.op none .t (.v (.len (.t 0)))),
  (.op none (.s 19) (.v (.bin .lss (.t 2) (.t 0))))]
def c37s42 : SCode := (.cond (.s 19) .skip (.exit 0))
@[go_sem] theorem c37s42eq : vc P E c37s42 σ H Q = vc P E (.cond (.s 19) .skip (.exit 0)) σ H Q := rfl
@[go_sem] def c37r43 : List GOp := [(.op none .t (.v (.mv (.s 9)))),
  (.op none .t (.v (.mv (.s 10)))),
  (.op none .t (.v (.ix 1 (.t 1) (.t 0)))),
  (.op none .t (.ld none (.t 0))),
  (.op none .t (.v (.slen (.t 0)))),
  (.op none (.s 11) (.v (.mv (.t 0))))]
@[go_sem] def c37r44 : List GOp := [(.op none .t (.v (.mv (.s 0)))),
  (.op none .t (.v (.slen (.t 0)))),
  (.op none .t (.v (.mv (.s 1)))),
  (.op none .t (.v (.bin .sub (.t 1) (.t 0)))),
  (.op none .t (.v (.mv (.s 11)))),
  (.op none .t (.v (.bin .geq (.t 1) (.t 0)))),
  (.op none .t (.v (.mv (.t 0)))),
  (.op (some ((.t 0), (true, true))) .t (.v (.mv (.s 0)))),
  (.op (some ((.t 1), (true, false))) .t (.v (.mv (.s 1)))),
  (.op (some ((.t 2), (true, false))) .t (.v (.mv (.s 1)))),
  (.op (some ((.t 3), (true, false))) .t (.v (.mv (.s 11)))),
  (.op (some ((.t 4), (true, false))) .t (.v (.bin .add (.t 1) (.t 0)))),
  (.op (some ((.t 5), (true, false))) .t (.v (.ssl (.t 4) (some (.t 3)) (some (.t 0))))),
  (.op (some ((.t 6), (true, false))) .t (.v (.mv (.s 9)))),
  (.op (some ((.t 7), (true, false))) .t (.v (.mv (.s 10)))),
  (.op (some ((.t 8), (true, false))) .t (.v (.ix 1 (.t 1) (.t 0)))),
  (.op (some ((.t 9), (true, false))) .t (.ld none (.t 0))),
  (.op (some ((.t 10), (true, false))) .t (.v (.bin .eql (.t 4) (.t 0)))),
  (.op none (.s 20) (.v (.pick (.t 11) (.t 0) (.c (.bool false)))))]
@[go_sem] def c37r45 : List GOp := [(.op none .t (.v (.mv (.s 9)))),
  (.op none .t (.v (.mv (.s 10)))),
  (.op none .t (.v (.ix 1 (.t 1) (.t 0)))),
  (.op none .t (.ld none (.t 0))),
  (.op none .t (.v (.mv (.s 1)))),
  (.op none .t (.v (.bld [(.int .i64 0), (.string ⟨⟨[]⟩⟩), (.int .i64 0), (.int .i64 0)] [(0, (1, (.c (.int .i64 5)))), (1, (1, (.t 1))), (3, (1, (.t 0)))]))),
  (.op none .t (.v (.mv (.s 1)))),
  (.op none .t (.v (.mv (.s 11)))),
  (.op none .t (.v (.bin .add (.t 1) (.t 0)))),
  (.op none .t (.v (.bld [(.int .i64 0), (.int .i64 0)] []))),
  (.op none .no (.st 4 (.s 2) (.t 4))),
  (.op none (.s 3) (.v (.mv (.t 1)))),
  (.op none .no (.st 2 (.s 4) (.t 0)))]
def c37s46 : SCode := (.seq (.ops c37r45) .ret)
@[go_sem] theorem c37s46eq : vc P E c37s46 σ H Q = vc P E (.seq (.ops c37r45) .ret) σ H Q := rfl
def c37s47 : SCode := (.cond (.s 20) c37s46 .skip)
@[go_sem] theorem c37s47eq : vc P E c37s47 σ H Q = vc P E (.cond (.s 20) c37s46 .skip) σ H Q := rfl
def c37s48 : SCode := (.seq (.dq c37r44) c37s47)
@[go_sem] theorem c37s48eq : vc P E c37s48 σ H Q = vc P E (.seq (.dq c37r44) c37s47) σ H Q := rfl
@[go_sem] def c37r49 : List GOp := [(.op none .t (.v (.mv (.s 10)))),
  (.op none .t (.v (.bin .add (.t 0) (.c (.int .i64 1))))),
  (.op none (.s 10) (.v (.mv (.t 0))))]
def c37s50 : SCode := (.ops c37r49)
@[go_sem] theorem c37s50eq : vc P E c37s50 σ H Q = vc P E (.ops c37r49) σ H Q := rfl
def c37s51 : SCode := (.seq (.block 1 (.seq (.ops c37r43) c37s48)) c37s50)
@[go_sem] theorem c37s51eq : vc P E c37s51 σ H Q = vc P E (.seq (.block 1 (.seq (.ops c37r43) c37s48)) c37s50) σ H Q := rfl
def c37s52 : SCode := (.seq (.seq (.ops c37r41) c37s42) c37s51)
@[go_sem] theorem c37s52eq : vc P E c37s52 σ H Q = vc P E (.seq (.seq (.ops c37r41) c37s42) c37s51) σ H Q := rfl
def c37s53 : SCode := (.block 0 (.loop c37k c37s52))
@[go_sem] theorem c37s53eq : vc P E c37s53 σ H Q = vc P E (.block 0 (.loop c37k c37s52)) σ H Q := rfl
@[go_sem] def c37r54 : List GOp := [(.op none .t (.v (.mv (.s 1)))),
  (.op none .t (.call 35 [(.c (.int .i64 2)), (.t 0)])),
  (.op none .t (.v (.ext (.t 0) 0))),
  (.op none .t (.v (.ext (.t 1) 1))),
  (.op none .t (.v (.ext (.t 2) 2))),
  (.op none .no (.st 4 (.s 2) (.t 2))),
  (.op none (.s 3) (.v (.mv (.t 1)))),
  (.op none .no (.st 2 (.s 4) (.t 0)))]
def c37s55 : SCode := (.seq (.ops c37r54) .ret)
@[go_sem] theorem c37s55eq : vc P E c37s55 σ H Q = vc P E (.seq (.ops c37r54) .ret) σ H Q := rfl
def c37s56 : SCode := (.seq (.seq (.ops c37r40) c37s53) c37s55)
@[go_sem] theorem c37s56eq : vc P E c37s56 σ H Q = vc P E (.seq (.seq (.ops c37r40) c37s53) c37s55) σ H Q := rfl
def c37s57 : SCode := (.seq (.ops c37r39) c37s56)
@[go_sem] theorem c37s57eq : vc P E c37s57 σ H Q = vc P E (.seq (.ops c37r39) c37s56) σ H Q := rfl
def c37s58 : SCode := (.seq (.seq (.ops c37r23) c37s38) c37s57)
@[go_sem] theorem c37s58eq : vc P E c37s58 σ H Q = vc P E (.seq (.seq (.ops c37r23) c37s38) c37s57) σ H Q := rfl
def c37s59 : SCode := (.seq (.seq (.ops c37r19) c37s22) c37s58)
@[go_sem] theorem c37s59eq : vc P E c37s59 σ H Q = vc P E (.seq (.seq (.ops c37r19) c37s22) c37s58) σ H Q := rfl
def c37s60 : SCode := (.seq (.seq (.ops c37r2) c37s18) c37s59)
@[go_sem] theorem c37s60eq : vc P E c37s60 σ H Q = vc P E (.seq (.seq (.ops c37r2) c37s18) c37s59) σ H Q := rfl
def c37s61 : SCode := (.seq (.ops c37r1) c37s60)
@[go_sem] theorem c37s61eq : vc P E c37s61 σ H Q = vc P E (.seq (.ops c37r1) c37s60) σ H Q := rfl
def c37 : Gx.Fn := ⟨142, c37k, (.seq (.ops c37r0) c37s61), [(.cell (.s 2) (some 4)), (.tmp (.s 3)), (.cell (.s 4) (some 2))]⟩
theorem c37ok : stripFn Tryd.prog c37k Tryd.f37 = some c37 := by kernel_rfl

/- lexer.spelling -/
@[go_sem] def c38k : List Nat := [0, 1, 2, 3, 11, 13, 14, 27, 34, 52, 61, 68]
@[go_sem] def c38r0 : List GOp := [(.op none (.s 1) (.bx 25 (.s 0))),
  (.op none (.s 2) (.v (.mv (.c (.string ⟨⟨[]⟩⟩))))),
  (.op none (.s 3) (.v (.mv (.c (.bool false)))))]
@[go_sem] def c38r1 : List GOp := [(.op none .t (.v (.fa 0 (.s 1)))),
  (.op none .t (.ld none (.t 0))),
  (.op none .t (.v (.bin .neq (.t 0) (.c (.int .i64 3))))),
  (.op none .t (.v (.mv (.t 0)))),
  (.sel (.t 0) true [(.op (.v (.fa 2 (.s 1)))), (.op (.ld none (.t 0))), (.op (.v (.bin .neq (.t 0) (.c (.int .i64 0)))))] (.s 4) (.t 0) (.c (.bool false)))]
@[go_sem] def c38r2 : List GOp := [(.op none (.s 2) (.v (.mv (.c (.string ⟨⟨[]⟩⟩))))),
  (.op none (.s 3) (.v (.mv (.c (.bool false)))))]
def c38s3 : SCode := (.seq (.ops c38r2) .ret)
@[go_sem] theorem c38s3eq : vc P E c38s3 σ H Q = vc P E (.seq (.ops c38r2) .ret) σ H Q := rfl
def c38s4 : SCode := (.cond (.s 4) c38s3 .skip)
@[go_sem] theorem c38s4eq : vc P E c38s4 σ H Q = vc P E (.cond (.s 4) c38s3 .skip) σ H Q := rfl
@[go_sem] def c38r5 : List GOp := [(.op none .t (.v (.fa 0 (.s 1)))),
  (.op none (.s 5) (.ld none (.t 0)))]
@[go_sem] def c38r6 : List GOp := [(.op none .t (.v (.bin .eql (.s 5) (.c (.int .i64 1))))),
  (.op none (.s 6) (.v (.mv (.t 0))))]
@[go_sem] def c38d7 : DT := (.rd none .t (.v (.fa 1 (.s 1))) [] (.rd none .t (.ld none (.t 0)) [] (.rd none .t (.v (.fa 1 (.s 1))) [4, 8] (.rd none .t (.ld none (.t 0)) [4, 8] (.ef 4 none .t (.call 52 [(.t 0)]) (.rd none .t (.v (.mv (.t 0))) [8] (.rd (some ((.t 0), true)) .t (.v (.fa 1 (.s 1))) [8] (.rd (some ((.t 1), true)) .t (.ld none (.t 0)) [8] (.ef 8 (some ((.t 2), true)) .t (.call 15 [(.t 0)]) (.rd (some ((.t 3), true)) .t (.v (.un .not (.t 0))) [] (.rd none .t (.v (.pick (.t 4) (.t 0) (.c (.bool false)))) [] (.rd none (.s 2) (.v (.mv (.t 9))) [] (.rd none (.s 3) (.v (.mv (.t 0))) [] .done)))))))))))))
@[go_sem] def c38r8 : List GOp := [(.op none .t (.v (.bin .eql (.s 5) (.c (.int .i64 2))))),
  (.op none (.s 7) (.v (.mv (.t 0))))]
@[go_sem] def c38d9 : DT := (.rd none .t (.v (.fa 1 (.s 1))) [] (.rd none .t (.ld none (.t 0)) [] (.rd none .t (.v (.fa 1 (.s 1))) [4] (.rd none .t (.ld none (.t 0)) [4] (.ef 4 none .t (.call 15 [(.t 0)]) (.rd none (.s 2) (.v (.mv (.t 3))) [] (.rd none (.s 3) (.v (.mv (.t 0))) [] .done)))))))
@[go_sem] def c38r10 : List GOp := [(.op none .t (.v (.bin .eql (.s 5) (.c (.int .i64 3))))),
  (.op none (.s 8) (.v (.mv (.t 0))))]
@[go_sem] def c38d11 : DT := (.rd none .t (.v (.fa 2 (.s 1))) [2] (.rd none .t (.ld none (.t 0)) [2] (.rd none .t (.v (.fa 1 (.s 1))) [] (.rd none .t (.ld none (.t 0)) [] (.rd none .t (.v (.bin .eql (.t 0) (.c (.string ⟨⟨[]⟩⟩)))) [] (.ef 2 none .t (.call 58 [(.t 3), (.c (.int .i64 10))]) (.rd none .t (.v (.mv (.t 1))) [] (.rd (some ((.t 0), true)) .t (.v (.fa 2 (.s 1))) [] (.rd (some ((.t 1), true)) .t (.ld none (.t 0)) [] (.rd (some ((.t 2), true)) .t (.v (.bin .geq (.t 0) (.c (.int .i64 0)))) [] (.rd none .t (.v (.pick (.t 3) (.t 0) (.c (.bool false)))) [] (.rd none .t (.v (.mv (.t 0))) [] (.rd (some ((.t 0), true)) .t (.v (.fa 2 (.s 1))) [] (.rd (some ((.t 1), true)) .t (.ld none (.t 0)) [] (.rd (some ((.t 2), true)) .t (.v (.bin .leq (.t 0) (.c (.int .i64 1000000000000000)))) [] (.rd none .t (.v (.pick (.t 3) (.t 0) (.c (.bool false)))) [] (.rd none (.s 2) (.v (.mv (.t 10))) [] (.rd none (.s 3) (.v (.mv (.t 0))) [] .done))))))))))))))))))
def c38s12 : SCode := (.seq (.de c38d11) .ret)
@[go_sem] theorem c38s12eq : vc P E c38s12 σ H Q = vc P E (.seq (.de c38d11) .ret) σ H Q := rfl
@[go_sem] def c38r13 : List GOp := [(.op none .t (.v (.bin .eql (.s 5) (.c (.int .i64 4))))),
  (.op none (.s 9) (.v (.mv (.t 0))))]
@[go_sem] def c38d14 : DT := (.rd none .t (.v (.fa 1 (.s 1))) [] (.rd none .t (.ld none (.t 0)) [] (.rd none .t (.v (.bin .add (.c (.string ⟨⟨[39]⟩⟩)) (.t 0))) [] (.rd none .t (.v (.bin .add (.t 0) (.c (.string ⟨⟨[39]⟩⟩)))) [] (.rd none .t (.v (.fa 1 (.s 1))) [6] (.rd none .t (.ld none (.t 0)) [6] (.ef 6 none .t (.call 52 [(.t 0)]) (.rd none (.s 2) (.v (.mv (.t 3))) [] (.rd none (.s 3) (.v (.mv (.t 0))) [] .done)))))))))
def c38s15 : SCode := (.seq (.de c38d14) .ret)
@[go_sem] theorem c38s15eq : vc P E c38s15 σ H Q = vc P E (.seq (.de c38d14) .ret) σ H Q := rfl
@[go_sem] def c38r16 : List GOp := [(.op none .t (.v (.bin .eql (.s 5) (.c (.int .i64 5))))),
  (.op none (.s 10) (.v (.mv (.t 0))))]
@[go_sem] def c38d17 : DT := (.rd none .t (.v (.fa 1 (.s 1))) [] (.rd none .t (.ld none (.t 0)) [] (.rd none .t (.v (.fa 1 (.s 1))) [4] (.rd none .t (.ld none (.t 0)) [4] (.ef 4 none .t (.call 17 [(.t 0)]) (.rd none (.s 2) (.v (.mv (.t 3))) [] (.rd none (.s 3) (.v (.mv (.t 0))) [] .done)))))))
def c38s18 : SCode := (.seq (.de c38d17) .ret)
@[go_sem] theorem c38s18eq : vc P E c38s18 σ H Q = vc P E (.seq (.de c38d17) .ret) σ H Q := rfl
@[go_sem] def c38r19 : List GOp := [(.op none .t (.v (.bin .eql (.s 5) (.c (.int .i64 6))))),
  (.op none (.s 11) (.v (.mv (.t 0))))]
@[go_sem] def c38r20 : List GOp := [(.op none .t (.v (.fa 1 (.s 1)))),
  (.op none .t (.ld none (.t 0))),
  (.op none .t (.v (.bin .eql (.t 0) (.c (.string ⟨⟨[]⟩⟩))))),
  (.op none (.s 2) (.v (.mv (.c (.string ⟨⟨[]⟩⟩))))),
  (.op none (.s 3) (.v (.mv (.t 0))))]
def c38s21 : SCode := (.seq (.dq c38r20) .ret)
@[go_sem] theorem c38s21eq : vc P E c38s21 σ H Q = vc P E (.seq (.dq c38r20) .ret) σ H Q := rfl
def c38s22 : SCode := (.cond (.s 11) c38s21 .skip)
@[go_sem] theorem c38s22eq : vc P E c38s22 σ H Q = vc P E (.cond (.s 11) c38s21 .skip) σ H Q := rfl
def c38s23 : SCode := (.seq (.ops c38r19) c38s22)
@[go_sem] theorem c38s23eq : vc P E c38s23 σ H Q = vc P E (.seq (.ops c38r19) c38s22) σ H Q := rfl
def c38s24 : SCode := (.cond (.s 10) c38s18 c38s23)
@[go_sem] theorem c38s24eq : vc P E c38s24 σ H Q = vc P E (.cond (.s 10) c38s18 c38s23) σ H Q := rfl
def c38s25 : SCode := (.seq (.ops c38r16) c38s24)
@[go_sem] theorem c38s25eq : vc P E c38s25 σ H Q = vc P E (.seq (.ops c38r16) c38s24) σ H Q := rfl
def c38s26 : SCode := (.cond (.s 9) c38s15 c38s25)
@[go_sem] theorem c38s26eq : vc P E c38s26 σ H Q = vc P E (.cond (.s 9) c38s15 c38s25) σ H Q := rfl
def c38s27 : SCode := (.seq (.ops c38r13) c38s26)
@[go_sem] theorem c38s27eq : vc P E c38s27 σ H Q = vc P E (.seq (.ops c38r13) c38s26) σ H Q := rfl
def c38s28 : SCode := (.cond (.s 8) c38s12 c38s27)
@[go_sem] theorem c38s28eq : vc P E c38s28 σ H Q = vc P E (.cond (.s 8) c38s12 c38s27) σ H Q := rfl
def c38s29 : SCode := (.seq (.ops c38r10) c38s28)
@[go_sem] theorem c38s29eq : vc P E c38s29 σ H Q = vc P E (.seq (.ops c38r10) c38s28) σ H Q := rfl
def c38s30 : SCode := (.cond (.s 7) (.seq (.de c38d9) .ret) c38s29)
@[go_sem] theorem c38s30eq : vc P E c38s30 σ H Q = vc P E (.cond (.s 7) (.seq (.de c38d9) .ret) c38s29) σ H Q := rfl
def c38s31 : SCode := (.seq (.ops c38r8) c38s30)
@[go_sem] theorem c38s31eq : vc P E c38s31 σ H Q = vc P E (.seq (.ops c38r8) c38s30) σ H Q := rfl
def c38s32 : SCode := (.cond (.s 6) (.seq (.de c38d7) .ret) c38s31)
@[go_sem] theorem c38s32eq : vc P E c38s32 σ H Q = vc P E (.cond (.s 6) (.seq (.de c38d7) .ret) c38s31) σ H Q := rfl
def c38s33 : SCode := (.block 0 (.seq (.ops c38r6) c38s32))
@[go_sem] theorem c38s33eq : vc P E c38s33 σ H Q = vc P E (.block 0 (.seq (.ops c38r6) c38s32)) σ H Q := rfl
@[go_sem] def c38r34 : List GOp := [(.op none (.s 2) (.v (.mv (.c (.string ⟨⟨[]⟩⟩))))),
  (.op none (.s 3) (.v (.mv (.c (.bool false)))))]
def c38s35 : SCode := (.seq (.ops c38r34) .ret)
@[go_sem] theorem c38s35eq : vc P E c38s35 σ H Q = vc P E (.seq (.ops c38r34) .ret) σ H Q := rfl
def c38s36 : SCode := (.seq (.seq (.ops c38r5) c38s33) c38s35)
@[go_sem] theorem c38s36eq : vc P E c38s36 σ H Q = vc P E (.seq (.seq (.ops c38r5) c38s33) c38s35) σ H Q := rfl
def c38s37 : SCode := (.seq (.seq (.ops c38r1) c38s4) c38s36)
@[go_sem] theorem c38s37eq : vc P E c38s37 σ H Q = vc P E (.seq (.seq (.ops c38r1) c38s4) c38s36) σ H Q := rfl
def c38 : Gx.Fn := ⟨73, c38k, (.seq (.ops c38r0) c38s37), [(.tmp (.s 2)), (.tmp (.s 3))]⟩
theorem c38ok : stripFn Tryd.prog c38k Tryd.f38 = some c38 := by kernel_rfl

/- plexusref15.number -/
@[go_sem] def c40k : List Nat := [0, 2, 4]
@[go_sem] def c40r0 : List GOp := [(.op none (.s 1) (.v (.mv (.c (.string ⟨⟨[]⟩⟩)))))]
@[go_sem] def c40r1 : List GOp := [(.op none .t (.v (.mv (.s 0)))),
  (.op none (.s 2) (.v (.bin .lss (.t 0) (.c (.int .i64 10)))))]
@[go_sem] def c40r2 : List GOp := [(.op none .t (.v (.mv (.s 0)))),
  (.op none .t (.v (.mv (.s 0)))),
  (.op none .t (.v (.bin .add (.t 0) (.c (.int .i64 1))))),
  (.op none .t (.v (.ssl (.c (.string ⟨⟨[48, 49, 50, 51, 52, 53, 54, 55, 56, 57]⟩⟩)) (some (.t 2)) (some (.t 0))))),
  (.op none (.s 1) (.v (.mv (.t 0))))]
def c40s3 : SCode := (.seq (.ops c40r2) .ret)
@[go_sem] theorem c40s3eq : vc P E c40s3 σ H Q = vc P E (.seq (.ops c40r2) .ret) σ H Q := rfl
def c40s4 : SCode := (.cond (.s 2) c40s3 .skip)
@[go_sem] theorem c40s4eq : vc P E c40s4 σ H Q = vc P E (.cond (.s 2) c40s3 .skip) σ H Q := rfl
@[go_sem] def c40r5 : List GOp := [(.op none .t (.v (.mv (.s 0)))),
  (.op none .t (.v (.bin .quo (.t 0) (.c (.int .i64 10))))),
  (.op none .t (.call 40 [(.t 0)])),
  (.op none .t (.v (.mv (.s 0)))),
  (.op none .t (.v (.bin .rem (.t 0) (.c (.int .i64 10))))),
  (.op none .t (.call 40 [(.t 0)])),
  (.op none .t (.v (.bin .add (.t 3) (.t 0)))),
  (.op none (.s 1) (.v (.mv (.t 0))))]
def c40s6 : SCode := (.seq (.ops c40r5) .ret)
@[go_sem] theorem c40s6eq : vc P E c40s6 σ H Q = vc P E (.seq (.ops c40r5) .ret) σ H Q := rfl
def c40s7 : SCode := (.seq (.seq (.ops c40r1) c40s4) c40s6)
@[go_sem] theorem c40s7eq : vc P E c40s7 σ H Q = vc P E (.seq (.seq (.ops c40r1) c40s4) c40s6) σ H Q := rfl
def c40 : Gx.Fn := ⟨16, c40k, (.seq (.ops c40r0) c40s7), [(.tmp (.s 1))]⟩
theorem c40ok : stripFn Tryd.prog c40k Tryd.f40 = some c40 := by kernel_rfl

/- plexusref02.Valid -/
@[go_sem] def c41k : List Nat := [0, 2, 3, 21, 25, 32]
@[go_sem] def c41r0 : List GOp := [(.op none (.s 1) (.v (.mv (.c (.bool false)))))]
@[go_sem] def c41r1 : List GOp := [(.op none .t (.v (.mv (.s 0)))),
  (.op none .t (.v (.slen (.t 0)))),
  (.op none .t (.v (.bin .lss (.t 0) (.c (.int .i64 1))))),
  (.op none .t (.v (.mv (.t 0)))),
  (.sel (.t 0) false [(.op (.v (.mv (.s 0)))), (.op (.v (.slen (.t 0)))), (.op (.v (.bin .gtr (.t 0) (.c (.int .i64 16)))))] .t (.c (.bool true)) (.t 0)),
  (.op none .t (.v (.mv (.t 0)))),
  (.op (some ((.t 0), (false, true))) .t (.v (.mv (.s 0)))),
  (.op (some ((.t 1), (false, false))) .t (.v (.six (.t 0) (.c (.int .i64 0))))),
  (.op (some ((.t 2), (false, false))) .t (.v (.bin .lss (.t 0) (.c (.int .u8 97))))),
  (.op none .t (.v (.pick (.t 3) (.c (.bool true)) (.t 0)))),
  (.op none .t (.v (.mv (.t 0)))),
  (.op (some ((.t 0), (false, true))) .t (.v (.mv (.s 0)))),
  (.op (some ((.t 1), (false, false))) .t (.v (.six (.t 0) (.c (.int .i64 0))))),
  (.op (some ((.t 2), (false, false))) .t (.v (.bin .gtr (.t 0) (.c (.int .u8 122))))),
  (.op none (.s 3) (.v (.pick (.t 3) (.c (.bool true)) (.t 0))))]
@[go_sem] def c41r2 : List GOp := [(.op none (.s 1) (.v (.mv (.c (.bool false)))))]
def c41s3 : SCode := (.seq (.ops c41r2) .ret)
@[go_sem] theorem c41s3eq : vc P E c41s3 σ H Q = vc P E (.seq (.ops c41r2) .ret) σ H Q := rfl
def c41s4 : SCode := (.cond (.s 3) c41s3 .skip)
@[go_sem] theorem c41s4eq : vc P E c41s4 σ H Q = vc P E (.cond (.s 3) c41s3 .skip) σ H Q := rfl
@[go_sem] def c41r5 : List GOp := [(.op none (.s 2) (.v (.mv (.c (.int .i64 0)))))]
@[go_sem] def c41r6 : List GOp := [(.op none .t (.v (.mv (.s 2)))),
  (.op none .t (.v (.mv (.s 0)))),
  (.op none .t (.v (.slen (.t 0)))),
  (.op none (.s 4) (.v (.bin .lss (.t 2) (.t 0))))]
def c41s7 : SCode := (.cond (.s 4) .skip (.exit 0))
@[go_sem] theorem c41s7eq : vc P E c41s7 σ H Q = vc P E (.cond (.s 4) .skip (.exit 0)) σ H Q := rfl
@[go_sem] def c41r8 : List GOp := [(.op none .t (.v (.mv (.s 0)))),
  (.op none .t (.v (.mv (.s 2)))),
  (.op none .t (.v (.six (.t 1) (.t 0)))),
  (.op none .t (.call 62 [(.t 0)])),
  (.op none (.s 5) (.v (.un .not (.t 0))))]
@[go_sem] def c41r9 : List GOp := [(.op none (.s 1) (.v (.mv (.c (.bool false)))))]
def c41s10 : SCode := (.seq (.ops c41r9) .ret)
@[go_sem] theorem c41s10eq : vc P E c41s10 σ H Q = vc P E (.seq (.ops c41r9) .ret) σ H Q := rfl
def c41s11 : SCode := (.cond (.s 5) c41s10 .skip)
@[go_sem] theorem c41s11eq : vc P E c41s11 σ H Q = vc P E (.cond (.s 5) c41s10 .skip) σ H Q := rfl
@[go_sem] def c41r12 : List GOp := [(.op none .t (.v (.mv (.s 2)))),
  (.op none .t (.v (.bin .add (.t 0) (.c (.int .i64 1))))),
  (.op none (.s 2) (.v (.mv (.t 0))))]
def c41s13 : SCode := (.ops c41r12)
@[go_sem] theorem c41s13eq : vc P E c41s13 σ H Q = vc P E (.ops c41r12) σ H Q := rfl
def c41s14 : SCode := (.seq (.block 1 (.seq (.ops c41r8) c41s11)) c41s13)
@[go_sem] theorem c41s14eq : vc P E c41s14 σ H Q = vc P E (.seq (.block 1 (.seq (.ops c41r8) c41s11)) c41s13) σ H Q := rfl
def c41s15 : SCode := (.seq (.seq (.ops c41r6) c41s7) c41s14)
@[go_sem] theorem c41s15eq : vc P E c41s15 σ H Q = vc P E (.seq (.seq (.ops c41r6) c41s7) c41s14) σ H Q := rfl
def c41s16 : SCode := (.block 0 (.loop c41k c41s15))
@[go_sem] theorem c41s16eq : vc P E c41s16 σ H Q = vc P E (.block 0 (.loop c41k c41s15)) σ H Q := rfl
@[go_sem] def c41r17 : List GOp := [(.op none (.s 1) (.v (.mv (.c (.bool true)))))]
def c41s18 : SCode := (.seq (.ops c41r17) .ret)
@[go_sem] theorem c41s18eq : vc P E c41s18 σ H Q = vc P E (.seq (.ops c41r17) .ret) σ H Q := rfl
def c41s19 : SCode := (.seq (.seq (.ops c41r5) c41s16) c41s18)
@[go_sem] theorem c41s19eq : vc P E c41s19 σ H Q = vc P E (.seq (.seq (.ops c41r5) c41s16) c41s18) σ H Q := rfl
def c41s20 : SCode := (.seq (.seq (.ops c41r1) c41s4) c41s19)
@[go_sem] theorem c41s20eq : vc P E c41s20 σ H Q = vc P E (.seq (.seq (.ops c41r1) c41s4) c41s19) σ H Q := rfl
def c41 : Gx.Fn := ⟨33, c41k, (.seq (.ops c41r0) c41s20), [(.tmp (.s 1))]⟩
theorem c41ok : stripFn Tryd.prog c41k Tryd.f41 = some c41 := by kernel_rfl

/- strings.LastIndexByte -/
@[go_sem] def c43k : List Nat := [0, 1, 4]
@[go_sem] def c43r0 : List GOp := [(.op none (.s 2) (.v (.mv (.c (.int .i64 0)))))]
@[go_sem] def c43r1 : List GOp := [(.op none .t (.v (.mv (.s 0)))),
  (.op none .t (.v (.mv (.s 1)))),
  (.op none .t (.call 66 [(.t 1), (.t 0)])),
  (.op none (.s 2) (.v (.mv (.t 0))))]
def c43s2 : SCode := (.seq (.ops c43r1) .ret)
@[go_sem] theorem c43s2eq : vc P E c43s2 σ H Q = vc P E (.seq (.ops c43r1) .ret) σ H Q := rfl
def c43 : Gx.Fn := ⟨8, c43k, (.seq (.ops c43r0) c43s2), [(.tmp (.s 2))]⟩
theorem c43ok : stripFn Tryd.prog c43k Tryd.f43 = some c43 := by kernel_rfl

/- slices.Index[[]string,string] -/
@[go_sem] def c44k : List Nat := [0, 1, 4, 5, 7, 8, 9, 16]
@[go_sem] def c44r0 : List GOp := [(.op none (.s 2) (.v (.mv (.c (.int .i64 0)))))]
@[go_sem] def c44r1 : List GOp := [(.op none .t (.v (.mv (.s 0)))),
  (.op none (.s 4) (.v (.len (.t 0)))),
  (.op none (.s 5) (.v (.mv (.c (.int .i64 0)))))]
@[go_sem] def c44r2 : List GOp := [(.op none (.s 6) (.v (.bin .lss (.s 5) (.s 4))))]
@[go_sem] def c44r3 : List GOp := [(.op none .t (.v (.mv (.s 5)))),
  (.op none (.s 3) (.v (.mv (.t 0))))]
@[go_sem] def c44r4 : List GOp := [(.op none .t (.v (.mv (.s 1)))),
  (.op none .t (.v (.mv (.s 0)))),
  (.op none .t (.v (.mv (.s 3)))),
  (.op none .t (.v (.ix 1 (.t 1) (.t 0)))),
  (.op none .t (.ld none (.t 0))),
  (.op none (.s 7) (.v (.bin .eql (.t 4) (.t 0))))]
@[go_sem] def c44r5 : List GOp := [(.op none .t (.v (.mv (.s 3)))),
  (.op none (.s 2) (.v (.mv (.t 0))))]
def c44s6 : SCode := (.seq (.ops c44r5) .ret)
@[go_sem] theorem c44s6eq : vc P E c44s6 σ H Q = vc P E (.seq (.ops c44r5) .ret) σ H Q := rfl
def c44s7 : SCode := (.cond (.s 7) c44s6 .skip)
@[go_sem] theorem c44s7eq : vc P E c44s7 σ H Q = vc P E (.cond (.s 7) c44s6 .skip) σ H Q := rfl
def c44s8 : SCode := (.seq (.ops c44r4) c44s7)
@[go_sem] theorem c44s8eq : vc P E c44s8 σ H Q = vc P E (.seq (.ops c44r4) c44s7) σ H Q := rfl
@[go_sem] def c44r9 : List GOp := [(.op none .t (.v (.bin .add (.s 5) (.c (.int .i64 1))))),
  (.op none (.s 5) (.v (.mv (.t 0))))]
def c44s10 : SCode := (.ops c44r9)
@[go_sem] theorem c44s10eq : vc P E c44s10 σ H Q = vc P E (.ops c44r9) σ H Q := rfl
def c44s11 : SCode := (.seq (.block 1 (.seq (.ops c44r3) c44s8)) c44s10)
@[go_sem] theorem c44s11eq : vc P E c44s11 σ H Q = vc P E (.seq (.block 1 (.seq (.ops c44r3) c44s8)) c44s10) σ H Q := rfl
def c44s12 : SCode := (.seq (.cond (.s 6) .skip (.exit 0)) c44s11)
@[go_sem] theorem c44s12eq : vc P E c44s12 σ H Q = vc P E (.seq (.cond (.s 6) .skip (.exit 0)) c44s11) σ H Q := rfl
def c44s13 : SCode := (.seq (.ops c44r2) c44s12)
@[go_sem] theorem c44s13eq : vc P E c44s13 σ H Q = vc P E (.seq (.ops c44r2) c44s12) σ H Q := rfl
def c44s14 : SCode := (.block 0 (.loop c44k c44s13))
@[go_sem] theorem c44s14eq : vc P E c44s14 σ H Q = vc P E (.block 0 (.loop c44k c44s13)) σ H Q := rfl
@[go_sem] def c44r15 : List GOp := [(.op none (.s 2) (.v (.mv (.c (.int .i64 (-1))))))]
def c44s16 : SCode := (.seq (.ops c44r15) .ret)
@[go_sem] theorem c44s16eq : vc P E c44s16 σ H Q = vc P E (.seq (.ops c44r15) .ret) σ H Q := rfl
def c44s17 : SCode := (.seq (.seq (.ops c44r1) c44s14) c44s16)
@[go_sem] theorem c44s17eq : vc P E c44s17 σ H Q = vc P E (.seq (.seq (.ops c44r1) c44s14) c44s16) σ H Q := rfl
def c44 : Gx.Fn := ⟨19, c44k, (.seq (.ops c44r0) c44s17), [(.tmp (.s 2))]⟩
theorem c44ok : stripFn Tryd.prog c44k Tryd.f44 = some c44 := by kernel_rfl

/- (*lexer.scanner).run -/
@[go_sem] def c45k : List Nat := [0, 1, 4, 5, 32]
@[go_sem] def c45r0 : List GOp := [(.op none (.s 2) (.v (.mv (.c (.string ⟨⟨[]⟩⟩)))))]
@[go_sem] def c45r1 : List GOp := [(.op none .t (.v (.mv (.s 0)))),
  (.op none .t (.v (.nc (.t 0)))),
  (.op none .t (.v (.fa 1 (.t 0)))),
  (.op none .t (.ld none (.t 0))),
  (.op none (.s 3) (.v (.mv (.t 0))))]
@[go_sem] def c45d2 : DT := (.rd none .t (.v (.mv (.s 0))) [21] (.rd none .t (.v (.nc (.t 0))) [21] (.rd none .t (.v (.fa 1 (.t 0))) [21] (.rd none .t (.ld none (.t 0)) [21] (.rd none .t (.v (.mv (.s 0))) [21] (.rd none .t (.v (.nc (.t 0))) [21] (.rd none .t (.v (.fa 0 (.t 0))) [21] (.rd none .t (.ld none (.t 0)) [21] (.rd none .t (.v (.slen (.t 0))) [21] (.rd none .t (.v (.bin .lss (.t 5) (.t 0))) [21] (.rd none .t (.v (.mv (.t 0))) [21] (.rd (some ((.t 0), true)) .t (.v (.mv (.s 1))) [21] (.rd (some ((.t 1), true)) .t (.v (.mv (.s 0))) [21] (.rd (some ((.t 2), true)) .t (.v (.nc (.t 0))) [21] (.rd (some ((.t 3), true)) .t (.v (.fa 0 (.t 0))) [21] (.rd (some ((.t 4), true)) .t (.ld none (.t 0)) [21] (.rd (some ((.t 5), true)) .t (.v (.mv (.s 0))) [21] (.rd (some ((.t 6), true)) .t (.v (.nc (.t 0))) [21] (.rd (some ((.t 7), true)) .t (.v (.fa 1 (.t 0))) [21] (.rd (some ((.t 8), true)) .t (.ld none (.t 0)) [21] (.rd (some ((.t 9), true)) .t (.v (.six (.t 4) (.t 0))) [21] (.ef 21 (some ((.t 10), true)) .t (.cv (.t 9) [(.t 0)]) (.rd none (.s 4) (.v (.pick (.t 11) (.t 0) (.c (.bool false)))) [] .done)))))))))))))))))))))))
def c45s3 : SCode := (.cond (.s 4) .skip (.exit 0))
@[go_sem] theorem c45s3eq : vc P E c45s3 σ H Q = vc P E (.cond (.s 4) .skip (.exit 0)) σ H Q := rfl
@[go_sem] def c45r4 : List GOp := [(.op none .t (.v (.mv (.s 0)))),
  (.op none .t (.v (.nc (.t 0)))),
  (.op none .t (.v (.fa 1 (.t 0)))),
  (.op none .t (.ld none (.t 0))),
  (.op none .t (.v (.bin .add (.t 0) (.c (.int .i64 1))))),
  (.op none .t (.v (.nc (.t 4)))),
  (.op none .t (.v (.fa 1 (.t 0)))),
  (.op none .no (.st 1 (.t 0) (.t 2)))]
def c45s5 : SCode := (.seq (.seq (.de c45d2) c45s3) (.block 1 (.ops c45r4)))
@[go_sem] theorem c45s5eq : vc P E c45s5 σ H Q = vc P E (.seq (.seq (.de c45d2) c45s3) (.block 1 (.ops c45r4))) σ H Q := rfl
@[go_sem] def c45r6 : List GOp := [(.op none .t (.v (.mv (.s 0)))),
  (.op none .t (.v (.nc (.t 0)))),
  (.op none .t (.v (.fa 0 (.t 0)))),
  (.op none .t (.ld none (.t 0))),
  (.op none .t (.v (.mv (.s 3)))),
  (.op none .t (.v (.mv (.s 0)))),
  (.op none .t (.v (.nc (.t 0)))),
  (.op none .t (.v (.fa 1 (.t 0)))),
  (.op none .t (.ld none (.t 0))),
  (.op none .t (.v (.ssl (.t 5) (some (.t 4)) (some (.t 0))))),
  (.op none (.s 2) (.v (.mv (.t 0))))]
def c45s7 : SCode := (.seq (.block 0 (.loop c45k c45s5)) (.seq (.dq c45r6) .ret))
@[go_sem] theorem c45s7eq : vc P E c45s7 σ H Q = vc P E (.seq (.block 0 (.loop c45k c45s5)) (.seq (.dq c45r6) .ret)) σ H Q := rfl
def c45s8 : SCode := (.seq (.ops c45r1) c45s7)
@[go_sem] theorem c45s8eq : vc P E c45s8 σ H Q = vc P E (.seq (.ops c45r1) c45s7) σ H Q := rfl
def c45 : Gx.Fn := ⟨50, c45k, (.seq (.ops c45r0) c45s8), [(.tmp (.s 2))]⟩
theorem c45ok : stripFn Tryd.prog c45k Tryd.f45 = some c45 := by kernel_rfl

/- (*lexer.scanner).skip$1 -/
@[go_sem] def c46k : List Nat := [0, 2]
@[go_sem] def c46r0 : List GOp := [(.op none (.s 1) (.v (.mv (.c (.bool false)))))]
@[go_sem] def c46r1 : List GOp := [(.op none .t (.v (.mv (.s 0)))),
  (.op none .t (.v (.bin .eql (.t 0) (.c (.int .u8 32))))),
  (.op none .t (.v (.mv (.t 0)))),
  (.sel (.t 0) false [(.op (.v (.mv (.s 0)))), (.op (.v (.bin .eql (.t 0) (.c (.int .u8 9)))))] .t (.c (.bool true)) (.t 0)),
  (.op none .t (.v (.mv (.t 0)))),
  (.sel (.t 0) false [(.op (.v (.mv (.s 0)))), (.op (.v (.bin .eql (.t 0) (.c (.int .u8 10)))))] .t (.c (.bool true)) (.t 0)),
  (.op none .t (.v (.mv (.t 0)))),
  (.sel (.t 0) false [(.op (.v (.mv (.s 0)))), (.op (.v (.bin .eql (.t 0) (.c (.int .u8 13)))))] .t (.c (.bool true)) (.t 0)),
  (.op none (.s 1) (.v (.mv (.t 0))))]
def c46s2 : SCode := (.seq (.ops c46r1) .ret)
@[go_sem] theorem c46s2eq : vc P E c46s2 σ H Q = vc P E (.seq (.ops c46r1) .ret) σ H Q := rfl
def c46 : Gx.Fn := ⟨17, c46k, (.seq (.ops c46r0) c46s2), [(.tmp (.s 1))]⟩
theorem c46ok : stripFn Tryd.prog c46k Tryd.f46 = some c46 := by kernel_rfl

/- (*lexer.scanner).skip$2 -/
@[go_sem] def c47k : List Nat := [0, 2]
@[go_sem] def c47r0 : List GOp := [(.op none (.s 1) (.v (.mv (.c (.bool false)))))]
@[go_sem] def c47r1 : List GOp := [(.op none .t (.v (.mv (.s 0)))),
  (.op none .t (.v (.bin .neq (.t 0) (.c (.int .u8 10))))),
  (.op none (.s 1) (.v (.mv (.t 0))))]
def c47s2 : SCode := (.seq (.ops c47r1) .ret)
@[go_sem] theorem c47s2eq : vc P E c47s2 σ H Q = vc P E (.seq (.ops c47r1) .ret) σ H Q := rfl
def c47 : Gx.Fn := ⟨5, c47k, (.seq (.ops c47r0) c47s2), [(.tmp (.s 1))]⟩
theorem c47ok : stripFn Tryd.prog c47k Tryd.f47 = some c47 := by kernel_rfl

/- lexer.letter -/
@[go_sem] def c48k : List Nat := [0, 2]
@[go_sem] def c48r0 : List GOp := [(.op none (.s 1) (.v (.mv (.c (.bool false)))))]
@[go_sem] def c48r1 : List GOp := [(.op none .t (.v (.mv (.s 0)))),
  (.op none .t (.v (.bin .geq (.t 0) (.c (.int .u8 97))))),
  (.op none .t (.v (.mv (.t 0)))),
  (.sel (.t 0) true [(.op (.v (.mv (.s 0)))), (.op (.v (.bin .leq (.t 0) (.c (.int .u8 122)))))] .t (.t 0) (.c (.bool false))),
  (.op none (.s 1) (.v (.mv (.t 0))))]
def c48s2 : SCode := (.seq (.ops c48r1) .ret)
@[go_sem] theorem c48s2eq : vc P E c48s2 σ H Q = vc P E (.seq (.ops c48r1) .ret) σ H Q := rfl
def c48 : Gx.Fn := ⟨9, c48k, (.seq (.ops c48r0) c48s2), [(.tmp (.s 1))]⟩
theorem c48ok : stripFn Tryd.prog c48k Tryd.f48 = some c48 := by kernel_rfl

/- lexer.part -/
@[go_sem] def c49k : List Nat := [0, 2]
@[go_sem] def c49r0 : List GOp := [(.op none (.s 1) (.v (.mv (.c (.bool false)))))]
@[go_sem] def c49r1 : List GOp := [(.op none .t (.v (.mv (.s 0)))),
  (.op none .t (.call 48 [(.t 0)])),
  (.op none .t (.v (.mv (.t 0)))),
  (.op (some ((.t 0), (false, true))) .t (.v (.mv (.s 0)))),
  (.op (some ((.t 1), (false, false))) .t (.call 50 [(.t 0)])),
  (.op none .t (.v (.pick (.t 2) (.c (.bool true)) (.t 0)))),
  (.op none .t (.v (.mv (.t 0)))),
  (.sel (.t 0) false [(.op (.v (.mv (.s 0)))), (.op (.v (.bin .eql (.t 0) (.c (.int .u8 45)))))] .t (.c (.bool true)) (.t 0)),
  (.op none (.s 1) (.v (.mv (.t 0))))]
def c49s2 : SCode := (.seq (.ops c49r1) .ret)
@[go_sem] theorem c49s2eq : vc P E c49s2 σ H Q = vc P E (.seq (.ops c49r1) .ret) σ H Q := rfl
def c49 : Gx.Fn := ⟨13, c49k, (.seq (.ops c49r0) c49s2), [(.tmp (.s 1))]⟩
theorem c49ok : stripFn Tryd.prog c49k Tryd.f49 = some c49 := by kernel_rfl

/- lexer.digit -/
@[go_sem] def c50k : List Nat := [0, 2]
@[go_sem] def c50r0 : List GOp := [(.op none (.s 1) (.v (.mv (.c (.bool false)))))]
@[go_sem] def c50r1 : List GOp := [(.op none .t (.v (.mv (.s 0)))),
  (.op none .t (.v (.bin .geq (.t 0) (.c (.int .u8 48))))),
  (.op none .t (.v (.mv (.t 0)))),
  (.sel (.t 0) true [(.op (.v (.mv (.s 0)))), (.op (.v (.bin .leq (.t 0) (.c (.int .u8 57)))))] .t (.t 0) (.c (.bool false))),
  (.op none (.s 1) (.v (.mv (.t 0))))]
def c50s2 : SCode := (.seq (.ops c50r1) .ret)
@[go_sem] theorem c50s2eq : vc P E c50s2 σ H Q = vc P E (.seq (.ops c50r1) .ret) σ H Q := rfl
def c50 : Gx.Fn := ⟨9, c50k, (.seq (.ops c50r0) c50s2), [(.tmp (.s 1))]⟩
theorem c50ok : stripFn Tryd.prog c50k Tryd.f50 = some c50 := by kernel_rfl

/- names.Valid -/
@[go_sem] def c52k : List Nat := [0, 2, 3, 21, 23, 24, 25, 31]
@[go_sem] def c52r0 : List GOp := [(.op none (.s 1) (.v (.mv (.c (.bool false)))))]
@[go_sem] def c52r1 : List GOp := [(.op none .t (.v (.mv (.s 0)))),
  (.op none .t (.v (.slen (.t 0)))),
  (.op none .t (.v (.bin .eql (.t 0) (.c (.int .i64 0))))),
  (.op none .t (.v (.mv (.t 0)))),
  (.sel (.t 0) false [(.op (.v (.mv (.s 0)))), (.op (.v (.slen (.t 0)))), (.op (.v (.bin .gtr (.t 0) (.c (.int .i64 16)))))] .t (.c (.bool true)) (.t 0)),
  (.op none .t (.v (.mv (.t 0)))),
  (.op (some ((.t 0), (false, true))) .t (.v (.mv (.s 0)))),
  (.op (some ((.t 1), (false, false))) .t (.v (.six (.t 0) (.c (.int .i64 0))))),
  (.op (some ((.t 2), (false, false))) .t (.v (.bin .lss (.t 0) (.c (.int .u8 97))))),
  (.op none .t (.v (.pick (.t 3) (.c (.bool true)) (.t 0)))),
  (.op none .t (.v (.mv (.t 0)))),
  (.op (some ((.t 0), (false, true))) .t (.v (.mv (.s 0)))),
  (.op (some ((.t 1), (false, false))) .t (.v (.six (.t 0) (.c (.int .i64 0))))),
  (.op (some ((.t 2), (false, false))) .t (.v (.bin .gtr (.t 0) (.c (.int .u8 122))))),
  (.op none (.s 3) (.v (.pick (.t 3) (.c (.bool true)) (.t 0))))]
@[go_sem] def c52r2 : List GOp := [(.op none (.s 1) (.v (.mv (.c (.bool false)))))]
def c52s3 : SCode := (.seq (.ops c52r2) .ret)
@[go_sem] theorem c52s3eq : vc P E c52s3 σ H Q = vc P E (.seq (.ops c52r2) .ret) σ H Q := rfl
def c52s4 : SCode := (.cond (.s 3) c52s3 .skip)
@[go_sem] theorem c52s4eq : vc P E c52s4 σ H Q = vc P E (.cond (.s 3) c52s3 .skip) σ H Q := rfl
@[go_sem] def c52r5 : List GOp := [(.op none .t (.v (.mv (.s 0)))),
  (.op none (.s 4) (.v (.slen (.t 0)))),
  (.op none (.s 5) (.v (.mv (.c (.int .i64 0)))))]
@[go_sem] def c52r6 : List GOp := [(.op none (.s 6) (.v (.bin .lss (.s 5) (.s 4))))]
@[go_sem] def c52r7 : List GOp := [(.op none .t (.v (.mv (.s 5)))),
  (.op none (.s 2) (.v (.mv (.t 0))))]
@[go_sem] def c52r8 : List GOp := [(.op none .t (.v (.mv (.s 0)))),
  (.op none .t (.v (.mv (.s 2)))),
  (.op none .t (.v (.six (.t 1) (.t 0)))),
  (.op none .t (.call 69 [(.t 0)])),
  (.op none (.s 7) (.v (.un .not (.t 0))))]
@[go_sem] def c52r9 : List GOp := [(.op none (.s 1) (.v (.mv (.c (.bool false)))))]
def c52s10 : SCode := (.seq (.ops c52r9) .ret)
@[go_sem] theorem c52s10eq : vc P E c52s10 σ H Q = vc P E (.seq (.ops c52r9) .ret) σ H Q := rfl
def c52s11 : SCode := (.cond (.s 7) c52s10 .skip)
@[go_sem] theorem c52s11eq : vc P E c52s11 σ H Q = vc P E (.cond (.s 7) c52s10 .skip) σ H Q := rfl
def c52s12 : SCode := (.seq (.ops c52r8) c52s11)
@[go_sem] theorem c52s12eq : vc P E c52s12 σ H Q = vc P E (.seq (.ops c52r8) c52s11) σ H Q := rfl
@[go_sem] def c52r13 : List GOp := [(.op none .t (.v (.bin .add (.s 5) (.c (.int .i64 1))))),
  (.op none (.s 5) (.v (.mv (.t 0))))]
def c52s14 : SCode := (.ops c52r13)
@[go_sem] theorem c52s14eq : vc P E c52s14 σ H Q = vc P E (.ops c52r13) σ H Q := rfl
def c52s15 : SCode := (.seq (.block 1 (.seq (.ops c52r7) c52s12)) c52s14)
@[go_sem] theorem c52s15eq : vc P E c52s15 σ H Q = vc P E (.seq (.block 1 (.seq (.ops c52r7) c52s12)) c52s14) σ H Q := rfl
def c52s16 : SCode := (.seq (.cond (.s 6) .skip (.exit 0)) c52s15)
@[go_sem] theorem c52s16eq : vc P E c52s16 σ H Q = vc P E (.seq (.cond (.s 6) .skip (.exit 0)) c52s15) σ H Q := rfl
def c52s17 : SCode := (.seq (.ops c52r6) c52s16)
@[go_sem] theorem c52s17eq : vc P E c52s17 σ H Q = vc P E (.seq (.ops c52r6) c52s16) σ H Q := rfl
def c52s18 : SCode := (.block 0 (.loop c52k c52s17))
@[go_sem] theorem c52s18eq : vc P E c52s18 σ H Q = vc P E (.block 0 (.loop c52k c52s17)) σ H Q := rfl
@[go_sem] def c52r19 : List GOp := [(.op none (.s 1) (.v (.mv (.c (.bool true)))))]
def c52s20 : SCode := (.seq (.ops c52r19) .ret)
@[go_sem] theorem c52s20eq : vc P E c52s20 σ H Q = vc P E (.seq (.ops c52r19) .ret) σ H Q := rfl
def c52s21 : SCode := (.seq (.seq (.ops c52r5) c52s18) c52s20)
@[go_sem] theorem c52s21eq : vc P E c52s21 σ H Q = vc P E (.seq (.seq (.ops c52r5) c52s18) c52s20) σ H Q := rfl
def c52s22 : SCode := (.seq (.seq (.ops c52r1) c52s4) c52s21)
@[go_sem] theorem c52s22eq : vc P E c52s22 σ H Q = vc P E (.seq (.seq (.ops c52r1) c52s4) c52s21) σ H Q := rfl
def c52 : Gx.Fn := ⟨33, c52k, (.seq (.ops c52r0) c52s22), [(.tmp (.s 1))]⟩
theorem c52ok : stripFn Tryd.prog c52k Tryd.f52 = some c52 := by kernel_rfl

/- plexusref15.blank -/
@[go_sem] def c53k : List Nat := [0, 2]
@[go_sem] def c53r0 : List GOp := [(.op none (.s 1) (.v (.mv (.c (.bool false)))))]
@[go_sem] def c53r1 : List GOp := [(.op none .t (.v (.mv (.s 0)))),
  (.op none .t (.v (.bin .eql (.t 0) (.c (.int .u8 32))))),
  (.op none .t (.v (.mv (.t 0)))),
  (.sel (.t 0) false [(.op (.v (.mv (.s 0)))), (.op (.v (.bin .eql (.t 0) (.c (.int .u8 9)))))] .t (.c (.bool true)) (.t 0)),
  (.op none .t (.v (.mv (.t 0)))),
  (.sel (.t 0) false [(.op (.v (.mv (.s 0)))), (.op (.v (.bin .eql (.t 0) (.c (.int .u8 10)))))] .t (.c (.bool true)) (.t 0)),
  (.op none .t (.v (.mv (.t 0)))),
  (.sel (.t 0) false [(.op (.v (.mv (.s 0)))), (.op (.v (.bin .eql (.t 0) (.c (.int .u8 13)))))] .t (.c (.bool true)) (.t 0)),
  (.op none (.s 1) (.v (.mv (.t 0))))]
def c53s2 : SCode := (.seq (.ops c53r1) .ret)
@[go_sem] theorem c53s2eq : vc P E c53s2 σ H Q = vc P E (.seq (.ops c53r1) .ret) σ H Q := rfl
def c53 : Gx.Fn := ⟨17, c53k, (.seq (.ops c53r0) c53s2), [(.tmp (.s 1))]⟩
theorem c53ok : stripFn Tryd.prog c53k Tryd.f53 = some c53 := by kernel_rfl

/- plexusref15.letter -/
@[go_sem] def c54k : List Nat := [0, 2]
@[go_sem] def c54r0 : List GOp := [(.op none (.s 1) (.v (.mv (.c (.bool false)))))]
@[go_sem] def c54r1 : List GOp := [(.op none .t (.v (.mv (.s 0)))),
  (.op none .t (.v (.bin .geq (.t 0) (.c (.int .u8 97))))),
  (.op none .t (.v (.mv (.t 0)))),
  (.sel (.t 0) true [(.op (.v (.mv (.s 0)))), (.op (.v (.bin .leq (.t 0) (.c (.int .u8 122)))))] .t (.t 0) (.c (.bool false))),
  (.op none (.s 1) (.v (.mv (.t 0))))]
def c54s2 : SCode := (.seq (.ops c54r1) .ret)
@[go_sem] theorem c54s2eq : vc P E c54s2 σ H Q = vc P E (.seq (.ops c54r1) .ret) σ H Q := rfl
def c54 : Gx.Fn := ⟨9, c54k, (.seq (.ops c54r0) c54s2), [(.tmp (.s 1))]⟩
theorem c54ok : stripFn Tryd.prog c54k Tryd.f54 = some c54 := by kernel_rfl

/- plexusref15.word -/
@[go_sem] def c55k : List Nat := [0, 1, 4, 14]
@[go_sem] def c55r0 : List GOp := [(.op none (.s 2) (.v (.mv (.c (.int .i64 0)))))]
@[go_sem] def c55r1 : List GOp := [(.op none .t (.v (.mv (.s 1)))),
  (.op none .t (.v (.mv (.s 0)))),
  (.op none .t (.v (.slen (.t 0)))),
  (.op none .t (.v (.bin .lss (.t 2) (.t 0)))),
  (.op none .t (.v (.mv (.t 0)))),
  (.op (some ((.t 0), (true, true))) .t (.v (.mv (.s 0)))),
  (.op (some ((.t 1), (true, false))) .t (.v (.mv (.s 1)))),
  (.op (some ((.t 2), (true, false))) .t (.v (.six (.t 1) (.t 0)))),
  (.op (some ((.t 3), (true, false))) .t (.call 70 [(.t 0)])),
  (.op none (.s 3) (.v (.pick (.t 4) (.t 0) (.c (.bool false)))))]
def c55s2 : SCode := (.cond (.s 3) .skip (.exit 0))
@[go_sem] theorem c55s2eq : vc P E c55s2 σ H Q = vc P E (.cond (.s 3) .skip (.exit 0)) σ H Q := rfl
@[go_sem] def c55r3 : List GOp := [(.op none .t (.v (.mv (.s 1)))),
  (.op none .t (.v (.bin .add (.t 0) (.c (.int .i64 1))))),
  (.op none (.s 1) (.v (.mv (.t 0))))]
def c55s4 : SCode := (.seq (.seq (.ops c55r1) c55s2) (.block 1 (.ops c55r3)))
@[go_sem] theorem c55s4eq : vc P E c55s4 σ H Q = vc P E (.seq (.seq (.ops c55r1) c55s2) (.block 1 (.ops c55r3))) σ H Q := rfl
@[go_sem] def c55r5 : List GOp := [(.op none .t (.v (.mv (.s 1)))),
  (.op none (.s 2) (.v (.mv (.t 0))))]
def c55s6 : SCode := (.seq (.ops c55r5) .ret)
@[go_sem] theorem c55s6eq : vc P E c55s6 σ H Q = vc P E (.seq (.ops c55r5) .ret) σ H Q := rfl
def c55s7 : SCode := (.seq (.block 0 (.loop c55k c55s4)) c55s6)
@[go_sem] theorem c55s7eq : vc P E c55s7 σ H Q = vc P E (.seq (.block 0 (.loop c55k c55s4)) c55s6) σ H Q := rfl
def c55 : Gx.Fn := ⟨18, c55k, (.seq (.ops c55r0) c55s7), [(.tmp (.s 2))]⟩
theorem c55ok : stripFn Tryd.prog c55k Tryd.f55 = some c55 := by kernel_rfl

/- plexusref15.digit -/
@[go_sem] def c56k : List Nat := [0, 2]
@[go_sem] def c56r0 : List GOp := [(.op none (.s 1) (.v (.mv (.c (.bool false)))))]
@[go_sem] def c56r1 : List GOp := [(.op none .t (.v (.mv (.s 0)))),
  (.op none .t (.v (.bin .geq (.t 0) (.c (.int .u8 48))))),
  (.op none .t (.v (.mv (.t 0)))),
  (.sel (.t 0) true [(.op (.v (.mv (.s 0)))), (.op (.v (.bin .leq (.t 0) (.c (.int .u8 57)))))] .t (.t 0) (.c (.bool false))),
  (.op none (.s 1) (.v (.mv (.t 0))))]
def c56s2 : SCode := (.seq (.ops c56r1) .ret)
@[go_sem] theorem c56s2eq : vc P E c56s2 σ H Q = vc P E (.seq (.ops c56r1) .ret) σ H Q := rfl
def c56 : Gx.Fn := ⟨9, c56k, (.seq (.ops c56r0) c56s2), [(.tmp (.s 1))]⟩
theorem c56ok : stripFn Tryd.prog c56k Tryd.f56 = some c56 := by kernel_rfl

/- plexusref15.integer -/
@[go_sem] def c57k : List Nat := [0, 1, 4, 5, 6, 7, 8, 19, 21, 41, 48]
@[go_sem] def c57r0 : List GOp := [(.op none (.s 2) (.al 25 [(.int .i64 0), (.string ⟨⟨[]⟩⟩), (.int .i64 0), (.int .i64 0)])),
  (.op none (.s 3) (.v (.mv (.c (.int .i64 0))))),
  (.op none (.s 4) (.al 28 [(.int .i64 0), (.int .i64 0)]))]
@[go_sem] def c57r1 : List GOp := [(.op none .t (.v (.mv (.s 1)))),
  (.op none (.s 5) (.v (.mv (.t 0))))]
@[go_sem] def c57r2 : List GOp := [(.op none (.s 6) (.v (.mv (.c (.int .i64 0)))))]
@[go_sem] def c57r3 : List GOp := [(.op none .t (.v (.mv (.s 5)))),
  (.op none .t (.v (.mv (.s 0)))),
  (.op none .t (.v (.slen (.t 0)))),
  (.op none .t (.v (.bin .lss (.t 2) (.t 0)))),
  (.op none .t (.v (.mv (.t 0)))),
  (.op (some ((.t 0), (true, true))) .t (.v (.mv (.s 0)))),
  (.op (some ((.t 1), (true, false))) .t (.v (.mv (.s 5)))),
  (.op (some ((.t 2), (true, false))) .t (.v (.six (.t 1) (.t 0)))),
  (.op (some ((.t 3), (true, false))) .t (.call 56 [(.t 0)])),
  (.op none (.s 7) (.v (.pick (.t 4) (.t 0) (.c (.bool false)))))]
def c57s4 : SCode := (.cond (.s 7) .skip (.exit 0))
@[go_sem] theorem c57s4eq : vc P E c57s4 σ H Q = vc P E (.cond (.s 7) .skip (.exit 0)) σ H Q := rfl
@[go_sem] def c57r5 : List GOp := [(.op none .t (.v (.mv (.s 6)))),
  (.op none (.s 8) (.v (.bin .leq (.t 0) (.c (.int .i64 1000000000000000)))))]
@[go_sem] def c57r6 : List GOp := [(.op none .t (.v (.mv (.s 6)))),
  (.op none .t (.v (.bin .mul (.c (.int .i64 10)) (.t 0)))),
  (.op none .t (.v (.mv (.s 0)))),
  (.op none .t (.v (.mv (.s 5)))),
  (.op none .t (.v (.six (.t 1) (.t 0)))),
  (.op none .t (.v (.bin .sub (.t 0) (.c (.int .u8 48))))),
  (.op none .t (.v (.cvi .i64 (.t 0)))),
  (.op none .t (.v (.bin .add (.t 5) (.t 0)))),
  (.op none (.s 6) (.v (.mv (.t 0))))]
def c57s7 : SCode := (.cond (.s 8) (.ops c57r6) .skip)
@[go_sem] theorem c57s7eq : vc P E c57s7 σ H Q = vc P E (.cond (.s 8) (.ops c57r6) .skip) σ H Q := rfl
@[go_sem] def c57r8 : List GOp := [(.op none .t (.v (.mv (.s 5)))),
  (.op none .t (.v (.bin .add (.t 0) (.c (.int .i64 1))))),
  (.op none (.s 5) (.v (.mv (.t 0))))]
def c57s9 : SCode := (.ops c57r8)
@[go_sem] theorem c57s9eq : vc P E c57s9 σ H Q = vc P E (.ops c57r8) σ H Q := rfl
def c57s10 : SCode := (.block 1 (.seq (.seq (.ops c57r5) c57s7) c57s9))
@[go_sem] theorem c57s10eq : vc P E c57s10 σ H Q = vc P E (.block 1 (.seq (.seq (.ops c57r5) c57s7) c57s9)) σ H Q := rfl
def c57s11 : SCode := (.seq (.seq (.ops c57r3) c57s4) c57s10)
@[go_sem] theorem c57s11eq : vc P E c57s11 σ H Q = vc P E (.seq (.seq (.ops c57r3) c57s4) c57s10) σ H Q := rfl
@[go_sem] def c57r12 : List GOp := [(.op none .t (.v (.mv (.s 0)))),
  (.op none .t (.v (.mv (.s 1)))),
  (.op none .t (.v (.six (.t 1) (.t 0)))),
  (.op none .t (.v (.bin .eql (.t 0) (.c (.int .u8 48))))),
  (.op none .t (.v (.mv (.t 0)))),
  (.sel (.t 0) true [(.op (.v (.mv (.s 5)))), (.op (.v (.mv (.s 1)))), (.op (.v (.bin .sub (.t 1) (.t 0)))), (.op (.v (.bin .gtr (.t 0) (.c (.int .i64 1)))))] (.s 9) (.t 0) (.c (.bool false)))]
@[go_sem] def c57r13 : List GOp := [(.op none .t (.v (.mv (.s 1)))),
  (.op none .t (.call 35 [(.c (.int .i64 2)), (.t 0)])),
  (.op none .t (.v (.ext (.t 0) 0))),
  (.op none .t (.v (.ext (.t 1) 1))),
  (.op none .t (.v (.ext (.t 2) 2))),
  (.op none .no (.st 4 (.s 2) (.t 2))),
  (.op none (.s 3) (.v (.mv (.t 1)))),
  (.op none .no (.st 2 (.s 4) (.t 0)))]
def c57s14 : SCode := (.seq (.ops c57r13) .ret)
@[go_sem] theorem c57s14eq : vc P E c57s14 σ H Q = vc P E (.seq (.ops c57r13) .ret) σ H Q := rfl
def c57s15 : SCode := (.cond (.s 9) c57s14 .skip)
@[go_sem] theorem c57s15eq : vc P E c57s15 σ H Q = vc P E (.cond (.s 9) c57s14 .skip) σ H Q := rfl
@[go_sem] def c57r16 : List GOp := [(.op none .t (.v (.mv (.s 6)))),
  (.op none (.s 10) (.v (.bin .gtr (.t 0) (.c (.int .i64 1000000000000000)))))]
@[go_sem] def c57r17 : List GOp := [(.op none .t (.v (.mv (.s 1)))),
  (.op none .t (.call 35 [(.c (.int .i64 5)), (.t 0)])),
  (.op none .t (.v (.ext (.t 0) 0))),
  (.op none .t (.v (.ext (.t 1) 1))),
  (.op none .t (.v (.ext (.t 2) 2))),
  (.op none .no (.st 4 (.s 2) (.t 2))),
  (.op none (.s 3) (.v (.mv (.t 1)))),
  (.op none .no (.st 2 (.s 4) (.t 0)))]
def c57s18 : SCode := (.seq (.ops c57r17) .ret)
@[go_sem] theorem c57s18eq : vc P E c57s18 σ H Q = vc P E (.seq (.ops c57r17) .ret) σ H Q := rfl
def c57s19 : SCode := (.cond (.s 10) c57s18 .skip)
@[go_sem] theorem c57s19eq : vc P E c57s19 σ H Q = vc P E (.cond (.s 10) c57s18 .skip) σ H Q := rfl
@[go_sem] def c57r20 : List GOp := [(.op none .t (.v (.mv (.s 6)))),
  (.op none .t (.v (.mv (.s 1)))),
  (.op none .t (.v (.bld [(.int .i64 0), (.string ⟨⟨[]⟩⟩), (.int .i64 0), (.int .i64 0)] [(0, (1, (.c (.int .i64 3)))), (2, (1, (.t 1))), (3, (1, (.t 0)))]))),
  (.op none .t (.v (.mv (.s 5)))),
  (.op none .t (.v (.bld [(.int .i64 0), (.int .i64 0)] []))),
  (.op none .no (.st 4 (.s 2) (.t 2))),
  (.op none (.s 3) (.v (.mv (.t 1)))),
  (.op none .no (.st 2 (.s 4) (.t 0)))]
def c57s21 : SCode := (.seq (.ops c57r20) .ret)
@[go_sem] theorem c57s21eq : vc P E c57s21 σ H Q = vc P E (.seq (.ops c57r20) .ret) σ H Q := rfl
def c57s22 : SCode := (.seq (.seq (.ops c57r16) c57s19) c57s21)
@[go_sem] theorem c57s22eq : vc P E c57s22 σ H Q = vc P E (.seq (.seq (.ops c57r16) c57s19) c57s21) σ H Q := rfl
def c57s23 : SCode := (.seq (.seq (.ops c57r12) c57s15) c57s22)
@[go_sem] theorem c57s23eq : vc P E c57s23 σ H Q = vc P E (.seq (.seq (.ops c57r12) c57s15) c57s22) σ H Q := rfl
def c57s24 : SCode := (.seq (.block 0 (.loop c57k c57s11)) c57s23)
@[go_sem] theorem c57s24eq : vc P E c57s24 σ H Q = vc P E (.seq (.block 0 (.loop c57k c57s11)) c57s23) σ H Q := rfl
def c57s25 : SCode := (.seq (.ops c57r2) c57s24)
@[go_sem] theorem c57s25eq : vc P E c57s25 σ H Q = vc P E (.seq (.ops c57r2) c57s24) σ H Q := rfl
def c57s26 : SCode := (.seq (.ops c57r1) c57s25)
@[go_sem] theorem c57s26eq : vc P E c57s26 σ H Q = vc P E (.seq (.ops c57r1) c57s25) σ H Q := rfl
def c57 : Gx.Fn := ⟨59, c57k, (.seq (.ops c57r0) c57s26), [(.cell (.s 2) (some 4)), (.tmp (.s 3)), (.cell (.s 4) (some 2))]⟩
theorem c57ok : stripFn Tryd.prog c57k Tryd.f57 = some c57 := by kernel_rfl

/- plexusref02.letter -/
@[go_sem] def c62k : List Nat := [0, 2]
@[go_sem] def c62r0 : List GOp := [(.op none (.s 1) (.v (.mv (.c (.bool false)))))]
@[go_sem] def c62r1 : List GOp := [(.op none .t (.v (.mv (.s 0)))),
  (.op none .t (.v (.bin .geq (.t 0) (.c (.int .u8 97))))),
  (.op none .t (.v (.mv (.t 0)))),
  (.sel (.t 0) true [(.op (.v (.mv (.s 0)))), (.op (.v (.bin .leq (.t 0) (.c (.int .u8 122)))))] .t (.t 0) (.c (.bool false))),
  (.op none .t (.v (.mv (.t 0)))),
  (.sel (.t 0) false [(.op (.v (.mv (.s 0)))), (.op (.v (.bin .geq (.t 0) (.c (.int .u8 48))))), (.op (.v (.mv (.t 0)))), (.nst (.t 0) true [(.op (.v (.mv (.s 0)))), (.op (.v (.bin .leq (.t 0) (.c (.int .u8 57)))))] (.t 0) (.c (.bool false)))] .t (.c (.bool true)) (.t 0)),
  (.op none .t (.v (.mv (.t 0)))),
  (.sel (.t 0) false [(.op (.v (.mv (.s 0)))), (.op (.v (.bin .eql (.t 0) (.c (.int .u8 45)))))] .t (.c (.bool true)) (.t 0)),
  (.op none (.s 1) (.v (.mv (.t 0))))]
def c62s2 : SCode := (.seq (.ops c62r1) .ret)
@[go_sem] theorem c62s2eq : vc P E c62s2 σ H Q = vc P E (.seq (.ops c62r1) .ret) σ H Q := rfl
def c62 : Gx.Fn := ⟨21, c62k, (.seq (.ops c62r0) c62s2), [(.tmp (.s 1))]⟩
theorem c62ok : stripFn Tryd.prog c62k Tryd.f62 = some c62 := by kernel_rfl

/- internal/bytealg.LastIndexByteString -/
@[go_sem] def c66k : List Nat := [0, 1, 4, 5, 10, 17]
@[go_sem] def c66r0 : List GOp := [(.op none (.s 2) (.v (.mv (.c (.int .i64 0)))))]
@[go_sem] def c66r1 : List GOp := [(.op none .t (.v (.mv (.s 0)))),
  (.op none .t (.v (.slen (.t 0)))),
  (.op none .t (.v (.bin .sub (.t 0) (.c (.int .i64 1))))),
  (.op none (.s 3) (.v (.mv (.t 0))))]
@[go_sem] def c66r2 : List GOp := [(.op none .t (.v (.mv (.s 3)))),
  (.op none (.s 4) (.v (.bin .geq (.t 0) (.c (.int .i64 0)))))]
def c66s3 : SCode := (.cond (.s 4) .skip (.exit 0))
@[go_sem] theorem c66s3eq : vc P E c66s3 σ H Q = vc P E (.cond (.s 4) .skip (.exit 0)) σ H Q := rfl
@[go_sem] def c66r4 : List GOp := [(.op none .t (.v (.mv (.s 0)))),
  (.op none .t (.v (.mv (.s 3)))),
  (.op none .t (.v (.six (.t 1) (.t 0)))),
  (.op none .t (.v (.mv (.s 1)))),
  (.op none (.s 5) (.v (.bin .eql (.t 1) (.t 0))))]
@[go_sem] def c66r5 : List GOp := [(.op none .t (.v (.mv (.s 3)))),
  (.op none (.s 2) (.v (.mv (.t 0))))]
def c66s6 : SCode := (.seq (.ops c66r5) .ret)
@[go_sem] theorem c66s6eq : vc P E c66s6 σ H Q = vc P E (.seq (.ops c66r5) .ret) σ H Q := rfl
def c66s7 : SCode := (.cond (.s 5) c66s6 .skip)
@[go_sem] theorem c66s7eq : vc P E c66s7 σ H Q = vc P E (.cond (.s 5) c66s6 .skip) σ H Q := rfl
@[go_sem] def c66r8 : List GOp := [(.op none .t (.v (.mv (.s 3)))),
  (.op none .t (.v (.bin .sub (.t 0) (.c (.int .i64 1))))),
  (.op none (.s 3) (.v (.mv (.t 0))))]
def c66s9 : SCode := (.ops c66r8)
@[go_sem] theorem c66s9eq : vc P E c66s9 σ H Q = vc P E (.ops c66r8) σ H Q := rfl
def c66s10 : SCode := (.seq (.block 1 (.seq (.ops c66r4) c66s7)) c66s9)
@[go_sem] theorem c66s10eq : vc P E c66s10 σ H Q = vc P E (.seq (.block 1 (.seq (.ops c66r4) c66s7)) c66s9) σ H Q := rfl
def c66s11 : SCode := (.seq (.seq (.ops c66r2) c66s3) c66s10)
@[go_sem] theorem c66s11eq : vc P E c66s11 σ H Q = vc P E (.seq (.seq (.ops c66r2) c66s3) c66s10) σ H Q := rfl
def c66s12 : SCode := (.block 0 (.loop c66k c66s11))
@[go_sem] theorem c66s12eq : vc P E c66s12 σ H Q = vc P E (.block 0 (.loop c66k c66s11)) σ H Q := rfl
@[go_sem] def c66r13 : List GOp := [(.op none (.s 2) (.v (.mv (.c (.int .i64 (-1))))))]
def c66s14 : SCode := (.seq (.ops c66r13) .ret)
@[go_sem] theorem c66s14eq : vc P E c66s14 σ H Q = vc P E (.seq (.ops c66r13) .ret) σ H Q := rfl
def c66s15 : SCode := (.seq (.seq (.ops c66r1) c66s12) c66s14)
@[go_sem] theorem c66s15eq : vc P E c66s15 σ H Q = vc P E (.seq (.seq (.ops c66r1) c66s12) c66s14) σ H Q := rfl
def c66 : Gx.Fn := ⟨19, c66k, (.seq (.ops c66r0) c66s15), [(.tmp (.s 2))]⟩
theorem c66ok : stripFn Tryd.prog c66k Tryd.f66 = some c66 := by kernel_rfl

/- names.wordByte -/
@[go_sem] def c69k : List Nat := [0, 2]
@[go_sem] def c69r0 : List GOp := [(.op none (.s 1) (.v (.mv (.c (.bool false)))))]
@[go_sem] def c69r1 : List GOp := [(.op none .t (.v (.mv (.s 0)))),
  (.op none .t (.v (.bin .leq (.c (.int .u8 97)) (.t 0)))),
  (.op none .t (.v (.mv (.t 0)))),
  (.sel (.t 0) true [(.op (.v (.mv (.s 0)))), (.op (.v (.bin .leq (.t 0) (.c (.int .u8 122)))))] .t (.t 0) (.c (.bool false))),
  (.op none .t (.v (.mv (.t 0)))),
  (.sel (.t 0) false [(.op (.v (.mv (.s 0)))), (.op (.v (.bin .leq (.c (.int .u8 48)) (.t 0)))), (.op (.v (.mv (.t 0)))), (.nst (.t 0) true [(.op (.v (.mv (.s 0)))), (.op (.v (.bin .leq (.t 0) (.c (.int .u8 57)))))] (.t 0) (.c (.bool false)))] .t (.c (.bool true)) (.t 0)),
  (.op none .t (.v (.mv (.t 0)))),
  (.sel (.t 0) false [(.op (.v (.mv (.s 0)))), (.op (.v (.bin .eql (.t 0) (.c (.int .u8 45)))))] .t (.c (.bool true)) (.t 0)),
  (.op none (.s 1) (.v (.mv (.t 0))))]
def c69s2 : SCode := (.seq (.ops c69r1) .ret)
@[go_sem] theorem c69s2eq : vc P E c69s2 σ H Q = vc P E (.seq (.ops c69r1) .ret) σ H Q := rfl
def c69 : Gx.Fn := ⟨21, c69k, (.seq (.ops c69r0) c69s2), [(.tmp (.s 1))]⟩
theorem c69ok : stripFn Tryd.prog c69k Tryd.f69 = some c69 := by kernel_rfl

/- plexusref15.part -/
@[go_sem] def c70k : List Nat := [0, 2]
@[go_sem] def c70r0 : List GOp := [(.op none (.s 1) (.v (.mv (.c (.bool false)))))]
@[go_sem] def c70r1 : List GOp := [(.op none .t (.v (.mv (.s 0)))),
  (.op none .t (.call 54 [(.t 0)])),
  (.op none .t (.v (.mv (.t 0)))),
  (.op (some ((.t 0), (false, true))) .t (.v (.mv (.s 0)))),
  (.op (some ((.t 1), (false, false))) .t (.call 56 [(.t 0)])),
  (.op none .t (.v (.pick (.t 2) (.c (.bool true)) (.t 0)))),
  (.op none .t (.v (.mv (.t 0)))),
  (.sel (.t 0) false [(.op (.v (.mv (.s 0)))), (.op (.v (.bin .eql (.t 0) (.c (.int .u8 45)))))] .t (.c (.bool true)) (.t 0)),
  (.op none (.s 1) (.v (.mv (.t 0))))]
def c70s2 : SCode := (.seq (.ops c70r1) .ret)
@[go_sem] theorem c70s2eq : vc P E c70s2 σ H Q = vc P E (.seq (.ops c70r1) .ret) σ H Q := rfl
def c70 : Gx.Fn := ⟨13, c70k, (.seq (.ops c70r0) c70s2), [(.tmp (.s 1))]⟩
theorem c70ok : stripFn Tryd.prog c70k Tryd.f70 = some c70 := by kernel_rfl

end Go.Proofs.YtighpnijbnllaaaDoor
