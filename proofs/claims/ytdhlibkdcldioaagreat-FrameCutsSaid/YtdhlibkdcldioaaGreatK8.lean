/- Generated: the stripped code of Go functions, each held against the loaded program. -/
import Derived.Test.YtdhlibkdcldioaaGreatProg
import Derived.Test.YtdhlibkdcldioaaGreatGx20
namespace Go.Proofs.YtdhlibkdcldioaaGreat
open Gx Go

/- plexuslaw30.FrameCuts -/
@[go_sem] def c8k : List Nat := [0, 1, 2, 3, 6, 7, 8, 9, 10, 11, 12, 20, 28, 37, 51, 54]
@[go_sem] def c8r0 : List GOp := [oS 3 (.bx 39 S0), mS 4 (.c (.bool false))]
@[go_sem] def c8r1 : List GOp := [oT (.ld (some 15) S3), oT (.call 15 [T0]), oT (.v (.un .not T0)), mT T0, (.sel T0 false [(.op (.v (.mv S2))), (.op (.v (.len T0))), (.op (.v (.bin .gtr T0 (C 100))))] (.s 11) (.c (.bool true)) T0)]
@[go_sem] def c8r2 : List GOp := [oT (.call 11 []), mS 4 T0]
def c8s3 : SCode := (.cond S11 (.seq (.ops c8r2) .ret) .skip)
@[go_sem] theorem c8s3eq : U c8s3 (.cond S11 (.seq (.ops c8r2) .ret) .skip) := fun _ _ _ _ _ => rfl
@[go_sem] def c8r4 : List GOp := [oT (.ld (some 15) S3), oT (.call 18 [T0]), mT T0, oT (.v (.ext T0 0)), oT (.v (.ext T1 1)), mS 5 T1, mS 6 T0]
@[go_sem] def c8r5 : List GOp := [mT S6, oS 12 (.v (.bin .neq T0 (C 0)))]
@[go_sem] def c8r6 : List GOp := [oT (.call 11 []), mS 4 T0]
def c8s7 : SCode := (.cond S12 (.seq (.ops c8r6) .ret) .skip)
@[go_sem] theorem c8s7eq : U c8s7 (.cond S12 (.seq (.ops c8r6) .ret) .skip) := fun _ _ _ _ _ => rfl
@[go_sem] def c8r8 : List GOp := [mT S1, oT (.v (.bin .geq T0 (C 0))), mT T0, (.sel T0 true [(.op (.v (.mv S1))), (.op (.v (.mv S5))), (.op (.v (.len T0))), (.op (.v (.bin .lss T2 T0)))] (.s 13) T0 (.c (.bool false)))]
@[go_sem] def c8r9 : List GOp := [mT S5, mT S1, oT (.v (.sl 1 T1 none (some T0))), oT (.call 20 [T0]), mT T0, oT (.v (.ext T0 0)), oT (.v (.ext T1 1)), oS 7 (.al 39 [(I 0), (I 0), (I 0), (I 0), (I 0), (I 0), Z, Z, Z, Z, Z, Z, Z, (I 0), Z]), oN (.st 15 S7 T1), mS 8 T0]
@[go_sem] def c8r10 : List GOp := [mT S8, oT (.v (.bin .neq T0 (C 2))), mT T0, (.sel T0 false [(.op (.v (.fa 0 S7))), (.op (.ld none T0)), (.op (.v (.bin .neq T0 (C 0))))] (.s 14) (.c (.bool true)) T0)]
@[go_sem] def c8r11 : List GOp := [mS 4 (.c (.bool false))]
def c8s12 : SCode := (.seq (.ops c8r11) .ret)
@[go_sem] theorem c8s12eq : U c8s12 (.seq (.ops c8r11) .ret) := fun _ _ _ _ _ => rfl
def c8s13 : SCode := (.seq (.ops c8r10) (.cond S14 c8s12 .skip))
@[go_sem] theorem c8s13eq : U c8s13 (.seq (.ops c8r10) (.cond S14 c8s12 .skip)) := fun _ _ _ _ _ => rfl
def c8s14 : SCode := (.seq (.ops c8r9) c8s13)
@[go_sem] theorem c8s14eq : U c8s14 (.seq (.ops c8r9) c8s13) := fun _ _ _ _ _ => rfl
@[go_sem] def c8r15 : List GOp := [mT S2, nT T0, oS 15 (.v (.bin .eql T0 (C 0)))]
@[go_sem] def c8r16 : List GOp := [oT (.call 11 []), mS 4 T0]
def c8s17 : SCode := (.seq (.ops c8r16) .ret)
@[go_sem] theorem c8s17eq : U c8s17 (.seq (.ops c8r16) .ret) := fun _ _ _ _ _ => rfl
@[go_sem] def c8r18 : List GOp := [oT (.bs 5 0 [] []), mT S5, oT (.ap 22 22 T1 T0), mT S2, oT (.ap 22 22 T1 T0), oT (.call 20 [T0]), mT T0, oT (.v (.ext T0 0)), oT (.v (.ext T1 1)), oS 9 (.al 39 [(I 0), (I 0), (I 0), (I 0), (I 0), (I 0), Z, Z, Z, Z, Z, Z, Z, (I 0), Z]), oN (.st 15 S9 T1), mS 10 T0]
@[go_sem] def c8r19 : List GOp := [oT (.call 11 []), mT T0, (.sel T0 true [(.op (.v (.mv S10))), (.op (.v (.bin .eql T0 (C 2))))] .t T0 (.c (.bool false))), mT T0, (.sel T0 true [(.op (.v (.fa 0 S9))), (.op (.ld none T0)), (.op (.v (.bin .eql T0 (C 0))))] .t T0 (.c (.bool false))), mS 4 T0]
def c8s20 : SCode := (.seq (.ops c8r19) .ret)
@[go_sem] theorem c8s20eq : U c8s20 (.seq (.ops c8r19) .ret) := fun _ _ _ _ _ => rfl
def c8s21 : SCode := (.seq (.ops c8r18) c8s20)
@[go_sem] theorem c8s21eq : U c8s21 (.seq (.ops c8r18) c8s20) := fun _ _ _ _ _ => rfl
def c8s22 : SCode := (.seq (.seq (.ops c8r15) (.cond S15 c8s17 .skip)) c8s21)
@[go_sem] theorem c8s22eq : U c8s22 (.seq (.seq (.ops c8r15) (.cond S15 c8s17 .skip)) c8s21) := fun _ _ _ _ _ => rfl
def c8s23 : SCode := (.seq (.seq (.ops c8r8) (.cond S13 c8s14 .skip)) c8s22)
@[go_sem] theorem c8s23eq : U c8s23 (.seq (.seq (.ops c8r8) (.cond S13 c8s14 .skip)) c8s22) := fun _ _ _ _ _ => rfl
def c8s24 : SCode := (.seq (.seq (.ops c8r5) c8s7) c8s23)
@[go_sem] theorem c8s24eq : U c8s24 (.seq (.seq (.ops c8r5) c8s7) c8s23) := fun _ _ _ _ _ => rfl
def c8s25 : SCode := (.seq (.ops c8r4) c8s24)
@[go_sem] theorem c8s25eq : U c8s25 (.seq (.ops c8r4) c8s24) := fun _ _ _ _ _ => rfl
def c8s26 : SCode := (.seq (.seq (.ops c8r1) c8s3) c8s25)
@[go_sem] theorem c8s26eq : U c8s26 (.seq (.seq (.ops c8r1) c8s3) c8s25) := fun _ _ _ _ _ => rfl
def c8 : Gx.Fn := ⟨75, c8k, (.seq (.ops c8r0) c8s26), [(.tmp S4)]⟩
theorem c8ok : stripFn Tryz.prog c8k Tryz.f8 = some c8 := by kernel_rfl

end Go.Proofs.YtdhlibkdcldioaaGreat
