/- Generated: the stripped code of Go functions, each held against the loaded program. -/
import Derived.Test.YtdhlibkdcldioaaGreatProg
import Derived.Test.YtdhlibkdcldioaaGreatGx20
namespace Go.Proofs.YtdhlibkdcldioaaGreat
open Gx Go

/- plexuslaw30.FrameBursts -/
@[go_sem] def c9k : List Nat := [0, 1, 2, 3, 6, 7, 8, 9, 10, 11, 12, 19, 39, 45, 53]
@[go_sem] def c9r0 : List GOp := [oS 3 (.bx 39 S0), mS 4 (.c (.bool false))]
@[go_sem] def c9r1 : List GOp := [oT (.ld (some 15) S3), oT (.call 15 [T0]), oT (.v (.un .not T0)), mT T0, (.sel T0 false [(.op (.v (.mv S2))), (.op (.v (.bin .eql T0 (.c (.int .u32 0)))))] (.s 11) (.c (.bool true)) T0)]
@[go_sem] def c9r2 : List GOp := [oT (.call 11 []), mS 4 T0]
def c9s3 : SCode := (.cond S11 (.seq (.ops c9r2) .ret) .skip)
@[go_sem] theorem c9s3eq : U c9s3 (.cond S11 (.seq (.ops c9r2) .ret) .skip) := fun _ _ _ _ _ => rfl
@[go_sem] def c9r4 : List GOp := [oT (.ld (some 15) S3), oT (.call 18 [T0]), mT T0, oT (.v (.ext T0 0)), oT (.v (.ext T1 1)), mS 5 T1, mS 6 T0]
@[go_sem] def c9r5 : List GOp := [mT S6, oT (.v (.bin .neq T0 (C 0))), mT T0, (.sel T0 false [(.op (.v (.mv S1))), (.op (.v (.bin .lss T0 (C 0))))] .t (.c (.bool true)) T0), mT T0, (.sel T0 false [(.op (.v (.mv S1))), (.op (.v (.mv S5))), (.op (.v (.len T0))), (.op (.v (.bin .mul (C 8) T0))), (.op (.v (.bin .sub T0 (C 32)))), (.op (.v (.bin .gtr T4 T0)))] (.s 12) (.c (.bool true)) T0)]
@[go_sem] def c9r6 : List GOp := [oT (.call 11 []), mS 4 T0]
def c9s7 : SCode := (.cond S12 (.seq (.ops c9r6) .ret) .skip)
@[go_sem] theorem c9s7eq : U c9s7 (.cond S12 (.seq (.ops c9r6) .ret) .skip) := fun _ _ _ _ _ => rfl
@[go_sem] def c9r8 : List GOp := [oT (.bs 5 0 [] []), mT S5, oT (.ap 22 22 T1 T0), mS 7 T0]
@[go_sem] def c9r9 : List GOp := [mS 8 (C 0)]
@[go_sem] def c9r10 : List GOp := [mT S8, oS 13 (.v (.bin .lss T0 (C 32)))]
def c9s11 : SCode := (.cond S13 .skip (.exit 0))
@[go_sem] theorem c9s11eq : U c9s11 (.cond S13 .skip (.exit 0)) := fun _ _ _ _ _ => rfl
@[go_sem] def c9r12 : List GOp := [mT S2, mT S8, oT (.v (.cvi .u64 T0)), oT (.v (.bin .shr T2 T0)), oT (.v (.bin .and T0 (.c (.int .u32 1)))), oS 14 (.v (.bin .eql T0 (.c (.int .u32 1))))]
@[go_sem] def c9r13 : List GOp := [mT S7, mT S1, mT S8, oT (.v (.bin .add T1 T0)), oT (.v (.bin .quo T0 (C 8))), oT (.v (.ix 1 T4 T0)), lT T0, mT S1, mT S8, oT (.v (.bin .add T1 T0)), oT (.v (.bin .rem T0 (C 8))), oT (.v (.cvi .u64 T0)), oT (.v (.bin .shl (.c (.int .u8 1)) T0)), oT (.v (.bin .xor T6 T0)), oT (.v (.ix 1 T13 T9)), oN (.st 1 T0 T1)]
def c9s14 : SCode := (.cond S14 (.ops c9r13) .skip)
@[go_sem] theorem c9s14eq : U c9s14 (.cond S14 (.ops c9r13) .skip) := fun _ _ _ _ _ => rfl
@[go_sem] def c9r15 : List GOp := [mT S8, oT (.v (.bin .add T0 (C 1))), mS 8 T0]
def c9s16 : SCode := (.ops c9r15)
@[go_sem] theorem c9s16eq : U c9s16 (.ops c9r15) := fun _ _ _ _ _ => rfl
def c9s17 : SCode := (.seq (.block 1 (.seq (.ops c9r12) c9s14)) c9s16)
@[go_sem] theorem c9s17eq : U c9s17 (.seq (.block 1 (.seq (.ops c9r12) c9s14)) c9s16) := fun _ _ _ _ _ => rfl
def c9s18 : SCode := (.seq (.seq (.ops c9r10) c9s11) c9s17)
@[go_sem] theorem c9s18eq : U c9s18 (.seq (.seq (.ops c9r10) c9s11) c9s17) := fun _ _ _ _ _ => rfl
def c9s19 : SCode := (.block 0 (.loop c9k c9s18))
@[go_sem] theorem c9s19eq : U c9s19 (.block 0 (.loop c9k c9s18)) := fun _ _ _ _ _ => rfl
@[go_sem] def c9r20 : List GOp := [mT S7, oT (.call 20 [T0]), mT T0, oT (.v (.ext T0 0)), oT (.v (.ext T1 1)), oS 9 (.al 39 [(I 0), (I 0), (I 0), (I 0), (I 0), (I 0), Z, Z, Z, Z, Z, Z, Z, (I 0), Z]), oN (.st 15 S9 T1), mS 10 T0]
@[go_sem] def c9r21 : List GOp := [oT (.call 11 []), mT T0, (.sel T0 true [(.op (.v (.mv S10))), (.op (.v (.bin .eql T0 (C 2))))] .t T0 (.c (.bool false))), mT T0, (.sel T0 true [(.op (.v (.fa 0 S9))), (.op (.ld none T0)), (.op (.v (.bin .eql T0 (C 0))))] .t T0 (.c (.bool false))), mS 4 T0]
def c9s22 : SCode := (.seq (.ops c9r21) .ret)
@[go_sem] theorem c9s22eq : U c9s22 (.seq (.ops c9r21) .ret) := fun _ _ _ _ _ => rfl
def c9s23 : SCode := (.seq (.ops c9r20) c9s22)
@[go_sem] theorem c9s23eq : U c9s23 (.seq (.ops c9r20) c9s22) := fun _ _ _ _ _ => rfl
def c9s24 : SCode := (.seq (.seq (.ops c9r9) c9s19) c9s23)
@[go_sem] theorem c9s24eq : U c9s24 (.seq (.seq (.ops c9r9) c9s19) c9s23) := fun _ _ _ _ _ => rfl
def c9s25 : SCode := (.seq (.ops c9r8) c9s24)
@[go_sem] theorem c9s25eq : U c9s25 (.seq (.ops c9r8) c9s24) := fun _ _ _ _ _ => rfl
def c9s26 : SCode := (.seq (.seq (.ops c9r5) c9s7) c9s25)
@[go_sem] theorem c9s26eq : U c9s26 (.seq (.seq (.ops c9r5) c9s7) c9s25) := fun _ _ _ _ _ => rfl
def c9s27 : SCode := (.seq (.ops c9r4) c9s26)
@[go_sem] theorem c9s27eq : U c9s27 (.seq (.ops c9r4) c9s26) := fun _ _ _ _ _ => rfl
def c9s28 : SCode := (.seq (.seq (.ops c9r1) c9s3) c9s27)
@[go_sem] theorem c9s28eq : U c9s28 (.seq (.seq (.ops c9r1) c9s3) c9s27) := fun _ _ _ _ _ => rfl
def c9 : Gx.Fn := ⟨84, c9k, (.seq (.ops c9r0) c9s28), [(.tmp S4)]⟩
theorem c9ok : stripFn Tryz.prog c9k Tryz.f9 = some c9 := by kernel_rfl

end Go.Proofs.YtdhlibkdcldioaaGreat
