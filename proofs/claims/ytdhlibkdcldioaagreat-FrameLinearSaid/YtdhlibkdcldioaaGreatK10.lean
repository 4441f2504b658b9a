/- Generated: the stripped code of Go functions, each held against the loaded program. -/
import Derived.Test.YtdhlibkdcldioaaGreatProg
import Derived.Test.YtdhlibkdcldioaaGreatGx20
namespace Go.Proofs.YtdhlibkdcldioaaGreat
open Gx Go

/- plexuslaw30.FrameLinear -/
@[go_sem] def c10k : List Nat := [0, 1, 2, 6, 7, 8, 9, 15, 21, 25, 30]
@[go_sem] def c10r0 : List GOp := [mS 3 (.c (.bool false))]
@[go_sem] def c10r1 : List GOp := [mT S0, nT T0, mS 4 T0]
@[go_sem] def c10r2 : List GOp := [mT S1, nT T0, mT S4, oS 7 (.v (.bin .lss T1 T0))]
@[go_sem] def c10r3 : List GOp := [mT S1, nT T0, mS 4 T0]
def c10s4 : SCode := (.cond S7 (.ops c10r3) .skip)
@[go_sem] theorem c10s4eq : U c10s4 (.cond S7 (.ops c10r3) .skip) := fun _ _ _ _ _ => rfl
@[go_sem] def c10r5 : List GOp := [mT S2, nT T0, mT S4, oS 8 (.v (.bin .lss T1 T0))]
@[go_sem] def c10r6 : List GOp := [mT S2, nT T0, mS 4 T0]
def c10s7 : SCode := (.cond S8 (.ops c10r6) .skip)
@[go_sem] theorem c10s7eq : U c10s7 (.cond S8 (.ops c10r6) .skip) := fun _ _ _ _ _ => rfl
@[go_sem] def c10r8 : List GOp := [mT S4, oS 9 (.v (.bin .gtr T0 (C 400)))]
@[go_sem] def c10r9 : List GOp := [oT (.call 11 []), mS 3 T0]
def c10s10 : SCode := (.seq (.ops c10r9) .ret)
@[go_sem] theorem c10s10eq : U c10s10 (.seq (.ops c10r9) .ret) := fun _ _ _ _ _ => rfl
@[go_sem] def c10r11 : List GOp := [oT (.bs 5 0 [] []), mS 5 T0]
@[go_sem] def c10r12 : List GOp := [mS 6 (C 0)]
@[go_sem] def c10r13 : List GOp := [mT S6, mT S4, oS 10 (.v (.bin .lss T1 T0))]
def c10s14 : SCode := (.cond S10 .skip (.exit 0))
@[go_sem] theorem c10s14eq : U c10s14 (.cond S10 .skip (.exit 0)) := fun _ _ _ _ _ => rfl
@[go_sem] def c10d15 : DT := (rm S5 [16] (rm S0 [15, 16] (rm S6 [15, 16] (.rd none .t (.v (.ix 1 T1 T0)) [15, 16] (rl T0 [15, 16] (rm S1 [15, 16] (rm S6 [15, 16] (.rd none .t (.v (.ix 1 T1 T0)) [15, 16] (rl T0 [15, 16] (.rd none .t (.v (.bin .xor T4 T0)) [15, 16] (rm S2 [15, 16] (rm S6 [15, 16] (.rd none .t (.v (.ix 1 T1 T0)) [15, 16] (rl T0 [15, 16] (.rd none .t (.v (.bin .xor T4 T0)) [15, 16] (.ef 15 none .t (.bs 5 1 [(.int .u8 0)] [(0, (1, T0))]) (.ef 16 none .t (.ap 22 22 T15 T0) (.rd none (.s 5) (.v (.mv T0)) [] .done))))))))))))))))))
@[go_sem] def c10r16 : List GOp := [mT S6, oT (.v (.bin .add T0 (C 1))), mS 6 T0]
def c10s17 : SCode := (.ops c10r16)
@[go_sem] theorem c10s17eq : U c10s17 (.ops c10r16) := fun _ _ _ _ _ => rfl
def c10s18 : SCode := (.seq (.block 1 (.de c10d15)) c10s17)
@[go_sem] theorem c10s18eq : U c10s18 (.seq (.block 1 (.de c10d15)) c10s17) := fun _ _ _ _ _ => rfl
def c10s19 : SCode := (.seq (.seq (.ops c10r13) c10s14) c10s18)
@[go_sem] theorem c10s19eq : U c10s19 (.seq (.seq (.ops c10r13) c10s14) c10s18) := fun _ _ _ _ _ => rfl
def c10s20 : SCode := (.block 0 (.loop c10k c10s19))
@[go_sem] theorem c10s20eq : U c10s20 (.block 0 (.loop c10k c10s19)) := fun _ _ _ _ _ => rfl
@[go_sem] def c10d21 : DT := (.ef 0 none .t (.call 11 []) (rm T0 [3, 7, 11, 16] (.rd (some (T0, true)) .t (.v (.mv S5)) [3, 7, 11, 16] (.rd (some (T1, true)) .t (.v (.mv S0)) [7, 11, 16] (.rd (some (T2, true)) .t (.v (.mv S4)) [7, 11, 16] (.rd (some (T3, true)) .t (.v (.sl 1 T1 none (some T0))) [7, 11, 16] (.rd (some (T4, true)) .t (.v (.mv S1)) [11, 16] (.rd (some (T5, true)) .t (.v (.mv S4)) [11, 16] (.rd (some (T6, true)) .t (.v (.sl 1 T1 none (some T0))) [11, 16] (.rd (some (T7, true)) .t (.v (.mv S2)) [16] (.rd (some (T8, true)) .t (.v (.mv S4)) [16] (.rd (some (T9, true)) .t (.v (.sl 1 T1 none (some T0))) [16] (.ef 3 (some (T10, true)) .t (.call 12 [T9]) (.ef 7 (some (T11, true)) .t (.call 12 [T7]) (.ef 11 (some (T12, true)) .t (.call 12 [T5]) (.rd (some (T13, true)) .t (.v (.bin .xor T1 T0)) [] (.ef 16 (some (T14, true)) .t (.call 12 [T4]) (.rd (some (T15, true)) .t (.v (.bin .xor T1 T0)) [] (.rd (some (T16, true)) .t (.v (.bin .eql T5 T0)) [] (.rd none .t (.v (.pick T17 T0 (.c (.bool false)))) [] (.rd none (.s 3) (.v (.mv T0)) [] .done)))))))))))))))))))))
def c10s22 : SCode := (.seq (.de c10d21) .ret)
@[go_sem] theorem c10s22eq : U c10s22 (.seq (.de c10d21) .ret) := fun _ _ _ _ _ => rfl
def c10s23 : SCode := (.seq (.seq (.ops c10r12) c10s20) c10s22)
@[go_sem] theorem c10s23eq : U c10s23 (.seq (.seq (.ops c10r12) c10s20) c10s22) := fun _ _ _ _ _ => rfl
def c10s24 : SCode := (.seq (.ops c10r11) c10s23)
@[go_sem] theorem c10s24eq : U c10s24 (.seq (.ops c10r11) c10s23) := fun _ _ _ _ _ => rfl
def c10s25 : SCode := (.seq (.seq (.ops c10r8) (.cond S9 c10s10 .skip)) c10s24)
@[go_sem] theorem c10s25eq : U c10s25 (.seq (.seq (.ops c10r8) (.cond S9 c10s10 .skip)) c10s24) := fun _ _ _ _ _ => rfl
def c10s26 : SCode := (.seq (.seq (.ops c10r5) c10s7) c10s25)
@[go_sem] theorem c10s26eq : U c10s26 (.seq (.seq (.ops c10r5) c10s7) c10s25) := fun _ _ _ _ _ => rfl
def c10s27 : SCode := (.seq (.seq (.ops c10r2) c10s4) c10s26)
@[go_sem] theorem c10s27eq : U c10s27 (.seq (.seq (.ops c10r2) c10s4) c10s26) := fun _ _ _ _ _ => rfl
def c10s28 : SCode := (.seq (.ops c10r1) c10s27)
@[go_sem] theorem c10s28eq : U c10s28 (.seq (.ops c10r1) c10s27) := fun _ _ _ _ _ => rfl
def c10 : Gx.Fn := ⟨70, c10k, (.seq (.ops c10r0) c10s28), [(.tmp S3)]⟩
theorem c10ok : stripFn Tryz.prog c10k Tryz.f10 = some c10 := by kernel_rfl

end Go.Proofs.YtdhlibkdcldioaaGreat
