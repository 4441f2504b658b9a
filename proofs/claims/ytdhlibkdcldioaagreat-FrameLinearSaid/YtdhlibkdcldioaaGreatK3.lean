/- Generated: the stripped code of Go functions, each held against the loaded program. -/
import Derived.Test.YtdhlibkdcldioaaGreatProg
import Derived.Test.YtdhlibkdcldioaaGreatGx20
namespace Go.Proofs.YtdhlibkdcldioaaGreat
open Gx Go

/- plexuslaw30.FrameSum -/
@[go_sem] def c3k : List Nat := [0, 2, 3, 6]
@[go_sem] def c3r0 : List GOp := [mS 1 (.c (.bool false))]
@[go_sem] def c3r1 : List GOp := [mT S0, nT T0, oS 3 (.v (.bin .gtr T0 (C 400)))]
@[go_sem] def c3r2 : List GOp := [oT (.call 11 []), mS 1 T0]
def c3s3 : SCode := (.cond S3 (.seq (.ops c3r2) .ret) .skip)
@[go_sem] theorem c3s3eq : U c3s3 (.cond S3 (.seq (.ops c3r2) .ret) .skip) := fun _ _ _ _ _ => rfl
@[go_sem] def c3r4 : List GOp := [mT S0, oT (.call 12 [T0]), mS 2 T0]
@[go_sem] def c3d5 : DT := (.ef 0 none .t (.call 11 []) (rm T0 [4, 9, 10, 11, 12] (.rd (some (T0, true)) .t (.v (.mv S2)) [9, 10, 11, 12] (.rd (some (T1, true)) .t (.v (.mv S0)) [4, 9, 10, 11, 12] (.ef 4 (some (T2, true)) .t (.call 13 [T0]) (.rd (some (T3, true)) .t (.v (.bin .eql T2 T0)) [9, 10, 11, 12] (.rd none .t (.v (.pick T4 T0 (.c (.bool false)))) [9, 10, 11, 12] (rm T0 [9, 10, 11, 12] (.rd (some (T0, true)) .t (.v (.mv S0)) [9, 10, 12] (.br (.ef 9 (some (T1, true)) .t (.call 14 [T0]) (.br (.ef 10 (some (T2, true)) .t (.call 12 [T0]) (.ef 11 (some (T3, true)) .t (.mk 5 1 1 (.int .u8 0) (C 4) (C 4)) (.ef 12 (some (T4, true)) .t (.call 12 [T0]) (.rd (some (T5, true)) .t (.v (.bin .eql T2 T0)) [] (.rd none .t (.v (.pick T6 T0 (.c (.bool false)))) [] (.rd none (.s 1) (.v (.mv T0)) [] .done)))))) (.ef 11 (some (T2, true)) .t (.mk 5 1 1 (.int .u8 0) (C 4) (C 4)) (.ef 10 (some (T3, true)) .t (.call 12 [T1]) (.ef 12 (some (T4, true)) .t (.call 12 [T1]) (.rd (some (T5, true)) .t (.v (.bin .eql T1 T0)) [] (.rd none .t (.v (.pick T6 T0 (.c (.bool false)))) [] (.rd none (.s 1) (.v (.mv T0)) [] .done)))))))) (.ef 11 (some (T1, true)) .t (.mk 5 1 1 (.int .u8 0) (C 4) (C 4)) (.ef 9 (some (T2, true)) .t (.call 14 [T1]) (.ef 10 (some (T3, true)) .t (.call 12 [T0]) (.ef 12 (some (T4, true)) .t (.call 12 [T2]) (.rd (some (T5, true)) .t (.v (.bin .eql T1 T0)) [] (.rd none .t (.v (.pick T6 T0 (.c (.bool false)))) [] (.rd none (.s 1) (.v (.mv T0)) [] .done)))))))))))))))))
def c3s6 : SCode := (.seq (.ops c3r4) (.seq (.de c3d5) .ret))
@[go_sem] theorem c3s6eq : U c3s6 (.seq (.ops c3r4) (.seq (.de c3d5) .ret)) := fun _ _ _ _ _ => rfl
def c3s7 : SCode := (.seq (.seq (.ops c3r1) c3s3) c3s6)
@[go_sem] theorem c3s7eq : U c3s7 (.seq (.seq (.ops c3r1) c3s3) c3s6) := fun _ _ _ _ _ => rfl
def c3 : Gx.Fn := ⟨25, c3k, (.seq (.ops c3r0) c3s7), [(.tmp S1)]⟩
theorem c3ok : stripFn Tryz.prog c3k Tryz.f3 = some c3 := by kernel_rfl

end Go.Proofs.YtdhlibkdcldioaaGreat
