/- Generated: the stripped code of Go functions, each held against the loaded program. -/
import Derived.Test.YtdhlibkdcldioaaGreatProg
import Derived.Test.YtdhlibkdcldioaaGreatGx20
namespace Go.Proofs.YtdhlibkdcldioaaGreat
open Gx Go

/- plexuslaw30.FrameCheck -/
@[go_sem] def c4k : List Nat := [0, 1, 2, 5]
@[go_sem] def c4r0 : List GOp := [oS 1 (.bx 39 S0), mS 2 (.c (.bool false))]
@[go_sem] def c4r1 : List GOp := [oT (.ld (some 15) S1), oT (.call 15 [T0]), oS 3 (.v (.un .not T0))]
@[go_sem] def c4r2 : List GOp := [oT (.call 11 []), mS 2 T0]
def c4s3 : SCode := (.cond S3 (.seq (.ops c4r2) .ret) .skip)
@[go_sem] theorem c4s3eq : U c4s3 (.cond S3 (.seq (.ops c4r2) .ret) .skip) := fun _ _ _ _ _ => rfl
@[go_sem] def c4d4 : DT := (.ef 0 none .t (.call 11 []) (rm T0 [3, 5] (.rd (some (T0, true)) .t (.ld (some 15) S1) [3, 5] (.rd (some (T1, true)) .t (.ld (some 15) S1) [5] (.ef 3 (some (T2, true)) .t (.call 16 [T1]) (.ef 5 (some (T3, true)) .t (.call 17 [T1]) (.rd (some (T4, true)) .t (.v (.bin .eql T1 T0)) [] (.rd none .t (.v (.pick T5 T0 (.c (.bool false)))) [] (.rd none (.s 2) (.v (.mv T0)) [] .done)))))))))
def c4s5 : SCode := (.seq (.seq (.ops c4r1) c4s3) (.seq (.de c4d4) .ret))
@[go_sem] theorem c4s5eq : U c4s5 (.seq (.seq (.ops c4r1) c4s3) (.seq (.de c4d4) .ret)) := fun _ _ _ _ _ => rfl
def c4 : Gx.Fn := ⟨15, c4k, (.seq (.ops c4r0) c4s5), [(.tmp S2)]⟩
theorem c4ok : stripFn Tryz.prog c4k Tryz.f4 = some c4 := by kernel_rfl

end Go.Proofs.YtdhlibkdcldioaaGreat
