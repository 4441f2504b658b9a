/- The law of Check. -/
import Derived.Test.YtdhlibkdcldioaaGreatFp1
import Derived.Test.YtdhlibkdcldioaaGreatK4
set_option linter.unusedSimpArgs false
set_option linter.unusedVariables false
set_option maxRecDepth 8000
namespace Go.Proofs.YtdhlibkdcldioaaGreat
open Gx Go

set_option maxHeartbeats 4000000 in
theorem check_law {m : Msg} {H : Heap} {cs : List Value} (h : Rep H [] (datT tMsg m.tup) cs) (hok : okM m) : HCalls Tryz.prog 4 #[.agg cs.toArray] H fun v H' => v = .bool true ∧ Fr [] H H' := by
  have h' := h
  obtain ⟨a_reads, c_reads, a_base, c_base, a_state, c_state, a_acks, c_acks, a_proof, c_proof, a_digests, c_digests, a_objects, c_objects, a_items, c_items, hcs, _⟩ := msg_open h
  refine calls_of_vc (args := [_]) Tryz.func4 c4ok (Nat.le_of_ble_eq_true rfl) ?_
  simp (implicitDefEqProofs := false) only [go_sem, c4, hcs]
  refine NewP_intro fun H1 hn1 hf1 hs1 => ?_
  have hc := hn1.cell
  simp (implicitDefEqProofs := false) only [go_sem, hc]
  rw [← hcs]
  refine (small_ok (Rep.ext h' hf1)).mono ?_
  rintro v H2 ⟨t, rfl, ht, hf2⟩
  have hf12 := hf1.trans hf2
  have hc2 := (hn1.ext hf2).cell
  cases t with
  | false =>
    simp (implicitDefEqProofs := false) only [go_sem]
    refine (awake_ok H2).mono ?_
    rintro v H3 ⟨rfl, hf3⟩
    simp (implicitDefEqProofs := false) only [go_sem]
    exact hf12.trans hf3
  | true =>
  have hM := ht rfl
  have hE := small_enc hM
  simp (implicitDefEqProofs := false) only [go_sem]
  refine (awake_ok H2).mono ?_
  rintro v H3 ⟨rfl, hf3⟩
  have hf13 := hf12.trans hf3
  have hc3 := (hn1.ext (hf2.trans hf3)).cell
  simp (implicitDefEqProofs := false) only [go_sem, hc3]
  rw [← hcs]
  refine (check'_ok (Rep.ext h' hf13) hok hE).mono ?_
  rintro v H4 ⟨rfl, hf4⟩
  have hf14 := hf13.trans hf4
  have hc4 := (hn1.ext ((hf2.trans hf3).trans hf4)).cell
  simp (implicitDefEqProofs := false) only [go_sem, hc4]
  rw [← hcs]
  refine ⟨rfl, ?_⟩
  refine (fcheck_ok (Rep.ext h' hf14) hok hE).mono ?_
  rintro v H5 ⟨rfl, hf5⟩
  simp (implicitDefEqProofs := false) only [go_sem]
  exact hf14.trans hf5
end Go.Proofs.YtdhlibkdcldioaaGreat
