/- The law of the encodings. -/
import Derived.Test.YtdhlibkdcldioaaGreatFp1
import Derived.Test.YtdhlibkdcldioaaGreatK5
set_option linter.unusedSimpArgs false
set_option linter.unusedVariables false
set_option maxRecDepth 8000
namespace Go.Proofs.YtdhlibkdcldioaaGreat
open Gx Go

set_option maxHeartbeats 4000000 in
theorem encodes_law {m : Msg} {H : Heap} {cs : List Value} (h : Rep H [] (datT tMsg m.tup) cs) (hok : okM m) : HCalls Tryz.prog 5 #[.agg cs.toArray] H fun v H' => v = .bool true ∧ Fr [] H H' := by
  have h' := h
  obtain ⟨a_reads, c_reads, a_base, c_base, a_state, c_state, a_acks, c_acks, a_proof, c_proof, a_digests, c_digests, a_objects, c_objects, a_items, c_items, hcs, _⟩ := msg_open h
  refine calls_of_vc (args := [_]) Tryz.func5 c5ok (Nat.le_of_ble_eq_true rfl) ?_
  simp (implicitDefEqProofs := false) only [go_sem, c5, hcs]
  refine NewP_intro fun H1 hn1 hf1 hs1 => ?_
  have hc := hn1.cell
  simp (implicitDefEqProofs := false) only [go_sem, hc]
  rw [← hcs]
  refine (small_ok (Rep.ext h' hf1)).mono ?_
  rintro v H2 ⟨t, rfl, ht, hf2⟩
  have hf12 := hf1.trans hf2
  have hc2 := (hn1.ext hf2).cell
  cases t with
  | false =>
    simp (implicitDefEqProofs := false) only [go_sem]
    refine (awake_ok H2).mono ?_
    rintro v H3 ⟨rfl, hf3⟩
    simp (implicitDefEqProofs := false) only [go_sem]
    exact hf12.trans hf3
  | true =>
  have hM := ht rfl
  have hE := small_enc hM
  simp (implicitDefEqProofs := false) only [go_sem, hc2]
  rw [← hcs]
  refine (encode_ok (Rep.ext h' hf12) hok hE).mono ?_
  rintro v H3 ⟨a3, c3, g3, rfl, ho3, hg3, hf3⟩
  have hf13 := hf12.trans hf3
  have hc3 := (hn1.ext (hf2.trans hf3)).cell
  simp (implicitDefEqProofs := false) only [go_sem, hc3]
  rw [← hcs]
  refine (fencode_ok (Rep.ext h' hf13) hok hE).mono ?_
  rintro v H4 ⟨a4, c4, g4, rfl, ho4, hg4, hf4⟩
  have hf14 := hf13.trans hf4
  have hb3 := (ho3.bsR.ext hf4).b2s c3
  have hb4 := ho4.bsR.b2s c4
  have hlen : (encO m).1.length < 2^36 := by
    unfold encO
    split
    · rename_i hf; have := hE hf; rw [sealB_len]; omega
    · simp
  simp (implicitDefEqProofs := false) only [go_sem, hb3, hb4, str_inj]
  have hD := decode_ok ho4.bsR hlen ho4.cap_le (Own.cap_max ho4)
  rcases hd : decA (encO m).1 with ⟨n, er⟩
  rw [hd] at hD
  simp only at hD
  refine hD.mono ?_
  rintro v H5 ⟨ds, rfl, hrep, hf5⟩
  have hf15 := hf14.trans hf5
  obtain ⟨aa_reads, cc_reads, aa_base, cc_base, aa_state, cc_state, aa_acks, cc_acks, aa_proof, cc_proof, aa_digests, cc_digests, aa_objects, cc_objects, aa_items, cc_items, hcs', _⟩ := msg_open hrep
  have hone := rep_one (t := tMsg) hrep
  simp (implicitDefEqProofs := false) only [go_sem, hcs']
  refine NewP_intro fun H6 hn6 hf6 hs6 => ?_
  simp (implicitDefEqProofs := false) only [go_sem]
  refine Sto_all hn6 rfl (by rw [← hcs']; exact hone) fun H7 hn7 hf7 hs7 => ?_
  have hfn := new_fr hf6 hf7
  have hf17 := hf15.trans hfn
  have hc7 := (hn1.ext (((hf2.trans hf3).trans hf4).trans (hf5.trans hfn))).cell
  have hm7 := hn7.cell
  simp (implicitDefEqProofs := false) only [go_sem]
  refine (awake_ok H7).mono ?_
  rintro v H8 ⟨rfl, hf8⟩
  have hf18 := hf17.trans hf8
  have hc8 := (hn1.ext (((hf2.trans hf3).trans hf4).trans ((hf5.trans hfn).trans hf8))).cell
  have hm8 := (hn7.ext hf8).cell
  cases hform : formB m with
  | false =>
    have e1 : (encO m).2 = 1 := by unfold encO; rw [hform]; rfl
    simp (implicitDefEqProofs := false) only [go_sem, e1]
    exact hf18
  | true =>
    have e1 : encO m = (sealB (encM m), 0) := by unfold encO; rw [hform]; rfl
    have e2 : (encO m).2 = 0 := by rw [e1]
    have e3 : decA (encO m).1 = (m, 0) := by rw [e1]; exact decA_seal hform hok (hE hform)
    rw [hd] at e3
    cases e3
    simp (implicitDefEqProofs := false) only [go_sem, e2, hc8, hm8]
    have hq := fequal_ok (Rep.ext h' hf18) (Rep.ext hrep (hfn.trans hf8)) hok hok (small_len hM) (small_len hM)
    rw [hcs, hcs'] at hq
    refine hq.mono ?_
    rintro v H9 ⟨rfl, hf9⟩
    rw [eqB_true rfl]
    simp (implicitDefEqProofs := false) only [go_sem]
    exact hf18.trans hf9
end Go.Proofs.YtdhlibkdcldioaaGreat
