/- The law of equality. -/
import Derived.Test.YtdhlibkdcldioaaGreatFp1
import Derived.Test.YtdhlibkdcldioaaGreatK7
set_option linter.unusedSimpArgs false
set_option linter.unusedVariables false
set_option maxRecDepth 8000
namespace Go.Proofs.YtdhlibkdcldioaaGreat
open Gx Go

set_option maxHeartbeats 4000000 in
theorem equal_law {m m' : Msg} {H : Heap} {cs cs' : List Value} (h : Rep H [] (datT tMsg m.tup) cs) (hh : Rep H [] (datT tMsg m'.tup) cs') (hok : okM m) (hok' : okM m') : HCalls Tryz.prog 7 #[.agg cs.toArray, .agg cs'.toArray] H fun v H' => v = .bool true ∧ Fr [] H H' := by
  have g := h
  have g' := hh
  obtain ⟨a_reads, c_reads, a_base, c_base, a_state, c_state, a_acks, c_acks, a_proof, c_proof, a_digests, c_digests, a_objects, c_objects, a_items, c_items, hcs, _⟩ := msg_open h
  obtain ⟨aa_reads, cc_reads, aa_base, cc_base, aa_state, cc_state, aa_acks, cc_acks, aa_proof, cc_proof, aa_digests, cc_digests, aa_objects, cc_objects, aa_items, cc_items, hcs', _⟩ := msg_open hh
  refine calls_of_vc (args := [_, _]) Tryz.func7 c7ok (Nat.le_of_ble_eq_true rfl) ?_
  simp (implicitDefEqProofs := false) only [go_sem, c7, hcs, hcs']
  refine NewP_intro fun H1 hn1 hf1 hs1 => ?_
  simp (implicitDefEqProofs := false) only [go_sem]
  refine NewP_intro fun H2 hn2 hf2 hs2 => ?_
  have hF2 := hf1.trans hf2
  have hm2 := hn1.ext hf2
  have c1 := hm2.cell
  have c2 := hn2.cell
  simp (implicitDefEqProofs := false) only [go_sem, c1]
  rw [← hcs]
  refine (small_ok (Rep.ext g hF2)).mono ?_
  rintro v H3 ⟨t, rfl, ht, hf3⟩
  have hF3 := hF2.trans hf3
  have d1 := (hm2.ext hf3).cell
  have d2 := (hn2.ext hf3).cell
  cases t with
  | false =>
    simp (implicitDefEqProofs := false) only [go_sem, d2]
    refine (awake_ok H3).mono ?_
    rintro v H4 ⟨rfl, hf4⟩
    simp (implicitDefEqProofs := false) only [go_sem]
    exact hF3.trans hf4
  | true =>
  have hM := ht rfl
  simp (implicitDefEqProofs := false) only [go_sem, d2]
  rw [← hcs']
  refine (small_ok (Rep.ext g' hF3)).mono ?_
  rintro v H4 ⟨t', rfl, ht', hf4⟩
  have hF4 := hF3.trans hf4
  have e1 := ((hm2.ext hf3).ext hf4).cell
  have e2 := ((hn2.ext hf3).ext hf4).cell
  cases t' with
  | false =>
    simp (implicitDefEqProofs := false) only [go_sem]
    refine (awake_ok H4).mono ?_
    rintro v H5 ⟨rfl, hf5⟩
    simp (implicitDefEqProofs := false) only [go_sem]
    exact hF4.trans hf5
  | true =>
  have hM' := ht' rfl
  have hE := small_enc hM
  have hE' := small_enc hM'
  simp (implicitDefEqProofs := false) only [go_sem, e1, e2]
  rw [← hcs, ← hcs']
  refine (smsg_ok.2 m.tup m'.tup (Rep.ext g hF4) (Rep.ext g' hF4)).mono ?_
  rintro v H5 ⟨rfl, hf5⟩
  rw [eqB_tup]
  have hF5 := hF4.trans hf5
  have hx5 := (hf3.trans hf4).trans hf5
  have f1 := (hm2.ext hx5).cell
  have f2 := (hn2.ext hx5).cell
  simp (implicitDefEqProofs := false) only [go_sem, f1, f2]
  rw [← hcs, ← hcs']
  refine (fequal_ok (Rep.ext g hF5) (Rep.ext g' hF5) hok hok' (small_len hM) (small_len hM')).mono ?_
  rintro v H6 ⟨rfl, hf6⟩
  have hF6 := hF5.trans hf6
  have hx6 := hx5.trans hf6
  have i1 := (hm2.ext hx6).cell
  have i2 := (hn2.ext hx6).cell
  simp (implicitDefEqProofs := false) only [go_sem, i1, i2, beq_self_eq_true, bne_self_eq_false]
  rw [← hcs]
  refine (smsg_ok.2 m.tup m.tup (Rep.ext g hF6) (Rep.ext g hF6)).mono ?_
  rintro v H7 ⟨rfl, hf7⟩
  rw [eqB_true rfl]
  have hF7 := hF6.trans hf7
  have hx7 := hx6.trans hf7
  have j1 := (hm2.ext hx7).cell
  have j2 := (hn2.ext hx7).cell
  simp (implicitDefEqProofs := false) only [go_sem, j1, j2]
  rw [← hcs]
  refine (encode_ok (Rep.ext g hF7) hok hE).mono ?_
  rintro v H8 ⟨a8, c8, g8, rfl, ho8, hg8, hf8⟩
  have hF8 := hF7.trans hf8
  have hx8 := hx7.trans hf8
  have k2 := (hn2.ext hx8).cell
  simp (implicitDefEqProofs := false) only [go_sem, k2]
  rw [← hcs']
  refine (encode_ok (Rep.ext g' hF8) hok' hE').mono ?_
  rintro v H9 ⟨a9, c9, g9, rfl, ho9, hg9, hf9⟩
  have hF9 := hF8.trans hf9
  simp (implicitDefEqProofs := false) only [go_sem]
  refine (awake_ok H9).mono ?_
  rintro v H10 ⟨rfl, hf10⟩
  have hb8 := (ho8.bsR.ext (hf9.trans hf10)).b2s c8
  have hb9 := (ho9.bsR.ext hf10).b2s c9
  cases q1 : formB m with
  | false =>
    have y1 : (encO m).2 = 1 := by unfold encO; rw [q1]; rfl
    simp (implicitDefEqProofs := false) only [go_sem, y1]
    exact hF9.trans hf10
  | true =>
    have z1 : encO m = (sealB (encM m), 0) := by unfold encO; rw [q1]; rfl
    have y1 : (encO m).2 = 0 := by rw [z1]
    cases q2 : formB m' with
    | false =>
      have y2 : (encO m').2 = 1 := by unfold encO; rw [q2]; rfl
      simp (implicitDefEqProofs := false) only [go_sem, y1, y2]
      exact hF9.trans hf10
    | true =>
      have z2 : encO m' = (sealB (encM m'), 0) := by unfold encO; rw [q2]; rfl
      have y2 : (encO m').2 = 0 := by rw [z2]
      have hi := seal_inj q1 q2 hok hok' (by have := hE q1; omega)
      have hd : decide ((encO m).1 = (encO m').1) = eqB m m' := by
        rw [z1, z2]
        by_cases e : m = m'
        · rw [eqB_true e]; exact decide_eq_true (hi.2 e)
        · rw [eqB_false e]; exact decide_eq_false (fun x => e (hi.1 x))
      simp (implicitDefEqProofs := false) only [go_sem, y1, y2, hb8, hb9, str_inj]
      rw [hd]
      exact ⟨by rw [beq_self_eq_true], hF9.trans hf10⟩
end Go.Proofs.YtdhlibkdcldioaaGreat
