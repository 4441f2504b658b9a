/- The law of frames cut short or continued. -/
import Derived.Test.YtdhlibkdcldioaaGreatFp1
import Derived.Test.YtdhlibkdcldioaaGreatK8
set_option linter.unusedSimpArgs false
set_option linter.unusedVariables false
set_option maxRecDepth 8000
namespace Go.Proofs.YtdhlibkdcldioaaGreat
open Gx Go

set_option maxHeartbeats 4000000 in
theorem cuts_law {m : Msg} {H : Heap} {cs : List Value} {cut : Int} {r : Bs} {ar : Option Addr} {cr : Nat} (hr : BsR H ar r) (hrl : r.length < 2^63) (h : Rep H [] (datT tMsg m.tup) cs) (hok : okM m) : HCalls Tryz.prog 8 #[.agg cs.toArray, .int .i64 cut, .slice ar r.length cr] H fun v H' => v = .bool true ∧ Fr [] H H' := by
  have h' := h
  obtain ⟨a_reads, c_reads, a_base, c_base, a_state, c_state, a_acks, c_acks, a_proof, c_proof, a_digests, c_digests, a_objects, c_objects, a_items, c_items, hcs, _⟩ := msg_open h
  refine calls_of_vc (args := [_, _, _]) Tryz.func8 c8ok (Nat.le_of_ble_eq_true rfl) ?_
  simp (implicitDefEqProofs := false) only [go_sem, c8, hcs]
  refine NewP_intro fun H1 hn1 hf1 hs1 => ?_
  have hc := hn1.cell
  simp (implicitDefEqProofs := false) only [go_sem, hc]
  rw [← hcs]
  refine (small_ok (Rep.ext h' hf1)).mono ?_
  rintro v H2 ⟨t, rfl, ht, hf2⟩
  have hf12 := hf1.trans hf2
  have hc2 := (hn1.ext hf2).cell
  have fin : ∀ {K : Heap}, Fr [] H2 K → HCalls Tryz.prog 11 #[] K fun v H' => v = .bool true ∧ Fr [] H H' := fun hk => (awake_ok _).mono fun v H' hv => ⟨hv.1, (hf12.trans hk).trans hv.2⟩
  cases t with
  | false =>
    simp (implicitDefEqProofs := false) only [go_sem]
    refine (fin (Fr.refl _ _)).mono ?_
    rintro v H3 ⟨rfl, hf3⟩
    simp (implicitDefEqProofs := false) only [go_sem]
    exact hf3
  | true =>
  by_cases r100 : 100 < r.length
  · have r100' : (100 : Int) < (r.length : Int) := by omega
    simp (implicitDefEqProofs := false) only [go_sem, r100']
    refine (fin (Fr.refl _ _)).mono ?_
    rintro v H3 ⟨rfl, hf3⟩
    simp (implicitDefEqProofs := false) only [go_sem]
    exact hf3
  have r100' : ¬ (100 : Int) < (r.length : Int) := by omega
  have hM := ht rfl
  have hE := small_enc hM
  have hEs := bM_le hM
  simp (implicitDefEqProofs := false) only [go_sem, r100', hc2]
  rw [← hcs]
  refine (encode_ok (Rep.ext h' hf12) hok hE).mono ?_
  rintro v H3 ⟨a3, c3, g3, rfl, ho3, hg3, hf3⟩
  cases hform : formB m with
  | false =>
    have y1 : (encO m).2 = 1 := by unfold encO; rw [hform]; rfl
    simp (implicitDefEqProofs := false) only [go_sem, y1]
    refine (fin hf3).mono ?_
    rintro v H4 ⟨rfl, hf4⟩
    simp (implicitDefEqProofs := false) only [go_sem]
    exact hf4
  | true =>
  have z1 : encO m = (sealB (encM m), 0) := by unfold encO; rw [hform]; rfl
  have y1 : (encO m).2 = 0 := by rw [z1]
  have y2 : (encO m).1 = sealB (encM m) := by rw [z1]
  have hl1 := hE hform
  have hl2 := encM_le hform
  rw [y2] at ho3
  have hb3 := ho3.bsR
  have hsl : (sealB (encM m)).length = (encM m).length + 4 := sealB_len _
  have hzk : Msg.zero.kind = 0 := rfl
  obtain ⟨B, hB⟩ : ∃ B, B = sealB (encM m) := ⟨_, rfl⟩
  have rest : ∀ {K : Heap}, Fr [] H3 K → BsR K a3 B ∧ BsR K ar r := fun hk => ⟨by rw [hB]; exact hb3.ext hk, hr.ext ((hf12.trans hf3).trans hk)⟩
  have hcap : B.length ≤ c3 := by rw [hB]; exact ho3.cap_le
  have hcmx := Own.cap_max ho3
  have hF3 := hf12.trans hf3
  have hBl : B.length = (encM m).length + 4 := by rw [hB]; exact hsl
  have hmx : maxLen < 2^63 := by decide
  rw [y1, y2, ← hB]
  have hcase : (0 ≤ cut ∧ cut < (B.length : Int)) ∨ (0 ≤ cut ∧ ¬ cut < (B.length : Int)) ∨ ¬ 0 ≤ cut := by omega
  rcases hcase with ⟨c1, c2⟩ | ⟨c1, c2⟩ | c1
  case' inl =>
    obtain ⟨n, rfl⟩ : ∃ n : Nat, cut = n := ⟨cut.toNat, by omega⟩
    have hn : n < B.length := by omega
    have hnc : (n : Int) ≤ (c3 : Int) := by omega
    have lt : (B.take n).length = n := by rw [List.length_take]; omega
    have hq := decode_ok (c := c3) ((rest (Fr.refl _ _)).1.take n) (by omega) (by omega) hcmx
    have hdm : decA (B.take n) = (Msg.zero, 2) := by rw [hB]; exact decA_cut hform hok (by omega) (by rw [← hB]; exact hn)
    rw [lt, hdm] at hq
    simp only at hq
    simp (implicitDefEqProofs := false) only [go_sem, c1, c2, hnc]
    refine hq.mono ?_
    rintro v H7 ⟨ds, rfl, hrep, hf7⟩
    obtain ⟨aa_reads, cc_reads, aa_base, cc_base, aa_state, cc_state, aa_acks, cc_acks, aa_proof, cc_proof, aa_digests, cc_digests, aa_objects, cc_objects, aa_items, cc_items, hcs', _⟩ := msg_open hrep
    have hone := rep_one (t := tMsg) hrep
    simp (implicitDefEqProofs := false) only [go_sem, hcs']
    refine NewP_intro fun H8 hn8 hf8 hs8 => ?_
    simp (implicitDefEqProofs := false) only [go_sem]
    refine Sto_all hn8 rfl (by rw [← hcs']; exact hone) fun H9 hn9 hf9 hs9 => ?_
    have hm9 := hn9.cell
    simp (implicitDefEqProofs := false) only [go_sem, hm9, hzk]
    have hk := hf7.trans (new_fr hf8 hf9)
  case' inr.inl =>
    simp (implicitDefEqProofs := false) only [go_sem, c1, c2]
    have hk := Fr.refl [] H3
  case' inr.inr =>
    simp (implicitDefEqProofs := false) only [go_sem, c1]
    have hk := Fr.refl [] H3
  all_goals
    clear fin
    obtain ⟨hb, hrr⟩ := rest hk
    have hF := hF3.trans hk
    refine ⟨fun r0 => ?_, fun r0 => ?_⟩
    · refine (awake_ok _).mono ?_
      rintro v H4 ⟨rfl, hf4⟩
      simp (implicitDefEqProofs := false) only [go_sem]
      exact hF.trans hf4
    refine NewS_intro fun H4 hn4 hf4 hs4 => ?_
    simp (implicitDefEqProofs := false) only [go_sem]
    refine App_own EB (Own.of_blk hn4 (by simp) (by decide)) ((hb.ext hf4).src Tryz.underlying22) (by unfold maxLen; omega) (by omega) fun a5 c5 H5 g5 ho5 hf5 hg5 => ?_
    rw [Nat.zero_add, List.nil_append] at ho5
    obtain ⟨h45, hq5⟩ := app_fr hf4 (g' := some _) (by simp) (Fr.refl _ _) hf5 hg5
    simp (implicitDefEqProofs := false) only [go_sem]
    refine App_own EB ho5 ((hrr.ext h45).src Tryz.underlying22) (by unfold maxLen; omega) (by omega) fun a6 c6 H6 g6 ho6 hf6 hg6 => ?_
    obtain ⟨h46, hq6⟩ := app_fr h45 hq5 (Fr.refl _ _) hf6 hg6
    rw [← List.map_append, ← List.length_append] at ho6
    have hD := decode_ok ho6.bsR (by rw [List.length_append]; omega) ho6.cap_le (Own.cap_max ho6)
    have hdm2 : decA (B ++ r) = (Msg.zero, 2) := by rw [hB]; exact decA_more hform hok (by omega) (fun h => by subst h; exact r0 rfl) (by omega)
    rw [hdm2] at hD
    simp only at hD
    rw [List.length_append] at hD
    simp (implicitDefEqProofs := false) only [go_sem]
    refine hD.mono ?_
    rintro v H11 ⟨ds', rfl, hrep', hf11⟩
    obtain ⟨e_reads, f_reads, e_base, f_base, e_state, f_state, e_acks, f_acks, e_proof, f_proof, e_digests, f_digests, e_objects, f_objects, e_items, f_items, hcs'', _⟩ := msg_open hrep'
    have hone' := rep_one (t := tMsg) hrep'
    simp (implicitDefEqProofs := false) only [go_sem, hcs'']
    refine NewP_intro fun H12 hn12 hf12' hs12 => ?_
    simp (implicitDefEqProofs := false) only [go_sem]
    refine Sto_all hn12 rfl (by rw [← hcs'']; exact hone') fun H13 hn13 hf13 hs13 => ?_
    have hfn := new_fr hf12' hf13
    simp (implicitDefEqProofs := false) only [go_sem]
    refine (awake_ok _).mono ?_
    rintro v H14 ⟨rfl, hf14⟩
    have hm14 := (hn13.ext hf14).cell
    simp (implicitDefEqProofs := false) only [go_sem, hm14, hzk]
    exact hF.trans ((h46.trans (hf11.trans hfn)).trans hf14)
end Go.Proofs.YtdhlibkdcldioaaGreat
