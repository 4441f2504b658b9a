/- The reference on whole messages: shape, payload, Check, Encode, Equal. -/
import Derived.Test.YtdhlibkdcldioaaGreatFra
import Derived.Test.YtdhlibkdcldioaaGreatFu
import Derived.Test.YtdhlibkdcldioaaGreatFv
import Derived.Test.YtdhlibkdcldioaaGreatFf
set_option linter.unusedSimpArgs false
set_option linter.unusedVariables false
set_option maxRecDepth 8000
namespace Go.Proofs.YtdhlibkdcldioaaGreat
open Gx Go

theorem fuses_ok (k : Int) (H : Heap) : HCalls Tryz.prog 62 #[.int .i64 k] H fun v H' => v = .agg ((useB k).map Value.bool).toArray ∧ Fr [] H H' := by
  refine calls_of_vc (args := [_]) Tryz.func62 c62ok (Nat.le_of_ble_eq_true rfl) ?_

  by_cases k1 : k = 1
  · subst k1
    simp (implicitDefEqProofs := false) only [go_sem, c62]
    refine NewP_intro fun H1 hn1 hf1 hs1 => ?_
    simp (implicitDefEqProofs := false) only [go_sem]
    refine Sto_all hn1 rfl (by simp [Value.oneCell']) fun H2 hn2 hf2 hs2 => ?_
    have hc := hn2.cell
    simp (implicitDefEqProofs := false) only [go_sem, hc]
    exact ⟨by simp [useB], hf1.trans' hf2 (by simp)⟩
  by_cases k2 : k = 2
  · subst k2
    simp (implicitDefEqProofs := false) only [go_sem, c62]
    refine NewP_intro fun H1 hn1 hf1 hs1 => ?_
    simp (implicitDefEqProofs := false) only [go_sem]
    refine Sto_all hn1 rfl (by simp [Value.oneCell']) fun H2 hn2 hf2 hs2 => ?_
    have hc := hn2.cell
    simp (implicitDefEqProofs := false) only [go_sem, hc]
    exact ⟨by simp [useB], hf1.trans' hf2 (by simp)⟩
  by_cases k3 : k = 3
  · subst k3
    simp (implicitDefEqProofs := false) only [go_sem, c62]
    refine NewP_intro fun H1 hn1 hf1 hs1 => ?_
    simp (implicitDefEqProofs := false) only [go_sem]
    refine Sto_all hn1 rfl (by simp [Value.oneCell']) fun H2 hn2 hf2 hs2 => ?_
    have hc := hn2.cell
    simp (implicitDefEqProofs := false) only [go_sem, hc]
    exact ⟨by simp [useB], hf1.trans' hf2 (by simp)⟩
  by_cases k4 : k = 4
  · subst k4
    simp (implicitDefEqProofs := false) only [go_sem, c62]
    refine NewP_intro fun H1 hn1 hf1 hs1 => ?_
    simp (implicitDefEqProofs := false) only [go_sem]
    refine Sto_all hn1 rfl (by simp [Value.oneCell']) fun H2 hn2 hf2 hs2 => ?_
    have hc := hn2.cell
    simp (implicitDefEqProofs := false) only [go_sem, hc]
    exact ⟨by simp [useB], hf1.trans' hf2 (by simp)⟩
  by_cases k5 : k = 5
  · subst k5
    simp (implicitDefEqProofs := false) only [go_sem, c62]
    refine NewP_intro fun H1 hn1 hf1 hs1 => ?_
    simp (implicitDefEqProofs := false) only [go_sem]
    refine Sto_all hn1 rfl (by simp [Value.oneCell']) fun H2 hn2 hf2 hs2 => ?_
    have hc := hn2.cell
    simp (implicitDefEqProofs := false) only [go_sem, hc]
    exact ⟨by simp [useB], hf1.trans' hf2 (by simp)⟩
  by_cases k6 : k = 6
  · subst k6
    simp (implicitDefEqProofs := false) only [go_sem, c62]
    refine NewP_intro fun H1 hn1 hf1 hs1 => ?_
    simp (implicitDefEqProofs := false) only [go_sem]
    refine Sto_all hn1 rfl (by simp [Value.oneCell']) fun H2 hn2 hf2 hs2 => ?_
    have hc := hn2.cell
    simp (implicitDefEqProofs := false) only [go_sem, hc]
    exact ⟨by simp [useB], hf1.trans' hf2 (by simp)⟩
  by_cases k7 : k = 7
  · subst k7
    simp (implicitDefEqProofs := false) only [go_sem, c62]
    refine NewP_intro fun H1 hn1 hf1 hs1 => ?_
    simp (implicitDefEqProofs := false) only [go_sem]
    refine Sto_all hn1 rfl (by simp [Value.oneCell']) fun H2 hn2 hf2 hs2 => ?_
    have hc := hn2.cell
    simp (implicitDefEqProofs := false) only [go_sem, hc]
    exact ⟨by simp [useB], hf1.trans' hf2 (by simp)⟩
  by_cases k8 : k = 8
  · subst k8
    simp (implicitDefEqProofs := false) only [go_sem, c62]
    refine NewP_intro fun H1 hn1 hf1 hs1 => ?_
    simp (implicitDefEqProofs := false) only [go_sem]
    refine Sto_all hn1 rfl (by simp [Value.oneCell']) fun H2 hn2 hf2 hs2 => ?_
    have hc := hn2.cell
    simp (implicitDefEqProofs := false) only [go_sem, hc]
    exact ⟨by simp [useB], hf1.trans' hf2 (by simp)⟩
  · simp (implicitDefEqProofs := false) only [go_sem, c62, k1, k2, k3, k4, k5, k6, k7, k8]
    refine NewP_intro fun H1 hn1 hf1 hs1 => ?_
    simp (implicitDefEqProofs := false) only [go_sem, k1, k2, k3, k4, k5, k6, k7, k8]
    refine Sto_all hn1 rfl (by simp [Value.oneCell']) fun H2 hn2 hf2 hs2 => ?_
    have hc := hn2.cell
    simp (implicitDefEqProofs := false) only [go_sem, hc]
    refine ⟨?_, hf1.trans' hf2 (by simp)⟩
    have : useB k = [false, false, false, false, false, false, false, false, false, false] := by
      unfold useB
      split <;> first | rfl | (exfalso; omega)
    rw [this]; rfl
theorem useB_len (k : Int) : (useB k).length = 10 := by unfold useB; split <;> rfl
theorem fit_take : ∀ (hs us : List Bool) (i : Nat) (h : i < hs.length) (h' : i < us.length), fitB (hs.take (i + 1)) (us.take (i + 1)) = (fitB (hs.take i) (us.take i) && (!hs[i] || us[i]))
  | a :: hs, b :: us, 0, _, _ => by simp [fitB]
  | a :: hs, b :: us, i + 1, h, h' => by
    have ih := fit_take hs us i (by simpa using h) (by simpa using h')
    simp only [List.take_succ_cons, fitB, List.getElem_cons_succ, Bool.and_assoc] at ih ⊢
    rw [ih]
  | [], _, _, h, _ => by simp at h
  | _ :: _, [], _, _, h => by simp at h
theorem fit_false : ∀ (hs us : List Bool) (i : Nat) (h : i < hs.length) (h' : i < us.length), hs[i] = true → us[i] = false → fitB hs us = false
  | a :: hs, b :: us, 0, _, _, h1, h2 => by
    simp only [List.getElem_cons_zero] at h1 h2
    simp [fitB, h1, h2]
  | a :: hs, b :: us, i + 1, h, h', h1, h2 => by
    have ih := fit_false hs us i (by simpa using h) (by simpa using h') (by simpa using h1) (by simpa using h2)
    simp [fitB, ih]
  | [], _, _, h, _, _, _ => by simp at h
  | _ :: _, [], _, _, h, _, _ => by simp at h

set_option maxHeartbeats 4000000 in
theorem shape_ok {m : Msg} {H : Heap} {M : List Nat} {cs : List Value} (h : Rep H M (datT tMsg m.tup) cs) : HCalls Tryz.prog 29 #[.agg cs.toArray] H fun v H' => v = .bool (formB m) ∧ Fr [] H H' := by
  obtain ⟨a_reads, c_reads, a_base, c_base, a_state, c_state, a_acks, c_acks, a_proof, c_proof, a_digests, c_digests, a_objects, c_objects, a_items, c_items, rfl, h_reads, h_base, h_state, h_acks, h_proof, h_digests, h_objects, h_items⟩ := msg_open h
  refine calls_of_vc (args := [_]) Tryz.func29 c29ok (Nat.le_of_ble_eq_true rfl) ?_
  simp (implicitDefEqProofs := false) only [go_sem, c29]
  refine NewP_intro fun H1 hn1 hf1 hs1 => ?_
  have hc := hn1.cell
  have hbad : headB m = false → formB m = false := by intro h; simp [formB, h]
  by_cases k0 : m.kind < 1
  · rw [hbad (by simp [headB]; omega)]
    simp (implicitDefEqProofs := false) only [go_sem, hc, k0]
    exact hf1
  by_cases k1 : 8 < m.kind
  · rw [hbad (by simp [headB]; omega)]
    simp (implicitDefEqProofs := false) only [go_sem, hc, k0, k1]
    exact hf1
  by_cases f0 : m.src < 0
  · rw [hbad (by simp [headB]; omega)]
    simp (implicitDefEqProofs := false) only [go_sem, hc, k0, k1, f0]
    exact hf1
  by_cases f1 : 63 < m.src
  · rw [hbad (by simp [headB]; omega)]
    simp (implicitDefEqProofs := false) only [go_sem, hc, k0, k1, f0, f1]
    exact hf1
  by_cases t0 : m.dst < 0
  · rw [hbad (by simp [headB]; omega)]
    simp (implicitDefEqProofs := false) only [go_sem, hc, k0, k1, f0, f1, t0]
    exact hf1
  by_cases t1 : 63 < m.dst
  · rw [hbad (by simp [headB]; omega)]
    simp (implicitDefEqProofs := false) only [go_sem, hc, k0, k1, f0, f1, t0, t1]
    exact hf1
  have hhead : headB m = true := by simp [headB]; omega
  simp (implicitDefEqProofs := false) only [go_sem, hc, k0, k1, f0, f1, t0, t1]
  refine NewP_intro fun H2 hn2 hf2 hs2 => ?_
  have hc2 := (hn1.ext hf2).cell
  simp (implicitDefEqProofs := false) only [go_sem, hc2]
  refine Sto_all hn2 rfl (by simp [Value.oneCell']) fun H3 hn3 hf3 hs3 => ?_
  have hr : (decide (m.round.1 = 0) && (decide (m.round.2.1 = 0) && decide (m.round.2.2 = 0))) = decide (m.round = (0, 0, 0)) := by
    obtain ⟨r1, r2, r3⟩ := m.round
    by_cases h1 : r1 = 0 <;> by_cases h2 : r2 = 0 <;> by_cases h3 : r3 = 0 <;> simp [h1, h2, h3]
  have e_reads : decide (0 < (m.reads.length : Int)) = decide (0 < m.reads.length) := decide_eq_decide.2 (by omega)
  have e_base : decide (0 < (m.base.length : Int)) = decide (0 < m.base.length) := decide_eq_decide.2 (by omega)
  have e_state : decide (0 < (m.state.length : Int)) = decide (0 < m.state.length) := decide_eq_decide.2 (by omega)
  have e_acks : decide (0 < (m.acks.length : Int)) = decide (0 < m.acks.length) := decide_eq_decide.2 (by omega)
  have e_proof : decide (0 < (m.proof.length : Int)) = decide (0 < m.proof.length) := decide_eq_decide.2 (by omega)
  have e_digests : decide (0 < (m.digests.length : Int)) = decide (0 < m.digests.length) := decide_eq_decide.2 (by omega)
  have e_objects : decide (0 < (m.objects.length : Int)) = decide (0 < m.objects.length) := decide_eq_decide.2 (by omega)
  have e_items : decide (0 < (m.items.length : Int)) = decide (0 < m.items.length) := decide_eq_decide.2 (by omega)
  have hH : Blk H3 H1.size 114 ((hasB m).map Value.bool) := by
    rw [hr, e_reads, e_base, e_state, e_acks, e_proof, e_digests, e_objects, e_items] at hn3
    simp only [hasB, List.map_cons, List.map_nil, ne_eq, decide_not]
    exact hn3
  clear hn3
  have hm3 := (hn1.ext hf2).fr hf3 (by simp; omega)
  have hc3 := hm3.cell
  have hF3 : Fr [] H H3 := (hf1.trans hf2).trans' hf3 (by simp; omega)
  simp (implicitDefEqProofs := false) only [go_sem, hc3]
  refine (fuses_ok m.kind H3).mono ?_
  rintro v H4 ⟨rfl, hf4⟩
  simp (implicitDefEqProofs := false) only [go_sem]
  refine NewP_intro fun H5 hn5 hf5 hs5 => ?_
  have hlu := useB_len m.kind
  have hlh : (hasB m).length = 10 := rfl
  simp (implicitDefEqProofs := false) only [go_sem, hlu, List.length_map]
  refine Sto_all hn5 (by simp [hlu]) (by intro v hv; simp only [List.mem_map] at hv; obtain ⟨b, _, rfl⟩ := hv; rfl) fun H6 hn6 hf6 hs6 => ?_
  have hf46 := new_fr hf5 hf6
  have hm6 := (hm3.ext hf4).ext hf46
  have hH6 := (hH.ext hf4).ext hf46
  have hF6 := (hF3.trans hf4).trans hf46
  generalize hgh : hasB m = hl at *
  generalize hgu : useB m.kind = ul at *
  have hform : formB m = (fitB hl ul && countB m) := by simp [formB, hhead, hgh, hgu]
  simp (implicitDefEqProofs := false) only [go_sem]
  refine vc_loop (fun (i : Nat) H' => i ≤ 10 ∧ fitB (hl.take i) (ul.take i) = true ∧ H' = H6) (fun i => [(1, .pointer (some ⟨H.size, 0, none⟩)), (2, .bool false), (3, .pointer (some ⟨H1.size, 0, none⟩)), (4, .pointer (some ⟨H4.size, 0, none⟩)), (5, .int .i64 i)]) (fun i => 10 - i) 0 ?_ ?_ ?_
  · exact ⟨by omega, by simp [fitB], rfl⟩
  · simp (implicitDefEqProofs := false) only [go_sem]
  · rintro i H' ⟨hi, hfit, rfl⟩
    rcases Nat.lt_or_ge i 10 with hlt | hge
    · have hi1 : (i : Int) < 10 := by omega
      have hi0 : (0 : Int) ≤ (i : Int) := by omega
      have hw1 := succ_i64 i 10 hlt (by omega)
      have g1 : cellB H' H1.size i = some (.bool hl[i]) := by rw [hH6.cell, List.getElem?_map, List.getElem?_eq_getElem (by omega)]; rfl
      have g2 : cellB H' H4.size i = some (.bool ul[i]) := by rw [hn6.cell, List.getElem?_map, List.getElem?_eq_getElem (by omega)]; rfl
      have ht := fit_take hl ul i (by omega) (by omega)
      cases e1 : hl[i] with
      | false =>
        rw [e1] at g1 ht
        simp (implicitDefEqProofs := false) only [go_sem, hi1, hi0, g1]
        refine loopK_intro (i + 1) (by show 10 - (i + 1) < 10 - i; omega) ?_ ⟨hlt, by rw [ht, hfit]; rfl, rfl⟩
        simp (implicitDefEqProofs := false) only [go_sem, hw1]
      | true =>
        rw [e1] at g1 ht
        cases e2 : ul[i] with
        | true =>
          rw [e2] at g2 ht
          simp (implicitDefEqProofs := false) only [go_sem, hi1, hi0, g1, g2]
          refine loopK_intro (i + 1) (by show 10 - (i + 1) < 10 - i; omega) ?_ ⟨hlt, by rw [ht, hfit]; rfl, rfl⟩
          simp (implicitDefEqProofs := false) only [go_sem, hw1]
        | false =>
          rw [e2] at g2
          simp (implicitDefEqProofs := false) only [go_sem, hi1, hi0, g1, g2]
          exact ⟨by rw [hform, fit_false hl ul i (by omega) (by omega) e1 e2]; rfl, hF6⟩
    · have hi1 : ¬ (i : Int) < 10 := by omega
      rw [List.take_of_length_le (by omega), List.take_of_length_le (by omega)] at hfit
      rw [hform, hfit, Bool.true_and]
      have hc := hm6.cell
      unfold countB
      by_cases k1 : m.kind = 1
      · simp (implicitDefEqProofs := false) only [go_sem, hi1, hc, k1]
        refine ⟨?_, hF6⟩
        congr 1; exact decide_eq_decide.2 (by omega)
      by_cases k2 : m.kind = 2
      · by_cases l1 : m.base.length ≤ 1
        · have l1' : (m.base.length : Int) ≤ 1 := by omega
          simp (implicitDefEqProofs := false) only [go_sem, hi1, hc, k2, l1']
          refine ⟨?_, hF6⟩
          simp only [l1, decide_true, Bool.true_and]
          congr 1; exact decide_eq_decide.2 (by omega)
        · have l1' : ¬ (m.base.length : Int) ≤ 1 := by omega
          simp (implicitDefEqProofs := false) only [go_sem, hi1, hc, k2, l1']
          refine ⟨?_, hF6⟩
          simp only [l1, decide_false, Bool.false_and]
      by_cases k3 : m.kind = 3
      · simp (implicitDefEqProofs := false) only [go_sem, hi1, hc, k3]
        refine ⟨?_, hF6⟩
        congr 1; exact decide_eq_decide.2 (by omega)
      by_cases k6 : m.kind = 6
      · simp (implicitDefEqProofs := false) only [go_sem, hi1, hc, k6]
        refine ⟨?_, hF6⟩
        congr 1; exact decide_eq_decide.2 (by omega)
      by_cases k7 : m.kind = 7
      · simp (implicitDefEqProofs := false) only [go_sem, hi1, hc, k7]
        refine ⟨?_, hF6⟩
        congr 1; exact decide_eq_decide.2 (by omega)
      by_cases k8 : m.kind = 8
      · by_cases l1 : m.proof.length = 1
        · have l1' : (m.proof.length : Int) = 1 := by omega
          by_cases l2 : m.reads.length = 1
          · have l2' : (m.reads.length : Int) = 1 := by omega
            by_cases l3 : m.seq = 0
            · simp (implicitDefEqProofs := false) only [go_sem, hi1, hc, k8, l1', l2', l3]
              exact ⟨by simp [l1, l2, l3], hF6⟩
            · simp (implicitDefEqProofs := false) only [go_sem, hi1, hc, k8, l1', l2', l3]
              exact ⟨by simp [l1, l2, l3], hF6⟩
          · have l2' : ¬ (m.reads.length : Int) = 1 := by omega
            by_cases l3 : m.reads.length = 0
            · have l3' : (m.reads.length : Int) = 0 := by omega
              by_cases l4 : 1 ≤ m.seq
              · simp (implicitDefEqProofs := false) only [go_sem, hi1, hc, k8, l1', l2', l3', l4]
                exact ⟨by simp [l1, l2, l3, l4], hF6⟩
              · simp (implicitDefEqProofs := false) only [go_sem, hi1, hc, k8, l1', l2', l3', l4]
                exact ⟨by simp [l1, l2, l3, l4], hF6⟩
            · have l3' : ¬ (m.reads.length : Int) = 0 := by omega
              simp (implicitDefEqProofs := false) only [go_sem, hi1, hc, k8, l1', l2', l3']
              exact ⟨by simp [l1, l2, l3], hF6⟩
        · have l1' : ¬ (m.proof.length : Int) = 1 := by omega
          simp (implicitDefEqProofs := false) only [go_sem, hi1, hc, k8, l1']
          exact ⟨by simp [l1], hF6⟩
      · simp (implicitDefEqProofs := false) only [go_sem, hi1, hc, k1, k2, k3, k6, k7, k8]
        first | exact hF6 | exact ⟨rfl, hF6⟩
set_option maxHeartbeats 8000000 in
theorem fpayload_ok {m : Msg} {H : Heap} {cs : List Value} (h : Rep H [] (datT tMsg m.tup) cs) (hok : okM m) (hform : formB m = true) (hl : (encM m).length < 2^37) : HCalls Tryz.prog 30 #[.agg cs.toArray] H (Out H (encM m)) := by
  obtain ⟨a_reads, c_reads, a_base, c_base, a_state, c_state, a_acks, c_acks, a_proof, c_proof, a_digests, c_digests, a_objects, c_objects, a_items, c_items, rfl, h_reads, h_base, h_state, h_acks, h_proof, h_digests, h_objects, h_items⟩ := msg_open h
  obtain ⟨o_kind, o_src, o_dst, o_round, o_reads, o_base, o_state, o_acks, o_proof, o_digests, o_objects, o_seq, o_items⟩ := hok
  have hhead := form_head hform
  have h_round : Rep H [] (datT tRound m.round) [.int .i64 m.round.1, .int .i64 m.round.2.1, .int .i64 m.round.2.2] := msg_round
  refine calls_of_vc (args := [_]) Tryz.func30 c30ok (Nat.le_of_ble_eq_true rfl) ?_
  simp (implicitDefEqProofs := false) only [go_sem, c30]
  refine NewP_intro fun H1 hB hf1 hs1 => ?_
  have cB := hB.cell
  replace h_reads := Rep.ext h_reads hf1
  replace h_base := Rep.ext h_base hf1
  replace h_state := Rep.ext h_state hf1
  replace h_acks := Rep.ext h_acks hf1
  replace h_proof := Rep.ext h_proof hf1
  replace h_digests := Rep.ext h_digests hf1
  replace h_objects := Rep.ext h_objects hf1
  replace h_items := Rep.ext h_items hf1
  replace h_round := Rep.ext h_round hf1
  have hk : ((m.kind.toNat : Nat) : Int) = m.kind := by omega
  by_cases k1 : m.kind = 1
  · have hkt : m.kind.toNat = 1 := by omega
    have hE : encM m = enc 1 ++ (encT .num m.src ++ (encT .num m.dst ++ (encT tRound m.round ++ (encT (.list tRead) m.reads ++ (encT (.list tBase) m.base ++ (encT (.list tCmd) m.state)))))) := by
      rw [encM, hkt]; rfl
    rw [hE] at hl ⊢
    simp only [List.length_append] at hl
    simp (implicitDefEqProofs := false) only [go_sem, cB, k1]
    refine (fcount_ok 1 (by omega) (BsR.nil H1 none) (by simp)).mono ?_
    rintro v K101 ⟨a101, c101, g101, rfl, ho101, hg101, hf101⟩
    have hb101 := ho101.bsR
    have hF101 := hf1.trans hf101
    replace h_reads := Rep.ext h_reads hf101
    replace h_base := Rep.ext h_base hf101
    replace h_state := Rep.ext h_state hf101
    replace h_acks := Rep.ext h_acks hf101
    replace h_proof := Rep.ext h_proof hf101
    replace h_digests := Rep.ext h_digests hf101
    replace h_objects := Rep.ext h_objects hf101
    replace h_items := Rep.ext h_items hf101
    replace h_round := Rep.ext h_round hf101
    replace hB := hB.ext hf101
    replace cB := hB.cell
    simp (implicitDefEqProofs := false) only [go_sem, cB, k1]
    refine (finteger_ok m.src o_src hb101 (by (try simp only [List.length_append, List.length_nil]); omega)).mono ?_
    rintro v K102 ⟨a102, c102, g102, rfl, ho102, hg102, hf102⟩
    have hb102 := ho102.bsR
    have hF102 := hF101.trans hf102
    replace h_reads := Rep.ext h_reads hf102
    replace h_base := Rep.ext h_base hf102
    replace h_state := Rep.ext h_state hf102
    replace h_acks := Rep.ext h_acks hf102
    replace h_proof := Rep.ext h_proof hf102
    replace h_digests := Rep.ext h_digests hf102
    replace h_objects := Rep.ext h_objects hf102
    replace h_items := Rep.ext h_items hf102
    replace h_round := Rep.ext h_round hf102
    replace hB := hB.ext hf102
    replace cB := hB.cell
    simp (implicitDefEqProofs := false) only [go_sem, cB, k1]
    refine (finteger_ok m.dst o_dst hb102 (by (try simp only [List.length_append, List.length_nil]); omega)).mono ?_
    rintro v K103 ⟨a103, c103, g103, rfl, ho103, hg103, hf103⟩
    have hb103 := ho103.bsR
    have hF103 := hF102.trans hf103
    replace h_reads := Rep.ext h_reads hf103
    replace h_base := Rep.ext h_base hf103
    replace h_state := Rep.ext h_state hf103
    replace h_acks := Rep.ext h_acks hf103
    replace h_proof := Rep.ext h_proof hf103
    replace h_digests := Rep.ext h_digests hf103
    replace h_objects := Rep.ext h_objects hf103
    replace h_items := Rep.ext h_items hf103
    replace h_round := Rep.ext h_round hf103
    replace hB := hB.ext hf103
    replace cB := hB.cell
    simp (implicitDefEqProofs := false) only [go_sem, cB, k1]
    refine (fround_ok m.round o_round hb103 h_round (by (try simp only [List.length_append, List.length_nil]); omega)).mono ?_
    rintro v K104 ⟨a104, c104, g104, rfl, ho104, hg104, hf104⟩
    have hb104 := ho104.bsR
    have hF104 := hF103.trans hf104
    replace h_reads := Rep.ext h_reads hf104
    replace h_base := Rep.ext h_base hf104
    replace h_state := Rep.ext h_state hf104
    replace h_acks := Rep.ext h_acks hf104
    replace h_proof := Rep.ext h_proof hf104
    replace h_digests := Rep.ext h_digests hf104
    replace h_objects := Rep.ext h_objects hf104
    replace h_items := Rep.ext h_items hf104
    replace h_round := Rep.ext h_round hf104
    replace hB := hB.ext hf104
    replace cB := hB.cell
    simp (implicitDefEqProofs := false) only [go_sem, cB, k1]
    refine (freads_ok m.reads o_reads hb104 h_reads (by (try simp only [List.length_append, List.length_nil]); omega)).mono ?_
    rintro v K105 ⟨a105, c105, g105, rfl, ho105, hg105, hf105⟩
    have hb105 := ho105.bsR
    have hF105 := hF104.trans hf105
    replace h_reads := Rep.ext h_reads hf105
    replace h_base := Rep.ext h_base hf105
    replace h_state := Rep.ext h_state hf105
    replace h_acks := Rep.ext h_acks hf105
    replace h_proof := Rep.ext h_proof hf105
    replace h_digests := Rep.ext h_digests hf105
    replace h_objects := Rep.ext h_objects hf105
    replace h_items := Rep.ext h_items hf105
    replace h_round := Rep.ext h_round hf105
    replace hB := hB.ext hf105
    replace cB := hB.cell
    simp (implicitDefEqProofs := false) only [go_sem, cB, k1]
    refine (fbases_ok m.base o_base hb105 h_base (by (try simp only [List.length_append, List.length_nil]); omega)).mono ?_
    rintro v K106 ⟨a106, c106, g106, rfl, ho106, hg106, hf106⟩
    have hb106 := ho106.bsR
    have hF106 := hF105.trans hf106
    replace h_reads := Rep.ext h_reads hf106
    replace h_base := Rep.ext h_base hf106
    replace h_state := Rep.ext h_state hf106
    replace h_acks := Rep.ext h_acks hf106
    replace h_proof := Rep.ext h_proof hf106
    replace h_digests := Rep.ext h_digests hf106
    replace h_objects := Rep.ext h_objects hf106
    replace h_items := Rep.ext h_items hf106
    replace h_round := Rep.ext h_round hf106
    replace hB := hB.ext hf106
    replace cB := hB.cell
    simp (implicitDefEqProofs := false) only [go_sem, cB, k1]
    refine (fcommands_ok m.state o_state hb106 h_state (by (try simp only [List.length_append, List.length_nil]); omega)).mono ?_
    rintro v K107 ⟨a107, c107, g107, rfl, ho107, hg107, hf107⟩
    have hb107 := ho107.bsR
    have hF107 := hF106.trans hf107
    replace h_reads := Rep.ext h_reads hf107
    replace h_base := Rep.ext h_base hf107
    replace h_state := Rep.ext h_state hf107
    replace h_acks := Rep.ext h_acks hf107
    replace h_proof := Rep.ext h_proof hf107
    replace h_digests := Rep.ext h_digests hf107
    replace h_objects := Rep.ext h_objects hf107
    replace h_items := Rep.ext h_items hf107
    replace h_round := Rep.ext h_round hf107
    replace hB := hB.ext hf107
    replace cB := hB.cell
    simp (implicitDefEqProofs := false) only [go_sem, cB, k1]
    have hv : (((((((([] : Bs) ++ enc 1) ++ encT .num m.src) ++ encT .num m.dst) ++ encT tRound m.round) ++ encT (.list tRead) m.reads) ++ encT (.list tBase) m.base) ++ encT (.list tCmd) m.state) = enc 1 ++ (encT .num m.src ++ (encT .num m.dst ++ (encT tRound m.round ++ (encT (.list tRead) m.reads ++ (encT (.list tBase) m.base ++ (encT (.list tCmd) m.state)))))) := by simp
    have ho := ho107
    rw [hv] at ho
    refine ⟨_, _, _, ?_, ho, fun x hx => Nat.le_trans hF106.size (hg107 x hx), hF107⟩
    simp
  by_cases k2 : m.kind = 2
  · have hkt : m.kind.toNat = 2 := by omega
    have hE : encM m = enc 2 ++ (encT .num m.src ++ (encT .num m.dst ++ (encT tRound m.round ++ (encT (.list tCmd) m.state ++ (encT (.list tBase) m.base ++ (encT (.list tAck) m.acks)))))) := by
      rw [encM, hkt]; rfl
    rw [hE] at hl ⊢
    simp only [List.length_append] at hl
    simp (implicitDefEqProofs := false) only [go_sem, cB, k2]
    refine (fcount_ok 2 (by omega) (BsR.nil H1 none) (by simp)).mono ?_
    rintro v K108 ⟨a108, c108, g108, rfl, ho108, hg108, hf108⟩
    have hb108 := ho108.bsR
    have hF108 := hf1.trans hf108
    replace h_reads := Rep.ext h_reads hf108
    replace h_base := Rep.ext h_base hf108
    replace h_state := Rep.ext h_state hf108
    replace h_acks := Rep.ext h_acks hf108
    replace h_proof := Rep.ext h_proof hf108
    replace h_digests := Rep.ext h_digests hf108
    replace h_objects := Rep.ext h_objects hf108
    replace h_items := Rep.ext h_items hf108
    replace h_round := Rep.ext h_round hf108
    replace hB := hB.ext hf108
    replace cB := hB.cell
    simp (implicitDefEqProofs := false) only [go_sem, cB, k2]
    refine (finteger_ok m.src o_src hb108 (by (try simp only [List.length_append, List.length_nil]); omega)).mono ?_
    rintro v K109 ⟨a109, c109, g109, rfl, ho109, hg109, hf109⟩
    have hb109 := ho109.bsR
    have hF109 := hF108.trans hf109
    replace h_reads := Rep.ext h_reads hf109
    replace h_base := Rep.ext h_base hf109
    replace h_state := Rep.ext h_state hf109
    replace h_acks := Rep.ext h_acks hf109
    replace h_proof := Rep.ext h_proof hf109
    replace h_digests := Rep.ext h_digests hf109
    replace h_objects := Rep.ext h_objects hf109
    replace h_items := Rep.ext h_items hf109
    replace h_round := Rep.ext h_round hf109
    replace hB := hB.ext hf109
    replace cB := hB.cell
    simp (implicitDefEqProofs := false) only [go_sem, cB, k2]
    refine (finteger_ok m.dst o_dst hb109 (by (try simp only [List.length_append, List.length_nil]); omega)).mono ?_
    rintro v K110 ⟨a110, c110, g110, rfl, ho110, hg110, hf110⟩
    have hb110 := ho110.bsR
    have hF110 := hF109.trans hf110
    replace h_reads := Rep.ext h_reads hf110
    replace h_base := Rep.ext h_base hf110
    replace h_state := Rep.ext h_state hf110
    replace h_acks := Rep.ext h_acks hf110
    replace h_proof := Rep.ext h_proof hf110
    replace h_digests := Rep.ext h_digests hf110
    replace h_objects := Rep.ext h_objects hf110
    replace h_items := Rep.ext h_items hf110
    replace h_round := Rep.ext h_round hf110
    replace hB := hB.ext hf110
    replace cB := hB.cell
    simp (implicitDefEqProofs := false) only [go_sem, cB, k2]
    refine (fround_ok m.round o_round hb110 h_round (by (try simp only [List.length_append, List.length_nil]); omega)).mono ?_
    rintro v K111 ⟨a111, c111, g111, rfl, ho111, hg111, hf111⟩
    have hb111 := ho111.bsR
    have hF111 := hF110.trans hf111
    replace h_reads := Rep.ext h_reads hf111
    replace h_base := Rep.ext h_base hf111
    replace h_state := Rep.ext h_state hf111
    replace h_acks := Rep.ext h_acks hf111
    replace h_proof := Rep.ext h_proof hf111
    replace h_digests := Rep.ext h_digests hf111
    replace h_objects := Rep.ext h_objects hf111
    replace h_items := Rep.ext h_items hf111
    replace h_round := Rep.ext h_round hf111
    replace hB := hB.ext hf111
    replace cB := hB.cell
    simp (implicitDefEqProofs := false) only [go_sem, cB, k2]
    refine (fcommands_ok m.state o_state hb111 h_state (by (try simp only [List.length_append, List.length_nil]); omega)).mono ?_
    rintro v K112 ⟨a112, c112, g112, rfl, ho112, hg112, hf112⟩
    have hb112 := ho112.bsR
    have hF112 := hF111.trans hf112
    replace h_reads := Rep.ext h_reads hf112
    replace h_base := Rep.ext h_base hf112
    replace h_state := Rep.ext h_state hf112
    replace h_acks := Rep.ext h_acks hf112
    replace h_proof := Rep.ext h_proof hf112
    replace h_digests := Rep.ext h_digests hf112
    replace h_objects := Rep.ext h_objects hf112
    replace h_items := Rep.ext h_items hf112
    replace h_round := Rep.ext h_round hf112
    replace hB := hB.ext hf112
    replace cB := hB.cell
    simp (implicitDefEqProofs := false) only [go_sem, cB, k2]
    refine (fbases_ok m.base o_base hb112 h_base (by (try simp only [List.length_append, List.length_nil]); omega)).mono ?_
    rintro v K113 ⟨a113, c113, g113, rfl, ho113, hg113, hf113⟩
    have hb113 := ho113.bsR
    have hF113 := hF112.trans hf113
    replace h_reads := Rep.ext h_reads hf113
    replace h_base := Rep.ext h_base hf113
    replace h_state := Rep.ext h_state hf113
    replace h_acks := Rep.ext h_acks hf113
    replace h_proof := Rep.ext h_proof hf113
    replace h_digests := Rep.ext h_digests hf113
    replace h_objects := Rep.ext h_objects hf113
    replace h_items := Rep.ext h_items hf113
    replace h_round := Rep.ext h_round hf113
    replace hB := hB.ext hf113
    replace cB := hB.cell
    simp (implicitDefEqProofs := false) only [go_sem, cB, k2]
    refine (facks_ok m.acks o_acks hb113 h_acks (by (try simp only [List.length_append, List.length_nil]); omega)).mono ?_
    rintro v K114 ⟨a114, c114, g114, rfl, ho114, hg114, hf114⟩
    have hb114 := ho114.bsR
    have hF114 := hF113.trans hf114
    replace h_reads := Rep.ext h_reads hf114
    replace h_base := Rep.ext h_base hf114
    replace h_state := Rep.ext h_state hf114
    replace h_acks := Rep.ext h_acks hf114
    replace h_proof := Rep.ext h_proof hf114
    replace h_digests := Rep.ext h_digests hf114
    replace h_objects := Rep.ext h_objects hf114
    replace h_items := Rep.ext h_items hf114
    replace h_round := Rep.ext h_round hf114
    replace hB := hB.ext hf114
    replace cB := hB.cell
    simp (implicitDefEqProofs := false) only [go_sem, cB, k2]
    have hv : (((((((([] : Bs) ++ enc 2) ++ encT .num m.src) ++ encT .num m.dst) ++ encT tRound m.round) ++ encT (.list tCmd) m.state) ++ encT (.list tBase) m.base) ++ encT (.list tAck) m.acks) = enc 2 ++ (encT .num m.src ++ (encT .num m.dst ++ (encT tRound m.round ++ (encT (.list tCmd) m.state ++ (encT (.list tBase) m.base ++ (encT (.list tAck) m.acks)))))) := by simp
    have ho := ho114
    rw [hv] at ho
    refine ⟨_, _, _, ?_, ho, fun x hx => Nat.le_trans hF113.size (hg114 x hx), hF114⟩
    simp
  by_cases k3 : m.kind = 3
  · have hkt : m.kind.toNat = 3 := by omega
    have hE : encM m = enc 3 ++ (encT .num m.src ++ (encT .num m.dst ++ (encT (.list tProof) m.proof ++ (encT (.list tCmd) m.state)))) := by
      rw [encM, hkt]; rfl
    rw [hE] at hl ⊢
    simp only [List.length_append] at hl
    simp (implicitDefEqProofs := false) only [go_sem, cB, k3]
    refine (fcount_ok 3 (by omega) (BsR.nil H1 none) (by simp)).mono ?_
    rintro v K115 ⟨a115, c115, g115, rfl, ho115, hg115, hf115⟩
    have hb115 := ho115.bsR
    have hF115 := hf1.trans hf115
    replace h_reads := Rep.ext h_reads hf115
    replace h_base := Rep.ext h_base hf115
    replace h_state := Rep.ext h_state hf115
    replace h_acks := Rep.ext h_acks hf115
    replace h_proof := Rep.ext h_proof hf115
    replace h_digests := Rep.ext h_digests hf115
    replace h_objects := Rep.ext h_objects hf115
    replace h_items := Rep.ext h_items hf115
    replace h_round := Rep.ext h_round hf115
    replace hB := hB.ext hf115
    replace cB := hB.cell
    simp (implicitDefEqProofs := false) only [go_sem, cB, k3]
    refine (finteger_ok m.src o_src hb115 (by (try simp only [List.length_append, List.length_nil]); omega)).mono ?_
    rintro v K116 ⟨a116, c116, g116, rfl, ho116, hg116, hf116⟩
    have hb116 := ho116.bsR
    have hF116 := hF115.trans hf116
    replace h_reads := Rep.ext h_reads hf116
    replace h_base := Rep.ext h_base hf116
    replace h_state := Rep.ext h_state hf116
    replace h_acks := Rep.ext h_acks hf116
    replace h_proof := Rep.ext h_proof hf116
    replace h_digests := Rep.ext h_digests hf116
    replace h_objects := Rep.ext h_objects hf116
    replace h_items := Rep.ext h_items hf116
    replace h_round := Rep.ext h_round hf116
    replace hB := hB.ext hf116
    replace cB := hB.cell
    simp (implicitDefEqProofs := false) only [go_sem, cB, k3]
    refine (finteger_ok m.dst o_dst hb116 (by (try simp only [List.length_append, List.length_nil]); omega)).mono ?_
    rintro v K117 ⟨a117, c117, g117, rfl, ho117, hg117, hf117⟩
    have hb117 := ho117.bsR
    have hF117 := hF116.trans hf117
    replace h_reads := Rep.ext h_reads hf117
    replace h_base := Rep.ext h_base hf117
    replace h_state := Rep.ext h_state hf117
    replace h_acks := Rep.ext h_acks hf117
    replace h_proof := Rep.ext h_proof hf117
    replace h_digests := Rep.ext h_digests hf117
    replace h_objects := Rep.ext h_objects hf117
    replace h_items := Rep.ext h_items hf117
    replace h_round := Rep.ext h_round hf117
    replace hB := hB.ext hf117
    replace cB := hB.cell
    simp (implicitDefEqProofs := false) only [go_sem, cB, k3]
    refine (fproofs_ok m.proof o_proof hb117 h_proof (by (try simp only [List.length_append, List.length_nil]); omega)).mono ?_
    rintro v K118 ⟨a118, c118, g118, rfl, ho118, hg118, hf118⟩
    have hb118 := ho118.bsR
    have hF118 := hF117.trans hf118
    replace h_reads := Rep.ext h_reads hf118
    replace h_base := Rep.ext h_base hf118
    replace h_state := Rep.ext h_state hf118
    replace h_acks := Rep.ext h_acks hf118
    replace h_proof := Rep.ext h_proof hf118
    replace h_digests := Rep.ext h_digests hf118
    replace h_objects := Rep.ext h_objects hf118
    replace h_items := Rep.ext h_items hf118
    replace h_round := Rep.ext h_round hf118
    replace hB := hB.ext hf118
    replace cB := hB.cell
    simp (implicitDefEqProofs := false) only [go_sem, cB, k3]
    refine (fcommands_ok m.state o_state hb118 h_state (by (try simp only [List.length_append, List.length_nil]); omega)).mono ?_
    rintro v K119 ⟨a119, c119, g119, rfl, ho119, hg119, hf119⟩
    have hb119 := ho119.bsR
    have hF119 := hF118.trans hf119
    replace h_reads := Rep.ext h_reads hf119
    replace h_base := Rep.ext h_base hf119
    replace h_state := Rep.ext h_state hf119
    replace h_acks := Rep.ext h_acks hf119
    replace h_proof := Rep.ext h_proof hf119
    replace h_digests := Rep.ext h_digests hf119
    replace h_objects := Rep.ext h_objects hf119
    replace h_items := Rep.ext h_items hf119
    replace h_round := Rep.ext h_round hf119
    replace hB := hB.ext hf119
    replace cB := hB.cell
    simp (implicitDefEqProofs := false) only [go_sem, cB, k3]
    have hv : (((((([] : Bs) ++ enc 3) ++ encT .num m.src) ++ encT .num m.dst) ++ encT (.list tProof) m.proof) ++ encT (.list tCmd) m.state) = enc 3 ++ (encT .num m.src ++ (encT .num m.dst ++ (encT (.list tProof) m.proof ++ (encT (.list tCmd) m.state)))) := by simp
    have ho := ho119
    rw [hv] at ho
    refine ⟨_, _, _, ?_, ho, fun x hx => Nat.le_trans hF118.size (hg119 x hx), hF119⟩
    simp
  by_cases k4 : m.kind = 4
  · have hkt : m.kind.toNat = 4 := by omega
    have hE : encM m = enc 4 ++ (encT .num m.src ++ (encT .num m.dst ++ encT (.list tDigest) m.digests)) := by
      rw [encM, hkt]; rfl
    rw [hE] at hl ⊢
    simp only [List.length_append] at hl
    simp (implicitDefEqProofs := false) only [go_sem, cB, k4]
    refine (fcount_ok 4 (by omega) (BsR.nil H1 none) (by simp)).mono ?_
    rintro v K120 ⟨a120, c120, g120, rfl, ho120, hg120, hf120⟩
    have hb120 := ho120.bsR
    have hF120 := hf1.trans hf120
    replace h_reads := Rep.ext h_reads hf120
    replace h_base := Rep.ext h_base hf120
    replace h_state := Rep.ext h_state hf120
    replace h_acks := Rep.ext h_acks hf120
    replace h_proof := Rep.ext h_proof hf120
    replace h_digests := Rep.ext h_digests hf120
    replace h_objects := Rep.ext h_objects hf120
    replace h_items := Rep.ext h_items hf120
    replace h_round := Rep.ext h_round hf120
    replace hB := hB.ext hf120
    replace cB := hB.cell
    simp (implicitDefEqProofs := false) only [go_sem, cB, k4]
    refine (finteger_ok m.src o_src hb120 (by (try simp only [List.length_append, List.length_nil]); omega)).mono ?_
    rintro v K121 ⟨a121, c121, g121, rfl, ho121, hg121, hf121⟩
    have hb121 := ho121.bsR
    have hF121 := hF120.trans hf121
    replace h_reads := Rep.ext h_reads hf121
    replace h_base := Rep.ext h_base hf121
    replace h_state := Rep.ext h_state hf121
    replace h_acks := Rep.ext h_acks hf121
    replace h_proof := Rep.ext h_proof hf121
    replace h_digests := Rep.ext h_digests hf121
    replace h_objects := Rep.ext h_objects hf121
    replace h_items := Rep.ext h_items hf121
    replace h_round := Rep.ext h_round hf121
    replace hB := hB.ext hf121
    replace cB := hB.cell
    simp (implicitDefEqProofs := false) only [go_sem, cB, k4]
    refine (finteger_ok m.dst o_dst hb121 (by (try simp only [List.length_append, List.length_nil]); omega)).mono ?_
    rintro v K122 ⟨a122, c122, g122, rfl, ho122, hg122, hf122⟩
    have hb122 := ho122.bsR
    have hF122 := hF121.trans hf122
    replace h_reads := Rep.ext h_reads hf122
    replace h_base := Rep.ext h_base hf122
    replace h_state := Rep.ext h_state hf122
    replace h_acks := Rep.ext h_acks hf122
    replace h_proof := Rep.ext h_proof hf122
    replace h_digests := Rep.ext h_digests hf122
    replace h_objects := Rep.ext h_objects hf122
    replace h_items := Rep.ext h_items hf122
    replace h_round := Rep.ext h_round hf122
    replace hB := hB.ext hf122
    replace cB := hB.cell
    simp (implicitDefEqProofs := false) only [go_sem, cB, k4]
    refine (fdigests_ok m.digests o_digests hb122 h_digests (by (try simp only [List.length_append, List.length_nil]); omega)).mono ?_
    rintro v K123 ⟨a123, c123, g123, rfl, ho123, hg123, hf123⟩
    have hb123 := ho123.bsR
    have hF123 := hF122.trans hf123
    replace h_reads := Rep.ext h_reads hf123
    replace h_base := Rep.ext h_base hf123
    replace h_state := Rep.ext h_state hf123
    replace h_acks := Rep.ext h_acks hf123
    replace h_proof := Rep.ext h_proof hf123
    replace h_digests := Rep.ext h_digests hf123
    replace h_objects := Rep.ext h_objects hf123
    replace h_items := Rep.ext h_items hf123
    replace h_round := Rep.ext h_round hf123
    replace hB := hB.ext hf123
    replace cB := hB.cell
    simp (implicitDefEqProofs := false) only [go_sem, cB, k4]
    have hv : ((((([] : Bs) ++ enc 4) ++ encT .num m.src) ++ encT .num m.dst) ++ encT (.list tDigest) m.digests) = enc 4 ++ (encT .num m.src ++ (encT .num m.dst ++ encT (.list tDigest) m.digests)) := by simp
    have ho := ho123
    rw [hv] at ho
    refine ⟨_, _, _, ?_, ho, fun x hx => Nat.le_trans hF122.size (hg123 x hx), hF123⟩
    simp
  by_cases k5 : m.kind = 5
  · have hkt : m.kind.toNat = 5 := by omega
    have hE : encM m = enc 5 ++ (encT .num m.src ++ (encT .num m.dst ++ encT (.list tCmd) m.state)) := by
      rw [encM, hkt]; rfl
    rw [hE] at hl ⊢
    simp only [List.length_append] at hl
    simp (implicitDefEqProofs := false) only [go_sem, cB, k5]
    refine (fcount_ok 5 (by omega) (BsR.nil H1 none) (by simp)).mono ?_
    rintro v K124 ⟨a124, c124, g124, rfl, ho124, hg124, hf124⟩
    have hb124 := ho124.bsR
    have hF124 := hf1.trans hf124
    replace h_reads := Rep.ext h_reads hf124
    replace h_base := Rep.ext h_base hf124
    replace h_state := Rep.ext h_state hf124
    replace h_acks := Rep.ext h_acks hf124
    replace h_proof := Rep.ext h_proof hf124
    replace h_digests := Rep.ext h_digests hf124
    replace h_objects := Rep.ext h_objects hf124
    replace h_items := Rep.ext h_items hf124
    replace h_round := Rep.ext h_round hf124
    replace hB := hB.ext hf124
    replace cB := hB.cell
    simp (implicitDefEqProofs := false) only [go_sem, cB, k5]
    refine (finteger_ok m.src o_src hb124 (by (try simp only [List.length_append, List.length_nil]); omega)).mono ?_
    rintro v K125 ⟨a125, c125, g125, rfl, ho125, hg125, hf125⟩
    have hb125 := ho125.bsR
    have hF125 := hF124.trans hf125
    replace h_reads := Rep.ext h_reads hf125
    replace h_base := Rep.ext h_base hf125
    replace h_state := Rep.ext h_state hf125
    replace h_acks := Rep.ext h_acks hf125
    replace h_proof := Rep.ext h_proof hf125
    replace h_digests := Rep.ext h_digests hf125
    replace h_objects := Rep.ext h_objects hf125
    replace h_items := Rep.ext h_items hf125
    replace h_round := Rep.ext h_round hf125
    replace hB := hB.ext hf125
    replace cB := hB.cell
    simp (implicitDefEqProofs := false) only [go_sem, cB, k5]
    refine (finteger_ok m.dst o_dst hb125 (by (try simp only [List.length_append, List.length_nil]); omega)).mono ?_
    rintro v K126 ⟨a126, c126, g126, rfl, ho126, hg126, hf126⟩
    have hb126 := ho126.bsR
    have hF126 := hF125.trans hf126
    replace h_reads := Rep.ext h_reads hf126
    replace h_base := Rep.ext h_base hf126
    replace h_state := Rep.ext h_state hf126
    replace h_acks := Rep.ext h_acks hf126
    replace h_proof := Rep.ext h_proof hf126
    replace h_digests := Rep.ext h_digests hf126
    replace h_objects := Rep.ext h_objects hf126
    replace h_items := Rep.ext h_items hf126
    replace h_round := Rep.ext h_round hf126
    replace hB := hB.ext hf126
    replace cB := hB.cell
    simp (implicitDefEqProofs := false) only [go_sem, cB, k5]
    refine (fcommands_ok m.state o_state hb126 h_state (by (try simp only [List.length_append, List.length_nil]); omega)).mono ?_
    rintro v K127 ⟨a127, c127, g127, rfl, ho127, hg127, hf127⟩
    have hb127 := ho127.bsR
    have hF127 := hF126.trans hf127
    replace h_reads := Rep.ext h_reads hf127
    replace h_base := Rep.ext h_base hf127
    replace h_state := Rep.ext h_state hf127
    replace h_acks := Rep.ext h_acks hf127
    replace h_proof := Rep.ext h_proof hf127
    replace h_digests := Rep.ext h_digests hf127
    replace h_objects := Rep.ext h_objects hf127
    replace h_items := Rep.ext h_items hf127
    replace h_round := Rep.ext h_round hf127
    replace hB := hB.ext hf127
    replace cB := hB.cell
    simp (implicitDefEqProofs := false) only [go_sem, cB, k5]
    have hv : ((((([] : Bs) ++ enc 5) ++ encT .num m.src) ++ encT .num m.dst) ++ encT (.list tCmd) m.state) = enc 5 ++ (encT .num m.src ++ (encT .num m.dst ++ encT (.list tCmd) m.state)) := by simp
    have ho := ho127
    rw [hv] at ho
    refine ⟨_, _, _, ?_, ho, fun x hx => Nat.le_trans hF126.size (hg127 x hx), hF127⟩
    simp
  by_cases k6 : m.kind = 6
  · have hkt : m.kind.toNat = 6 := by omega
    have hE : encM m = enc 6 ++ (encT .num m.src ++ (encT .num m.dst ++ encT (.list tCmd) m.state)) := by
      rw [encM, hkt]; rfl
    rw [hE] at hl ⊢
    simp only [List.length_append] at hl
    simp (implicitDefEqProofs := false) only [go_sem, cB, k6]
    refine (fcount_ok 6 (by omega) (BsR.nil H1 none) (by simp)).mono ?_
    rintro v K128 ⟨a128, c128, g128, rfl, ho128, hg128, hf128⟩
    have hb128 := ho128.bsR
    have hF128 := hf1.trans hf128
    replace h_reads := Rep.ext h_reads hf128
    replace h_base := Rep.ext h_base hf128
    replace h_state := Rep.ext h_state hf128
    replace h_acks := Rep.ext h_acks hf128
    replace h_proof := Rep.ext h_proof hf128
    replace h_digests := Rep.ext h_digests hf128
    replace h_objects := Rep.ext h_objects hf128
    replace h_items := Rep.ext h_items hf128
    replace h_round := Rep.ext h_round hf128
    replace hB := hB.ext hf128
    replace cB := hB.cell
    simp (implicitDefEqProofs := false) only [go_sem, cB, k6]
    refine (finteger_ok m.src o_src hb128 (by (try simp only [List.length_append, List.length_nil]); omega)).mono ?_
    rintro v K129 ⟨a129, c129, g129, rfl, ho129, hg129, hf129⟩
    have hb129 := ho129.bsR
    have hF129 := hF128.trans hf129
    replace h_reads := Rep.ext h_reads hf129
    replace h_base := Rep.ext h_base hf129
    replace h_state := Rep.ext h_state hf129
    replace h_acks := Rep.ext h_acks hf129
    replace h_proof := Rep.ext h_proof hf129
    replace h_digests := Rep.ext h_digests hf129
    replace h_objects := Rep.ext h_objects hf129
    replace h_items := Rep.ext h_items hf129
    replace h_round := Rep.ext h_round hf129
    replace hB := hB.ext hf129
    replace cB := hB.cell
    simp (implicitDefEqProofs := false) only [go_sem, cB, k6]
    refine (finteger_ok m.dst o_dst hb129 (by (try simp only [List.length_append, List.length_nil]); omega)).mono ?_
    rintro v K130 ⟨a130, c130, g130, rfl, ho130, hg130, hf130⟩
    have hb130 := ho130.bsR
    have hF130 := hF129.trans hf130
    replace h_reads := Rep.ext h_reads hf130
    replace h_base := Rep.ext h_base hf130
    replace h_state := Rep.ext h_state hf130
    replace h_acks := Rep.ext h_acks hf130
    replace h_proof := Rep.ext h_proof hf130
    replace h_digests := Rep.ext h_digests hf130
    replace h_objects := Rep.ext h_objects hf130
    replace h_items := Rep.ext h_items hf130
    replace h_round := Rep.ext h_round hf130
    replace hB := hB.ext hf130
    replace cB := hB.cell
    simp (implicitDefEqProofs := false) only [go_sem, cB, k6]
    refine (fcommands_ok m.state o_state hb130 h_state (by (try simp only [List.length_append, List.length_nil]); omega)).mono ?_
    rintro v K131 ⟨a131, c131, g131, rfl, ho131, hg131, hf131⟩
    have hb131 := ho131.bsR
    have hF131 := hF130.trans hf131
    replace h_reads := Rep.ext h_reads hf131
    replace h_base := Rep.ext h_base hf131
    replace h_state := Rep.ext h_state hf131
    replace h_acks := Rep.ext h_acks hf131
    replace h_proof := Rep.ext h_proof hf131
    replace h_digests := Rep.ext h_digests hf131
    replace h_objects := Rep.ext h_objects hf131
    replace h_items := Rep.ext h_items hf131
    replace h_round := Rep.ext h_round hf131
    replace hB := hB.ext hf131
    replace cB := hB.cell
    simp (implicitDefEqProofs := false) only [go_sem, cB, k6]
    have hv : ((((([] : Bs) ++ enc 6) ++ encT .num m.src) ++ encT .num m.dst) ++ encT (.list tCmd) m.state) = enc 6 ++ (encT .num m.src ++ (encT .num m.dst ++ encT (.list tCmd) m.state)) := by simp
    have ho := ho131
    rw [hv] at ho
    refine ⟨_, _, _, ?_, ho, fun x hx => Nat.le_trans hF130.size (hg131 x hx), hF131⟩
    simp
  by_cases k7 : m.kind = 7
  · have hkt : m.kind.toNat = 7 := by omega
    have hE : encM m = enc 7 ++ (encT .num m.src ++ (encT .num m.dst ++ (encT (.list tRead) m.reads ++ (encT (.list .text) m.objects)))) := by
      rw [encM, hkt]; rfl
    rw [hE] at hl ⊢
    simp only [List.length_append] at hl
    simp (implicitDefEqProofs := false) only [go_sem, cB, k7]
    refine (fcount_ok 7 (by omega) (BsR.nil H1 none) (by simp)).mono ?_
    rintro v K132 ⟨a132, c132, g132, rfl, ho132, hg132, hf132⟩
    have hb132 := ho132.bsR
    have hF132 := hf1.trans hf132
    replace h_reads := Rep.ext h_reads hf132
    replace h_base := Rep.ext h_base hf132
    replace h_state := Rep.ext h_state hf132
    replace h_acks := Rep.ext h_acks hf132
    replace h_proof := Rep.ext h_proof hf132
    replace h_digests := Rep.ext h_digests hf132
    replace h_objects := Rep.ext h_objects hf132
    replace h_items := Rep.ext h_items hf132
    replace h_round := Rep.ext h_round hf132
    replace hB := hB.ext hf132
    replace cB := hB.cell
    simp (implicitDefEqProofs := false) only [go_sem, cB, k7]
    refine (finteger_ok m.src o_src hb132 (by (try simp only [List.length_append, List.length_nil]); omega)).mono ?_
    rintro v K133 ⟨a133, c133, g133, rfl, ho133, hg133, hf133⟩
    have hb133 := ho133.bsR
    have hF133 := hF132.trans hf133
    replace h_reads := Rep.ext h_reads hf133
    replace h_base := Rep.ext h_base hf133
    replace h_state := Rep.ext h_state hf133
    replace h_acks := Rep.ext h_acks hf133
    replace h_proof := Rep.ext h_proof hf133
    replace h_digests := Rep.ext h_digests hf133
    replace h_objects := Rep.ext h_objects hf133
    replace h_items := Rep.ext h_items hf133
    replace h_round := Rep.ext h_round hf133
    replace hB := hB.ext hf133
    replace cB := hB.cell
    simp (implicitDefEqProofs := false) only [go_sem, cB, k7]
    refine (finteger_ok m.dst o_dst hb133 (by (try simp only [List.length_append, List.length_nil]); omega)).mono ?_
    rintro v K134 ⟨a134, c134, g134, rfl, ho134, hg134, hf134⟩
    have hb134 := ho134.bsR
    have hF134 := hF133.trans hf134
    replace h_reads := Rep.ext h_reads hf134
    replace h_base := Rep.ext h_base hf134
    replace h_state := Rep.ext h_state hf134
    replace h_acks := Rep.ext h_acks hf134
    replace h_proof := Rep.ext h_proof hf134
    replace h_digests := Rep.ext h_digests hf134
    replace h_objects := Rep.ext h_objects hf134
    replace h_items := Rep.ext h_items hf134
    replace h_round := Rep.ext h_round hf134
    replace hB := hB.ext hf134
    replace cB := hB.cell
    simp (implicitDefEqProofs := false) only [go_sem, cB, k7]
    refine (freads_ok m.reads o_reads hb134 h_reads (by (try simp only [List.length_append, List.length_nil]); omega)).mono ?_
    rintro v K135 ⟨a135, c135, g135, rfl, ho135, hg135, hf135⟩
    have hb135 := ho135.bsR
    have hF135 := hF134.trans hf135
    replace h_reads := Rep.ext h_reads hf135
    replace h_base := Rep.ext h_base hf135
    replace h_state := Rep.ext h_state hf135
    replace h_acks := Rep.ext h_acks hf135
    replace h_proof := Rep.ext h_proof hf135
    replace h_digests := Rep.ext h_digests hf135
    replace h_objects := Rep.ext h_objects hf135
    replace h_items := Rep.ext h_items hf135
    replace h_round := Rep.ext h_round hf135
    replace hB := hB.ext hf135
    replace cB := hB.cell
    simp (implicitDefEqProofs := false) only [go_sem, cB, k7]
    refine (fobjects_ok m.objects o_objects hb135 h_objects (by (try simp only [List.length_append, List.length_nil]); omega)).mono ?_
    rintro v K136 ⟨a136, c136, g136, rfl, ho136, hg136, hf136⟩
    have hb136 := ho136.bsR
    have hF136 := hF135.trans hf136
    replace h_reads := Rep.ext h_reads hf136
    replace h_base := Rep.ext h_base hf136
    replace h_state := Rep.ext h_state hf136
    replace h_acks := Rep.ext h_acks hf136
    replace h_proof := Rep.ext h_proof hf136
    replace h_digests := Rep.ext h_digests hf136
    replace h_objects := Rep.ext h_objects hf136
    replace h_items := Rep.ext h_items hf136
    replace h_round := Rep.ext h_round hf136
    replace hB := hB.ext hf136
    replace cB := hB.cell
    simp (implicitDefEqProofs := false) only [go_sem, cB, k7]
    have hv : (((((([] : Bs) ++ enc 7) ++ encT .num m.src) ++ encT .num m.dst) ++ encT (.list tRead) m.reads) ++ encT (.list .text) m.objects) = enc 7 ++ (encT .num m.src ++ (encT .num m.dst ++ (encT (.list tRead) m.reads ++ (encT (.list .text) m.objects)))) := by simp
    have ho := ho136
    rw [hv] at ho
    refine ⟨_, _, _, ?_, ho, fun x hx => Nat.le_trans hF135.size (hg136 x hx), hF136⟩
    simp
  by_cases k8 : m.kind = 8
  · have hkt : m.kind.toNat = 8 := by omega
    have hE : encM m = enc 8 ++ (encT .num m.src ++ (encT .num m.dst ++ (encT (.list tProof) m.proof ++ (encT (.list tRead) m.reads ++ (encT .num m.seq ++ (encT (.list tItem) m.items)))))) := by
      rw [encM, hkt]; rfl
    rw [hE] at hl ⊢
    simp only [List.length_append] at hl
    simp (implicitDefEqProofs := false) only [go_sem, cB, k8]
    refine (fcount_ok 8 (by omega) (BsR.nil H1 none) (by simp)).mono ?_
    rintro v K137 ⟨a137, c137, g137, rfl, ho137, hg137, hf137⟩
    have hb137 := ho137.bsR
    have hF137 := hf1.trans hf137
    replace h_reads := Rep.ext h_reads hf137
    replace h_base := Rep.ext h_base hf137
    replace h_state := Rep.ext h_state hf137
    replace h_acks := Rep.ext h_acks hf137
    replace h_proof := Rep.ext h_proof hf137
    replace h_digests := Rep.ext h_digests hf137
    replace h_objects := Rep.ext h_objects hf137
    replace h_items := Rep.ext h_items hf137
    replace h_round := Rep.ext h_round hf137
    replace hB := hB.ext hf137
    replace cB := hB.cell
    simp (implicitDefEqProofs := false) only [go_sem, cB, k8]
    refine (finteger_ok m.src o_src hb137 (by (try simp only [List.length_append, List.length_nil]); omega)).mono ?_
    rintro v K138 ⟨a138, c138, g138, rfl, ho138, hg138, hf138⟩
    have hb138 := ho138.bsR
    have hF138 := hF137.trans hf138
    replace h_reads := Rep.ext h_reads hf138
    replace h_base := Rep.ext h_base hf138
    replace h_state := Rep.ext h_state hf138
    replace h_acks := Rep.ext h_acks hf138
    replace h_proof := Rep.ext h_proof hf138
    replace h_digests := Rep.ext h_digests hf138
    replace h_objects := Rep.ext h_objects hf138
    replace h_items := Rep.ext h_items hf138
    replace h_round := Rep.ext h_round hf138
    replace hB := hB.ext hf138
    replace cB := hB.cell
    simp (implicitDefEqProofs := false) only [go_sem, cB, k8]
    refine (finteger_ok m.dst o_dst hb138 (by (try simp only [List.length_append, List.length_nil]); omega)).mono ?_
    rintro v K139 ⟨a139, c139, g139, rfl, ho139, hg139, hf139⟩
    have hb139 := ho139.bsR
    have hF139 := hF138.trans hf139
    replace h_reads := Rep.ext h_reads hf139
    replace h_base := Rep.ext h_base hf139
    replace h_state := Rep.ext h_state hf139
    replace h_acks := Rep.ext h_acks hf139
    replace h_proof := Rep.ext h_proof hf139
    replace h_digests := Rep.ext h_digests hf139
    replace h_objects := Rep.ext h_objects hf139
    replace h_items := Rep.ext h_items hf139
    replace h_round := Rep.ext h_round hf139
    replace hB := hB.ext hf139
    replace cB := hB.cell
    simp (implicitDefEqProofs := false) only [go_sem, cB, k8]
    refine (fproofs_ok m.proof o_proof hb139 h_proof (by (try simp only [List.length_append, List.length_nil]); omega)).mono ?_
    rintro v K140 ⟨a140, c140, g140, rfl, ho140, hg140, hf140⟩
    have hb140 := ho140.bsR
    have hF140 := hF139.trans hf140
    replace h_reads := Rep.ext h_reads hf140
    replace h_base := Rep.ext h_base hf140
    replace h_state := Rep.ext h_state hf140
    replace h_acks := Rep.ext h_acks hf140
    replace h_proof := Rep.ext h_proof hf140
    replace h_digests := Rep.ext h_digests hf140
    replace h_objects := Rep.ext h_objects hf140
    replace h_items := Rep.ext h_items hf140
    replace h_round := Rep.ext h_round hf140
    replace hB := hB.ext hf140
    replace cB := hB.cell
    simp (implicitDefEqProofs := false) only [go_sem, cB, k8]
    refine (freads_ok m.reads o_reads hb140 h_reads (by (try simp only [List.length_append, List.length_nil]); omega)).mono ?_
    rintro v K141 ⟨a141, c141, g141, rfl, ho141, hg141, hf141⟩
    have hb141 := ho141.bsR
    have hF141 := hF140.trans hf141
    replace h_reads := Rep.ext h_reads hf141
    replace h_base := Rep.ext h_base hf141
    replace h_state := Rep.ext h_state hf141
    replace h_acks := Rep.ext h_acks hf141
    replace h_proof := Rep.ext h_proof hf141
    replace h_digests := Rep.ext h_digests hf141
    replace h_objects := Rep.ext h_objects hf141
    replace h_items := Rep.ext h_items hf141
    replace h_round := Rep.ext h_round hf141
    replace hB := hB.ext hf141
    replace cB := hB.cell
    simp (implicitDefEqProofs := false) only [go_sem, cB, k8]
    refine (finteger_ok m.seq o_seq hb141 (by (try simp only [List.length_append, List.length_nil]); omega)).mono ?_
    rintro v K142 ⟨a142, c142, g142, rfl, ho142, hg142, hf142⟩
    have hb142 := ho142.bsR
    have hF142 := hF141.trans hf142
    replace h_reads := Rep.ext h_reads hf142
    replace h_base := Rep.ext h_base hf142
    replace h_state := Rep.ext h_state hf142
    replace h_acks := Rep.ext h_acks hf142
    replace h_proof := Rep.ext h_proof hf142
    replace h_digests := Rep.ext h_digests hf142
    replace h_objects := Rep.ext h_objects hf142
    replace h_items := Rep.ext h_items hf142
    replace h_round := Rep.ext h_round hf142
    replace hB := hB.ext hf142
    replace cB := hB.cell
    simp (implicitDefEqProofs := false) only [go_sem, cB, k8]
    refine (fitems_ok m.items o_items hb142 h_items (by (try simp only [List.length_append, List.length_nil]); omega)).mono ?_
    rintro v K143 ⟨a143, c143, g143, rfl, ho143, hg143, hf143⟩
    have hb143 := ho143.bsR
    have hF143 := hF142.trans hf143
    replace h_reads := Rep.ext h_reads hf143
    replace h_base := Rep.ext h_base hf143
    replace h_state := Rep.ext h_state hf143
    replace h_acks := Rep.ext h_acks hf143
    replace h_proof := Rep.ext h_proof hf143
    replace h_digests := Rep.ext h_digests hf143
    replace h_objects := Rep.ext h_objects hf143
    replace h_items := Rep.ext h_items hf143
    replace h_round := Rep.ext h_round hf143
    replace hB := hB.ext hf143
    replace cB := hB.cell
    simp (implicitDefEqProofs := false) only [go_sem, cB, k8]
    have hv : (((((((([] : Bs) ++ enc 8) ++ encT .num m.src) ++ encT .num m.dst) ++ encT (.list tProof) m.proof) ++ encT (.list tRead) m.reads) ++ encT .num m.seq) ++ encT (.list tItem) m.items) = enc 8 ++ (encT .num m.src ++ (encT .num m.dst ++ (encT (.list tProof) m.proof ++ (encT (.list tRead) m.reads ++ (encT .num m.seq ++ (encT (.list tItem) m.items)))))) := by simp
    have ho := ho143
    rw [hv] at ho
    refine ⟨_, _, _, ?_, ho, fun x hx => Nat.le_trans hF142.size (hg143 x hx), hF143⟩
    simp
  · omega
set_option maxHeartbeats 8000000 in
theorem fall_ok {m : Msg} {H : Heap} {cs : List Value} (h : Rep H [] (datT tMsg m.tup) cs) (hok : okM m) (hl : (encT tMsg m.tup).length < 2^37) : HCalls Tryz.prog 34 #[.agg cs.toArray] H (Out H (encT tMsg m.tup)) := by
  obtain ⟨a_reads, c_reads, a_base, c_base, a_state, c_state, a_acks, c_acks, a_proof, c_proof, a_digests, c_digests, a_objects, c_objects, a_items, c_items, rfl, h_reads, h_base, h_state, h_acks, h_proof, h_digests, h_objects, h_items⟩ := msg_open h
  obtain ⟨o_kind, o_src, o_dst, o_round, o_reads, o_base, o_state, o_acks, o_proof, o_digests, o_objects, o_seq, o_items⟩ := hok
  have h_round : Rep H [] (datT tRound m.round) [.int .i64 m.round.1, .int .i64 m.round.2.1, .int .i64 m.round.2.2] := msg_round
  refine calls_of_vc (args := [_]) Tryz.func34 c34ok (Nat.le_of_ble_eq_true rfl) ?_
  simp (implicitDefEqProofs := false) only [go_sem, c34]
  refine NewP_intro fun H1 hB hf1 hs1 => ?_
  have cB := hB.cell
  replace h_reads := Rep.ext h_reads hf1
  replace h_base := Rep.ext h_base hf1
  replace h_state := Rep.ext h_state hf1
  replace h_acks := Rep.ext h_acks hf1
  replace h_proof := Rep.ext h_proof hf1
  replace h_digests := Rep.ext h_digests hf1
  replace h_objects := Rep.ext h_objects hf1
  replace h_items := Rep.ext h_items hf1
  replace h_round := Rep.ext h_round hf1
  have hE : encT tMsg m.tup = (encT .num m.kind ++ (encT .num m.src ++ (encT .num m.dst ++ (encT tRound m.round ++ (encT (.list tRead) m.reads ++ (encT (.list tBase) m.base ++ (encT (.list tCmd) m.state ++ (encT (.list tAck) m.acks ++ (encT (.list tProof) m.proof ++ (encT (.list tDigest) m.digests ++ (encT (.list .text) m.objects ++ (encT .num m.seq ++ (encT (.list tItem) m.items))))))))))))) := rfl
  rw [hE] at hl ⊢
  simp only [List.length_append] at hl
  simp (implicitDefEqProofs := false) only [go_sem, cB]
  refine (finteger_ok m.kind o_kind (BsR.nil H1 none) (by simp)).mono ?_
  rintro v K144 ⟨a144, c144, g144, rfl, ho144, hg144, hf144⟩
  have hb144 := ho144.bsR
  have hF144 := hf1.trans hf144
  replace h_reads := Rep.ext h_reads hf144
  replace h_base := Rep.ext h_base hf144
  replace h_state := Rep.ext h_state hf144
  replace h_acks := Rep.ext h_acks hf144
  replace h_proof := Rep.ext h_proof hf144
  replace h_digests := Rep.ext h_digests hf144
  replace h_objects := Rep.ext h_objects hf144
  replace h_items := Rep.ext h_items hf144
  replace h_round := Rep.ext h_round hf144
  replace hB := hB.ext hf144
  replace cB := hB.cell
  simp (implicitDefEqProofs := false) only [go_sem, cB]
  refine (finteger_ok m.src o_src hb144 (by (try simp only [List.length_append, List.length_nil]); omega)).mono ?_
  rintro v K145 ⟨a145, c145, g145, rfl, ho145, hg145, hf145⟩
  have hb145 := ho145.bsR
  have hF145 := hF144.trans hf145
  replace h_reads := Rep.ext h_reads hf145
  replace h_base := Rep.ext h_base hf145
  replace h_state := Rep.ext h_state hf145
  replace h_acks := Rep.ext h_acks hf145
  replace h_proof := Rep.ext h_proof hf145
  replace h_digests := Rep.ext h_digests hf145
  replace h_objects := Rep.ext h_objects hf145
  replace h_items := Rep.ext h_items hf145
  replace h_round := Rep.ext h_round hf145
  replace hB := hB.ext hf145
  replace cB := hB.cell
  simp (implicitDefEqProofs := false) only [go_sem, cB]
  refine (finteger_ok m.dst o_dst hb145 (by (try simp only [List.length_append, List.length_nil]); omega)).mono ?_
  rintro v K146 ⟨a146, c146, g146, rfl, ho146, hg146, hf146⟩
  have hb146 := ho146.bsR
  have hF146 := hF145.trans hf146
  replace h_reads := Rep.ext h_reads hf146
  replace h_base := Rep.ext h_base hf146
  replace h_state := Rep.ext h_state hf146
  replace h_acks := Rep.ext h_acks hf146
  replace h_proof := Rep.ext h_proof hf146
  replace h_digests := Rep.ext h_digests hf146
  replace h_objects := Rep.ext h_objects hf146
  replace h_items := Rep.ext h_items hf146
  replace h_round := Rep.ext h_round hf146
  replace hB := hB.ext hf146
  replace cB := hB.cell
  simp (implicitDefEqProofs := false) only [go_sem, cB]
  refine (fround_ok m.round o_round hb146 h_round (by (try simp only [List.length_append, List.length_nil]); omega)).mono ?_
  rintro v K147 ⟨a147, c147, g147, rfl, ho147, hg147, hf147⟩
  have hb147 := ho147.bsR
  have hF147 := hF146.trans hf147
  replace h_reads := Rep.ext h_reads hf147
  replace h_base := Rep.ext h_base hf147
  replace h_state := Rep.ext h_state hf147
  replace h_acks := Rep.ext h_acks hf147
  replace h_proof := Rep.ext h_proof hf147
  replace h_digests := Rep.ext h_digests hf147
  replace h_objects := Rep.ext h_objects hf147
  replace h_items := Rep.ext h_items hf147
  replace h_round := Rep.ext h_round hf147
  replace hB := hB.ext hf147
  replace cB := hB.cell
  simp (implicitDefEqProofs := false) only [go_sem, cB]
  refine (freads_ok m.reads o_reads hb147 h_reads (by (try simp only [List.length_append, List.length_nil]); omega)).mono ?_
  rintro v K148 ⟨a148, c148, g148, rfl, ho148, hg148, hf148⟩
  have hb148 := ho148.bsR
  have hF148 := hF147.trans hf148
  replace h_reads := Rep.ext h_reads hf148
  replace h_base := Rep.ext h_base hf148
  replace h_state := Rep.ext h_state hf148
  replace h_acks := Rep.ext h_acks hf148
  replace h_proof := Rep.ext h_proof hf148
  replace h_digests := Rep.ext h_digests hf148
  replace h_objects := Rep.ext h_objects hf148
  replace h_items := Rep.ext h_items hf148
  replace h_round := Rep.ext h_round hf148
  replace hB := hB.ext hf148
  replace cB := hB.cell
  simp (implicitDefEqProofs := false) only [go_sem, cB]
  refine (fbases_ok m.base o_base hb148 h_base (by (try simp only [List.length_append, List.length_nil]); omega)).mono ?_
  rintro v K149 ⟨a149, c149, g149, rfl, ho149, hg149, hf149⟩
  have hb149 := ho149.bsR
  have hF149 := hF148.trans hf149
  replace h_reads := Rep.ext h_reads hf149
  replace h_base := Rep.ext h_base hf149
  replace h_state := Rep.ext h_state hf149
  replace h_acks := Rep.ext h_acks hf149
  replace h_proof := Rep.ext h_proof hf149
  replace h_digests := Rep.ext h_digests hf149
  replace h_objects := Rep.ext h_objects hf149
  replace h_items := Rep.ext h_items hf149
  replace h_round := Rep.ext h_round hf149
  replace hB := hB.ext hf149
  replace cB := hB.cell
  simp (implicitDefEqProofs := false) only [go_sem, cB]
  refine (fcommands_ok m.state o_state hb149 h_state (by (try simp only [List.length_append, List.length_nil]); omega)).mono ?_
  rintro v K150 ⟨a150, c150, g150, rfl, ho150, hg150, hf150⟩
  have hb150 := ho150.bsR
  have hF150 := hF149.trans hf150
  replace h_reads := Rep.ext h_reads hf150
  replace h_base := Rep.ext h_base hf150
  replace h_state := Rep.ext h_state hf150
  replace h_acks := Rep.ext h_acks hf150
  replace h_proof := Rep.ext h_proof hf150
  replace h_digests := Rep.ext h_digests hf150
  replace h_objects := Rep.ext h_objects hf150
  replace h_items := Rep.ext h_items hf150
  replace h_round := Rep.ext h_round hf150
  replace hB := hB.ext hf150
  replace cB := hB.cell
  simp (implicitDefEqProofs := false) only [go_sem, cB]
  refine (facks_ok m.acks o_acks hb150 h_acks (by (try simp only [List.length_append, List.length_nil]); omega)).mono ?_
  rintro v K151 ⟨a151, c151, g151, rfl, ho151, hg151, hf151⟩
  have hb151 := ho151.bsR
  have hF151 := hF150.trans hf151
  replace h_reads := Rep.ext h_reads hf151
  replace h_base := Rep.ext h_base hf151
  replace h_state := Rep.ext h_state hf151
  replace h_acks := Rep.ext h_acks hf151
  replace h_proof := Rep.ext h_proof hf151
  replace h_digests := Rep.ext h_digests hf151
  replace h_objects := Rep.ext h_objects hf151
  replace h_items := Rep.ext h_items hf151
  replace h_round := Rep.ext h_round hf151
  replace hB := hB.ext hf151
  replace cB := hB.cell
  simp (implicitDefEqProofs := false) only [go_sem, cB]
  refine (fproofs_ok m.proof o_proof hb151 h_proof (by (try simp only [List.length_append, List.length_nil]); omega)).mono ?_
  rintro v K152 ⟨a152, c152, g152, rfl, ho152, hg152, hf152⟩
  have hb152 := ho152.bsR
  have hF152 := hF151.trans hf152
  replace h_reads := Rep.ext h_reads hf152
  replace h_base := Rep.ext h_base hf152
  replace h_state := Rep.ext h_state hf152
  replace h_acks := Rep.ext h_acks hf152
  replace h_proof := Rep.ext h_proof hf152
  replace h_digests := Rep.ext h_digests hf152
  replace h_objects := Rep.ext h_objects hf152
  replace h_items := Rep.ext h_items hf152
  replace h_round := Rep.ext h_round hf152
  replace hB := hB.ext hf152
  replace cB := hB.cell
  simp (implicitDefEqProofs := false) only [go_sem, cB]
  refine (fdigests_ok m.digests o_digests hb152 h_digests (by (try simp only [List.length_append, List.length_nil]); omega)).mono ?_
  rintro v K153 ⟨a153, c153, g153, rfl, ho153, hg153, hf153⟩
  have hb153 := ho153.bsR
  have hF153 := hF152.trans hf153
  replace h_reads := Rep.ext h_reads hf153
  replace h_base := Rep.ext h_base hf153
  replace h_state := Rep.ext h_state hf153
  replace h_acks := Rep.ext h_acks hf153
  replace h_proof := Rep.ext h_proof hf153
  replace h_digests := Rep.ext h_digests hf153
  replace h_objects := Rep.ext h_objects hf153
  replace h_items := Rep.ext h_items hf153
  replace h_round := Rep.ext h_round hf153
  replace hB := hB.ext hf153
  replace cB := hB.cell
  simp (implicitDefEqProofs := false) only [go_sem, cB]
  refine (fobjects_ok m.objects o_objects hb153 h_objects (by (try simp only [List.length_append, List.length_nil]); omega)).mono ?_
  rintro v K154 ⟨a154, c154, g154, rfl, ho154, hg154, hf154⟩
  have hb154 := ho154.bsR
  have hF154 := hF153.trans hf154
  replace h_reads := Rep.ext h_reads hf154
  replace h_base := Rep.ext h_base hf154
  replace h_state := Rep.ext h_state hf154
  replace h_acks := Rep.ext h_acks hf154
  replace h_proof := Rep.ext h_proof hf154
  replace h_digests := Rep.ext h_digests hf154
  replace h_objects := Rep.ext h_objects hf154
  replace h_items := Rep.ext h_items hf154
  replace h_round := Rep.ext h_round hf154
  replace hB := hB.ext hf154
  replace cB := hB.cell
  simp (implicitDefEqProofs := false) only [go_sem, cB]
  refine (finteger_ok m.seq o_seq hb154 (by (try simp only [List.length_append, List.length_nil]); omega)).mono ?_
  rintro v K155 ⟨a155, c155, g155, rfl, ho155, hg155, hf155⟩
  have hb155 := ho155.bsR
  have hF155 := hF154.trans hf155
  replace h_reads := Rep.ext h_reads hf155
  replace h_base := Rep.ext h_base hf155
  replace h_state := Rep.ext h_state hf155
  replace h_acks := Rep.ext h_acks hf155
  replace h_proof := Rep.ext h_proof hf155
  replace h_digests := Rep.ext h_digests hf155
  replace h_objects := Rep.ext h_objects hf155
  replace h_items := Rep.ext h_items hf155
  replace h_round := Rep.ext h_round hf155
  replace hB := hB.ext hf155
  replace cB := hB.cell
  simp (implicitDefEqProofs := false) only [go_sem, cB]
  refine (fitems_ok m.items o_items hb155 h_items (by (try simp only [List.length_append, List.length_nil]); omega)).mono ?_
  rintro v K156 ⟨a156, c156, g156, rfl, ho156, hg156, hf156⟩
  have hb156 := ho156.bsR
  have hF156 := hF155.trans hf156
  replace h_reads := Rep.ext h_reads hf156
  replace h_base := Rep.ext h_base hf156
  replace h_state := Rep.ext h_state hf156
  replace h_acks := Rep.ext h_acks hf156
  replace h_proof := Rep.ext h_proof hf156
  replace h_digests := Rep.ext h_digests hf156
  replace h_objects := Rep.ext h_objects hf156
  replace h_items := Rep.ext h_items hf156
  replace h_round := Rep.ext h_round hf156
  replace hB := hB.ext hf156
  replace cB := hB.cell
  simp (implicitDefEqProofs := false) only [go_sem, cB]
  have hv : (((((((((((((([] : Bs) ++ encT .num m.kind) ++ encT .num m.src) ++ encT .num m.dst) ++ encT tRound m.round) ++ encT (.list tRead) m.reads) ++ encT (.list tBase) m.base) ++ encT (.list tCmd) m.state) ++ encT (.list tAck) m.acks) ++ encT (.list tProof) m.proof) ++ encT (.list tDigest) m.digests) ++ encT (.list .text) m.objects) ++ encT .num m.seq) ++ encT (.list tItem) m.items) = (encT .num m.kind ++ (encT .num m.src ++ (encT .num m.dst ++ (encT tRound m.round ++ (encT (.list tRead) m.reads ++ (encT (.list tBase) m.base ++ (encT (.list tCmd) m.state ++ (encT (.list tAck) m.acks ++ (encT (.list tProof) m.proof ++ (encT (.list tDigest) m.digests ++ (encT (.list .text) m.objects ++ (encT .num m.seq ++ (encT (.list tItem) m.items))))))))))))) := by simp
  have ho := ho156
  rw [hv] at ho
  refine ⟨_, _, _, ?_, ho, fun x hx => Nat.le_trans hF155.size (hg156 x hx), hF156⟩
  simp
theorem fcheck_ok {m : Msg} {H : Heap} {cs : List Value} (h : Rep H [] (datT tMsg m.tup) cs) (hok : okM m) (hl : formB m = true → (encM m).length ≤ 2^24 - 4) : HCalls Tryz.prog 17 #[.agg cs.toArray] H fun v H' => v = .int .i64 (encO m).2 ∧ Fr [] H H' := by
  have h' := h
  obtain ⟨a_reads, c_reads, a_base, c_base, a_state, c_state, a_acks, c_acks, a_proof, c_proof, a_digests, c_digests, a_objects, c_objects, a_items, c_items, hcs, h_reads, h_base, h_state, h_acks, h_proof, h_digests, h_objects, h_items⟩ := msg_open h
  refine calls_of_vc (args := [_]) Tryz.func17 c17ok (Nat.le_of_ble_eq_true rfl) ?_
  simp (implicitDefEqProofs := false) only [go_sem, c17, hcs]
  refine NewP_intro fun H1 hn1 hf1 hs1 => ?_
  have hc := hn1.cell
  simp (implicitDefEqProofs := false) only [go_sem, hc]
  rw [← hcs]
  refine (shape_ok (Rep.ext h' hf1)).mono ?_
  rintro v H2 ⟨rfl, hf2⟩
  have hf12 := hf1.trans hf2
  have hc2 := (hn1.ext hf2).cell
  unfold encO
  cases hform : formB m with
  | false =>
    simp (implicitDefEqProofs := false) only [go_sem]
    exact hf12
  | true =>
    have hl1 := hl hform
    simp (implicitDefEqProofs := false) only [go_sem, hc2]
    rw [← hcs]
    refine (fpayload_ok (Rep.ext h' hf12) hok hform (by omega)).mono ?_
    rintro v H3 ⟨a3, c3, g3, rfl, ho3, hg3, hf3⟩
    have hlen : IntKind.i64.wrap (((encM m).length : Int) + 4) = (((encM m).length + 4 : Nat) : Int) := by rw [wrap_i64_id _ (by omega) (by omega)]; omega
    have hle : ¬ (16777216 : Int) < (((encM m).length + 4 : Nat) : Int) := by omega
    simp (implicitDefEqProofs := false) only [go_sem, hlen, hle]
    exact hf12.trans hf3
theorem fencode_ok {m : Msg} {H : Heap} {cs : List Value} (h : Rep H [] (datT tMsg m.tup) cs) (hok : okM m) (hl : formB m = true → (encM m).length ≤ 2^24 - 4) : HCalls Tryz.prog 19 #[.agg cs.toArray] H fun v H' =>
    ∃ a c g, v = .tuple #[.slice a (encO m).1.length c, .int .i64 (encO m).2] ∧ Own H' 5 1 (.slice a (encO m).1.length c) (encO m).1.length ((encO m).1.map bv) g ∧ (∀ k, g = some k → H.size ≤ k) ∧ Fr [] H H' := by
  have h' := h
  obtain ⟨a_reads, c_reads, a_base, c_base, a_state, c_state, a_acks, c_acks, a_proof, c_proof, a_digests, c_digests, a_objects, c_objects, a_items, c_items, hcs, h_reads, h_base, h_state, h_acks, h_proof, h_digests, h_objects, h_items⟩ := msg_open h
  refine calls_of_vc (args := [_]) Tryz.func19 c19ok (Nat.le_of_ble_eq_true rfl) ?_
  simp (implicitDefEqProofs := false) only [go_sem, c19, hcs]
  refine NewP_intro fun H1 hn1 hf1 hs1 => ?_
  have hc := hn1.cell
  simp (implicitDefEqProofs := false) only [go_sem, hc]
  rw [← hcs]
  refine (fcheck_ok (Rep.ext h' hf1) hok hl).mono ?_
  rintro v H2 ⟨rfl, hf2⟩
  have hf12 := hf1.trans hf2
  have hc2 := (hn1.ext hf2).cell
  unfold encO
  cases hform : formB m with
  | false =>
    simp (implicitDefEqProofs := false) only [go_sem]
    exact ⟨none, 0, none, rfl, Own.nil _ _ _, by simp, hf12⟩
  | true =>
    have hl1 := hl hform
    simp (implicitDefEqProofs := false) only [go_sem, hc2]
    rw [← hcs]
    refine (fpayload_ok (Rep.ext h' hf12) hok hform (by omega)).mono ?_
    rintro v H3 ⟨a3, c3, g3, rfl, ho3, hg3, hf3⟩
    simp (implicitDefEqProofs := false) only [go_sem]
    refine (sealed_ok ho3.bsR (by omega)).mono ?_
    rintro v H4 ⟨a4, c4, g4, rfl, ho4, hg4, hf4⟩
    simp (implicitDefEqProofs := false) only [go_sem]
    exact ⟨a4, c4, g4, rfl, ho4, fun k hk => Nat.le_trans (hf12.trans hf3).size (hg4 k hk), (hf12.trans hf3).trans hf4⟩
theorem fequal_ok {m m' : Msg} {H : Heap} {cs cs' : List Value} (h : Rep H [] (datT tMsg m.tup) cs) (h' : Rep H [] (datT tMsg m'.tup) cs') (hok : okM m) (hok' : okM m') (hl : (encT tMsg m.tup).length < 2^37) (hl' : (encT tMsg m'.tup).length < 2^37) :
    HCalls Tryz.prog 21 #[.agg cs.toArray, .agg cs'.toArray] H fun v H' => v = .bool (eqB m m') ∧ Fr [] H H' := by
  have g := h
  have g' := h'
  obtain ⟨a_reads, c_reads, a_base, c_base, a_state, c_state, a_acks, c_acks, a_proof, c_proof, a_digests, c_digests, a_objects, c_objects, a_items, c_items, hcs, h_reads, h_base, h_state, h_acks, h_proof, h_digests, h_objects, h_items⟩ := msg_open h
  obtain ⟨aa_reads, cc_reads, aa_base, cc_base, aa_state, cc_state, aa_acks, cc_acks, aa_proof, cc_proof, aa_digests, cc_digests, aa_objects, cc_objects, aa_items, cc_items, hcs', hh_reads, hh_base, hh_state, hh_acks, hh_proof, hh_digests, hh_objects, hh_items⟩ := msg_open h'
  refine calls_of_vc (args := [_, _]) Tryz.func21 c21ok (Nat.le_of_ble_eq_true rfl) ?_
  simp (implicitDefEqProofs := false) only [go_sem, c21, hcs, hcs']
  refine NewP_intro fun H1 hn1 hf1 hs1 => ?_
  simp (implicitDefEqProofs := false) only [go_sem]
  refine NewP_intro fun H2 hn2 hf2 hs2 => ?_
  have hf12 := hf1.trans hf2
  have hm1 := hn1.ext hf2
  have hc1 := hm1.cell
  have hc2 := hn2.cell
  simp (implicitDefEqProofs := false) only [go_sem, hc1, hc2]
  rw [← hcs, ← hcs']
  refine (fall_ok (Rep.ext g hf12) hok hl).mono ?_
  rintro v H3 ⟨a3, c3, g3, rfl, ho3, hg3, hf3⟩
  have hb3 := ho3.bsR.b2s c3
  have hc23 := (hn2.ext hf3).cell
  simp (implicitDefEqProofs := false) only [go_sem, hb3, hc23]
  rw [← hcs']
  refine ⟨rfl, ?_⟩
  refine (fall_ok (Rep.ext g' (hf12.trans hf3)) hok' hl').mono ?_
  rintro v H4 ⟨a4, c4, g4, rfl, ho4, hg4, hf4⟩
  have hb4 := ho4.bsR.b2s c4
  have hb34 := (ho3.bsR.ext hf4).b2s c3
  simp (implicitDefEqProofs := false) only [go_sem, hb4, hb34, str_inj]
  refine ⟨?_, (hf12.trans hf3).trans hf4⟩
  congr 1
  by_cases e : m = m'
  · subst e; rw [eqB_true rfl]; simp
  · rw [eqB_false e]
    simp only [decide_eq_false_iff_not]
    intro hh
    exact e (tup_inj (encT_inj hok hok' (by omega) hh))
end Go.Proofs.YtdhlibkdcldioaaGreat
