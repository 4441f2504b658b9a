/- The form of a message: contracts. -/
import Derived.Test.YtdhlibkdcldioaaGreatFc
import Derived.Test.YtdhlibkdcldioaaGreatFw
set_option linter.unusedSimpArgs false
set_option linter.unusedVariables false
set_option maxRecDepth 8000
namespace Go.Proofs.YtdhlibkdcldioaaGreat
open Gx Go

theorem msg_open {H : Heap} {M : List Nat} {m : Msg} {cs : List Value} (h : Rep H M (datT tMsg m.tup) cs) : ∃ a_reads c_reads a_base c_base a_state c_state a_acks c_acks a_proof c_proof a_digests c_digests a_objects c_objects a_items c_items, cs = [.int .i64 m.kind, .int .i64 m.src, .int .i64 m.dst, .int .i64 m.round.1, .int .i64 m.round.2.1, .int .i64 m.round.2.2, .slice a_reads m.reads.length c_reads, .slice a_base m.base.length c_base, .slice a_state m.state.length c_state, .slice a_acks m.acks.length c_acks, .slice a_proof m.proof.length c_proof, .slice a_digests m.digests.length c_digests, .slice a_objects m.objects.length c_objects, .int .i64 m.seq, .slice a_items m.items.length c_items] ∧
    Rep H M (datT (.list tRead) m.reads) [.slice a_reads m.reads.length c_reads] ∧ Rep H M (datT (.list tBase) m.base) [.slice a_base m.base.length c_base] ∧ Rep H M (datT (.list tCmd) m.state) [.slice a_state m.state.length c_state] ∧ Rep H M (datT (.list tAck) m.acks) [.slice a_acks m.acks.length c_acks] ∧ Rep H M (datT (.list tProof) m.proof) [.slice a_proof m.proof.length c_proof] ∧ Rep H M (datT (.list tDigest) m.digests) [.slice a_digests m.digests.length c_digests] ∧ Rep H M (datT (.list .text) m.objects) [.slice a_objects m.objects.length c_objects] ∧ Rep H M (datT (.list tItem) m.items) [.slice a_items m.items.length c_items] := by
  obtain ⟨x_kind, y_kind, rfl, h_kind, h⟩ := rep_pair.1 h
  obtain ⟨x_src, y_src, rfl, h_src, h⟩ := rep_pair.1 h
  obtain ⟨x_dst, y_dst, rfl, h_dst, h⟩ := rep_pair.1 h
  obtain ⟨x_round, y_round, rfl, h_round, h⟩ := rep_pair.1 h
  obtain ⟨x_reads, y_reads, rfl, h_reads, h⟩ := rep_pair.1 h
  obtain ⟨x_base, y_base, rfl, h_base, h⟩ := rep_pair.1 h
  obtain ⟨x_state, y_state, rfl, h_state, h⟩ := rep_pair.1 h
  obtain ⟨x_acks, y_acks, rfl, h_acks, h⟩ := rep_pair.1 h
  obtain ⟨x_proof, y_proof, rfl, h_proof, h⟩ := rep_pair.1 h
  obtain ⟨x_digests, y_digests, rfl, h_digests, h⟩ := rep_pair.1 h
  obtain ⟨x_objects, y_objects, rfl, h_objects, h⟩ := rep_pair.1 h
  obtain ⟨x_seq, y_seq, rfl, h_seq, h⟩ := rep_pair.1 h
  have h_items := h
  have e_kind := rep_num h_kind
  subst e_kind
  have e_src := rep_num h_src
  subst e_src
  have e_dst := rep_num h_dst
  subst e_dst
  have e_seq := rep_num h_seq
  subst e_seq
  obtain ⟨z1, z2, rfl, r1, hr⟩ := rep_pair.1 h_round
  obtain ⟨z2, z3, rfl, r2, r3⟩ := rep_pair.1 hr
  have q1 := rep_num r1
  subst q1
  have q2 := rep_num r2
  subst q2
  have q3 := rep_num r3
  subst q3
  obtain ⟨a_reads, c_reads, rfl, _, _⟩ := rep_list h_reads
  obtain ⟨a_base, c_base, rfl, _, _⟩ := rep_list h_base
  obtain ⟨a_state, c_state, rfl, _, _⟩ := rep_list h_state
  obtain ⟨a_acks, c_acks, rfl, _, _⟩ := rep_list h_acks
  obtain ⟨a_proof, c_proof, rfl, _, _⟩ := rep_list h_proof
  obtain ⟨a_digests, c_digests, rfl, _, _⟩ := rep_list h_digests
  obtain ⟨a_objects, c_objects, rfl, _, _⟩ := rep_list h_objects
  obtain ⟨a_items, c_items, rfl, _, _⟩ := rep_list h_items
  exact ⟨a_reads, c_reads, a_base, c_base, a_state, c_state, a_acks, c_acks, a_proof, c_proof, a_digests, c_digests, a_objects, c_objects, a_items, c_items, rfl, h_reads, h_base, h_state, h_acks, h_proof, h_digests, h_objects, h_items⟩

def useI (k : Int) : Int := if k = 1 then 15 else (if k = 2 then 29 else (if k = 3 then 40 else (if k = 4 then 64 else (if k = 5 then 8 else (if k = 6 then 8 else (if k = 7 then 130 else (if k = 8 then 802 else 0)))))))
def orI (b : Bool) (x f : Int) : Int := if b then bits .or .i64 x f else x
def hasI : List Bool → Int
  | [b0, b1, b2, b3, b4, b5, b6, b7, b8, b9] => orI b9 (orI b8 (orI b7 (orI b6 (orI b5 (orI b4 (orI b3 (orI b2 (orI b1 (orI b0 (0) 1) 2) 4) 8) 16) 32) 64) 128) 256) 512
  | _ => 0
theorem fit_dec : ∀ b0 b1 b2 b3 b4 b5 b6 b7 b8 b9 : Bool, ∀ k : Fin 9, decide (bits .andNot .i64 (hasI [b0, b1, b2, b3, b4, b5, b6, b7, b8, b9]) (useI (k.val : Int)) = 0) = fitB [b0, b1, b2, b3, b4, b5, b6, b7, b8, b9] (useB (k.val : Int)) := by decide +kernel
theorem uses_ok (k : Int) (H : Heap) : HCalls Tryz.prog 74 #[.int .i64 k] H fun v H' => v = .int .i64 (useI k) ∧ H' = H := by
  refine calls_of_vc (args := [_]) Tryz.func74 c74ok (Nat.le_of_ble_eq_true rfl) ?_
  unfold useI
  by_cases k1 : k = 1
  · subst k1
    simp (implicitDefEqProofs := false) only [go_sem, c74]
  by_cases k2 : k = 2
  · subst k2
    simp (implicitDefEqProofs := false) only [go_sem, c74]
  by_cases k3 : k = 3
  · subst k3
    simp (implicitDefEqProofs := false) only [go_sem, c74]
  by_cases k4 : k = 4
  · subst k4
    simp (implicitDefEqProofs := false) only [go_sem, c74]
  by_cases k5 : k = 5
  · subst k5
    simp (implicitDefEqProofs := false) only [go_sem, c74]
  by_cases k6 : k = 6
  · subst k6
    simp (implicitDefEqProofs := false) only [go_sem, c74]
  by_cases k7 : k = 7
  · subst k7
    simp (implicitDefEqProofs := false) only [go_sem, c74]
  by_cases k8 : k = 8
  · subst k8
    simp (implicitDefEqProofs := false) only [go_sem, c74]
  simp (implicitDefEqProofs := false) only [go_sem, c74, k1, k2, k3, k4, k5, k6, k7, k8]
theorem note_ok {H : Heap} {b : Nat} {x : Int} (f : Int) (t : Bool) (h : Blk H b 3 [.int .i64 x]) : HCalls Tryz.prog 122 #[.int .i64 f, .bool t, .pointer (some ⟨b, 0, none⟩)] H fun v H' => v = .tuple #[] ∧ Blk H' b 3 [.int .i64 (orI t x f)] ∧ Fr [b] H H' := by
  refine calls_of_vc (args := [_, _, _]) Tryz.func122 c122ok (Nat.le_of_ble_eq_true rfl) ?_
  have hc := h.cell
  cases t with
  | true =>
    simp (implicitDefEqProofs := false) only [go_sem, c122, hc]
    refine Sto_one h (by simp) rfl fun H1 h1 hf1 hs1 => ?_
    simp (implicitDefEqProofs := false) only [go_sem]
    exact ⟨h1, hf1⟩
  | false =>
    simp (implicitDefEqProofs := false) only [go_sem, c122, hc]
    exact ⟨h, Fr.refl _ _⟩
set_option maxHeartbeats 2000000 in
theorem has_ok {m : Msg} {H : Heap} {M : List Nat} {cs : List Value} (h : Rep H M (datT tMsg m.tup) cs) : HCalls Tryz.prog 75 #[.agg cs.toArray] H fun v H' => v = .int .i64 (hasI (hasB m)) ∧ Fr [] H H' := by
  obtain ⟨a_reads, c_reads, a_base, c_base, a_state, c_state, a_acks, c_acks, a_proof, c_proof, a_digests, c_digests, a_objects, c_objects, a_items, c_items, rfl, h_reads, h_base, h_state, h_acks, h_proof, h_digests, h_objects, h_items⟩ := msg_open h
  refine calls_of_vc (args := [_]) Tryz.func75 c75ok (Nat.le_of_ble_eq_true rfl) ?_
  simp (implicitDefEqProofs := false) only [go_sem, c75]
  refine NewP_intro fun H1 hn1 hf1 hs1 => ?_
  simp (implicitDefEqProofs := false) only [go_sem]
  refine NewP_intro fun H2 hn2 hf2 hs2 => ?_
  simp (implicitDefEqProofs := false) only [go_sem]
  refine Sto_one hn2 (by simp) rfl fun K0 hb0 hk0 hz0 => ?_
  simp only [List.set_cons_zero] at hb0
  have hF0 : Fr [H1.size] H1 K0 := (hf2.mono (by simp)).trans hk0
  have hm0 := hn1.fr hF0 (by simp; omega)
  have hc0 := hm0.cell
  simp (implicitDefEqProofs := false) only [go_sem, hc0]
  refine ⟨by kernel_rfl, ((note_ok 1 (_) hb0).mono ?_ : PCalls _ _ _ _ _ _)⟩
  rintro v K1 ⟨rfl, hb1, hk1⟩
  have hm1 := hm0.fr hk1 (by simp; omega)
  have hF1 := hF0.trans hk1
  have hc1 := hm1.cell
  simp (implicitDefEqProofs := false) only [go_sem, hc1]
  refine ⟨by kernel_rfl, ((note_ok 2 (_) hb1).mono ?_ : PCalls _ _ _ _ _ _)⟩
  rintro v K2 ⟨rfl, hb2, hk2⟩
  have hm2 := hm1.fr hk2 (by simp; omega)
  have hF2 := hF1.trans hk2
  have hc2 := hm2.cell
  simp (implicitDefEqProofs := false) only [go_sem, hc2]
  refine ⟨by kernel_rfl, ((note_ok 4 (_) hb2).mono ?_ : PCalls _ _ _ _ _ _)⟩
  rintro v K3 ⟨rfl, hb3, hk3⟩
  have hm3 := hm2.fr hk3 (by simp; omega)
  have hF3 := hF2.trans hk3
  have hc3 := hm3.cell
  simp (implicitDefEqProofs := false) only [go_sem, hc3]
  refine ⟨by kernel_rfl, ((note_ok 8 (_) hb3).mono ?_ : PCalls _ _ _ _ _ _)⟩
  rintro v K4 ⟨rfl, hb4, hk4⟩
  have hm4 := hm3.fr hk4 (by simp; omega)
  have hF4 := hF3.trans hk4
  have hc4 := hm4.cell
  simp (implicitDefEqProofs := false) only [go_sem, hc4]
  refine ⟨by kernel_rfl, ((note_ok 16 (_) hb4).mono ?_ : PCalls _ _ _ _ _ _)⟩
  rintro v K5 ⟨rfl, hb5, hk5⟩
  have hm5 := hm4.fr hk5 (by simp; omega)
  have hF5 := hF4.trans hk5
  have hc5 := hm5.cell
  simp (implicitDefEqProofs := false) only [go_sem, hc5]
  refine ⟨by kernel_rfl, ((note_ok 32 (_) hb5).mono ?_ : PCalls _ _ _ _ _ _)⟩
  rintro v K6 ⟨rfl, hb6, hk6⟩
  have hm6 := hm5.fr hk6 (by simp; omega)
  have hF6 := hF5.trans hk6
  have hc6 := hm6.cell
  simp (implicitDefEqProofs := false) only [go_sem, hc6]
  refine ⟨by kernel_rfl, ((note_ok 64 (_) hb6).mono ?_ : PCalls _ _ _ _ _ _)⟩
  rintro v K7 ⟨rfl, hb7, hk7⟩
  have hm7 := hm6.fr hk7 (by simp; omega)
  have hF7 := hF6.trans hk7
  have hc7 := hm7.cell
  simp (implicitDefEqProofs := false) only [go_sem, hc7]
  refine ⟨by kernel_rfl, ((note_ok 128 (_) hb7).mono ?_ : PCalls _ _ _ _ _ _)⟩
  rintro v K8 ⟨rfl, hb8, hk8⟩
  have hm8 := hm7.fr hk8 (by simp; omega)
  have hF8 := hF7.trans hk8
  have hc8 := hm8.cell
  simp (implicitDefEqProofs := false) only [go_sem, hc8]
  refine ⟨by kernel_rfl, ((note_ok 256 (_) hb8).mono ?_ : PCalls _ _ _ _ _ _)⟩
  rintro v K9 ⟨rfl, hb9, hk9⟩
  have hm9 := hm8.fr hk9 (by simp; omega)
  have hF9 := hF8.trans hk9
  have hc9 := hm9.cell
  simp (implicitDefEqProofs := false) only [go_sem, hc9]
  refine ⟨by kernel_rfl, ((note_ok 512 (_) hb9).mono ?_ : PCalls _ _ _ _ _ _)⟩
  rintro v K10 ⟨rfl, hb10, hk10⟩
  have hm10 := hm9.fr hk10 (by simp; omega)
  have hF10 := hF9.trans hk10
  have hcz := hb10.cell
  simp (implicitDefEqProofs := false) only [go_sem, hcz]
  refine ⟨?_, (hf1.trans' hF10 (by simp; omega))⟩
  have hr : (decide (m.round.1 = 0) && (decide (m.round.2.1 = 0) && decide (m.round.2.2 = 0))) = decide (m.round = (0, 0, 0)) := by
    obtain ⟨r1, r2, r3⟩ := m.round
    by_cases h1 : r1 = 0 <;> by_cases h2 : r2 = 0 <;> by_cases h3 : r3 = 0 <;> simp [h1, h2, h3]
  have e_reads : decide (0 < (m.reads.length : Int)) = decide (0 < m.reads.length) := decide_eq_decide.2 (by omega)
  have e_base : decide (0 < (m.base.length : Int)) = decide (0 < m.base.length) := decide_eq_decide.2 (by omega)
  have e_state : decide (0 < (m.state.length : Int)) = decide (0 < m.state.length) := decide_eq_decide.2 (by omega)
  have e_acks : decide (0 < (m.acks.length : Int)) = decide (0 < m.acks.length) := decide_eq_decide.2 (by omega)
  have e_proof : decide (0 < (m.proof.length : Int)) = decide (0 < m.proof.length) := decide_eq_decide.2 (by omega)
  have e_digests : decide (0 < (m.digests.length : Int)) = decide (0 < m.digests.length) := decide_eq_decide.2 (by omega)
  have e_objects : decide (0 < (m.objects.length : Int)) = decide (0 < m.objects.length) := decide_eq_decide.2 (by omega)
  have e_items : decide (0 < (m.items.length : Int)) = decide (0 < m.items.length) := decide_eq_decide.2 (by omega)
  simp only [hasI, hasB, e_reads, e_base, e_state, e_acks, e_proof, e_digests, e_objects, e_items, ne_eq, decide_not]
  congr 10
  rw [hr]
set_option maxHeartbeats 2000000 in
theorem counted_ok {m : Msg} {H : Heap} {M : List Nat} {cs : List Value} (h : Rep H M (datT tMsg m.tup) cs) : HCalls Tryz.prog 76 #[.agg cs.toArray] H fun v H' => v = .bool (countB m) ∧ Fr [] H H' := by
  obtain ⟨a_reads, c_reads, a_base, c_base, a_state, c_state, a_acks, c_acks, a_proof, c_proof, a_digests, c_digests, a_objects, c_objects, a_items, c_items, rfl, h_reads, h_base, h_state, h_acks, h_proof, h_digests, h_objects, h_items⟩ := msg_open h
  refine calls_of_vc (args := [_]) Tryz.func76 c76ok (Nat.le_of_ble_eq_true rfl) ?_
  simp (implicitDefEqProofs := false) only [go_sem, c76]
  refine NewP_intro fun H1 hn1 hf1 hs1 => ?_
  have hc := hn1.cell
  unfold countB
  by_cases k1 : m.kind = 1
  · simp (implicitDefEqProofs := false) only [go_sem, hc, k1]
    refine ⟨?_, hf1⟩
    congr 1; exact decide_eq_decide.2 (by omega)
  by_cases k2 : m.kind = 2
  · by_cases l1 : m.base.length ≤ 1
    · have l1' : (m.base.length : Int) ≤ 1 := by omega
      simp (implicitDefEqProofs := false) only [go_sem, hc, k2, l1']
      refine ⟨?_, hf1⟩
      simp only [l1, decide_true, Bool.true_and]
      congr 1; exact decide_eq_decide.2 (by omega)
    · have l1' : ¬ (m.base.length : Int) ≤ 1 := by omega
      simp (implicitDefEqProofs := false) only [go_sem, hc, k2, l1']
      refine ⟨?_, hf1⟩
      simp only [l1, decide_false, Bool.false_and]
  by_cases k3 : m.kind = 3
  · simp (implicitDefEqProofs := false) only [go_sem, hc, k3]
    refine ⟨?_, hf1⟩
    congr 1; exact decide_eq_decide.2 (by omega)
  by_cases k6 : m.kind = 6
  · simp (implicitDefEqProofs := false) only [go_sem, hc, k6]
    refine ⟨?_, hf1⟩
    congr 1; exact decide_eq_decide.2 (by omega)
  by_cases k7 : m.kind = 7
  · simp (implicitDefEqProofs := false) only [go_sem, hc, k7]
    refine ⟨?_, hf1⟩
    congr 1; exact decide_eq_decide.2 (by omega)
  by_cases k8 : m.kind = 8
  · by_cases l1 : m.proof.length = 1
    · have l1' : (m.proof.length : Int) = 1 := by omega
      by_cases l2 : m.reads.length = 1
      · have l2' : (m.reads.length : Int) = 1 := by omega
        by_cases l3 : m.seq = 0
        · simp (implicitDefEqProofs := false) only [go_sem, hc, k8, l1', l2', l3]
          exact ⟨by simp [l1, l2, l3], hf1⟩
        · simp (implicitDefEqProofs := false) only [go_sem, hc, k8, l1', l2', l3]
          exact ⟨by simp [l1, l2, l3], hf1⟩
      · have l2' : ¬ (m.reads.length : Int) = 1 := by omega
        by_cases l3 : m.reads.length = 0
        · have l3' : (m.reads.length : Int) = 0 := by omega
          by_cases l4 : 1 ≤ m.seq
          · simp (implicitDefEqProofs := false) only [go_sem, hc, k8, l1', l2', l3', l4]
            exact ⟨by simp [l1, l2, l3, l4], hf1⟩
          · simp (implicitDefEqProofs := false) only [go_sem, hc, k8, l1', l2', l3', l4]
            exact ⟨by simp [l1, l2, l3, l4], hf1⟩
        · have l3' : ¬ (m.reads.length : Int) = 0 := by omega
          simp (implicitDefEqProofs := false) only [go_sem, hc, k8, l1', l2', l3']
          exact ⟨by simp [l1, l2, l3], hf1⟩
    · have l1' : ¬ (m.proof.length : Int) = 1 := by omega
      simp (implicitDefEqProofs := false) only [go_sem, hc, k8, l1']
      exact ⟨by simp [l1], hf1⟩
  · simp (implicitDefEqProofs := false) only [go_sem, hc, k1, k2, k3, k6, k7, k8]
    exact hf1
theorem use_zero {k : Int} : useI k = 0 ↔ ¬ (1 ≤ k ∧ k ≤ 8) := by
  unfold useI
  repeat' split
  all_goals omega
set_option maxHeartbeats 2000000 in
theorem formed_ok {m : Msg} {H : Heap} {M : List Nat} {cs : List Value} (h : Rep H M (datT tMsg m.tup) cs) : HCalls Tryz.prog 31 #[.agg cs.toArray] H fun v H' => v = .bool (formB m) ∧ Fr [] H H' := by
  have hopen := msg_open h
  obtain ⟨a_reads, c_reads, a_base, c_base, a_state, c_state, a_acks, c_acks, a_proof, c_proof, a_digests, c_digests, a_objects, c_objects, a_items, c_items, hcs, h_reads, h_base, h_state, h_acks, h_proof, h_digests, h_objects, h_items⟩ := hopen
  refine calls_of_vc (args := [_]) Tryz.func31 c31ok (Nat.le_of_ble_eq_true rfl) ?_
  simp (implicitDefEqProofs := false) only [go_sem, c31, hcs]
  refine NewP_intro fun H1 hn1 hf1 hs1 => ?_
  have hc := hn1.cell
  simp (implicitDefEqProofs := false) only [go_sem, hc]
  refine (uses_ok m.kind H1).mono ?_
  rintro v K ⟨rfl, rfl⟩
  have hbad : headB m = false → formB m = false := by intro h; simp [formB, h]
  by_cases k0 : 1 ≤ m.kind ∧ m.kind ≤ 8
  · have u0 : ¬ useI m.kind = 0 := by rw [use_zero]; simpa using k0
    by_cases f0 : m.src < 0
    · rw [hbad (by simp [headB]; omega)]
      simp (implicitDefEqProofs := false) only [go_sem, hc, u0, f0]
      exact hf1
    by_cases f1 : 63 < m.src
    · rw [hbad (by simp [headB]; omega)]
      simp (implicitDefEqProofs := false) only [go_sem, hc, u0, f0, f1]
      exact hf1
    by_cases t0 : m.dst < 0
    · rw [hbad (by simp [headB]; omega)]
      simp (implicitDefEqProofs := false) only [go_sem, hc, u0, f0, f1, t0]
      exact hf1
    by_cases t1 : 63 < m.dst
    · rw [hbad (by simp [headB]; omega)]
      simp (implicitDefEqProofs := false) only [go_sem, hc, u0, f0, f1, t0, t1]
      exact hf1
    have hhead : headB m = true := by simp [headB]; omega
    simp (implicitDefEqProofs := false) only [go_sem, hc, u0, f0, f1, t0, t1]
    rw [← hcs]
    refine (has_ok (Rep.ext h hf1)).mono ?_
    rintro v K2 ⟨rfl, hf2⟩
    have hc2 := (hn1.ext hf2).cell
    simp (implicitDefEqProofs := false) only [go_sem, hc2]
    refine (uses_ok m.kind K2).mono ?_
    rintro v K3 ⟨rfl, rfl⟩
    obtain ⟨k, hk, hk8⟩ : ∃ k : Nat, m.kind = k ∧ k < 9 := ⟨m.kind.toNat, by omega, by omega⟩
    have hfit : decide (bits .andNot .i64 (hasI (hasB m)) (useI m.kind) = 0) = fitB (hasB m) (useB m.kind) := by
      rw [hk]; exact fit_dec _ _ _ _ _ _ _ _ _ _ ⟨k, hk8⟩
    have hform : formB m = (fitB (hasB m) (useB m.kind) && countB m) := by simp [formB, hhead]
    have hf12 := hf1.trans hf2
    cases hq : fitB (hasB m) (useB m.kind) with
    | true =>
      rw [hq] at hfit hform
      have hz := of_decide_eq_true hfit
      simp (implicitDefEqProofs := false) only [go_sem, hz, hc2]
      rw [← hcs]
      refine (counted_ok (Rep.ext h hf12)).mono ?_
      rintro v K4 ⟨rfl, hf4⟩
      simp (implicitDefEqProofs := false) only [go_sem]
      exact ⟨by rw [hform]; rfl, hf12.trans hf4⟩
    | false =>
      rw [hq] at hfit hform
      have hz := of_decide_eq_false hfit
      simp (implicitDefEqProofs := false) only [go_sem, hz, hc2]
      exact ⟨by rw [hform]; rfl, hf12⟩
  · have u0 : useI m.kind = 0 := by rw [use_zero]; exact k0
    rw [hbad (by simp [headB]; omega)]
    simp (implicitDefEqProofs := false) only [go_sem, hc, u0]
    exact hf1
end Go.Proofs.YtdhlibkdcldioaaGreat
