/- Elements read. -/
import Derived.Test.YtdhlibkdcldioaaGreatFm

set_option linter.unusedSimpArgs false
set_option linter.unusedVariables false
set_option maxRecDepth 8000
namespace Go.Proofs.YtdhlibkdcldioaaGreat
open Gx Go

set_option maxHeartbeats 2000000 in
theorem rround_ok : ROk 133 tRound pR := by
  refine ⟨by kernel_rfl, fun {H b L s0 g} hL h0 => ?_⟩
  obtain ⟨d0, s1, e0⟩ : ∃ d s, dT L .num s0 = (d, s) := ⟨_, _, rfl⟩
  obtain ⟨d1, s2, e1⟩ : ∃ d s, dT L .num s1 = (d, s) := ⟨_, _, rfl⟩
  obtain ⟨d2, s3, e2⟩ : ∃ d s, dT L .num s2 = (d, s) := ⟨_, _, rfl⟩
  have hD : dT L tRound s0 = ((d0, d1, d2), s3) := by simp only [dT_pair, e0, e1, e2]
  have hbH := h0.lt
  refine pcalls_of_vc (args := [_]) Tryz.func133 c133ok (Nat.le_of_ble_eq_true rfl) ?_
  simp (implicitDefEqProofs := false) only [go_sem, c133, pR]
  refine NewP_intro fun A1 hA hfA hsA => ?_
  simp (implicitDefEqProofs := false) only [go_sem]
  refine NewP_intro fun B1 hB hfB hsB => ?_
  simp (implicitDefEqProofs := false) only [go_sem]
  refine NewP_intro fun C0 hC0 hfC hsC => ?_
  have hbA : H.size ≠ b := by omega
  have hbB : A1.size ≠ b := by omega
  have hbC : B1.size ≠ b := by omega
  have hA0 := (hA.ext hfB).ext hfC
  have hB0 := hB.ext hfC
  have hr0 : RdO C0 b L s0 g := ((h0.ext hfA).ext hfB).ext hfC
  have hF0 : Fr [b] H C0 := ((hfA.trans hfB).trans hfC).mono (by simp)
  have hq0 := hA0.cell
  have hz0 : H.size + 3 ≤ C0.size := by omega
  simp (implicitDefEqProofs := false) only [go_sem, hq0]
  refine (rnum_ok hr0).mono ?_
  rintro v X0 ⟨rfl, r0, f0⟩
  rw [e0] at r0 ⊢
  have hsz0 := f0.size
  have hAx0 := hA0.fr f0 (by simpa using hbA)
  have hBx0 := hB0.fr f0 (by simpa using hbB)
  have hCx0 := hC0.fr f0 (by simpa using hbC)
  simp (implicitDefEqProofs := false) only [go_sem]
  refine Sto_one hCx0 (by simp) rfl fun C1 hC1 fs1 hs1 => ?_
  simp only [List.set_cons_zero, List.set_cons_succ, setL, Nat.add_zero, Nat.zero_add, Nat.reduceAdd] at hC1
  have hA1 := hAx0.fr fs1 (by simp; omega)
  have hB1 := hBx0.fr fs1 (by simp; omega)
  have hr1 := r0.fr fs1 (by simp; omega) (fun k hk => by have := h0.ltg hk; simp; omega)
  have hF1 : Fr [b] H C1 := (hF0.trans f0).trans' fs1 (by simp; omega)
  have hz1 : H.size + 3 ≤ C1.size := by omega
  have hq1 := hA1.cell
  simp (implicitDefEqProofs := false) only [go_sem, hq1]
  refine (rnum_ok hr1).mono ?_
  rintro v X1 ⟨rfl, r1, f1⟩
  rw [e1] at r1 ⊢
  have hsz1 := f1.size
  have hAx1 := hA1.fr f1 (by simpa using hbA)
  have hBx1 := hB1.fr f1 (by simpa using hbB)
  have hCx1 := hC1.fr f1 (by simpa using hbC)
  simp (implicitDefEqProofs := false) only [go_sem]
  refine Sto_one hCx1 (by simp) rfl fun C2 hC2 fs2 hs2 => ?_
  simp only [List.set_cons_zero, List.set_cons_succ, setL, Nat.add_zero, Nat.zero_add, Nat.reduceAdd] at hC2
  have hA2 := hAx1.fr fs2 (by simp; omega)
  have hB2 := hBx1.fr fs2 (by simp; omega)
  have hr2 := r1.fr fs2 (by simp; omega) (fun k hk => by have := h0.ltg hk; simp; omega)
  have hF2 : Fr [b] H C2 := (hF1.trans f1).trans' fs2 (by simp; omega)
  have hz2 : H.size + 3 ≤ C2.size := by omega
  have hq2 := hA2.cell
  simp (implicitDefEqProofs := false) only [go_sem, hq2]
  refine (rnum_ok hr2).mono ?_
  rintro v X2 ⟨rfl, r2, f2⟩
  rw [e2] at r2 ⊢
  have hsz2 := f2.size
  have hAx2 := hA2.fr f2 (by simpa using hbA)
  have hBx2 := hB2.fr f2 (by simpa using hbB)
  have hCx2 := hC2.fr f2 (by simpa using hbC)
  simp (implicitDefEqProofs := false) only [go_sem]
  refine Sto_one hCx2 (by simp) rfl fun C3 hC3 fs3 hs3 => ?_
  simp only [List.set_cons_zero, List.set_cons_succ, setL, Nat.add_zero, Nat.zero_add, Nat.reduceAdd] at hC3
  have hA3 := hAx2.fr fs3 (by simp; omega)
  have hB3 := hBx2.fr fs3 (by simp; omega)
  have hr3 := r2.fr fs3 (by simp; omega) (fun k hk => by have := h0.ltg hk; simp; omega)
  have hF3 : Fr [b] H C3 := (hF2.trans f2).trans' fs3 (by simp; omega)
  have hz3 : H.size + 3 ≤ C3.size := by omega
  have hq3 := hA3.cell
  have hw := hC3.cell
  simp (implicitDefEqProofs := false) only [go_sem, hw]
  refine Sto_all hB3 rfl ?_ fun Z hZ fz hsz => ?_
  · intro v hv
    simp only [List.mem_cons, List.not_mem_nil, or_false] at hv
    rcases hv with rfl | rfl | rfl
    all_goals first | rfl
  have hcz := hZ.cell
  simp (implicitDefEqProofs := false) only [go_sem, hcz]
  refine ⟨_, rfl, ?_, ?_, hF3.trans' fz (by simp; omega)⟩
  · rw [hD]
    exact RepP.pair (RepP.v _) (RepP.pair (RepP.v _) (RepP.v _))
  · rw [hD]
    exact hr3.fr fz (by simp; omega) (fun k hk => by have := h0.ltg hk; simp; omega)
set_option maxHeartbeats 2000000 in
theorem rread_ok : ROk 135 tRead pR := by
  refine ⟨by kernel_rfl, fun {H b L s0 g} hL h0 => ?_⟩
  obtain ⟨d0, s1, e0⟩ : ∃ d s, dT L .num s0 = (d, s) := ⟨_, _, rfl⟩
  obtain ⟨d1, s2, e1⟩ : ∃ d s, dT L .num s1 = (d, s) := ⟨_, _, rfl⟩
  obtain ⟨d2, s3, e2⟩ : ∃ d s, dT L .bytes s2 = (d, s) := ⟨_, _, rfl⟩
  have hD : dT L tRead s0 = ((d0, d1, d2), s3) := by simp only [dT_pair, e0, e1, e2]
  have hbH := h0.lt
  refine pcalls_of_vc (args := [_]) Tryz.func135 c135ok (Nat.le_of_ble_eq_true rfl) ?_
  simp (implicitDefEqProofs := false) only [go_sem, c135, pR]
  refine NewP_intro fun A1 hA hfA hsA => ?_
  simp (implicitDefEqProofs := false) only [go_sem]
  refine NewP_intro fun B1 hB hfB hsB => ?_
  simp (implicitDefEqProofs := false) only [go_sem]
  refine NewP_intro fun C0 hC0 hfC hsC => ?_
  have hbA : H.size ≠ b := by omega
  have hbB : A1.size ≠ b := by omega
  have hbC : B1.size ≠ b := by omega
  have hA0 := (hA.ext hfB).ext hfC
  have hB0 := hB.ext hfC
  have hr0 : RdO C0 b L s0 g := ((h0.ext hfA).ext hfB).ext hfC
  have hF0 : Fr [b] H C0 := ((hfA.trans hfB).trans hfC).mono (by simp)
  have hq0 := hA0.cell
  have hz0 : H.size + 3 ≤ C0.size := by omega
  simp (implicitDefEqProofs := false) only [go_sem, hq0]
  refine (rnum_ok hr0).mono ?_
  rintro v X0 ⟨rfl, r0, f0⟩
  rw [e0] at r0 ⊢
  have hsz0 := f0.size
  have hAx0 := hA0.fr f0 (by simpa using hbA)
  have hBx0 := hB0.fr f0 (by simpa using hbB)
  have hCx0 := hC0.fr f0 (by simpa using hbC)
  simp (implicitDefEqProofs := false) only [go_sem]
  refine Sto_one hCx0 (by simp) rfl fun C1 hC1 fs1 hs1 => ?_
  simp only [List.set_cons_zero, List.set_cons_succ, setL, Nat.add_zero, Nat.zero_add, Nat.reduceAdd] at hC1
  have hA1 := hAx0.fr fs1 (by simp; omega)
  have hB1 := hBx0.fr fs1 (by simp; omega)
  have hr1 := r0.fr fs1 (by simp; omega) (fun k hk => by have := h0.ltg hk; simp; omega)
  have hF1 : Fr [b] H C1 := (hF0.trans f0).trans' fs1 (by simp; omega)
  have hz1 : H.size + 3 ≤ C1.size := by omega
  have hq1 := hA1.cell
  simp (implicitDefEqProofs := false) only [go_sem, hq1]
  refine (rnum_ok hr1).mono ?_
  rintro v X1 ⟨rfl, r1, f1⟩
  rw [e1] at r1 ⊢
  have hsz1 := f1.size
  have hAx1 := hA1.fr f1 (by simpa using hbA)
  have hBx1 := hB1.fr f1 (by simpa using hbB)
  have hCx1 := hC1.fr f1 (by simpa using hbC)
  simp (implicitDefEqProofs := false) only [go_sem]
  refine Sto_one hCx1 (by simp) rfl fun C2 hC2 fs2 hs2 => ?_
  simp only [List.set_cons_zero, List.set_cons_succ, setL, Nat.add_zero, Nat.zero_add, Nat.reduceAdd] at hC2
  have hA2 := hAx1.fr fs2 (by simp; omega)
  have hB2 := hBx1.fr fs2 (by simp; omega)
  have hr2 := r1.fr fs2 (by simp; omega) (fun k hk => by have := h0.ltg hk; simp; omega)
  have hF2 : Fr [b] H C2 := (hF1.trans f1).trans' fs2 (by simp; omega)
  have hz2 : H.size + 3 ≤ C2.size := by omega
  have hq2 := hA2.cell
  simp (implicitDefEqProofs := false) only [go_sem, hq2]
  refine (rbytes_o hr2).mono ?_
  rintro v X2 ⟨a2, c2, g2, rfl, ho2, hg2, r2, f2⟩
  have e2' : bytesO L s2 = (d2, s3) := e2
  rw [e2'] at r2 ho2 ⊢
  have p2 : RepP X2 (fun x => x < C2.size) (datT .bytes d2) [.slice a2 d2.length c2] := RepP.bytes ho2 fun k hk => by have := hg2 k hk; omega
  have hsz2 := f2.size
  have hAx2 := hA2.fr f2 (by simpa using hbA)
  have hBx2 := hB2.fr f2 (by simpa using hbB)
  have hCx2 := hC2.fr f2 (by simpa using hbC)
  simp (implicitDefEqProofs := false) only [go_sem]
  refine Sto_one hCx2 (by simp) rfl fun C3 hC3 fs3 hs3 => ?_
  simp only [List.set_cons_zero, List.set_cons_succ, setL, Nat.add_zero, Nat.zero_add, Nat.reduceAdd] at hC3
  have hA3 := hAx2.fr fs3 (by simp; omega)
  have hB3 := hBx2.fr fs3 (by simp; omega)
  have hr3 := r2.fr fs3 (by simp; omega) (fun k hk => by have := h0.ltg hk; simp; omega)
  have hF3 : Fr [b] H C3 := (hF2.trans f2).trans' fs3 (by simp; omega)
  have hz3 : H.size + 3 ≤ C3.size := by omega
  replace p2 : RepP C3 (fun x => x < H.size + 3) _ _ := RepP.on (m := H.size + 3) p2 fs3 (by simp; omega) (by omega)
  have hq3 := hA3.cell
  have hw := hC3.cell
  simp (implicitDefEqProofs := false) only [go_sem, hw]
  refine Sto_all hB3 rfl ?_ fun Z hZ fz hsz => ?_
  · intro v hv
    simp only [List.mem_cons, List.not_mem_nil, or_false] at hv
    rcases hv with rfl | rfl | rfl
    all_goals first | rfl
  have hcz := hZ.cell
  simp (implicitDefEqProofs := false) only [go_sem, hcz]
  replace p2 := RepP.on p2 fz (by simp; omega) (show H.size ≤ H.size + 3 by omega)
  refine ⟨_, rfl, ?_, ?_, hF3.trans' fz (by simp; omega)⟩
  · rw [hD]
    exact RepP.pair (RepP.v _) (RepP.pair (RepP.v _) (p2))
  · rw [hD]
    exact hr3.fr fz (by simp; omega) (fun k hk => by have := h0.ltg hk; simp; omega)
set_option maxHeartbeats 2000000 in
theorem rwrite_ok : ROk 160 tWrite pR := by
  refine ⟨by kernel_rfl, fun {H b L s0 g} hL h0 => ?_⟩
  obtain ⟨d0, s1, e0⟩ : ∃ d s, dT L .text s0 = (d, s) := ⟨_, _, rfl⟩
  obtain ⟨d1, s2, e1⟩ : ∃ d s, dT L .bytes s1 = (d, s) := ⟨_, _, rfl⟩
  have hD : dT L tWrite s0 = ((d0, d1), s2) := by simp only [dT_pair, e0, e1]
  have hbH := h0.lt
  refine pcalls_of_vc (args := [_]) Tryz.func160 c160ok (Nat.le_of_ble_eq_true rfl) ?_
  simp (implicitDefEqProofs := false) only [go_sem, c160, pR]
  refine NewP_intro fun A1 hA hfA hsA => ?_
  simp (implicitDefEqProofs := false) only [go_sem]
  refine NewP_intro fun B1 hB hfB hsB => ?_
  simp (implicitDefEqProofs := false) only [go_sem]
  refine NewP_intro fun C0 hC0 hfC hsC => ?_
  have hbA : H.size ≠ b := by omega
  have hbB : A1.size ≠ b := by omega
  have hbC : B1.size ≠ b := by omega
  have hA0 := (hA.ext hfB).ext hfC
  have hB0 := hB.ext hfC
  have hr0 : RdO C0 b L s0 g := ((h0.ext hfA).ext hfB).ext hfC
  have hF0 : Fr [b] H C0 := ((hfA.trans hfB).trans hfC).mono (by simp)
  have hq0 := hA0.cell
  have hz0 : H.size + 3 ≤ C0.size := by omega
  simp (implicitDefEqProofs := false) only [go_sem, hq0]
  refine (rtext_o hr0).mono ?_
  rintro v X0 ⟨rfl, r0, f0⟩
  have e0' : bytesO L s0 = (d0, s1) := e0
  rw [e0'] at r0 ⊢
  have hsz0 := f0.size
  have hAx0 := hA0.fr f0 (by simpa using hbA)
  have hBx0 := hB0.fr f0 (by simpa using hbB)
  have hCx0 := hC0.fr f0 (by simpa using hbC)
  simp (implicitDefEqProofs := false) only [go_sem]
  refine Sto_one hCx0 (by simp) rfl fun C1 hC1 fs1 hs1 => ?_
  simp only [List.set_cons_zero, List.set_cons_succ, setL, Nat.add_zero, Nat.zero_add, Nat.reduceAdd] at hC1
  have hA1 := hAx0.fr fs1 (by simp; omega)
  have hB1 := hBx0.fr fs1 (by simp; omega)
  have hr1 := r0.fr fs1 (by simp; omega) (fun k hk => by have := h0.ltg hk; simp; omega)
  have hF1 : Fr [b] H C1 := (hF0.trans f0).trans' fs1 (by simp; omega)
  have hz1 : H.size + 3 ≤ C1.size := by omega
  have hq1 := hA1.cell
  simp (implicitDefEqProofs := false) only [go_sem, hq1]
  refine (rbytes_o hr1).mono ?_
  rintro v X1 ⟨a1, c1, g1, rfl, ho1, hg1, r1, f1⟩
  have e1' : bytesO L s1 = (d1, s2) := e1
  rw [e1'] at r1 ho1 ⊢
  have p1 : RepP X1 (fun x => x < C1.size) (datT .bytes d1) [.slice a1 d1.length c1] := RepP.bytes ho1 fun k hk => by have := hg1 k hk; omega
  have hsz1 := f1.size
  have hAx1 := hA1.fr f1 (by simpa using hbA)
  have hBx1 := hB1.fr f1 (by simpa using hbB)
  have hCx1 := hC1.fr f1 (by simpa using hbC)
  simp (implicitDefEqProofs := false) only [go_sem]
  refine Sto_one hCx1 (by simp) rfl fun C2 hC2 fs2 hs2 => ?_
  simp only [List.set_cons_zero, List.set_cons_succ, setL, Nat.add_zero, Nat.zero_add, Nat.reduceAdd] at hC2
  have hA2 := hAx1.fr fs2 (by simp; omega)
  have hB2 := hBx1.fr fs2 (by simp; omega)
  have hr2 := r1.fr fs2 (by simp; omega) (fun k hk => by have := h0.ltg hk; simp; omega)
  have hF2 : Fr [b] H C2 := (hF1.trans f1).trans' fs2 (by simp; omega)
  have hz2 : H.size + 3 ≤ C2.size := by omega
  replace p1 : RepP C2 (fun x => x < H.size + 3) _ _ := RepP.on (m := H.size + 3) p1 fs2 (by simp; omega) (by omega)
  have hq2 := hA2.cell
  have hw := hC2.cell
  simp (implicitDefEqProofs := false) only [go_sem, hw]
  refine Sto_all hB2 rfl ?_ fun Z hZ fz hsz => ?_
  · intro v hv
    simp only [List.mem_cons, List.not_mem_nil, or_false] at hv
    rcases hv with rfl | rfl
    all_goals first | rfl
  have hcz := hZ.cell
  simp (implicitDefEqProofs := false) only [go_sem, hcz]
  replace p1 := RepP.on p1 fz (by simp; omega) (show H.size ≤ H.size + 3 by omega)
  refine ⟨_, rfl, ?_, ?_, hF2.trans' fz (by simp; omega)⟩
  · rw [hD]
    exact RepP.pair (RepP.v _) (p1)
  · rw [hD]
    exact hr2.fr fz (by simp; omega) (fun k hk => by have := h0.ltg hk; simp; omega)
set_option maxHeartbeats 2000000 in
theorem rcommand_ok : ROk 139 tCmd pR := by
  refine ⟨by kernel_rfl, fun {H b L s0 g} hL h0 => ?_⟩
  obtain ⟨d0, s1, e0⟩ : ∃ d s, dT L .num s0 = (d, s) := ⟨_, _, rfl⟩
  obtain ⟨d1, s2, e1⟩ : ∃ d s, dT L .num s1 = (d, s) := ⟨_, _, rfl⟩
  obtain ⟨d2, s3, e2⟩ : ∃ d s, dT L .num s2 = (d, s) := ⟨_, _, rfl⟩
  obtain ⟨d3, s4, e3⟩ : ∃ d s, dT L (.list tWrite) s3 = (d, s) := ⟨_, _, rfl⟩
  obtain ⟨d4, s5, e4⟩ : ∃ d s, dT L .num s4 = (d, s) := ⟨_, _, rfl⟩
  obtain ⟨d5, s6, e5⟩ : ∃ d s, dT L .bytes s5 = (d, s) := ⟨_, _, rfl⟩
  have hD : dT L tCmd s0 = ((d0, d1, d2, d3, d4, d5), s6) := by simp only [dT_pair, e0, e1, e2, e3, e4, e5]
  have hbH := h0.lt
  refine pcalls_of_vc (args := [_]) Tryz.func139 c139ok (Nat.le_of_ble_eq_true rfl) ?_
  simp (implicitDefEqProofs := false) only [go_sem, c139, pR]
  refine NewP_intro fun A1 hA hfA hsA => ?_
  simp (implicitDefEqProofs := false) only [go_sem]
  refine NewP_intro fun B1 hB hfB hsB => ?_
  simp (implicitDefEqProofs := false) only [go_sem]
  refine NewP_intro fun C0 hC0 hfC hsC => ?_
  have hbA : H.size ≠ b := by omega
  have hbB : A1.size ≠ b := by omega
  have hbC : B1.size ≠ b := by omega
  have hA0 := (hA.ext hfB).ext hfC
  have hB0 := hB.ext hfC
  have hr0 : RdO C0 b L s0 g := ((h0.ext hfA).ext hfB).ext hfC
  have hF0 : Fr [b] H C0 := ((hfA.trans hfB).trans hfC).mono (by simp)
  have hq0 := hA0.cell
  have hz0 : H.size + 3 ≤ C0.size := by omega
  simp (implicitDefEqProofs := false) only [go_sem, hq0]
  refine (rnum_ok hr0).mono ?_
  rintro v X0 ⟨rfl, r0, f0⟩
  rw [e0] at r0 ⊢
  have hsz0 := f0.size
  have hAx0 := hA0.fr f0 (by simpa using hbA)
  have hBx0 := hB0.fr f0 (by simpa using hbB)
  have hCx0 := hC0.fr f0 (by simpa using hbC)
  simp (implicitDefEqProofs := false) only [go_sem]
  refine Sto_one hCx0 (by simp) rfl fun C1 hC1 fs1 hs1 => ?_
  simp only [List.set_cons_zero, List.set_cons_succ, setL, Nat.add_zero, Nat.zero_add, Nat.reduceAdd] at hC1
  have hA1 := hAx0.fr fs1 (by simp; omega)
  have hB1 := hBx0.fr fs1 (by simp; omega)
  have hr1 := r0.fr fs1 (by simp; omega) (fun k hk => by have := h0.ltg hk; simp; omega)
  have hF1 : Fr [b] H C1 := (hF0.trans f0).trans' fs1 (by simp; omega)
  have hz1 : H.size + 3 ≤ C1.size := by omega
  have hq1 := hA1.cell
  simp (implicitDefEqProofs := false) only [go_sem, hq1]
  refine (rnum_ok hr1).mono ?_
  rintro v X1 ⟨rfl, r1, f1⟩
  rw [e1] at r1 ⊢
  have hsz1 := f1.size
  have hAx1 := hA1.fr f1 (by simpa using hbA)
  have hBx1 := hB1.fr f1 (by simpa using hbB)
  have hCx1 := hC1.fr f1 (by simpa using hbC)
  simp (implicitDefEqProofs := false) only [go_sem]
  refine Sto_one hCx1 (by simp) rfl fun C2 hC2 fs2 hs2 => ?_
  simp only [List.set_cons_zero, List.set_cons_succ, setL, Nat.add_zero, Nat.zero_add, Nat.reduceAdd] at hC2
  have hA2 := hAx1.fr fs2 (by simp; omega)
  have hB2 := hBx1.fr fs2 (by simp; omega)
  have hr2 := r1.fr fs2 (by simp; omega) (fun k hk => by have := h0.ltg hk; simp; omega)
  have hF2 : Fr [b] H C2 := (hF1.trans f1).trans' fs2 (by simp; omega)
  have hz2 : H.size + 3 ≤ C2.size := by omega
  have hq2 := hA2.cell
  simp (implicitDefEqProofs := false) only [go_sem, hq2]
  refine (rnum_ok hr2).mono ?_
  rintro v X2 ⟨rfl, r2, f2⟩
  rw [e2] at r2 ⊢
  have hsz2 := f2.size
  have hAx2 := hA2.fr f2 (by simpa using hbA)
  have hBx2 := hB2.fr f2 (by simpa using hbB)
  have hCx2 := hC2.fr f2 (by simpa using hbC)
  simp (implicitDefEqProofs := false) only [go_sem]
  refine Sto_one hCx2 (by simp) rfl fun C3 hC3 fs3 hs3 => ?_
  simp only [List.set_cons_zero, List.set_cons_succ, setL, Nat.add_zero, Nat.zero_add, Nat.reduceAdd] at hC3
  have hA3 := hAx2.fr fs3 (by simp; omega)
  have hB3 := hBx2.fr fs3 (by simp; omega)
  have hr3 := r2.fr fs3 (by simp; omega) (fun k hk => by have := h0.ltg hk; simp; omega)
  have hF3 : Fr [b] H C3 := (hF2.trans f2).trans' fs3 (by simp; omega)
  have hz3 : H.size + 3 ≤ C3.size := by omega
  have hq3 := hA3.cell
  simp (implicitDefEqProofs := false) only [go_sem, hq3]
  refine PCalls.mono (elemsWrite_ok rfl (fun _ => rfl) rwrite_ok hL hr3) ?_ ?_
  rotate_left
  · rintro c X ⟨rfl, hn, fx⟩
    refine ⟨rfl, ?_, hF3.trans fx⟩
    rw [e3] at hn
    simp only at hn
    subst hn
    have q5 : s5 = none := by rw [← dT_none L .num, e4]
    subst q5
    have q6 : s6 = none := by rw [← dT_none L .bytes, e5]
    subst q6
    rw [hD]
  rintro v X3 ⟨cs, rfl, p3, r3, f3⟩
  rw [e3] at r3 p3
  simp only at r3 p3
  have hsz3 := f3.size
  obtain ⟨a3, c3, rfl, hl3, hm3⟩ := rep_list p3.rep
  have hAx3 := hA3.fr f3 (by simpa using hbA)
  have hBx3 := hB3.fr f3 (by simpa using hbB)
  have hCx3 := hC3.fr f3 (by simpa using hbC)
  simp (implicitDefEqProofs := false) only [go_sem]
  refine Sto_one hCx3 (by simp) rfl fun C4 hC4 fs4 hs4 => ?_
  simp only [List.set_cons_zero, List.set_cons_succ, setL, Nat.add_zero, Nat.zero_add, Nat.reduceAdd] at hC4
  have hA4 := hAx3.fr fs4 (by simp; omega)
  have hB4 := hBx3.fr fs4 (by simp; omega)
  have hr4 := r3.fr fs4 (by simp; omega) (fun k hk => by have := h0.ltg hk; simp; omega)
  have hF4 : Fr [b] H C4 := (hF3.trans f3).trans' fs4 (by simp; omega)
  have hz4 : H.size + 3 ≤ C4.size := by omega
  replace p3 : RepP C4 (fun x => x < H.size + 3) _ _ := RepP.on (m := H.size + 3) p3 fs4 (by simp; omega) (by omega)
  have hq4 := hA4.cell
  simp (implicitDefEqProofs := false) only [go_sem, hq4]
  refine (rnum_ok hr4).mono ?_
  rintro v X4 ⟨rfl, r4, f4⟩
  rw [e4] at r4 ⊢
  have hsz4 := f4.size
  have hAx4 := hA4.fr f4 (by simpa using hbA)
  have hBx4 := hB4.fr f4 (by simpa using hbB)
  have hCx4 := hC4.fr f4 (by simpa using hbC)
  simp (implicitDefEqProofs := false) only [go_sem]
  refine Sto_one hCx4 (by simp) rfl fun C5 hC5 fs5 hs5 => ?_
  simp only [List.set_cons_zero, List.set_cons_succ, setL, Nat.add_zero, Nat.zero_add, Nat.reduceAdd] at hC5
  have hA5 := hAx4.fr fs5 (by simp; omega)
  have hB5 := hBx4.fr fs5 (by simp; omega)
  have hr5 := r4.fr fs5 (by simp; omega) (fun k hk => by have := h0.ltg hk; simp; omega)
  have hF5 : Fr [b] H C5 := (hF4.trans f4).trans' fs5 (by simp; omega)
  have hz5 : H.size + 3 ≤ C5.size := by omega
  replace p3 := RepP.on (RepP.on p3 f4 (by simp; omega) (Nat.le_refl _)) fs5 (by simp; omega) (Nat.le_refl _)
  have hq5 := hA5.cell
  simp (implicitDefEqProofs := false) only [go_sem, hq5]
  refine (rbytes_o hr5).mono ?_
  rintro v X5 ⟨a5, c5, g5, rfl, ho5, hg5, r5, f5⟩
  have e5' : bytesO L s5 = (d5, s6) := e5
  rw [e5'] at r5 ho5 ⊢
  have p5 : RepP X5 (fun x => x < C5.size) (datT .bytes d5) [.slice a5 d5.length c5] := RepP.bytes ho5 fun k hk => by have := hg5 k hk; omega
  have hsz5 := f5.size
  have hAx5 := hA5.fr f5 (by simpa using hbA)
  have hBx5 := hB5.fr f5 (by simpa using hbB)
  have hCx5 := hC5.fr f5 (by simpa using hbC)
  simp (implicitDefEqProofs := false) only [go_sem]
  refine Sto_one hCx5 (by simp) rfl fun C6 hC6 fs6 hs6 => ?_
  simp only [List.set_cons_zero, List.set_cons_succ, setL, Nat.add_zero, Nat.zero_add, Nat.reduceAdd] at hC6
  have hA6 := hAx5.fr fs6 (by simp; omega)
  have hB6 := hBx5.fr fs6 (by simp; omega)
  have hr6 := r5.fr fs6 (by simp; omega) (fun k hk => by have := h0.ltg hk; simp; omega)
  have hF6 : Fr [b] H C6 := (hF5.trans f5).trans' fs6 (by simp; omega)
  have hz6 : H.size + 3 ≤ C6.size := by omega
  replace p3 := RepP.on (RepP.on p3 f5 (by simp; omega) (Nat.le_refl _)) fs6 (by simp; omega) (Nat.le_refl _)
  replace p5 : RepP C6 (fun x => x < H.size + 3) _ _ := RepP.on (m := H.size + 3) p5 fs6 (by simp; omega) (by omega)
  have hq6 := hA6.cell
  have hw := hC6.cell
  simp (implicitDefEqProofs := false) only [go_sem, hw]
  refine Sto_all hB6 rfl ?_ fun Z hZ fz hsz => ?_
  · intro v hv
    simp only [List.mem_cons, List.not_mem_nil, or_false] at hv
    rcases hv with rfl | rfl | rfl | rfl | rfl | rfl
    all_goals first | rfl
  have hcz := hZ.cell
  simp (implicitDefEqProofs := false) only [go_sem, hcz]
  replace p3 := RepP.on p3 fz (by simp; omega) (show H.size ≤ H.size + 3 by omega)
  replace p5 := RepP.on p5 fz (by simp; omega) (show H.size ≤ H.size + 3 by omega)
  refine ⟨_, rfl, ?_, ?_, hF6.trans' fz (by simp; omega)⟩
  · rw [hD]
    exact RepP.pair (RepP.v _) (RepP.pair (RepP.v _) (RepP.pair (RepP.v _) (RepP.pair (p3) (RepP.pair (RepP.v _) (p5)))))
  · rw [hD]
    exact hr6.fr fz (by simp; omega) (fun k hk => by have := h0.ltg hk; simp; omega)
set_option maxHeartbeats 2000000 in
theorem rack_ok : ROk 141 tAck pR := by
  refine ⟨by kernel_rfl, fun {H b L s0 g} hL h0 => ?_⟩
  obtain ⟨d0, s1, e0⟩ : ∃ d s, dT L .num s0 = (d, s) := ⟨_, _, rfl⟩
  obtain ⟨d1, s2, e1⟩ : ∃ d s, dT L .bytes s1 = (d, s) := ⟨_, _, rfl⟩
  have hD : dT L tAck s0 = ((d0, d1), s2) := by simp only [dT_pair, e0, e1]
  have hbH := h0.lt
  refine pcalls_of_vc (args := [_]) Tryz.func141 c141ok (Nat.le_of_ble_eq_true rfl) ?_
  simp (implicitDefEqProofs := false) only [go_sem, c141, pR]
  refine NewP_intro fun A1 hA hfA hsA => ?_
  simp (implicitDefEqProofs := false) only [go_sem]
  refine NewP_intro fun B1 hB hfB hsB => ?_
  simp (implicitDefEqProofs := false) only [go_sem]
  refine NewP_intro fun C0 hC0 hfC hsC => ?_
  have hbA : H.size ≠ b := by omega
  have hbB : A1.size ≠ b := by omega
  have hbC : B1.size ≠ b := by omega
  have hA0 := (hA.ext hfB).ext hfC
  have hB0 := hB.ext hfC
  have hr0 : RdO C0 b L s0 g := ((h0.ext hfA).ext hfB).ext hfC
  have hF0 : Fr [b] H C0 := ((hfA.trans hfB).trans hfC).mono (by simp)
  have hq0 := hA0.cell
  have hz0 : H.size + 3 ≤ C0.size := by omega
  simp (implicitDefEqProofs := false) only [go_sem, hq0]
  refine (rnum_ok hr0).mono ?_
  rintro v X0 ⟨rfl, r0, f0⟩
  rw [e0] at r0 ⊢
  have hsz0 := f0.size
  have hAx0 := hA0.fr f0 (by simpa using hbA)
  have hBx0 := hB0.fr f0 (by simpa using hbB)
  have hCx0 := hC0.fr f0 (by simpa using hbC)
  simp (implicitDefEqProofs := false) only [go_sem]
  refine Sto_one hCx0 (by simp) rfl fun C1 hC1 fs1 hs1 => ?_
  simp only [List.set_cons_zero, List.set_cons_succ, setL, Nat.add_zero, Nat.zero_add, Nat.reduceAdd] at hC1
  have hA1 := hAx0.fr fs1 (by simp; omega)
  have hB1 := hBx0.fr fs1 (by simp; omega)
  have hr1 := r0.fr fs1 (by simp; omega) (fun k hk => by have := h0.ltg hk; simp; omega)
  have hF1 : Fr [b] H C1 := (hF0.trans f0).trans' fs1 (by simp; omega)
  have hz1 : H.size + 3 ≤ C1.size := by omega
  have hq1 := hA1.cell
  simp (implicitDefEqProofs := false) only [go_sem, hq1]
  refine (rbytes_o hr1).mono ?_
  rintro v X1 ⟨a1, c1, g1, rfl, ho1, hg1, r1, f1⟩
  have e1' : bytesO L s1 = (d1, s2) := e1
  rw [e1'] at r1 ho1 ⊢
  have p1 : RepP X1 (fun x => x < C1.size) (datT .bytes d1) [.slice a1 d1.length c1] := RepP.bytes ho1 fun k hk => by have := hg1 k hk; omega
  have hsz1 := f1.size
  have hAx1 := hA1.fr f1 (by simpa using hbA)
  have hBx1 := hB1.fr f1 (by simpa using hbB)
  have hCx1 := hC1.fr f1 (by simpa using hbC)
  simp (implicitDefEqProofs := false) only [go_sem]
  refine Sto_one hCx1 (by simp) rfl fun C2 hC2 fs2 hs2 => ?_
  simp only [List.set_cons_zero, List.set_cons_succ, setL, Nat.add_zero, Nat.zero_add, Nat.reduceAdd] at hC2
  have hA2 := hAx1.fr fs2 (by simp; omega)
  have hB2 := hBx1.fr fs2 (by simp; omega)
  have hr2 := r1.fr fs2 (by simp; omega) (fun k hk => by have := h0.ltg hk; simp; omega)
  have hF2 : Fr [b] H C2 := (hF1.trans f1).trans' fs2 (by simp; omega)
  have hz2 : H.size + 3 ≤ C2.size := by omega
  replace p1 : RepP C2 (fun x => x < H.size + 3) _ _ := RepP.on (m := H.size + 3) p1 fs2 (by simp; omega) (by omega)
  have hq2 := hA2.cell
  have hw := hC2.cell
  simp (implicitDefEqProofs := false) only [go_sem, hw]
  refine Sto_all hB2 rfl ?_ fun Z hZ fz hsz => ?_
  · intro v hv
    simp only [List.mem_cons, List.not_mem_nil, or_false] at hv
    rcases hv with rfl | rfl
    all_goals first | rfl
  have hcz := hZ.cell
  simp (implicitDefEqProofs := false) only [go_sem, hcz]
  replace p1 := RepP.on p1 fz (by simp; omega) (show H.size ≤ H.size + 3 by omega)
  refine ⟨_, rfl, ?_, ?_, hF2.trans' fz (by simp; omega)⟩
  · rw [hD]
    exact RepP.pair (RepP.v _) (p1)
  · rw [hD]
    exact hr2.fr fz (by simp; omega) (fun k hk => by have := h0.ltg hk; simp; omega)
set_option maxHeartbeats 2000000 in
theorem rcertificate_ok : ROk 158 tCert pR := by
  refine ⟨by kernel_rfl, fun {H b L s0 g} hL h0 => ?_⟩
  obtain ⟨d0, s1, e0⟩ : ∃ d s, dT L tRound s0 = (d, s) := ⟨_, _, rfl⟩
  obtain ⟨d1, s2, e1⟩ : ∃ d s, dT L (.list tRead) s1 = (d, s) := ⟨_, _, rfl⟩
  obtain ⟨d2, s3, e2⟩ : ∃ d s, dT L (.list tCmd) s2 = (d, s) := ⟨_, _, rfl⟩
  obtain ⟨d3, s4, e3⟩ : ∃ d s, dT L (.list tCmd) s3 = (d, s) := ⟨_, _, rfl⟩
  obtain ⟨d4, s5, e4⟩ : ∃ d s, dT L .num s4 = (d, s) := ⟨_, _, rfl⟩
  obtain ⟨d5, s6, e5⟩ : ∃ d s, dT L .bytes s5 = (d, s) := ⟨_, _, rfl⟩
  obtain ⟨d6, s7, e6⟩ : ∃ d s, dT L (.list tAck) s6 = (d, s) := ⟨_, _, rfl⟩
  have hD : dT L tCert s0 = ((d0, d1, d2, d3, d4, d5, d6), s7) := by simp only [dT_pair, e0, e1, e2, e3, e4, e5, e6]
  have hbH := h0.lt
  refine pcalls_of_vc (args := [_]) Tryz.func158 c158ok (Nat.le_of_ble_eq_true rfl) ?_
  simp (implicitDefEqProofs := false) only [go_sem, c158, pR]
  refine NewP_intro fun A1 hA hfA hsA => ?_
  simp (implicitDefEqProofs := false) only [go_sem]
  refine NewP_intro fun B1 hB hfB hsB => ?_
  simp (implicitDefEqProofs := false) only [go_sem]
  refine NewP_intro fun C0 hC0 hfC hsC => ?_
  have hbA : H.size ≠ b := by omega
  have hbB : A1.size ≠ b := by omega
  have hbC : B1.size ≠ b := by omega
  have hA0 := (hA.ext hfB).ext hfC
  have hB0 := hB.ext hfC
  have hr0 : RdO C0 b L s0 g := ((h0.ext hfA).ext hfB).ext hfC
  have hF0 : Fr [b] H C0 := ((hfA.trans hfB).trans hfC).mono (by simp)
  have hq0 := hA0.cell
  have hz0 : H.size + 3 ≤ C0.size := by omega
  simp (implicitDefEqProofs := false) only [go_sem, hq0]
  refine PCalls.mono (rround_ok.2 hL hr0) ?_ ?_
  rotate_left
  · rintro c X ⟨rfl, hn, fx⟩
    refine ⟨rfl, ?_, hF0.trans fx⟩
    rw [e0] at hn
    simp only at hn
    subst hn
    have q2 : s2 = none := by rw [← dT_none L (.list tRead), e1]
    subst q2
    have q3 : s3 = none := by rw [← dT_none L (.list tCmd), e2]
    subst q3
    have q4 : s4 = none := by rw [← dT_none L (.list tCmd), e3]
    subst q4
    have q5 : s5 = none := by rw [← dT_none L .num, e4]
    subst q5
    have q6 : s6 = none := by rw [← dT_none L .bytes, e5]
    subst q6
    have q7 : s7 = none := by rw [← dT_none L (.list tAck), e6]
    subst q7
    rw [hD]
  rintro v X0 ⟨cs, rfl, p0, r0, f0⟩
  rw [e0] at r0 p0
  simp only at r0 p0
  have hsz0 := f0.size
  obtain ⟨y0_0, y0_1, y0_2, rfl⟩ := len3 (rep_wid p0.rep)
  have hAx0 := hA0.fr f0 (by simpa using hbA)
  have hBx0 := hB0.fr f0 (by simpa using hbB)
  have hCx0 := hC0.fr f0 (by simpa using hbC)
  simp (implicitDefEqProofs := false) only [go_sem]
  refine Sto_blk _ _ _ 0 0 hCx0 (by simp) (rep_one p0.rep) fun C1 hC1 fs1 hs1 => ?_
  simp only [List.set_cons_zero, List.set_cons_succ, setL, Nat.add_zero, Nat.zero_add, Nat.reduceAdd] at hC1
  have hA1 := hAx0.fr fs1 (by simp; omega)
  have hB1 := hBx0.fr fs1 (by simp; omega)
  have hr1 := r0.fr fs1 (by simp; omega) (fun k hk => by have := h0.ltg hk; simp; omega)
  have hF1 : Fr [b] H C1 := (hF0.trans f0).trans' fs1 (by simp; omega)
  have hz1 : H.size + 3 ≤ C1.size := by omega
  replace p0 : RepP C1 (fun x => x < H.size + 3) _ _ := RepP.on (m := H.size + 3) p0 fs1 (by simp; omega) (by omega)
  have hq1 := hA1.cell
  simp (implicitDefEqProofs := false) only [go_sem, hq1]
  refine PCalls.mono (elemsReadID_ok rfl (fun _ => rfl) rread_ok hL hr1) ?_ ?_
  rotate_left
  · rintro c X ⟨rfl, hn, fx⟩
    refine ⟨rfl, ?_, hF1.trans fx⟩
    rw [e1] at hn
    simp only at hn
    subst hn
    have q3 : s3 = none := by rw [← dT_none L (.list tCmd), e2]
    subst q3
    have q4 : s4 = none := by rw [← dT_none L (.list tCmd), e3]
    subst q4
    have q5 : s5 = none := by rw [← dT_none L .num, e4]
    subst q5
    have q6 : s6 = none := by rw [← dT_none L .bytes, e5]
    subst q6
    have q7 : s7 = none := by rw [← dT_none L (.list tAck), e6]
    subst q7
    rw [hD]
  rintro v X1 ⟨cs, rfl, p1, r1, f1⟩
  rw [e1] at r1 p1
  simp only at r1 p1
  have hsz1 := f1.size
  obtain ⟨a1, c1, rfl, hl1, hm1⟩ := rep_list p1.rep
  have hAx1 := hA1.fr f1 (by simpa using hbA)
  have hBx1 := hB1.fr f1 (by simpa using hbB)
  have hCx1 := hC1.fr f1 (by simpa using hbC)
  simp (implicitDefEqProofs := false) only [go_sem]
  refine Sto_one hCx1 (by simp) rfl fun C2 hC2 fs2 hs2 => ?_
  simp only [List.set_cons_zero, List.set_cons_succ, setL, Nat.add_zero, Nat.zero_add, Nat.reduceAdd] at hC2
  have hA2 := hAx1.fr fs2 (by simp; omega)
  have hB2 := hBx1.fr fs2 (by simp; omega)
  have hr2 := r1.fr fs2 (by simp; omega) (fun k hk => by have := h0.ltg hk; simp; omega)
  have hF2 : Fr [b] H C2 := (hF1.trans f1).trans' fs2 (by simp; omega)
  have hz2 : H.size + 3 ≤ C2.size := by omega
  replace p0 := RepP.on (RepP.on p0 f1 (by simp; omega) (Nat.le_refl _)) fs2 (by simp; omega) (Nat.le_refl _)
  replace p1 : RepP C2 (fun x => x < H.size + 3) _ _ := RepP.on (m := H.size + 3) p1 fs2 (by simp; omega) (by omega)
  have hq2 := hA2.cell
  simp (implicitDefEqProofs := false) only [go_sem, hq2]
  refine PCalls.mono (elemsCommand_ok rfl (fun _ => rfl) rcommand_ok hL hr2) ?_ ?_
  rotate_left
  · rintro c X ⟨rfl, hn, fx⟩
    refine ⟨rfl, ?_, hF2.trans fx⟩
    rw [e2] at hn
    simp only at hn
    subst hn
    have q4 : s4 = none := by rw [← dT_none L (.list tCmd), e3]
    subst q4
    have q5 : s5 = none := by rw [← dT_none L .num, e4]
    subst q5
    have q6 : s6 = none := by rw [← dT_none L .bytes, e5]
    subst q6
    have q7 : s7 = none := by rw [← dT_none L (.list tAck), e6]
    subst q7
    rw [hD]
  rintro v X2 ⟨cs, rfl, p2, r2, f2⟩
  rw [e2] at r2 p2
  simp only at r2 p2
  have hsz2 := f2.size
  obtain ⟨a2, c2, rfl, hl2, hm2⟩ := rep_list p2.rep
  have hAx2 := hA2.fr f2 (by simpa using hbA)
  have hBx2 := hB2.fr f2 (by simpa using hbB)
  have hCx2 := hC2.fr f2 (by simpa using hbC)
  simp (implicitDefEqProofs := false) only [go_sem]
  refine Sto_one hCx2 (by simp) rfl fun C3 hC3 fs3 hs3 => ?_
  simp only [List.set_cons_zero, List.set_cons_succ, setL, Nat.add_zero, Nat.zero_add, Nat.reduceAdd] at hC3
  have hA3 := hAx2.fr fs3 (by simp; omega)
  have hB3 := hBx2.fr fs3 (by simp; omega)
  have hr3 := r2.fr fs3 (by simp; omega) (fun k hk => by have := h0.ltg hk; simp; omega)
  have hF3 : Fr [b] H C3 := (hF2.trans f2).trans' fs3 (by simp; omega)
  have hz3 : H.size + 3 ≤ C3.size := by omega
  replace p0 := RepP.on (RepP.on p0 f2 (by simp; omega) (Nat.le_refl _)) fs3 (by simp; omega) (Nat.le_refl _)
  replace p1 := RepP.on (RepP.on p1 f2 (by simp; omega) (Nat.le_refl _)) fs3 (by simp; omega) (Nat.le_refl _)
  replace p2 : RepP C3 (fun x => x < H.size + 3) _ _ := RepP.on (m := H.size + 3) p2 fs3 (by simp; omega) (by omega)
  have hq3 := hA3.cell
  simp (implicitDefEqProofs := false) only [go_sem, hq3]
  refine PCalls.mono (elemsCommand_ok rfl (fun _ => rfl) rcommand_ok hL hr3) ?_ ?_
  rotate_left
  · rintro c X ⟨rfl, hn, fx⟩
    refine ⟨rfl, ?_, hF3.trans fx⟩
    rw [e3] at hn
    simp only at hn
    subst hn
    have q5 : s5 = none := by rw [← dT_none L .num, e4]
    subst q5
    have q6 : s6 = none := by rw [← dT_none L .bytes, e5]
    subst q6
    have q7 : s7 = none := by rw [← dT_none L (.list tAck), e6]
    subst q7
    rw [hD]
  rintro v X3 ⟨cs, rfl, p3, r3, f3⟩
  rw [e3] at r3 p3
  simp only at r3 p3
  have hsz3 := f3.size
  obtain ⟨a3, c3, rfl, hl3, hm3⟩ := rep_list p3.rep
  have hAx3 := hA3.fr f3 (by simpa using hbA)
  have hBx3 := hB3.fr f3 (by simpa using hbB)
  have hCx3 := hC3.fr f3 (by simpa using hbC)
  simp (implicitDefEqProofs := false) only [go_sem]
  refine Sto_one hCx3 (by simp) rfl fun C4 hC4 fs4 hs4 => ?_
  simp only [List.set_cons_zero, List.set_cons_succ, setL, Nat.add_zero, Nat.zero_add, Nat.reduceAdd] at hC4
  have hA4 := hAx3.fr fs4 (by simp; omega)
  have hB4 := hBx3.fr fs4 (by simp; omega)
  have hr4 := r3.fr fs4 (by simp; omega) (fun k hk => by have := h0.ltg hk; simp; omega)
  have hF4 : Fr [b] H C4 := (hF3.trans f3).trans' fs4 (by simp; omega)
  have hz4 : H.size + 3 ≤ C4.size := by omega
  replace p0 := RepP.on (RepP.on p0 f3 (by simp; omega) (Nat.le_refl _)) fs4 (by simp; omega) (Nat.le_refl _)
  replace p1 := RepP.on (RepP.on p1 f3 (by simp; omega) (Nat.le_refl _)) fs4 (by simp; omega) (Nat.le_refl _)
  replace p2 := RepP.on (RepP.on p2 f3 (by simp; omega) (Nat.le_refl _)) fs4 (by simp; omega) (Nat.le_refl _)
  replace p3 : RepP C4 (fun x => x < H.size + 3) _ _ := RepP.on (m := H.size + 3) p3 fs4 (by simp; omega) (by omega)
  have hq4 := hA4.cell
  simp (implicitDefEqProofs := false) only [go_sem, hq4]
  refine (rnum_ok hr4).mono ?_
  rintro v X4 ⟨rfl, r4, f4⟩
  rw [e4] at r4 ⊢
  have hsz4 := f4.size
  have hAx4 := hA4.fr f4 (by simpa using hbA)
  have hBx4 := hB4.fr f4 (by simpa using hbB)
  have hCx4 := hC4.fr f4 (by simpa using hbC)
  simp (implicitDefEqProofs := false) only [go_sem]
  refine Sto_one hCx4 (by simp) rfl fun C5 hC5 fs5 hs5 => ?_
  simp only [List.set_cons_zero, List.set_cons_succ, setL, Nat.add_zero, Nat.zero_add, Nat.reduceAdd] at hC5
  have hA5 := hAx4.fr fs5 (by simp; omega)
  have hB5 := hBx4.fr fs5 (by simp; omega)
  have hr5 := r4.fr fs5 (by simp; omega) (fun k hk => by have := h0.ltg hk; simp; omega)
  have hF5 : Fr [b] H C5 := (hF4.trans f4).trans' fs5 (by simp; omega)
  have hz5 : H.size + 3 ≤ C5.size := by omega
  replace p0 := RepP.on (RepP.on p0 f4 (by simp; omega) (Nat.le_refl _)) fs5 (by simp; omega) (Nat.le_refl _)
  replace p1 := RepP.on (RepP.on p1 f4 (by simp; omega) (Nat.le_refl _)) fs5 (by simp; omega) (Nat.le_refl _)
  replace p2 := RepP.on (RepP.on p2 f4 (by simp; omega) (Nat.le_refl _)) fs5 (by simp; omega) (Nat.le_refl _)
  replace p3 := RepP.on (RepP.on p3 f4 (by simp; omega) (Nat.le_refl _)) fs5 (by simp; omega) (Nat.le_refl _)
  have hq5 := hA5.cell
  simp (implicitDefEqProofs := false) only [go_sem, hq5]
  refine (rbytes_o hr5).mono ?_
  rintro v X5 ⟨a5, c5, g5, rfl, ho5, hg5, r5, f5⟩
  have e5' : bytesO L s5 = (d5, s6) := e5
  rw [e5'] at r5 ho5 ⊢
  have p5 : RepP X5 (fun x => x < C5.size) (datT .bytes d5) [.slice a5 d5.length c5] := RepP.bytes ho5 fun k hk => by have := hg5 k hk; omega
  have hsz5 := f5.size
  have hAx5 := hA5.fr f5 (by simpa using hbA)
  have hBx5 := hB5.fr f5 (by simpa using hbB)
  have hCx5 := hC5.fr f5 (by simpa using hbC)
  simp (implicitDefEqProofs := false) only [go_sem]
  refine Sto_one hCx5 (by simp) rfl fun C6 hC6 fs6 hs6 => ?_
  simp only [List.set_cons_zero, List.set_cons_succ, setL, Nat.add_zero, Nat.zero_add, Nat.reduceAdd] at hC6
  have hA6 := hAx5.fr fs6 (by simp; omega)
  have hB6 := hBx5.fr fs6 (by simp; omega)
  have hr6 := r5.fr fs6 (by simp; omega) (fun k hk => by have := h0.ltg hk; simp; omega)
  have hF6 : Fr [b] H C6 := (hF5.trans f5).trans' fs6 (by simp; omega)
  have hz6 : H.size + 3 ≤ C6.size := by omega
  replace p0 := RepP.on (RepP.on p0 f5 (by simp; omega) (Nat.le_refl _)) fs6 (by simp; omega) (Nat.le_refl _)
  replace p1 := RepP.on (RepP.on p1 f5 (by simp; omega) (Nat.le_refl _)) fs6 (by simp; omega) (Nat.le_refl _)
  replace p2 := RepP.on (RepP.on p2 f5 (by simp; omega) (Nat.le_refl _)) fs6 (by simp; omega) (Nat.le_refl _)
  replace p3 := RepP.on (RepP.on p3 f5 (by simp; omega) (Nat.le_refl _)) fs6 (by simp; omega) (Nat.le_refl _)
  replace p5 : RepP C6 (fun x => x < H.size + 3) _ _ := RepP.on (m := H.size + 3) p5 fs6 (by simp; omega) (by omega)
  have hq6 := hA6.cell
  simp (implicitDefEqProofs := false) only [go_sem, hq6]
  refine PCalls.mono (elemsAck_ok rfl (fun _ => rfl) rack_ok hL hr6) ?_ ?_
  rotate_left
  · rintro c X ⟨rfl, hn, fx⟩
    refine ⟨rfl, ?_, hF6.trans fx⟩
    rw [e6] at hn
    simp only at hn
    subst hn
    rw [hD]
  rintro v X6 ⟨cs, rfl, p6, r6, f6⟩
  rw [e6] at r6 p6
  simp only at r6 p6
  have hsz6 := f6.size
  obtain ⟨a6, c6, rfl, hl6, hm6⟩ := rep_list p6.rep
  have hAx6 := hA6.fr f6 (by simpa using hbA)
  have hBx6 := hB6.fr f6 (by simpa using hbB)
  have hCx6 := hC6.fr f6 (by simpa using hbC)
  simp (implicitDefEqProofs := false) only [go_sem]
  refine Sto_one hCx6 (by simp) rfl fun C7 hC7 fs7 hs7 => ?_
  simp only [List.set_cons_zero, List.set_cons_succ, setL, Nat.add_zero, Nat.zero_add, Nat.reduceAdd] at hC7
  have hA7 := hAx6.fr fs7 (by simp; omega)
  have hB7 := hBx6.fr fs7 (by simp; omega)
  have hr7 := r6.fr fs7 (by simp; omega) (fun k hk => by have := h0.ltg hk; simp; omega)
  have hF7 : Fr [b] H C7 := (hF6.trans f6).trans' fs7 (by simp; omega)
  have hz7 : H.size + 3 ≤ C7.size := by omega
  replace p0 := RepP.on (RepP.on p0 f6 (by simp; omega) (Nat.le_refl _)) fs7 (by simp; omega) (Nat.le_refl _)
  replace p1 := RepP.on (RepP.on p1 f6 (by simp; omega) (Nat.le_refl _)) fs7 (by simp; omega) (Nat.le_refl _)
  replace p2 := RepP.on (RepP.on p2 f6 (by simp; omega) (Nat.le_refl _)) fs7 (by simp; omega) (Nat.le_refl _)
  replace p3 := RepP.on (RepP.on p3 f6 (by simp; omega) (Nat.le_refl _)) fs7 (by simp; omega) (Nat.le_refl _)
  replace p5 := RepP.on (RepP.on p5 f6 (by simp; omega) (Nat.le_refl _)) fs7 (by simp; omega) (Nat.le_refl _)
  replace p6 : RepP C7 (fun x => x < H.size + 3) _ _ := RepP.on (m := H.size + 3) p6 fs7 (by simp; omega) (by omega)
  have hq7 := hA7.cell
  have hw := hC7.cell
  simp (implicitDefEqProofs := false) only [go_sem, hw]
  refine Sto_all hB7 rfl ?_ fun Z hZ fz hsz => ?_
  · intro v hv
    simp only [List.mem_cons, List.not_mem_nil, or_false] at hv
    rcases hv with rfl | rfl | rfl | rfl | rfl | rfl | rfl | rfl | rfl
    all_goals first | rfl | exact rep_one p0.rep _ (by simp)
  have hcz := hZ.cell
  simp (implicitDefEqProofs := false) only [go_sem, hcz]
  replace p0 := RepP.on p0 fz (by simp; omega) (show H.size ≤ H.size + 3 by omega)
  replace p1 := RepP.on p1 fz (by simp; omega) (show H.size ≤ H.size + 3 by omega)
  replace p2 := RepP.on p2 fz (by simp; omega) (show H.size ≤ H.size + 3 by omega)
  replace p3 := RepP.on p3 fz (by simp; omega) (show H.size ≤ H.size + 3 by omega)
  replace p5 := RepP.on p5 fz (by simp; omega) (show H.size ≤ H.size + 3 by omega)
  replace p6 := RepP.on p6 fz (by simp; omega) (show H.size ≤ H.size + 3 by omega)
  refine ⟨_, rfl, ?_, ?_, hF7.trans' fz (by simp; omega)⟩
  · rw [hD]
    exact RepP.pair (p0) (RepP.pair (p1) (RepP.pair (p2) (RepP.pair (p3) (RepP.pair (RepP.v _) (RepP.pair (p5) (p6))))))
  · rw [hD]
    exact hr7.fr fz (by simp; omega) (fun k hk => by have := h0.ltg hk; simp; omega)
set_option maxHeartbeats 2000000 in
theorem rbase_ok : ROk 137 tBase pR := by
  refine ⟨by kernel_rfl, fun {H b L s0 g} hL h0 => ?_⟩
  obtain ⟨d0, s1, e0⟩ : ∃ d s, dT L (.list tCert) s0 = (d, s) := ⟨_, _, rfl⟩
  obtain ⟨d1, s2, e1⟩ : ∃ d s, dT L (.list tCmd) s1 = (d, s) := ⟨_, _, rfl⟩
  have hD : dT L tBase s0 = ((d0, d1), s2) := by simp only [dT_pair, e0, e1]
  have hbH := h0.lt
  refine pcalls_of_vc (args := [_]) Tryz.func137 c137ok (Nat.le_of_ble_eq_true rfl) ?_
  simp (implicitDefEqProofs := false) only [go_sem, c137, pR]
  refine NewP_intro fun A1 hA hfA hsA => ?_
  simp (implicitDefEqProofs := false) only [go_sem]
  refine NewP_intro fun B1 hB hfB hsB => ?_
  simp (implicitDefEqProofs := false) only [go_sem]
  refine NewP_intro fun C0 hC0 hfC hsC => ?_
  have hbA : H.size ≠ b := by omega
  have hbB : A1.size ≠ b := by omega
  have hbC : B1.size ≠ b := by omega
  have hA0 := (hA.ext hfB).ext hfC
  have hB0 := hB.ext hfC
  have hr0 : RdO C0 b L s0 g := ((h0.ext hfA).ext hfB).ext hfC
  have hF0 : Fr [b] H C0 := ((hfA.trans hfB).trans hfC).mono (by simp)
  have hq0 := hA0.cell
  have hz0 : H.size + 3 ≤ C0.size := by omega
  simp (implicitDefEqProofs := false) only [go_sem, hq0]
  refine PCalls.mono (elemsCertificate_ok rfl (fun _ => rfl) rcertificate_ok hL hr0) ?_ ?_
  rotate_left
  · rintro c X ⟨rfl, hn, fx⟩
    refine ⟨rfl, ?_, hF0.trans fx⟩
    rw [e0] at hn
    simp only at hn
    subst hn
    have q2 : s2 = none := by rw [← dT_none L (.list tCmd), e1]
    subst q2
    rw [hD]
  rintro v X0 ⟨cs, rfl, p0, r0, f0⟩
  rw [e0] at r0 p0
  simp only at r0 p0
  have hsz0 := f0.size
  obtain ⟨a0, c0, rfl, hl0, hm0⟩ := rep_list p0.rep
  have hAx0 := hA0.fr f0 (by simpa using hbA)
  have hBx0 := hB0.fr f0 (by simpa using hbB)
  have hCx0 := hC0.fr f0 (by simpa using hbC)
  simp (implicitDefEqProofs := false) only [go_sem]
  refine Sto_one hCx0 (by simp) rfl fun C1 hC1 fs1 hs1 => ?_
  simp only [List.set_cons_zero, List.set_cons_succ, setL, Nat.add_zero, Nat.zero_add, Nat.reduceAdd] at hC1
  have hA1 := hAx0.fr fs1 (by simp; omega)
  have hB1 := hBx0.fr fs1 (by simp; omega)
  have hr1 := r0.fr fs1 (by simp; omega) (fun k hk => by have := h0.ltg hk; simp; omega)
  have hF1 : Fr [b] H C1 := (hF0.trans f0).trans' fs1 (by simp; omega)
  have hz1 : H.size + 3 ≤ C1.size := by omega
  replace p0 : RepP C1 (fun x => x < H.size + 3) _ _ := RepP.on (m := H.size + 3) p0 fs1 (by simp; omega) (by omega)
  have hq1 := hA1.cell
  simp (implicitDefEqProofs := false) only [go_sem, hq1]
  refine PCalls.mono (elemsCommand_ok rfl (fun _ => rfl) rcommand_ok hL hr1) ?_ ?_
  rotate_left
  · rintro c X ⟨rfl, hn, fx⟩
    refine ⟨rfl, ?_, hF1.trans fx⟩
    rw [e1] at hn
    simp only at hn
    subst hn
    rw [hD]
  rintro v X1 ⟨cs, rfl, p1, r1, f1⟩
  rw [e1] at r1 p1
  simp only at r1 p1
  have hsz1 := f1.size
  obtain ⟨a1, c1, rfl, hl1, hm1⟩ := rep_list p1.rep
  have hAx1 := hA1.fr f1 (by simpa using hbA)
  have hBx1 := hB1.fr f1 (by simpa using hbB)
  have hCx1 := hC1.fr f1 (by simpa using hbC)
  simp (implicitDefEqProofs := false) only [go_sem]
  refine Sto_one hCx1 (by simp) rfl fun C2 hC2 fs2 hs2 => ?_
  simp only [List.set_cons_zero, List.set_cons_succ, setL, Nat.add_zero, Nat.zero_add, Nat.reduceAdd] at hC2
  have hA2 := hAx1.fr fs2 (by simp; omega)
  have hB2 := hBx1.fr fs2 (by simp; omega)
  have hr2 := r1.fr fs2 (by simp; omega) (fun k hk => by have := h0.ltg hk; simp; omega)
  have hF2 : Fr [b] H C2 := (hF1.trans f1).trans' fs2 (by simp; omega)
  have hz2 : H.size + 3 ≤ C2.size := by omega
  replace p0 := RepP.on (RepP.on p0 f1 (by simp; omega) (Nat.le_refl _)) fs2 (by simp; omega) (Nat.le_refl _)
  replace p1 : RepP C2 (fun x => x < H.size + 3) _ _ := RepP.on (m := H.size + 3) p1 fs2 (by simp; omega) (by omega)
  have hq2 := hA2.cell
  have hw := hC2.cell
  simp (implicitDefEqProofs := false) only [go_sem, hw]
  refine Sto_all hB2 rfl ?_ fun Z hZ fz hsz => ?_
  · intro v hv
    simp only [List.mem_cons, List.not_mem_nil, or_false] at hv
    rcases hv with rfl | rfl
    all_goals first | rfl
  have hcz := hZ.cell
  simp (implicitDefEqProofs := false) only [go_sem, hcz]
  replace p0 := RepP.on p0 fz (by simp; omega) (show H.size ≤ H.size + 3 by omega)
  replace p1 := RepP.on p1 fz (by simp; omega) (show H.size ≤ H.size + 3 by omega)
  refine ⟨_, rfl, ?_, ?_, hF2.trans' fz (by simp; omega)⟩
  · rw [hD]
    exact RepP.pair (p0) (p1)
  · rw [hD]
    exact hr2.fr fz (by simp; omega) (fun k hk => by have := h0.ltg hk; simp; omega)
set_option maxHeartbeats 2000000 in
theorem rproof_ok : ROk 143 tProof pR := by
  refine ⟨by kernel_rfl, fun {H b L s0 g} hL h0 => ?_⟩
  obtain ⟨d0, s1, e0⟩ : ∃ d s, dT L (.list tCert) s0 = (d, s) := ⟨_, _, rfl⟩
  obtain ⟨d1, s2, e1⟩ : ∃ d s, dT L tCert s1 = (d, s) := ⟨_, _, rfl⟩
  have hD : dT L tProof s0 = ((d0, d1), s2) := by simp only [dT_pair, e0, e1]
  have hbH := h0.lt
  refine pcalls_of_vc (args := [_]) Tryz.func143 c143ok (Nat.le_of_ble_eq_true rfl) ?_
  simp (implicitDefEqProofs := false) only [go_sem, c143, pR]
  refine NewP_intro fun A1 hA hfA hsA => ?_
  simp (implicitDefEqProofs := false) only [go_sem]
  refine NewP_intro fun B1 hB hfB hsB => ?_
  simp (implicitDefEqProofs := false) only [go_sem]
  refine NewP_intro fun C0 hC0 hfC hsC => ?_
  have hbA : H.size ≠ b := by omega
  have hbB : A1.size ≠ b := by omega
  have hbC : B1.size ≠ b := by omega
  have hA0 := (hA.ext hfB).ext hfC
  have hB0 := hB.ext hfC
  have hr0 : RdO C0 b L s0 g := ((h0.ext hfA).ext hfB).ext hfC
  have hF0 : Fr [b] H C0 := ((hfA.trans hfB).trans hfC).mono (by simp)
  have hq0 := hA0.cell
  have hz0 : H.size + 3 ≤ C0.size := by omega
  simp (implicitDefEqProofs := false) only [go_sem, hq0]
  refine PCalls.mono (elemsCertificate_ok rfl (fun _ => rfl) rcertificate_ok hL hr0) ?_ ?_
  rotate_left
  · rintro c X ⟨rfl, hn, fx⟩
    refine ⟨rfl, ?_, hF0.trans fx⟩
    rw [e0] at hn
    simp only at hn
    subst hn
    have q2 : s2 = none := by rw [← dT_none L tCert, e1]
    subst q2
    rw [hD]
  rintro v X0 ⟨cs, rfl, p0, r0, f0⟩
  rw [e0] at r0 p0
  simp only at r0 p0
  have hsz0 := f0.size
  obtain ⟨a0, c0, rfl, hl0, hm0⟩ := rep_list p0.rep
  have hAx0 := hA0.fr f0 (by simpa using hbA)
  have hBx0 := hB0.fr f0 (by simpa using hbB)
  have hCx0 := hC0.fr f0 (by simpa using hbC)
  simp (implicitDefEqProofs := false) only [go_sem]
  refine Sto_one hCx0 (by simp) rfl fun C1 hC1 fs1 hs1 => ?_
  simp only [List.set_cons_zero, List.set_cons_succ, setL, Nat.add_zero, Nat.zero_add, Nat.reduceAdd] at hC1
  have hA1 := hAx0.fr fs1 (by simp; omega)
  have hB1 := hBx0.fr fs1 (by simp; omega)
  have hr1 := r0.fr fs1 (by simp; omega) (fun k hk => by have := h0.ltg hk; simp; omega)
  have hF1 : Fr [b] H C1 := (hF0.trans f0).trans' fs1 (by simp; omega)
  have hz1 : H.size + 3 ≤ C1.size := by omega
  replace p0 : RepP C1 (fun x => x < H.size + 3) _ _ := RepP.on (m := H.size + 3) p0 fs1 (by simp; omega) (by omega)
  have hq1 := hA1.cell
  simp (implicitDefEqProofs := false) only [go_sem, hq1]
  refine PCalls.mono (rcertificate_ok.2 hL hr1) ?_ ?_
  rotate_left
  · rintro c X ⟨rfl, hn, fx⟩
    refine ⟨rfl, ?_, hF1.trans fx⟩
    rw [e1] at hn
    simp only at hn
    subst hn
    rw [hD]
  rintro v X1 ⟨cs, rfl, p1, r1, f1⟩
  rw [e1] at r1 p1
  simp only at r1 p1
  have hsz1 := f1.size
  obtain ⟨y1_0, y1_1, y1_2, y1_3, y1_4, y1_5, y1_6, y1_7, y1_8, rfl⟩ := len9 (rep_wid p1.rep)
  have hAx1 := hA1.fr f1 (by simpa using hbA)
  have hBx1 := hB1.fr f1 (by simpa using hbB)
  have hCx1 := hC1.fr f1 (by simpa using hbC)
  simp (implicitDefEqProofs := false) only [go_sem]
  refine Sto_blk _ _ _ 1 0 hCx1 (by simp) (rep_one p1.rep) fun C2 hC2 fs2 hs2 => ?_
  simp only [List.set_cons_zero, List.set_cons_succ, setL, Nat.add_zero, Nat.zero_add, Nat.reduceAdd] at hC2
  have hA2 := hAx1.fr fs2 (by simp; omega)
  have hB2 := hBx1.fr fs2 (by simp; omega)
  have hr2 := r1.fr fs2 (by simp; omega) (fun k hk => by have := h0.ltg hk; simp; omega)
  have hF2 : Fr [b] H C2 := (hF1.trans f1).trans' fs2 (by simp; omega)
  have hz2 : H.size + 3 ≤ C2.size := by omega
  replace p0 := RepP.on (RepP.on p0 f1 (by simp; omega) (Nat.le_refl _)) fs2 (by simp; omega) (Nat.le_refl _)
  replace p1 : RepP C2 (fun x => x < H.size + 3) _ _ := RepP.on (m := H.size + 3) p1 fs2 (by simp; omega) (by omega)
  have hq2 := hA2.cell
  have hw := hC2.cell
  simp (implicitDefEqProofs := false) only [go_sem, hw]
  refine Sto_all hB2 rfl ?_ fun Z hZ fz hsz => ?_
  · intro v hv
    simp only [List.mem_cons, List.not_mem_nil, or_false] at hv
    rcases hv with rfl | rfl | rfl | rfl | rfl | rfl | rfl | rfl | rfl | rfl
    all_goals first | rfl | exact rep_one p1.rep _ (by simp)
  have hcz := hZ.cell
  simp (implicitDefEqProofs := false) only [go_sem, hcz]
  replace p0 := RepP.on p0 fz (by simp; omega) (show H.size ≤ H.size + 3 by omega)
  replace p1 := RepP.on p1 fz (by simp; omega) (show H.size ≤ H.size + 3 by omega)
  refine ⟨_, rfl, ?_, ?_, hF2.trans' fz (by simp; omega)⟩
  · rw [hD]
    exact RepP.pair (p0) (p1)
  · rw [hD]
    exact hr2.fr fz (by simp; omega) (fun k hk => by have := h0.ltg hk; simp; omega)
set_option maxHeartbeats 2000000 in
theorem rdigest_ok : ROk 145 tDigest pR := by
  refine ⟨by kernel_rfl, fun {H b L s0 g} hL h0 => ?_⟩
  obtain ⟨d0, s1, e0⟩ : ∃ d s, dT L .bytes s0 = (d, s) := ⟨_, _, rfl⟩
  obtain ⟨d1, s2, e1⟩ : ∃ d s, dT L .bytes s1 = (d, s) := ⟨_, _, rfl⟩
  obtain ⟨d2, s3, e2⟩ : ∃ d s, dT L .num s2 = (d, s) := ⟨_, _, rfl⟩
  have hD : dT L tDigest s0 = ((d0, d1, d2), s3) := by simp only [dT_pair, e0, e1, e2]
  have hbH := h0.lt
  refine pcalls_of_vc (args := [_]) Tryz.func145 c145ok (Nat.le_of_ble_eq_true rfl) ?_
  simp (implicitDefEqProofs := false) only [go_sem, c145, pR]
  refine NewP_intro fun A1 hA hfA hsA => ?_
  simp (implicitDefEqProofs := false) only [go_sem]
  refine NewP_intro fun B1 hB hfB hsB => ?_
  simp (implicitDefEqProofs := false) only [go_sem]
  refine NewP_intro fun C0 hC0 hfC hsC => ?_
  have hbA : H.size ≠ b := by omega
  have hbB : A1.size ≠ b := by omega
  have hbC : B1.size ≠ b := by omega
  have hA0 := (hA.ext hfB).ext hfC
  have hB0 := hB.ext hfC
  have hr0 : RdO C0 b L s0 g := ((h0.ext hfA).ext hfB).ext hfC
  have hF0 : Fr [b] H C0 := ((hfA.trans hfB).trans hfC).mono (by simp)
  have hq0 := hA0.cell
  have hz0 : H.size + 3 ≤ C0.size := by omega
  simp (implicitDefEqProofs := false) only [go_sem, hq0]
  refine (rbytes_o hr0).mono ?_
  rintro v X0 ⟨a0, c0, g0, rfl, ho0, hg0, r0, f0⟩
  have e0' : bytesO L s0 = (d0, s1) := e0
  rw [e0'] at r0 ho0 ⊢
  have p0 : RepP X0 (fun x => x < C0.size) (datT .bytes d0) [.slice a0 d0.length c0] := RepP.bytes ho0 fun k hk => by have := hg0 k hk; omega
  have hsz0 := f0.size
  have hAx0 := hA0.fr f0 (by simpa using hbA)
  have hBx0 := hB0.fr f0 (by simpa using hbB)
  have hCx0 := hC0.fr f0 (by simpa using hbC)
  simp (implicitDefEqProofs := false) only [go_sem]
  refine Sto_one hCx0 (by simp) rfl fun C1 hC1 fs1 hs1 => ?_
  simp only [List.set_cons_zero, List.set_cons_succ, setL, Nat.add_zero, Nat.zero_add, Nat.reduceAdd] at hC1
  have hA1 := hAx0.fr fs1 (by simp; omega)
  have hB1 := hBx0.fr fs1 (by simp; omega)
  have hr1 := r0.fr fs1 (by simp; omega) (fun k hk => by have := h0.ltg hk; simp; omega)
  have hF1 : Fr [b] H C1 := (hF0.trans f0).trans' fs1 (by simp; omega)
  have hz1 : H.size + 3 ≤ C1.size := by omega
  replace p0 : RepP C1 (fun x => x < H.size + 3) _ _ := RepP.on (m := H.size + 3) p0 fs1 (by simp; omega) (by omega)
  have hq1 := hA1.cell
  simp (implicitDefEqProofs := false) only [go_sem, hq1]
  refine (rbytes_o hr1).mono ?_
  rintro v X1 ⟨a1, c1, g1, rfl, ho1, hg1, r1, f1⟩
  have e1' : bytesO L s1 = (d1, s2) := e1
  rw [e1'] at r1 ho1 ⊢
  have p1 : RepP X1 (fun x => x < C1.size) (datT .bytes d1) [.slice a1 d1.length c1] := RepP.bytes ho1 fun k hk => by have := hg1 k hk; omega
  have hsz1 := f1.size
  have hAx1 := hA1.fr f1 (by simpa using hbA)
  have hBx1 := hB1.fr f1 (by simpa using hbB)
  have hCx1 := hC1.fr f1 (by simpa using hbC)
  simp (implicitDefEqProofs := false) only [go_sem]
  refine Sto_one hCx1 (by simp) rfl fun C2 hC2 fs2 hs2 => ?_
  simp only [List.set_cons_zero, List.set_cons_succ, setL, Nat.add_zero, Nat.zero_add, Nat.reduceAdd] at hC2
  have hA2 := hAx1.fr fs2 (by simp; omega)
  have hB2 := hBx1.fr fs2 (by simp; omega)
  have hr2 := r1.fr fs2 (by simp; omega) (fun k hk => by have := h0.ltg hk; simp; omega)
  have hF2 : Fr [b] H C2 := (hF1.trans f1).trans' fs2 (by simp; omega)
  have hz2 : H.size + 3 ≤ C2.size := by omega
  replace p0 := RepP.on (RepP.on p0 f1 (by simp; omega) (Nat.le_refl _)) fs2 (by simp; omega) (Nat.le_refl _)
  replace p1 : RepP C2 (fun x => x < H.size + 3) _ _ := RepP.on (m := H.size + 3) p1 fs2 (by simp; omega) (by omega)
  have hq2 := hA2.cell
  simp (implicitDefEqProofs := false) only [go_sem, hq2]
  refine (rnum_ok hr2).mono ?_
  rintro v X2 ⟨rfl, r2, f2⟩
  rw [e2] at r2 ⊢
  have hsz2 := f2.size
  have hAx2 := hA2.fr f2 (by simpa using hbA)
  have hBx2 := hB2.fr f2 (by simpa using hbB)
  have hCx2 := hC2.fr f2 (by simpa using hbC)
  simp (implicitDefEqProofs := false) only [go_sem]
  refine Sto_one hCx2 (by simp) rfl fun C3 hC3 fs3 hs3 => ?_
  simp only [List.set_cons_zero, List.set_cons_succ, setL, Nat.add_zero, Nat.zero_add, Nat.reduceAdd] at hC3
  have hA3 := hAx2.fr fs3 (by simp; omega)
  have hB3 := hBx2.fr fs3 (by simp; omega)
  have hr3 := r2.fr fs3 (by simp; omega) (fun k hk => by have := h0.ltg hk; simp; omega)
  have hF3 : Fr [b] H C3 := (hF2.trans f2).trans' fs3 (by simp; omega)
  have hz3 : H.size + 3 ≤ C3.size := by omega
  replace p0 := RepP.on (RepP.on p0 f2 (by simp; omega) (Nat.le_refl _)) fs3 (by simp; omega) (Nat.le_refl _)
  replace p1 := RepP.on (RepP.on p1 f2 (by simp; omega) (Nat.le_refl _)) fs3 (by simp; omega) (Nat.le_refl _)
  have hq3 := hA3.cell
  have hw := hC3.cell
  simp (implicitDefEqProofs := false) only [go_sem, hw]
  refine Sto_all hB3 rfl ?_ fun Z hZ fz hsz => ?_
  · intro v hv
    simp only [List.mem_cons, List.not_mem_nil, or_false] at hv
    rcases hv with rfl | rfl | rfl
    all_goals first | rfl
  have hcz := hZ.cell
  simp (implicitDefEqProofs := false) only [go_sem, hcz]
  replace p0 := RepP.on p0 fz (by simp; omega) (show H.size ≤ H.size + 3 by omega)
  replace p1 := RepP.on p1 fz (by simp; omega) (show H.size ≤ H.size + 3 by omega)
  refine ⟨_, rfl, ?_, ?_, hF3.trans' fz (by simp; omega)⟩
  · rw [hD]
    exact RepP.pair (p0) (RepP.pair (p1) (RepP.v _))
  · rw [hD]
    exact hr3.fr fz (by simp; omega) (fun k hk => by have := h0.ltg hk; simp; omega)
set_option maxHeartbeats 2000000 in
theorem ritem_ok : ROk 149 tItem pR := by
  refine ⟨by kernel_rfl, fun {H b L s0 g} hL h0 => ?_⟩
  obtain ⟨d0, s1, e0⟩ : ∃ d s, dT L .text s0 = (d, s) := ⟨_, _, rfl⟩
  obtain ⟨d1, s2, e1⟩ : ∃ d s, dT L .bool s1 = (d, s) := ⟨_, _, rfl⟩
  obtain ⟨d2, s3, e2⟩ : ∃ d s, dT L .bytes s2 = (d, s) := ⟨_, _, rfl⟩
  obtain ⟨d3, s4, e3⟩ : ∃ d s, dT L (.list .bytes) s3 = (d, s) := ⟨_, _, rfl⟩
  have hD : dT L tItem s0 = ((d0, d1, d2, d3), s4) := by simp only [dT_pair, e0, e1, e2, e3]
  have hbH := h0.lt
  refine pcalls_of_vc (args := [_]) Tryz.func149 c149ok (Nat.le_of_ble_eq_true rfl) ?_
  simp (implicitDefEqProofs := false) only [go_sem, c149, pR]
  refine NewP_intro fun A1 hA hfA hsA => ?_
  simp (implicitDefEqProofs := false) only [go_sem]
  refine NewP_intro fun B1 hB hfB hsB => ?_
  simp (implicitDefEqProofs := false) only [go_sem]
  refine NewP_intro fun C0 hC0 hfC hsC => ?_
  have hbA : H.size ≠ b := by omega
  have hbB : A1.size ≠ b := by omega
  have hbC : B1.size ≠ b := by omega
  have hA0 := (hA.ext hfB).ext hfC
  have hB0 := hB.ext hfC
  have hr0 : RdO C0 b L s0 g := ((h0.ext hfA).ext hfB).ext hfC
  have hF0 : Fr [b] H C0 := ((hfA.trans hfB).trans hfC).mono (by simp)
  have hq0 := hA0.cell
  have hz0 : H.size + 3 ≤ C0.size := by omega
  simp (implicitDefEqProofs := false) only [go_sem, hq0]
  refine (rtext_o hr0).mono ?_
  rintro v X0 ⟨rfl, r0, f0⟩
  have e0' : bytesO L s0 = (d0, s1) := e0
  rw [e0'] at r0 ⊢
  have hsz0 := f0.size
  have hAx0 := hA0.fr f0 (by simpa using hbA)
  have hBx0 := hB0.fr f0 (by simpa using hbB)
  have hCx0 := hC0.fr f0 (by simpa using hbC)
  simp (implicitDefEqProofs := false) only [go_sem]
  refine Sto_one hCx0 (by simp) rfl fun C1 hC1 fs1 hs1 => ?_
  simp only [List.set_cons_zero, List.set_cons_succ, setL, Nat.add_zero, Nat.zero_add, Nat.reduceAdd] at hC1
  have hA1 := hAx0.fr fs1 (by simp; omega)
  have hB1 := hBx0.fr fs1 (by simp; omega)
  have hr1 := r0.fr fs1 (by simp; omega) (fun k hk => by have := h0.ltg hk; simp; omega)
  have hF1 : Fr [b] H C1 := (hF0.trans f0).trans' fs1 (by simp; omega)
  have hz1 : H.size + 3 ≤ C1.size := by omega
  have hq1 := hA1.cell
  simp (implicitDefEqProofs := false) only [go_sem, hq1]
  refine (rbool_o hr1).mono ?_
  rintro v X1 ⟨rfl, r1, f1⟩
  have e1' : boolO L s1 = (d1, s2) := e1
  rw [e1'] at r1 ⊢
  have hsz1 := f1.size
  have hAx1 := hA1.fr f1 (by simpa using hbA)
  have hBx1 := hB1.fr f1 (by simpa using hbB)
  have hCx1 := hC1.fr f1 (by simpa using hbC)
  simp (implicitDefEqProofs := false) only [go_sem]
  refine Sto_one hCx1 (by simp) rfl fun C2 hC2 fs2 hs2 => ?_
  simp only [List.set_cons_zero, List.set_cons_succ, setL, Nat.add_zero, Nat.zero_add, Nat.reduceAdd] at hC2
  have hA2 := hAx1.fr fs2 (by simp; omega)
  have hB2 := hBx1.fr fs2 (by simp; omega)
  have hr2 := r1.fr fs2 (by simp; omega) (fun k hk => by have := h0.ltg hk; simp; omega)
  have hF2 : Fr [b] H C2 := (hF1.trans f1).trans' fs2 (by simp; omega)
  have hz2 : H.size + 3 ≤ C2.size := by omega
  have hq2 := hA2.cell
  simp (implicitDefEqProofs := false) only [go_sem, hq2]
  refine (rbytes_o hr2).mono ?_
  rintro v X2 ⟨a2, c2, g2, rfl, ho2, hg2, r2, f2⟩
  have e2' : bytesO L s2 = (d2, s3) := e2
  rw [e2'] at r2 ho2 ⊢
  have p2 : RepP X2 (fun x => x < C2.size) (datT .bytes d2) [.slice a2 d2.length c2] := RepP.bytes ho2 fun k hk => by have := hg2 k hk; omega
  have hsz2 := f2.size
  have hAx2 := hA2.fr f2 (by simpa using hbA)
  have hBx2 := hB2.fr f2 (by simpa using hbB)
  have hCx2 := hC2.fr f2 (by simpa using hbC)
  simp (implicitDefEqProofs := false) only [go_sem]
  refine Sto_one hCx2 (by simp) rfl fun C3 hC3 fs3 hs3 => ?_
  simp only [List.set_cons_zero, List.set_cons_succ, setL, Nat.add_zero, Nat.zero_add, Nat.reduceAdd] at hC3
  have hA3 := hAx2.fr fs3 (by simp; omega)
  have hB3 := hBx2.fr fs3 (by simp; omega)
  have hr3 := r2.fr fs3 (by simp; omega) (fun k hk => by have := h0.ltg hk; simp; omega)
  have hF3 : Fr [b] H C3 := (hF2.trans f2).trans' fs3 (by simp; omega)
  have hz3 : H.size + 3 ≤ C3.size := by omega
  replace p2 : RepP C3 (fun x => x < H.size + 3) _ _ := RepP.on (m := H.size + 3) p2 fs3 (by simp; omega) (by omega)
  have hq3 := hA3.cell
  simp (implicitDefEqProofs := false) only [go_sem, hq3]
  refine PCalls.mono (elemsBts_ok rfl (fun _ => rfl) rfl rbytes_ok' hL hr3) ?_ ?_
  rotate_left
  · rintro c X ⟨rfl, hn, fx⟩
    refine ⟨rfl, ?_, hF3.trans fx⟩
    rw [e3] at hn
    simp only at hn
    subst hn
    rw [hD]
  rintro v X3 ⟨cs, rfl, p3, r3, f3⟩
  rw [e3] at r3 p3
  simp only at r3 p3
  have hsz3 := f3.size
  obtain ⟨a3, c3, rfl, hl3, hm3⟩ := rep_list p3.rep
  have hAx3 := hA3.fr f3 (by simpa using hbA)
  have hBx3 := hB3.fr f3 (by simpa using hbB)
  have hCx3 := hC3.fr f3 (by simpa using hbC)
  simp (implicitDefEqProofs := false) only [go_sem]
  refine Sto_one hCx3 (by simp) rfl fun C4 hC4 fs4 hs4 => ?_
  simp only [List.set_cons_zero, List.set_cons_succ, setL, Nat.add_zero, Nat.zero_add, Nat.reduceAdd] at hC4
  have hA4 := hAx3.fr fs4 (by simp; omega)
  have hB4 := hBx3.fr fs4 (by simp; omega)
  have hr4 := r3.fr fs4 (by simp; omega) (fun k hk => by have := h0.ltg hk; simp; omega)
  have hF4 : Fr [b] H C4 := (hF3.trans f3).trans' fs4 (by simp; omega)
  have hz4 : H.size + 3 ≤ C4.size := by omega
  replace p2 := RepP.on (RepP.on p2 f3 (by simp; omega) (Nat.le_refl _)) fs4 (by simp; omega) (Nat.le_refl _)
  replace p3 : RepP C4 (fun x => x < H.size + 3) _ _ := RepP.on (m := H.size + 3) p3 fs4 (by simp; omega) (by omega)
  have hq4 := hA4.cell
  have hw := hC4.cell
  simp (implicitDefEqProofs := false) only [go_sem, hw]
  refine Sto_all hB4 rfl ?_ fun Z hZ fz hsz => ?_
  · intro v hv
    simp only [List.mem_cons, List.not_mem_nil, or_false] at hv
    rcases hv with rfl | rfl | rfl | rfl
    all_goals first | rfl
  have hcz := hZ.cell
  simp (implicitDefEqProofs := false) only [go_sem, hcz]
  replace p2 := RepP.on p2 fz (by simp; omega) (show H.size ≤ H.size + 3 by omega)
  replace p3 := RepP.on p3 fz (by simp; omega) (show H.size ≤ H.size + 3 by omega)
  refine ⟨_, rfl, ?_, ?_, hF4.trans' fz (by simp; omega)⟩
  · rw [hD]
    exact RepP.pair (RepP.v _) (RepP.pair (RepP.v _) (RepP.pair (p2) (p3)))
  · rw [hD]
    exact hr4.fr fz (by simp; omega) (fun k hk => by have := h0.ltg hk; simp; omega)
end Go.Proofs.YtdhlibkdcldioaaGreat
