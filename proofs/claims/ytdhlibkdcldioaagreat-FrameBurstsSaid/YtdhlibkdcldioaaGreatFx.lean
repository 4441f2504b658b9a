/- A message read. -/
import Derived.Test.YtdhlibkdcldioaaGreatFn
import Derived.Test.YtdhlibkdcldioaaGreatFc
set_option linter.unusedSimpArgs false
set_option linter.unusedVariables false
set_option maxRecDepth 8000
namespace Go.Proofs.YtdhlibkdcldioaaGreat
open Gx Go

/-- A message read, whatever its kind, and the place behind it; none: the kind is too great. -/
def msgO (L : Bs) : Option (Msg × Pl) :=
  let k := uintO L (some 0)
  let f := dT L .num k.2
  let t := dT L .num f.2
  if 8 < k.1 then none
  else if k.1 = 0 then some ({ Msg.zero with src := f.1, dst := t.1 }, t.2)
  else
    let d := dT L (payT k.1) t.2
    some (mkM k.1 f.1 t.1 d.1, d.2)
theorem decF_msgO (L : Bs) : decF L = match msgO L with
    | some (m, s) => if s = some L.length ∧ formB m = true then some m else none
    | none => none := by
  unfold decF decM msgO
  simp only
  by_cases h1 : (uintO L (some 0)).1 = 0
  · rw [if_pos (.inl h1), if_neg (by omega), if_pos h1]
    simp only
    rw [if_neg]
    rintro ⟨_, h⟩
    have := (form_head h).1
    simp [Msg.zero] at this
  · by_cases h2 : 8 < (uintO L (some 0)).1
    · rw [if_pos (.inr h2), if_pos h2]
    · rw [if_neg (by omega), if_neg h2, if_neg h1]
      simp only
      by_cases hd : (dT L (payT (uintO L (some 0)).1) (dT L .num (dT L .num (uintO L (some 0)).2).2).2).2 = some L.length
      · rw [if_pos hd]
        simp [hd]
      · rw [if_neg hd]
        simp [hd]


set_option maxHeartbeats 8000000 in
theorem rmsg_ok {H : Heap} {b : Nat} {L : Bs} {g : Option Nat} (hL : L.length < 2^36) (h0 : RdO H b L (some 0) g) : PCalls Tryz.prog 99 #[pR b] H
    (fun v H' => ∃ m s' cs, msgO L = some (m, s') ∧ v = .agg (List.toArray cs) ∧ RepP H' (fun x => x < H.size) (datT tMsg m.tup) cs ∧ RdO H' b L s' g ∧ Fr [b] H H')
    (fun c H' => c = dmg ∧ (msgO L = none ∨ ∃ m, msgO L = some (m, none)) ∧ Fr [b] H H') := by
  obtain ⟨k, s1, e0⟩ : ∃ k s, uintO L (some 0) = (k, s) := ⟨_, _, rfl⟩
  obtain ⟨d1, s2, e1⟩ : ∃ d s, dT L .num s1 = (d, s) := ⟨_, _, rfl⟩
  obtain ⟨d2, s3, e2⟩ : ∃ d s, dT L .num s2 = (d, s) := ⟨_, _, rfl⟩
  have hM : msgO L = if 8 < k then none else if k = 0 then some ({ Msg.zero with src := d1, dst := d2 }, s3) else some (mkM k d1 d2 (dT L (payT k) s3).1, (dT L (payT k) s3).2) := by
    unfold msgO
    rw [e0]
    simp only [e1, e2]
  have hk64 : k < 2^64 := by have := uintO_lt L (some 0); rw [e0] at this; exact this
  have hbH := h0.lt
  refine pcalls_of_vc (args := [_]) Tryz.func99 c99ok (Nat.le_of_ble_eq_true rfl) ?_
  simp (implicitDefEqProofs := false) only [go_sem, c99, pR]
  refine NewP_intro fun A1 hA hfA hsA => ?_
  simp (implicitDefEqProofs := false) only [go_sem]
  refine NewP_intro fun B1 hB hfB hsB => ?_
  simp (implicitDefEqProofs := false) only [go_sem]
  refine NewP_intro fun C0 hC0 hfC hsC => ?_
  have hbA : H.size ≠ b := by omega
  have hbB : A1.size ≠ b := by omega
  have hbC : B1.size ≠ b := by omega
  have hA0 := (hA.ext hfB).ext hfC
  have hB0 := hB.ext hfC
  have hr0 : RdO C0 b L (some 0) g := ((h0.ext hfA).ext hfB).ext hfC
  have hF0 : Fr [b] H C0 := ((hfA.trans hfB).trans hfC).mono (by simp)
  have hq0 := hA0.cell
  have hz0 : H.size + 3 ≤ C0.size := by omega
  simp (implicitDefEqProofs := false) only [go_sem, hq0]
  refine (ruint_o hr0).mono ?_
  rintro v X0 ⟨rfl, r0, f0⟩
  rw [e0] at r0 ⊢
  simp only at r0
  have hsz0 := f0.size
  have hAx0 := hA0.fr f0 (by simpa using hbA)
  have hBx0 := hB0.fr f0 (by simpa using hbB)
  have hCx0 := hC0.fr f0 (by simpa using hbC)
  by_cases hk8 : 8 < k
  · have hk8' : (8 : Int) < (k : Int) := by omega
    simp (implicitDefEqProofs := false) only [go_sem, hk8']
    exact ⟨rfl, .inl (by rw [hM, if_pos hk8]), hF0.trans f0⟩
  have hk8' : ¬ (8 : Int) < (k : Int) := by omega
  rw [if_neg hk8] at hM
  have hki : IntKind.i64.wrap (k : Int) = (k : Int) := wrap_i64_id _ (by omega) (by omega)
  simp (implicitDefEqProofs := false) only [go_sem, hk8', hki]
  refine Sto_one hCx0 (by simp) rfl fun C1 hC1 fs1 hs1 => ?_
  simp only [List.set_cons_zero, List.set_cons_succ, setL, Nat.add_zero, Nat.zero_add, Nat.reduceAdd] at hC1
  have hA1 := hAx0.fr fs1 (by simp; omega)
  have hB1 := hBx0.fr fs1 (by simp; omega)
  have hr1 := r0.fr fs1 (by simp; omega) (fun k hk => by have := h0.ltg hk; simp; omega)
  have hF1 : Fr [b] H C1 := (hF0.trans f0).trans' fs1 (by simp; omega)
  have hz1 : H.size + 3 ≤ C1.size := by omega
  have hq1 := hA1.cell
  simp (implicitDefEqProofs := false) only [go_sem, hq1]
  refine (rnum_ok hr1).mono ?_
  rintro v X1 ⟨rfl, r1, f1⟩
  rw [e1] at r1 ⊢
  have hsz1 := f1.size
  have hAx1 := hA1.fr f1 (by simpa using hbA)
  have hBx1 := hB1.fr f1 (by simpa using hbB)
  have hCx1 := hC1.fr f1 (by simpa using hbC)
  simp (implicitDefEqProofs := false) only [go_sem]
  refine Sto_one hCx1 (by simp) rfl fun C2 hC2 fs2 hs2 => ?_
  simp only [List.set_cons_zero, List.set_cons_succ, setL, Nat.add_zero, Nat.zero_add, Nat.reduceAdd] at hC2
  have hA2 := hAx1.fr fs2 (by simp; omega)
  have hB2 := hBx1.fr fs2 (by simp; omega)
  have hr2 := r1.fr fs2 (by simp; omega) (fun k hk => by have := h0.ltg hk; simp; omega)
  have hF2 : Fr [b] H C2 := (hF1.trans f1).trans' fs2 (by simp; omega)
  have hz2 : H.size + 3 ≤ C2.size := by omega
  have hq2 := hA2.cell
  simp (implicitDefEqProofs := false) only [go_sem, hq2]
  refine (rnum_ok hr2).mono ?_
  rintro v X2 ⟨rfl, r2, f2⟩
  rw [e2] at r2 ⊢
  have hsz2 := f2.size
  have hAx2 := hA2.fr f2 (by simpa using hbA)
  have hBx2 := hB2.fr f2 (by simpa using hbB)
  have hCx2 := hC2.fr f2 (by simpa using hbC)
  simp (implicitDefEqProofs := false) only [go_sem]
  refine Sto_one hCx2 (by simp) rfl fun C3 hC3 fs3 hs3 => ?_
  simp only [List.set_cons_zero, List.set_cons_succ, setL, Nat.add_zero, Nat.zero_add, Nat.reduceAdd] at hC3
  have hA3 := hAx2.fr fs3 (by simp; omega)
  have hB3 := hBx2.fr fs3 (by simp; omega)
  have hr3 := r2.fr fs3 (by simp; omega) (fun k hk => by have := h0.ltg hk; simp; omega)
  have hF3 : Fr [b] H C3 := (hF2.trans f2).trans' fs3 (by simp; omega)
  have hz3 : H.size + 3 ≤ C3.size := by omega
  have hq3 := hA3.cell
  have hw3 := hC3.cell
  simp (implicitDefEqProofs := false) only [go_sem, hw3]
  by_cases hkk0 : k = 0
  · have hk0 : (k : Int) = 0 := by omega
    subst hkk0
    have hD := hM
    simp only [if_true] at hD
    have hw := hC3.cell
    simp (implicitDefEqProofs := false) only [go_sem, hw, hk0]
    refine Sto_all hB3 rfl ?_ fun Z hZ fz hsz => ?_
    · intro v hv
      simp only [List.mem_cons, List.not_mem_nil, or_false] at hv
      rcases hv with rfl | rfl | rfl | rfl | rfl | rfl | rfl | rfl | rfl | rfl | rfl | rfl | rfl | rfl | rfl
      all_goals first | rfl
    have hcz := hZ.cell
    simp (implicitDefEqProofs := false) only [go_sem, hcz]
    refine ⟨_, _, _, hD, rfl, ?_, hr3.fr fz (by simp; omega) (fun k hk => by have := h0.ltg hk; simp; omega), hF3.trans' fz (by simp; omega)⟩
    exact RepP.pair (RepP.v _) (RepP.pair (RepP.v _) (RepP.pair (RepP.v _) (RepP.pair (RepP.pair (RepP.v _) (RepP.pair (RepP.v _) (RepP.v _))) (RepP.pair (RepP.nil _) (RepP.pair (RepP.nil _) (RepP.pair (RepP.nil _) (RepP.pair (RepP.nil _) (RepP.pair (RepP.nil _) (RepP.pair (RepP.nil _) (RepP.pair (RepP.nil _) (RepP.pair (RepP.v _) (RepP.nil _))))))))))))
  by_cases hkk1 : k = 1
  · have hk1 : (k : Int) = 1 := by omega
    subst hkk1
    obtain ⟨d3, s4, e3⟩ : ∃ d s, dT L tRound s3 = (d, s) := ⟨_, _, rfl⟩
    obtain ⟨d4, s5, e4⟩ : ∃ d s, dT L (.list tRead) s4 = (d, s) := ⟨_, _, rfl⟩
    obtain ⟨d5, s6, e5⟩ : ∃ d s, dT L (.list tBase) s5 = (d, s) := ⟨_, _, rfl⟩
    obtain ⟨d6, s7, e6⟩ : ∃ d s, dT L (.list tCmd) s6 = (d, s) := ⟨_, _, rfl⟩
    have hDD : dT L (payT 1) s3 = ((d3, d4, d5, d6), s7) := by show dT L (.pair tRound (.pair (.list tRead) (.pair (.list tBase) (.list tCmd)))) s3 = _; simp only [dT_pair, e3, e4, e5, e6]
    have hD : msgO L = some (mkM 1 d1 d2 (d3, d4, d5, d6), s7) := by rw [hM, if_neg (by omega), hDD]
    simp (implicitDefEqProofs := false) only [go_sem, hq3, hk1]
    refine PCalls.mono (rround_ok.2 hL hr3) ?_ ?_
    rotate_left
    · rintro c X ⟨rfl, hn, fx⟩
      refine ⟨rfl, .inr ?_, hF3.trans fx⟩
      rw [e3] at hn
      simp only at hn
      subst hn
      have q5 : s5 = none := by rw [← dT_none L (.list tRead), e4]
      subst q5
      have q6 : s6 = none := by rw [← dT_none L (.list tBase), e5]
      subst q6
      have q7 : s7 = none := by rw [← dT_none L (.list tCmd), e6]
      subst q7
      exact ⟨_, hD⟩
    rintro v X3 ⟨cs3, rfl, p3, r3, f3⟩
    rw [e3] at r3 p3
    simp only at r3 p3
    have hsz3 := f3.size
    obtain ⟨y0, y1, y2, rfl⟩ := len3 (rep_wid p3.rep)
    have hAx3 := hA3.fr f3 (by simpa using hbA)
    have hBx3 := hB3.fr f3 (by simpa using hbB)
    have hCx3 := hC3.fr f3 (by simpa using hbC)
    simp (implicitDefEqProofs := false) only [go_sem]
    refine Sto_blk _ _ _ 3 0 hCx3 (by simp) (rep_one p3.rep) fun C4 hC4 fs4 hs4 => ?_
    simp only [List.set_cons_zero, List.set_cons_succ, setL, Nat.add_zero, Nat.zero_add, Nat.reduceAdd] at hC4
    have hA4 := hAx3.fr fs4 (by simp; omega)
    have hB4 := hBx3.fr fs4 (by simp; omega)
    have hr4 := r3.fr fs4 (by simp; omega) (fun k hk => by have := h0.ltg hk; simp; omega)
    have hF4 : Fr [b] H C4 := (hF3.trans f3).trans' fs4 (by simp; omega)
    have hz4 : H.size + 3 ≤ C4.size := by omega
    replace p3 : RepP C4 (fun x => x < H.size + 3) _ _ := RepP.on (m := H.size + 3) p3 fs4 (by simp; omega) (by omega)
    have hq4 := hA4.cell
    simp (implicitDefEqProofs := false) only [go_sem, hq4, hk1]
    refine PCalls.mono (elemsReadID_ok rfl (fun _ => rfl) rread_ok hL hr4) ?_ ?_
    rotate_left
    · rintro c X ⟨rfl, hn, fx⟩
      refine ⟨rfl, .inr ?_, hF4.trans fx⟩
      rw [e4] at hn
      simp only at hn
      subst hn
      have q6 : s6 = none := by rw [← dT_none L (.list tBase), e5]
      subst q6
      have q7 : s7 = none := by rw [← dT_none L (.list tCmd), e6]
      subst q7
      exact ⟨_, hD⟩
    rintro v X4 ⟨cs4, rfl, p4, r4, f4⟩
    rw [e4] at r4 p4
    simp only at r4 p4
    have hsz4 := f4.size
    obtain ⟨a4, c4, rfl, hl4, hm4⟩ := rep_list p4.rep
    have hAx4 := hA4.fr f4 (by simpa using hbA)
    have hBx4 := hB4.fr f4 (by simpa using hbB)
    have hCx4 := hC4.fr f4 (by simpa using hbC)
    simp (implicitDefEqProofs := false) only [go_sem]
    refine Sto_one hCx4 (by simp) rfl fun C5 hC5 fs5 hs5 => ?_
    simp only [List.set_cons_zero, List.set_cons_succ, setL, Nat.add_zero, Nat.zero_add, Nat.reduceAdd] at hC5
    have hA5 := hAx4.fr fs5 (by simp; omega)
    have hB5 := hBx4.fr fs5 (by simp; omega)
    have hr5 := r4.fr fs5 (by simp; omega) (fun k hk => by have := h0.ltg hk; simp; omega)
    have hF5 : Fr [b] H C5 := (hF4.trans f4).trans' fs5 (by simp; omega)
    have hz5 : H.size + 3 ≤ C5.size := by omega
    replace p3 := RepP.on (RepP.on p3 f4 (by simp; omega) (Nat.le_refl _)) fs5 (by simp; omega) (Nat.le_refl _)
    replace p4 : RepP C5 (fun x => x < H.size + 3) _ _ := RepP.on (m := H.size + 3) p4 fs5 (by simp; omega) (by omega)
    have hq5 := hA5.cell
    simp (implicitDefEqProofs := false) only [go_sem, hq5, hk1]
    refine PCalls.mono (elemsBase_ok rfl (fun _ => rfl) rbase_ok hL hr5) ?_ ?_
    rotate_left
    · rintro c X ⟨rfl, hn, fx⟩
      refine ⟨rfl, .inr ?_, hF5.trans fx⟩
      rw [e5] at hn
      simp only at hn
      subst hn
      have q7 : s7 = none := by rw [← dT_none L (.list tCmd), e6]
      subst q7
      exact ⟨_, hD⟩
    rintro v X5 ⟨cs5, rfl, p5, r5, f5⟩
    rw [e5] at r5 p5
    simp only at r5 p5
    have hsz5 := f5.size
    obtain ⟨a5, c5, rfl, hl5, hm5⟩ := rep_list p5.rep
    have hAx5 := hA5.fr f5 (by simpa using hbA)
    have hBx5 := hB5.fr f5 (by simpa using hbB)
    have hCx5 := hC5.fr f5 (by simpa using hbC)
    simp (implicitDefEqProofs := false) only [go_sem]
    refine Sto_one hCx5 (by simp) rfl fun C6 hC6 fs6 hs6 => ?_
    simp only [List.set_cons_zero, List.set_cons_succ, setL, Nat.add_zero, Nat.zero_add, Nat.reduceAdd] at hC6
    have hA6 := hAx5.fr fs6 (by simp; omega)
    have hB6 := hBx5.fr fs6 (by simp; omega)
    have hr6 := r5.fr fs6 (by simp; omega) (fun k hk => by have := h0.ltg hk; simp; omega)
    have hF6 : Fr [b] H C6 := (hF5.trans f5).trans' fs6 (by simp; omega)
    have hz6 : H.size + 3 ≤ C6.size := by omega
    replace p3 := RepP.on (RepP.on p3 f5 (by simp; omega) (Nat.le_refl _)) fs6 (by simp; omega) (Nat.le_refl _)
    replace p4 := RepP.on (RepP.on p4 f5 (by simp; omega) (Nat.le_refl _)) fs6 (by simp; omega) (Nat.le_refl _)
    replace p5 : RepP C6 (fun x => x < H.size + 3) _ _ := RepP.on (m := H.size + 3) p5 fs6 (by simp; omega) (by omega)
    have hq6 := hA6.cell
    simp (implicitDefEqProofs := false) only [go_sem, hq6, hk1]
    refine PCalls.mono (elemsCommand_ok rfl (fun _ => rfl) rcommand_ok hL hr6) ?_ ?_
    rotate_left
    · rintro c X ⟨rfl, hn, fx⟩
      refine ⟨rfl, .inr ?_, hF6.trans fx⟩
      rw [e6] at hn
      simp only at hn
      subst hn
      exact ⟨_, hD⟩
    rintro v X6 ⟨cs6, rfl, p6, r6, f6⟩
    rw [e6] at r6 p6
    simp only at r6 p6
    have hsz6 := f6.size
    obtain ⟨a6, c6, rfl, hl6, hm6⟩ := rep_list p6.rep
    have hAx6 := hA6.fr f6 (by simpa using hbA)
    have hBx6 := hB6.fr f6 (by simpa using hbB)
    have hCx6 := hC6.fr f6 (by simpa using hbC)
    simp (implicitDefEqProofs := false) only [go_sem]
    refine Sto_one hCx6 (by simp) rfl fun C7 hC7 fs7 hs7 => ?_
    simp only [List.set_cons_zero, List.set_cons_succ, setL, Nat.add_zero, Nat.zero_add, Nat.reduceAdd] at hC7
    have hA7 := hAx6.fr fs7 (by simp; omega)
    have hB7 := hBx6.fr fs7 (by simp; omega)
    have hr7 := r6.fr fs7 (by simp; omega) (fun k hk => by have := h0.ltg hk; simp; omega)
    have hF7 : Fr [b] H C7 := (hF6.trans f6).trans' fs7 (by simp; omega)
    have hz7 : H.size + 3 ≤ C7.size := by omega
    replace p3 := RepP.on (RepP.on p3 f6 (by simp; omega) (Nat.le_refl _)) fs7 (by simp; omega) (Nat.le_refl _)
    replace p4 := RepP.on (RepP.on p4 f6 (by simp; omega) (Nat.le_refl _)) fs7 (by simp; omega) (Nat.le_refl _)
    replace p5 := RepP.on (RepP.on p5 f6 (by simp; omega) (Nat.le_refl _)) fs7 (by simp; omega) (Nat.le_refl _)
    replace p6 : RepP C7 (fun x => x < H.size + 3) _ _ := RepP.on (m := H.size + 3) p6 fs7 (by simp; omega) (by omega)
    have hq7 := hA7.cell
    have hw := hC7.cell
    simp (implicitDefEqProofs := false) only [go_sem, hw, hk1]
    refine Sto_all hB7 rfl ?_ fun Z hZ fz hsz => ?_
    · intro v hv
      simp only [List.mem_cons, List.not_mem_nil, or_false] at hv
      rcases hv with rfl | rfl | rfl | rfl | rfl | rfl | rfl | rfl | rfl | rfl | rfl | rfl | rfl | rfl | rfl
      all_goals first | rfl | exact rep_one p3.rep _ (by simp)
    have hcz := hZ.cell
    simp (implicitDefEqProofs := false) only [go_sem, hcz]
    replace p3 := RepP.on p3 fz (by simp; omega) (show H.size ≤ H.size + 3 by omega)
    replace p4 := RepP.on p4 fz (by simp; omega) (show H.size ≤ H.size + 3 by omega)
    replace p5 := RepP.on p5 fz (by simp; omega) (show H.size ≤ H.size + 3 by omega)
    replace p6 := RepP.on p6 fz (by simp; omega) (show H.size ≤ H.size + 3 by omega)
    refine ⟨_, _, _, hD, rfl, ?_, hr7.fr fz (by simp; omega) (fun k hk => by have := h0.ltg hk; simp; omega), hF7.trans' fz (by simp; omega)⟩
    exact RepP.pair (RepP.v _) (RepP.pair (RepP.v _) (RepP.pair (RepP.v _) (RepP.pair (p3) (RepP.pair (p4) (RepP.pair (p5) (RepP.pair (p6) (RepP.pair (RepP.nil _) (RepP.pair (RepP.nil _) (RepP.pair (RepP.nil _) (RepP.pair (RepP.nil _) (RepP.pair (RepP.v _) (RepP.nil _))))))))))))
  by_cases hkk2 : k = 2
  · have hk2 : (k : Int) = 2 := by omega
    subst hkk2
    obtain ⟨d3, s4, e3⟩ : ∃ d s, dT L tRound s3 = (d, s) := ⟨_, _, rfl⟩
    obtain ⟨d4, s5, e4⟩ : ∃ d s, dT L (.list tCmd) s4 = (d, s) := ⟨_, _, rfl⟩
    obtain ⟨d5, s6, e5⟩ : ∃ d s, dT L (.list tBase) s5 = (d, s) := ⟨_, _, rfl⟩
    obtain ⟨d6, s7, e6⟩ : ∃ d s, dT L (.list tAck) s6 = (d, s) := ⟨_, _, rfl⟩
    have hDD : dT L (payT 2) s3 = ((d3, d4, d5, d6), s7) := by show dT L (.pair tRound (.pair (.list tCmd) (.pair (.list tBase) (.list tAck)))) s3 = _; simp only [dT_pair, e3, e4, e5, e6]
    have hD : msgO L = some (mkM 2 d1 d2 (d3, d4, d5, d6), s7) := by rw [hM, if_neg (by omega), hDD]
    simp (implicitDefEqProofs := false) only [go_sem, hq3, hk2]
    refine PCalls.mono (rround_ok.2 hL hr3) ?_ ?_
    rotate_left
    · rintro c X ⟨rfl, hn, fx⟩
      refine ⟨rfl, .inr ?_, hF3.trans fx⟩
      rw [e3] at hn
      simp only at hn
      subst hn
      have q5 : s5 = none := by rw [← dT_none L (.list tCmd), e4]
      subst q5
      have q6 : s6 = none := by rw [← dT_none L (.list tBase), e5]
      subst q6
      have q7 : s7 = none := by rw [← dT_none L (.list tAck), e6]
      subst q7
      exact ⟨_, hD⟩
    rintro v X3 ⟨cs3, rfl, p3, r3, f3⟩
    rw [e3] at r3 p3
    simp only at r3 p3
    have hsz3 := f3.size
    obtain ⟨y0, y1, y2, rfl⟩ := len3 (rep_wid p3.rep)
    have hAx3 := hA3.fr f3 (by simpa using hbA)
    have hBx3 := hB3.fr f3 (by simpa using hbB)
    have hCx3 := hC3.fr f3 (by simpa using hbC)
    simp (implicitDefEqProofs := false) only [go_sem]
    refine Sto_blk _ _ _ 3 0 hCx3 (by simp) (rep_one p3.rep) fun C4 hC4 fs4 hs4 => ?_
    simp only [List.set_cons_zero, List.set_cons_succ, setL, Nat.add_zero, Nat.zero_add, Nat.reduceAdd] at hC4
    have hA4 := hAx3.fr fs4 (by simp; omega)
    have hB4 := hBx3.fr fs4 (by simp; omega)
    have hr4 := r3.fr fs4 (by simp; omega) (fun k hk => by have := h0.ltg hk; simp; omega)
    have hF4 : Fr [b] H C4 := (hF3.trans f3).trans' fs4 (by simp; omega)
    have hz4 : H.size + 3 ≤ C4.size := by omega
    replace p3 : RepP C4 (fun x => x < H.size + 3) _ _ := RepP.on (m := H.size + 3) p3 fs4 (by simp; omega) (by omega)
    have hq4 := hA4.cell
    simp (implicitDefEqProofs := false) only [go_sem, hq4, hk2]
    refine PCalls.mono (elemsCommand_ok rfl (fun _ => rfl) rcommand_ok hL hr4) ?_ ?_
    rotate_left
    · rintro c X ⟨rfl, hn, fx⟩
      refine ⟨rfl, .inr ?_, hF4.trans fx⟩
      rw [e4] at hn
      simp only at hn
      subst hn
      have q6 : s6 = none := by rw [← dT_none L (.list tBase), e5]
      subst q6
      have q7 : s7 = none := by rw [← dT_none L (.list tAck), e6]
      subst q7
      exact ⟨_, hD⟩
    rintro v X4 ⟨cs4, rfl, p4, r4, f4⟩
    rw [e4] at r4 p4
    simp only at r4 p4
    have hsz4 := f4.size
    obtain ⟨a4, c4, rfl, hl4, hm4⟩ := rep_list p4.rep
    have hAx4 := hA4.fr f4 (by simpa using hbA)
    have hBx4 := hB4.fr f4 (by simpa using hbB)
    have hCx4 := hC4.fr f4 (by simpa using hbC)
    simp (implicitDefEqProofs := false) only [go_sem]
    refine Sto_one hCx4 (by simp) rfl fun C5 hC5 fs5 hs5 => ?_
    simp only [List.set_cons_zero, List.set_cons_succ, setL, Nat.add_zero, Nat.zero_add, Nat.reduceAdd] at hC5
    have hA5 := hAx4.fr fs5 (by simp; omega)
    have hB5 := hBx4.fr fs5 (by simp; omega)
    have hr5 := r4.fr fs5 (by simp; omega) (fun k hk => by have := h0.ltg hk; simp; omega)
    have hF5 : Fr [b] H C5 := (hF4.trans f4).trans' fs5 (by simp; omega)
    have hz5 : H.size + 3 ≤ C5.size := by omega
    replace p3 := RepP.on (RepP.on p3 f4 (by simp; omega) (Nat.le_refl _)) fs5 (by simp; omega) (Nat.le_refl _)
    replace p4 : RepP C5 (fun x => x < H.size + 3) _ _ := RepP.on (m := H.size + 3) p4 fs5 (by simp; omega) (by omega)
    have hq5 := hA5.cell
    simp (implicitDefEqProofs := false) only [go_sem, hq5, hk2]
    refine PCalls.mono (elemsBase_ok rfl (fun _ => rfl) rbase_ok hL hr5) ?_ ?_
    rotate_left
    · rintro c X ⟨rfl, hn, fx⟩
      refine ⟨rfl, .inr ?_, hF5.trans fx⟩
      rw [e5] at hn
      simp only at hn
      subst hn
      have q7 : s7 = none := by rw [← dT_none L (.list tAck), e6]
      subst q7
      exact ⟨_, hD⟩
    rintro v X5 ⟨cs5, rfl, p5, r5, f5⟩
    rw [e5] at r5 p5
    simp only at r5 p5
    have hsz5 := f5.size
    obtain ⟨a5, c5, rfl, hl5, hm5⟩ := rep_list p5.rep
    have hAx5 := hA5.fr f5 (by simpa using hbA)
    have hBx5 := hB5.fr f5 (by simpa using hbB)
    have hCx5 := hC5.fr f5 (by simpa using hbC)
    simp (implicitDefEqProofs := false) only [go_sem]
    refine Sto_one hCx5 (by simp) rfl fun C6 hC6 fs6 hs6 => ?_
    simp only [List.set_cons_zero, List.set_cons_succ, setL, Nat.add_zero, Nat.zero_add, Nat.reduceAdd] at hC6
    have hA6 := hAx5.fr fs6 (by simp; omega)
    have hB6 := hBx5.fr fs6 (by simp; omega)
    have hr6 := r5.fr fs6 (by simp; omega) (fun k hk => by have := h0.ltg hk; simp; omega)
    have hF6 : Fr [b] H C6 := (hF5.trans f5).trans' fs6 (by simp; omega)
    have hz6 : H.size + 3 ≤ C6.size := by omega
    replace p3 := RepP.on (RepP.on p3 f5 (by simp; omega) (Nat.le_refl _)) fs6 (by simp; omega) (Nat.le_refl _)
    replace p4 := RepP.on (RepP.on p4 f5 (by simp; omega) (Nat.le_refl _)) fs6 (by simp; omega) (Nat.le_refl _)
    replace p5 : RepP C6 (fun x => x < H.size + 3) _ _ := RepP.on (m := H.size + 3) p5 fs6 (by simp; omega) (by omega)
    have hq6 := hA6.cell
    simp (implicitDefEqProofs := false) only [go_sem, hq6, hk2]
    refine PCalls.mono (elemsAck_ok rfl (fun _ => rfl) rack_ok hL hr6) ?_ ?_
    rotate_left
    · rintro c X ⟨rfl, hn, fx⟩
      refine ⟨rfl, .inr ?_, hF6.trans fx⟩
      rw [e6] at hn
      simp only at hn
      subst hn
      exact ⟨_, hD⟩
    rintro v X6 ⟨cs6, rfl, p6, r6, f6⟩
    rw [e6] at r6 p6
    simp only at r6 p6
    have hsz6 := f6.size
    obtain ⟨a6, c6, rfl, hl6, hm6⟩ := rep_list p6.rep
    have hAx6 := hA6.fr f6 (by simpa using hbA)
    have hBx6 := hB6.fr f6 (by simpa using hbB)
    have hCx6 := hC6.fr f6 (by simpa using hbC)
    simp (implicitDefEqProofs := false) only [go_sem]
    refine Sto_one hCx6 (by simp) rfl fun C7 hC7 fs7 hs7 => ?_
    simp only [List.set_cons_zero, List.set_cons_succ, setL, Nat.add_zero, Nat.zero_add, Nat.reduceAdd] at hC7
    have hA7 := hAx6.fr fs7 (by simp; omega)
    have hB7 := hBx6.fr fs7 (by simp; omega)
    have hr7 := r6.fr fs7 (by simp; omega) (fun k hk => by have := h0.ltg hk; simp; omega)
    have hF7 : Fr [b] H C7 := (hF6.trans f6).trans' fs7 (by simp; omega)
    have hz7 : H.size + 3 ≤ C7.size := by omega
    replace p3 := RepP.on (RepP.on p3 f6 (by simp; omega) (Nat.le_refl _)) fs7 (by simp; omega) (Nat.le_refl _)
    replace p4 := RepP.on (RepP.on p4 f6 (by simp; omega) (Nat.le_refl _)) fs7 (by simp; omega) (Nat.le_refl _)
    replace p5 := RepP.on (RepP.on p5 f6 (by simp; omega) (Nat.le_refl _)) fs7 (by simp; omega) (Nat.le_refl _)
    replace p6 : RepP C7 (fun x => x < H.size + 3) _ _ := RepP.on (m := H.size + 3) p6 fs7 (by simp; omega) (by omega)
    have hq7 := hA7.cell
    have hw := hC7.cell
    simp (implicitDefEqProofs := false) only [go_sem, hw, hk2]
    refine Sto_all hB7 rfl ?_ fun Z hZ fz hsz => ?_
    · intro v hv
      simp only [List.mem_cons, List.not_mem_nil, or_false] at hv
      rcases hv with rfl | rfl | rfl | rfl | rfl | rfl | rfl | rfl | rfl | rfl | rfl | rfl | rfl | rfl | rfl
      all_goals first | rfl | exact rep_one p3.rep _ (by simp)
    have hcz := hZ.cell
    simp (implicitDefEqProofs := false) only [go_sem, hcz]
    replace p3 := RepP.on p3 fz (by simp; omega) (show H.size ≤ H.size + 3 by omega)
    replace p4 := RepP.on p4 fz (by simp; omega) (show H.size ≤ H.size + 3 by omega)
    replace p5 := RepP.on p5 fz (by simp; omega) (show H.size ≤ H.size + 3 by omega)
    replace p6 := RepP.on p6 fz (by simp; omega) (show H.size ≤ H.size + 3 by omega)
    refine ⟨_, _, _, hD, rfl, ?_, hr7.fr fz (by simp; omega) (fun k hk => by have := h0.ltg hk; simp; omega), hF7.trans' fz (by simp; omega)⟩
    exact RepP.pair (RepP.v _) (RepP.pair (RepP.v _) (RepP.pair (RepP.v _) (RepP.pair (p3) (RepP.pair (RepP.nil _) (RepP.pair (p5) (RepP.pair (p4) (RepP.pair (p6) (RepP.pair (RepP.nil _) (RepP.pair (RepP.nil _) (RepP.pair (RepP.nil _) (RepP.pair (RepP.v _) (RepP.nil _))))))))))))
  by_cases hkk3 : k = 3
  · have hk3 : (k : Int) = 3 := by omega
    subst hkk3
    obtain ⟨d3, s4, e3⟩ : ∃ d s, dT L (.list tProof) s3 = (d, s) := ⟨_, _, rfl⟩
    obtain ⟨d4, s5, e4⟩ : ∃ d s, dT L (.list tCmd) s4 = (d, s) := ⟨_, _, rfl⟩
    have hDD : dT L (payT 3) s3 = ((d3, d4), s5) := by show dT L (.pair (.list tProof) (.list tCmd)) s3 = _; simp only [dT_pair, e3, e4]
    have hD : msgO L = some (mkM 3 d1 d2 (d3, d4), s5) := by rw [hM, if_neg (by omega), hDD]
    simp (implicitDefEqProofs := false) only [go_sem, hq3, hk3]
    refine PCalls.mono (elemsProof_ok rfl (fun _ => rfl) rproof_ok hL hr3) ?_ ?_
    rotate_left
    · rintro c X ⟨rfl, hn, fx⟩
      refine ⟨rfl, .inr ?_, hF3.trans fx⟩
      rw [e3] at hn
      simp only at hn
      subst hn
      have q5 : s5 = none := by rw [← dT_none L (.list tCmd), e4]
      subst q5
      exact ⟨_, hD⟩
    rintro v X3 ⟨cs3, rfl, p3, r3, f3⟩
    rw [e3] at r3 p3
    simp only at r3 p3
    have hsz3 := f3.size
    obtain ⟨a3, c3, rfl, hl3, hm3⟩ := rep_list p3.rep
    have hAx3 := hA3.fr f3 (by simpa using hbA)
    have hBx3 := hB3.fr f3 (by simpa using hbB)
    have hCx3 := hC3.fr f3 (by simpa using hbC)
    simp (implicitDefEqProofs := false) only [go_sem]
    refine Sto_one hCx3 (by simp) rfl fun C4 hC4 fs4 hs4 => ?_
    simp only [List.set_cons_zero, List.set_cons_succ, setL, Nat.add_zero, Nat.zero_add, Nat.reduceAdd] at hC4
    have hA4 := hAx3.fr fs4 (by simp; omega)
    have hB4 := hBx3.fr fs4 (by simp; omega)
    have hr4 := r3.fr fs4 (by simp; omega) (fun k hk => by have := h0.ltg hk; simp; omega)
    have hF4 : Fr [b] H C4 := (hF3.trans f3).trans' fs4 (by simp; omega)
    have hz4 : H.size + 3 ≤ C4.size := by omega
    replace p3 : RepP C4 (fun x => x < H.size + 3) _ _ := RepP.on (m := H.size + 3) p3 fs4 (by simp; omega) (by omega)
    have hq4 := hA4.cell
    simp (implicitDefEqProofs := false) only [go_sem, hq4, hk3]
    refine PCalls.mono (elemsCommand_ok rfl (fun _ => rfl) rcommand_ok hL hr4) ?_ ?_
    rotate_left
    · rintro c X ⟨rfl, hn, fx⟩
      refine ⟨rfl, .inr ?_, hF4.trans fx⟩
      rw [e4] at hn
      simp only at hn
      subst hn
      exact ⟨_, hD⟩
    rintro v X4 ⟨cs4, rfl, p4, r4, f4⟩
    rw [e4] at r4 p4
    simp only at r4 p4
    have hsz4 := f4.size
    obtain ⟨a4, c4, rfl, hl4, hm4⟩ := rep_list p4.rep
    have hAx4 := hA4.fr f4 (by simpa using hbA)
    have hBx4 := hB4.fr f4 (by simpa using hbB)
    have hCx4 := hC4.fr f4 (by simpa using hbC)
    simp (implicitDefEqProofs := false) only [go_sem]
    refine Sto_one hCx4 (by simp) rfl fun C5 hC5 fs5 hs5 => ?_
    simp only [List.set_cons_zero, List.set_cons_succ, setL, Nat.add_zero, Nat.zero_add, Nat.reduceAdd] at hC5
    have hA5 := hAx4.fr fs5 (by simp; omega)
    have hB5 := hBx4.fr fs5 (by simp; omega)
    have hr5 := r4.fr fs5 (by simp; omega) (fun k hk => by have := h0.ltg hk; simp; omega)
    have hF5 : Fr [b] H C5 := (hF4.trans f4).trans' fs5 (by simp; omega)
    have hz5 : H.size + 3 ≤ C5.size := by omega
    replace p3 := RepP.on (RepP.on p3 f4 (by simp; omega) (Nat.le_refl _)) fs5 (by simp; omega) (Nat.le_refl _)
    replace p4 : RepP C5 (fun x => x < H.size + 3) _ _ := RepP.on (m := H.size + 3) p4 fs5 (by simp; omega) (by omega)
    have hq5 := hA5.cell
    have hw := hC5.cell
    simp (implicitDefEqProofs := false) only [go_sem, hw, hk3]
    refine Sto_all hB5 rfl ?_ fun Z hZ fz hsz => ?_
    · intro v hv
      simp only [List.mem_cons, List.not_mem_nil, or_false] at hv
      rcases hv with rfl | rfl | rfl | rfl | rfl | rfl | rfl | rfl | rfl | rfl | rfl | rfl | rfl | rfl | rfl
      all_goals first | rfl
    have hcz := hZ.cell
    simp (implicitDefEqProofs := false) only [go_sem, hcz]
    replace p3 := RepP.on p3 fz (by simp; omega) (show H.size ≤ H.size + 3 by omega)
    replace p4 := RepP.on p4 fz (by simp; omega) (show H.size ≤ H.size + 3 by omega)
    refine ⟨_, _, _, hD, rfl, ?_, hr5.fr fz (by simp; omega) (fun k hk => by have := h0.ltg hk; simp; omega), hF5.trans' fz (by simp; omega)⟩
    exact RepP.pair (RepP.v _) (RepP.pair (RepP.v _) (RepP.pair (RepP.v _) (RepP.pair (RepP.pair (RepP.v _) (RepP.pair (RepP.v _) (RepP.v _))) (RepP.pair (RepP.nil _) (RepP.pair (RepP.nil _) (RepP.pair (p4) (RepP.pair (RepP.nil _) (RepP.pair (p3) (RepP.pair (RepP.nil _) (RepP.pair (RepP.nil _) (RepP.pair (RepP.v _) (RepP.nil _))))))))))))
  by_cases hkk4 : k = 4
  · have hk4 : (k : Int) = 4 := by omega
    subst hkk4
    obtain ⟨d3, s4, e3⟩ : ∃ d s, dT L (.list tDigest) s3 = (d, s) := ⟨_, _, rfl⟩
    have hDD : dT L (payT 4) s3 = (d3, s4) := e3
    have hD : msgO L = some (mkM 4 d1 d2 (d3), s4) := by rw [hM, if_neg (by omega), hDD]
    simp (implicitDefEqProofs := false) only [go_sem, hq3, hk4]
    refine PCalls.mono (elemsDigest_ok rfl (fun _ => rfl) rdigest_ok hL hr3) ?_ ?_
    rotate_left
    · rintro c X ⟨rfl, hn, fx⟩
      refine ⟨rfl, .inr ?_, hF3.trans fx⟩
      rw [e3] at hn
      simp only at hn
      subst hn
      exact ⟨_, hD⟩
    rintro v X3 ⟨cs3, rfl, p3, r3, f3⟩
    rw [e3] at r3 p3
    simp only at r3 p3
    have hsz3 := f3.size
    obtain ⟨a3, c3, rfl, hl3, hm3⟩ := rep_list p3.rep
    have hAx3 := hA3.fr f3 (by simpa using hbA)
    have hBx3 := hB3.fr f3 (by simpa using hbB)
    have hCx3 := hC3.fr f3 (by simpa using hbC)
    simp (implicitDefEqProofs := false) only [go_sem]
    refine Sto_one hCx3 (by simp) rfl fun C4 hC4 fs4 hs4 => ?_
    simp only [List.set_cons_zero, List.set_cons_succ, setL, Nat.add_zero, Nat.zero_add, Nat.reduceAdd] at hC4
    have hA4 := hAx3.fr fs4 (by simp; omega)
    have hB4 := hBx3.fr fs4 (by simp; omega)
    have hr4 := r3.fr fs4 (by simp; omega) (fun k hk => by have := h0.ltg hk; simp; omega)
    have hF4 : Fr [b] H C4 := (hF3.trans f3).trans' fs4 (by simp; omega)
    have hz4 : H.size + 3 ≤ C4.size := by omega
    replace p3 : RepP C4 (fun x => x < H.size + 3) _ _ := RepP.on (m := H.size + 3) p3 fs4 (by simp; omega) (by omega)
    have hq4 := hA4.cell
    have hw := hC4.cell
    simp (implicitDefEqProofs := false) only [go_sem, hw, hk4]
    refine Sto_all hB4 rfl ?_ fun Z hZ fz hsz => ?_
    · intro v hv
      simp only [List.mem_cons, List.not_mem_nil, or_false] at hv
      rcases hv with rfl | rfl | rfl | rfl | rfl | rfl | rfl | rfl | rfl | rfl | rfl | rfl | rfl | rfl | rfl
      all_goals first | rfl
    have hcz := hZ.cell
    simp (implicitDefEqProofs := false) only [go_sem, hcz]
    replace p3 := RepP.on p3 fz (by simp; omega) (show H.size ≤ H.size + 3 by omega)
    refine ⟨_, _, _, hD, rfl, ?_, hr4.fr fz (by simp; omega) (fun k hk => by have := h0.ltg hk; simp; omega), hF4.trans' fz (by simp; omega)⟩
    exact RepP.pair (RepP.v _) (RepP.pair (RepP.v _) (RepP.pair (RepP.v _) (RepP.pair (RepP.pair (RepP.v _) (RepP.pair (RepP.v _) (RepP.v _))) (RepP.pair (RepP.nil _) (RepP.pair (RepP.nil _) (RepP.pair (RepP.nil _) (RepP.pair (RepP.nil _) (RepP.pair (RepP.nil _) (RepP.pair (p3) (RepP.pair (RepP.nil _) (RepP.pair (RepP.v _) (RepP.nil _))))))))))))
  by_cases hkk5 : k = 5
  · have hk5 : (k : Int) = 5 := by omega
    subst hkk5
    obtain ⟨d3, s4, e3⟩ : ∃ d s, dT L (.list tCmd) s3 = (d, s) := ⟨_, _, rfl⟩
    have hDD : dT L (payT 5) s3 = (d3, s4) := e3
    have hD : msgO L = some (mkM 5 d1 d2 (d3), s4) := by rw [hM, if_neg (by omega), hDD]
    simp (implicitDefEqProofs := false) only [go_sem, hq3, hk5]
    refine PCalls.mono (elemsCommand_ok rfl (fun _ => rfl) rcommand_ok hL hr3) ?_ ?_
    rotate_left
    · rintro c X ⟨rfl, hn, fx⟩
      refine ⟨rfl, .inr ?_, hF3.trans fx⟩
      rw [e3] at hn
      simp only at hn
      subst hn
      exact ⟨_, hD⟩
    rintro v X3 ⟨cs3, rfl, p3, r3, f3⟩
    rw [e3] at r3 p3
    simp only at r3 p3
    have hsz3 := f3.size
    obtain ⟨a3, c3, rfl, hl3, hm3⟩ := rep_list p3.rep
    have hAx3 := hA3.fr f3 (by simpa using hbA)
    have hBx3 := hB3.fr f3 (by simpa using hbB)
    have hCx3 := hC3.fr f3 (by simpa using hbC)
    simp (implicitDefEqProofs := false) only [go_sem]
    refine Sto_one hCx3 (by simp) rfl fun C4 hC4 fs4 hs4 => ?_
    simp only [List.set_cons_zero, List.set_cons_succ, setL, Nat.add_zero, Nat.zero_add, Nat.reduceAdd] at hC4
    have hA4 := hAx3.fr fs4 (by simp; omega)
    have hB4 := hBx3.fr fs4 (by simp; omega)
    have hr4 := r3.fr fs4 (by simp; omega) (fun k hk => by have := h0.ltg hk; simp; omega)
    have hF4 : Fr [b] H C4 := (hF3.trans f3).trans' fs4 (by simp; omega)
    have hz4 : H.size + 3 ≤ C4.size := by omega
    replace p3 : RepP C4 (fun x => x < H.size + 3) _ _ := RepP.on (m := H.size + 3) p3 fs4 (by simp; omega) (by omega)
    have hq4 := hA4.cell
    have hw := hC4.cell
    simp (implicitDefEqProofs := false) only [go_sem, hw, hk5]
    refine Sto_all hB4 rfl ?_ fun Z hZ fz hsz => ?_
    · intro v hv
      simp only [List.mem_cons, List.not_mem_nil, or_false] at hv
      rcases hv with rfl | rfl | rfl | rfl | rfl | rfl | rfl | rfl | rfl | rfl | rfl | rfl | rfl | rfl | rfl
      all_goals first | rfl
    have hcz := hZ.cell
    simp (implicitDefEqProofs := false) only [go_sem, hcz]
    replace p3 := RepP.on p3 fz (by simp; omega) (show H.size ≤ H.size + 3 by omega)
    refine ⟨_, _, _, hD, rfl, ?_, hr4.fr fz (by simp; omega) (fun k hk => by have := h0.ltg hk; simp; omega), hF4.trans' fz (by simp; omega)⟩
    exact RepP.pair (RepP.v _) (RepP.pair (RepP.v _) (RepP.pair (RepP.v _) (RepP.pair (RepP.pair (RepP.v _) (RepP.pair (RepP.v _) (RepP.v _))) (RepP.pair (RepP.nil _) (RepP.pair (RepP.nil _) (RepP.pair (p3) (RepP.pair (RepP.nil _) (RepP.pair (RepP.nil _) (RepP.pair (RepP.nil _) (RepP.pair (RepP.nil _) (RepP.pair (RepP.v _) (RepP.nil _))))))))))))
  by_cases hkk6 : k = 6
  · have hk6 : (k : Int) = 6 := by omega
    subst hkk6
    obtain ⟨d3, s4, e3⟩ : ∃ d s, dT L (.list tCmd) s3 = (d, s) := ⟨_, _, rfl⟩
    have hDD : dT L (payT 6) s3 = (d3, s4) := e3
    have hD : msgO L = some (mkM 6 d1 d2 (d3), s4) := by rw [hM, if_neg (by omega), hDD]
    simp (implicitDefEqProofs := false) only [go_sem, hq3, hk6]
    refine PCalls.mono (elemsCommand_ok rfl (fun _ => rfl) rcommand_ok hL hr3) ?_ ?_
    rotate_left
    · rintro c X ⟨rfl, hn, fx⟩
      refine ⟨rfl, .inr ?_, hF3.trans fx⟩
      rw [e3] at hn
      simp only at hn
      subst hn
      exact ⟨_, hD⟩
    rintro v X3 ⟨cs3, rfl, p3, r3, f3⟩
    rw [e3] at r3 p3
    simp only at r3 p3
    have hsz3 := f3.size
    obtain ⟨a3, c3, rfl, hl3, hm3⟩ := rep_list p3.rep
    have hAx3 := hA3.fr f3 (by simpa using hbA)
    have hBx3 := hB3.fr f3 (by simpa using hbB)
    have hCx3 := hC3.fr f3 (by simpa using hbC)
    simp (implicitDefEqProofs := false) only [go_sem]
    refine Sto_one hCx3 (by simp) rfl fun C4 hC4 fs4 hs4 => ?_
    simp only [List.set_cons_zero, List.set_cons_succ, setL, Nat.add_zero, Nat.zero_add, Nat.reduceAdd] at hC4
    have hA4 := hAx3.fr fs4 (by simp; omega)
    have hB4 := hBx3.fr fs4 (by simp; omega)
    have hr4 := r3.fr fs4 (by simp; omega) (fun k hk => by have := h0.ltg hk; simp; omega)
    have hF4 : Fr [b] H C4 := (hF3.trans f3).trans' fs4 (by simp; omega)
    have hz4 : H.size + 3 ≤ C4.size := by omega
    replace p3 : RepP C4 (fun x => x < H.size + 3) _ _ := RepP.on (m := H.size + 3) p3 fs4 (by simp; omega) (by omega)
    have hq4 := hA4.cell
    have hw := hC4.cell
    simp (implicitDefEqProofs := false) only [go_sem, hw, hk6]
    refine Sto_all hB4 rfl ?_ fun Z hZ fz hsz => ?_
    · intro v hv
      simp only [List.mem_cons, List.not_mem_nil, or_false] at hv
      rcases hv with rfl | rfl | rfl | rfl | rfl | rfl | rfl | rfl | rfl | rfl | rfl | rfl | rfl | rfl | rfl
      all_goals first | rfl
    have hcz := hZ.cell
    simp (implicitDefEqProofs := false) only [go_sem, hcz]
    replace p3 := RepP.on p3 fz (by simp; omega) (show H.size ≤ H.size + 3 by omega)
    refine ⟨_, _, _, hD, rfl, ?_, hr4.fr fz (by simp; omega) (fun k hk => by have := h0.ltg hk; simp; omega), hF4.trans' fz (by simp; omega)⟩
    exact RepP.pair (RepP.v _) (RepP.pair (RepP.v _) (RepP.pair (RepP.v _) (RepP.pair (RepP.pair (RepP.v _) (RepP.pair (RepP.v _) (RepP.v _))) (RepP.pair (RepP.nil _) (RepP.pair (RepP.nil _) (RepP.pair (p3) (RepP.pair (RepP.nil _) (RepP.pair (RepP.nil _) (RepP.pair (RepP.nil _) (RepP.pair (RepP.nil _) (RepP.pair (RepP.v _) (RepP.nil _))))))))))))
  by_cases hkk7 : k = 7
  · have hk7 : (k : Int) = 7 := by omega
    subst hkk7
    obtain ⟨d3, s4, e3⟩ : ∃ d s, dT L (.list tRead) s3 = (d, s) := ⟨_, _, rfl⟩
    obtain ⟨d4, s5, e4⟩ : ∃ d s, dT L (.list .text) s4 = (d, s) := ⟨_, _, rfl⟩
    have hDD : dT L (payT 7) s3 = ((d3, d4), s5) := by show dT L (.pair (.list tRead) (.list .text)) s3 = _; simp only [dT_pair, e3, e4]
    have hD : msgO L = some (mkM 7 d1 d2 (d3, d4), s5) := by rw [hM, if_neg (by omega), hDD]
    simp (implicitDefEqProofs := false) only [go_sem, hq3, hk7]
    refine PCalls.mono (elemsReadID_ok rfl (fun _ => rfl) rread_ok hL hr3) ?_ ?_
    rotate_left
    · rintro c X ⟨rfl, hn, fx⟩
      refine ⟨rfl, .inr ?_, hF3.trans fx⟩
      rw [e3] at hn
      simp only at hn
      subst hn
      have q5 : s5 = none := by rw [← dT_none L (.list .text), e4]
      subst q5
      exact ⟨_, hD⟩
    rintro v X3 ⟨cs3, rfl, p3, r3, f3⟩
    rw [e3] at r3 p3
    simp only at r3 p3
    have hsz3 := f3.size
    obtain ⟨a3, c3, rfl, hl3, hm3⟩ := rep_list p3.rep
    have hAx3 := hA3.fr f3 (by simpa using hbA)
    have hBx3 := hB3.fr f3 (by simpa using hbB)
    have hCx3 := hC3.fr f3 (by simpa using hbC)
    simp (implicitDefEqProofs := false) only [go_sem]
    refine Sto_one hCx3 (by simp) rfl fun C4 hC4 fs4 hs4 => ?_
    simp only [List.set_cons_zero, List.set_cons_succ, setL, Nat.add_zero, Nat.zero_add, Nat.reduceAdd] at hC4
    have hA4 := hAx3.fr fs4 (by simp; omega)
    have hB4 := hBx3.fr fs4 (by simp; omega)
    have hr4 := r3.fr fs4 (by simp; omega) (fun k hk => by have := h0.ltg hk; simp; omega)
    have hF4 : Fr [b] H C4 := (hF3.trans f3).trans' fs4 (by simp; omega)
    have hz4 : H.size + 3 ≤ C4.size := by omega
    replace p3 : RepP C4 (fun x => x < H.size + 3) _ _ := RepP.on (m := H.size + 3) p3 fs4 (by simp; omega) (by omega)
    have hq4 := hA4.cell
    simp (implicitDefEqProofs := false) only [go_sem, hq4, hk7]
    refine PCalls.mono (elemsStr_ok rfl (fun _ => rfl) rfl rtext_ok' hL hr4) ?_ ?_
    rotate_left
    · rintro c X ⟨rfl, hn, fx⟩
      refine ⟨rfl, .inr ?_, hF4.trans fx⟩
      rw [e4] at hn
      simp only at hn
      subst hn
      exact ⟨_, hD⟩
    rintro v X4 ⟨cs4, rfl, p4, r4, f4⟩
    rw [e4] at r4 p4
    simp only at r4 p4
    have hsz4 := f4.size
    obtain ⟨a4, c4, rfl, hl4, hm4⟩ := rep_list p4.rep
    have hAx4 := hA4.fr f4 (by simpa using hbA)
    have hBx4 := hB4.fr f4 (by simpa using hbB)
    have hCx4 := hC4.fr f4 (by simpa using hbC)
    simp (implicitDefEqProofs := false) only [go_sem]
    refine Sto_one hCx4 (by simp) rfl fun C5 hC5 fs5 hs5 => ?_
    simp only [List.set_cons_zero, List.set_cons_succ, setL, Nat.add_zero, Nat.zero_add, Nat.reduceAdd] at hC5
    have hA5 := hAx4.fr fs5 (by simp; omega)
    have hB5 := hBx4.fr fs5 (by simp; omega)
    have hr5 := r4.fr fs5 (by simp; omega) (fun k hk => by have := h0.ltg hk; simp; omega)
    have hF5 : Fr [b] H C5 := (hF4.trans f4).trans' fs5 (by simp; omega)
    have hz5 : H.size + 3 ≤ C5.size := by omega
    replace p3 := RepP.on (RepP.on p3 f4 (by simp; omega) (Nat.le_refl _)) fs5 (by simp; omega) (Nat.le_refl _)
    replace p4 : RepP C5 (fun x => x < H.size + 3) _ _ := RepP.on (m := H.size + 3) p4 fs5 (by simp; omega) (by omega)
    have hq5 := hA5.cell
    have hw := hC5.cell
    simp (implicitDefEqProofs := false) only [go_sem, hw, hk7]
    refine Sto_all hB5 rfl ?_ fun Z hZ fz hsz => ?_
    · intro v hv
      simp only [List.mem_cons, List.not_mem_nil, or_false] at hv
      rcases hv with rfl | rfl | rfl | rfl | rfl | rfl | rfl | rfl | rfl | rfl | rfl | rfl | rfl | rfl | rfl
      all_goals first | rfl
    have hcz := hZ.cell
    simp (implicitDefEqProofs := false) only [go_sem, hcz]
    replace p3 := RepP.on p3 fz (by simp; omega) (show H.size ≤ H.size + 3 by omega)
    replace p4 := RepP.on p4 fz (by simp; omega) (show H.size ≤ H.size + 3 by omega)
    refine ⟨_, _, _, hD, rfl, ?_, hr5.fr fz (by simp; omega) (fun k hk => by have := h0.ltg hk; simp; omega), hF5.trans' fz (by simp; omega)⟩
    exact RepP.pair (RepP.v _) (RepP.pair (RepP.v _) (RepP.pair (RepP.v _) (RepP.pair (RepP.pair (RepP.v _) (RepP.pair (RepP.v _) (RepP.v _))) (RepP.pair (p3) (RepP.pair (RepP.nil _) (RepP.pair (RepP.nil _) (RepP.pair (RepP.nil _) (RepP.pair (RepP.nil _) (RepP.pair (RepP.nil _) (RepP.pair (p4) (RepP.pair (RepP.v _) (RepP.nil _))))))))))))
  by_cases hkk8 : k = 8
  · have hk8 : (k : Int) = 8 := by omega
    subst hkk8
    obtain ⟨d3, s4, e3⟩ : ∃ d s, dT L (.list tProof) s3 = (d, s) := ⟨_, _, rfl⟩
    obtain ⟨d4, s5, e4⟩ : ∃ d s, dT L (.list tRead) s4 = (d, s) := ⟨_, _, rfl⟩
    obtain ⟨d5, s6, e5⟩ : ∃ d s, dT L .num s5 = (d, s) := ⟨_, _, rfl⟩
    obtain ⟨d6, s7, e6⟩ : ∃ d s, dT L (.list tItem) s6 = (d, s) := ⟨_, _, rfl⟩
    have hDD : dT L (payT 8) s3 = ((d3, d4, d5, d6), s7) := by show dT L (.pair (.list tProof) (.pair (.list tRead) (.pair .num (.list tItem)))) s3 = _; simp only [dT_pair, e3, e4, e5, e6]
    have hD : msgO L = some (mkM 8 d1 d2 (d3, d4, d5, d6), s7) := by rw [hM, if_neg (by omega), hDD]
    simp (implicitDefEqProofs := false) only [go_sem, hq3, hk8]
    refine PCalls.mono (elemsProof_ok rfl (fun _ => rfl) rproof_ok hL hr3) ?_ ?_
    rotate_left
    · rintro c X ⟨rfl, hn, fx⟩
      refine ⟨rfl, .inr ?_, hF3.trans fx⟩
      rw [e3] at hn
      simp only at hn
      subst hn
      have q5 : s5 = none := by rw [← dT_none L (.list tRead), e4]
      subst q5
      have q6 : s6 = none := by rw [← dT_none L .num, e5]
      subst q6
      have q7 : s7 = none := by rw [← dT_none L (.list tItem), e6]
      subst q7
      exact ⟨_, hD⟩
    rintro v X3 ⟨cs3, rfl, p3, r3, f3⟩
    rw [e3] at r3 p3
    simp only at r3 p3
    have hsz3 := f3.size
    obtain ⟨a3, c3, rfl, hl3, hm3⟩ := rep_list p3.rep
    have hAx3 := hA3.fr f3 (by simpa using hbA)
    have hBx3 := hB3.fr f3 (by simpa using hbB)
    have hCx3 := hC3.fr f3 (by simpa using hbC)
    simp (implicitDefEqProofs := false) only [go_sem]
    refine Sto_one hCx3 (by simp) rfl fun C4 hC4 fs4 hs4 => ?_
    simp only [List.set_cons_zero, List.set_cons_succ, setL, Nat.add_zero, Nat.zero_add, Nat.reduceAdd] at hC4
    have hA4 := hAx3.fr fs4 (by simp; omega)
    have hB4 := hBx3.fr fs4 (by simp; omega)
    have hr4 := r3.fr fs4 (by simp; omega) (fun k hk => by have := h0.ltg hk; simp; omega)
    have hF4 : Fr [b] H C4 := (hF3.trans f3).trans' fs4 (by simp; omega)
    have hz4 : H.size + 3 ≤ C4.size := by omega
    replace p3 : RepP C4 (fun x => x < H.size + 3) _ _ := RepP.on (m := H.size + 3) p3 fs4 (by simp; omega) (by omega)
    have hq4 := hA4.cell
    simp (implicitDefEqProofs := false) only [go_sem, hq4, hk8]
    refine PCalls.mono (elemsReadID_ok rfl (fun _ => rfl) rread_ok hL hr4) ?_ ?_
    rotate_left
    · rintro c X ⟨rfl, hn, fx⟩
      refine ⟨rfl, .inr ?_, hF4.trans fx⟩
      rw [e4] at hn
      simp only at hn
      subst hn
      have q6 : s6 = none := by rw [← dT_none L .num, e5]
      subst q6
      have q7 : s7 = none := by rw [← dT_none L (.list tItem), e6]
      subst q7
      exact ⟨_, hD⟩
    rintro v X4 ⟨cs4, rfl, p4, r4, f4⟩
    rw [e4] at r4 p4
    simp only at r4 p4
    have hsz4 := f4.size
    obtain ⟨a4, c4, rfl, hl4, hm4⟩ := rep_list p4.rep
    have hAx4 := hA4.fr f4 (by simpa using hbA)
    have hBx4 := hB4.fr f4 (by simpa using hbB)
    have hCx4 := hC4.fr f4 (by simpa using hbC)
    simp (implicitDefEqProofs := false) only [go_sem]
    refine Sto_one hCx4 (by simp) rfl fun C5 hC5 fs5 hs5 => ?_
    simp only [List.set_cons_zero, List.set_cons_succ, setL, Nat.add_zero, Nat.zero_add, Nat.reduceAdd] at hC5
    have hA5 := hAx4.fr fs5 (by simp; omega)
    have hB5 := hBx4.fr fs5 (by simp; omega)
    have hr5 := r4.fr fs5 (by simp; omega) (fun k hk => by have := h0.ltg hk; simp; omega)
    have hF5 : Fr [b] H C5 := (hF4.trans f4).trans' fs5 (by simp; omega)
    have hz5 : H.size + 3 ≤ C5.size := by omega
    replace p3 := RepP.on (RepP.on p3 f4 (by simp; omega) (Nat.le_refl _)) fs5 (by simp; omega) (Nat.le_refl _)
    replace p4 : RepP C5 (fun x => x < H.size + 3) _ _ := RepP.on (m := H.size + 3) p4 fs5 (by simp; omega) (by omega)
    have hq5 := hA5.cell
    simp (implicitDefEqProofs := false) only [go_sem, hq5, hk8]
    refine (rnum_ok hr5).mono ?_
    rintro v X5 ⟨rfl, r5, f5⟩
    rw [e5] at r5 ⊢
    have hsz5 := f5.size
    have hAx5 := hA5.fr f5 (by simpa using hbA)
    have hBx5 := hB5.fr f5 (by simpa using hbB)
    have hCx5 := hC5.fr f5 (by simpa using hbC)
    simp (implicitDefEqProofs := false) only [go_sem]
    refine Sto_one hCx5 (by simp) rfl fun C6 hC6 fs6 hs6 => ?_
    simp only [List.set_cons_zero, List.set_cons_succ, setL, Nat.add_zero, Nat.zero_add, Nat.reduceAdd] at hC6
    have hA6 := hAx5.fr fs6 (by simp; omega)
    have hB6 := hBx5.fr fs6 (by simp; omega)
    have hr6 := r5.fr fs6 (by simp; omega) (fun k hk => by have := h0.ltg hk; simp; omega)
    have hF6 : Fr [b] H C6 := (hF5.trans f5).trans' fs6 (by simp; omega)
    have hz6 : H.size + 3 ≤ C6.size := by omega
    replace p3 := RepP.on (RepP.on p3 f5 (by simp; omega) (Nat.le_refl _)) fs6 (by simp; omega) (Nat.le_refl _)
    replace p4 := RepP.on (RepP.on p4 f5 (by simp; omega) (Nat.le_refl _)) fs6 (by simp; omega) (Nat.le_refl _)
    have hq6 := hA6.cell
    simp (implicitDefEqProofs := false) only [go_sem, hq6, hk8]
    refine PCalls.mono (elemsItem_ok rfl (fun _ => rfl) ritem_ok hL hr6) ?_ ?_
    rotate_left
    · rintro c X ⟨rfl, hn, fx⟩
      refine ⟨rfl, .inr ?_, hF6.trans fx⟩
      rw [e6] at hn
      simp only at hn
      subst hn
      exact ⟨_, hD⟩
    rintro v X6 ⟨cs6, rfl, p6, r6, f6⟩
    rw [e6] at r6 p6
    simp only at r6 p6
    have hsz6 := f6.size
    obtain ⟨a6, c6, rfl, hl6, hm6⟩ := rep_list p6.rep
    have hAx6 := hA6.fr f6 (by simpa using hbA)
    have hBx6 := hB6.fr f6 (by simpa using hbB)
    have hCx6 := hC6.fr f6 (by simpa using hbC)
    simp (implicitDefEqProofs := false) only [go_sem]
    refine Sto_one hCx6 (by simp) rfl fun C7 hC7 fs7 hs7 => ?_
    simp only [List.set_cons_zero, List.set_cons_succ, setL, Nat.add_zero, Nat.zero_add, Nat.reduceAdd] at hC7
    have hA7 := hAx6.fr fs7 (by simp; omega)
    have hB7 := hBx6.fr fs7 (by simp; omega)
    have hr7 := r6.fr fs7 (by simp; omega) (fun k hk => by have := h0.ltg hk; simp; omega)
    have hF7 : Fr [b] H C7 := (hF6.trans f6).trans' fs7 (by simp; omega)
    have hz7 : H.size + 3 ≤ C7.size := by omega
    replace p3 := RepP.on (RepP.on p3 f6 (by simp; omega) (Nat.le_refl _)) fs7 (by simp; omega) (Nat.le_refl _)
    replace p4 := RepP.on (RepP.on p4 f6 (by simp; omega) (Nat.le_refl _)) fs7 (by simp; omega) (Nat.le_refl _)
    replace p6 : RepP C7 (fun x => x < H.size + 3) _ _ := RepP.on (m := H.size + 3) p6 fs7 (by simp; omega) (by omega)
    have hq7 := hA7.cell
    have hw := hC7.cell
    simp (implicitDefEqProofs := false) only [go_sem, hw, hk8]
    refine Sto_all hB7 rfl ?_ fun Z hZ fz hsz => ?_
    · intro v hv
      simp only [List.mem_cons, List.not_mem_nil, or_false] at hv
      rcases hv with rfl | rfl | rfl | rfl | rfl | rfl | rfl | rfl | rfl | rfl | rfl | rfl | rfl | rfl | rfl
      all_goals first | rfl
    have hcz := hZ.cell
    simp (implicitDefEqProofs := false) only [go_sem, hcz]
    replace p3 := RepP.on p3 fz (by simp; omega) (show H.size ≤ H.size + 3 by omega)
    replace p4 := RepP.on p4 fz (by simp; omega) (show H.size ≤ H.size + 3 by omega)
    replace p6 := RepP.on p6 fz (by simp; omega) (show H.size ≤ H.size + 3 by omega)
    refine ⟨_, _, _, hD, rfl, ?_, hr7.fr fz (by simp; omega) (fun k hk => by have := h0.ltg hk; simp; omega), hF7.trans' fz (by simp; omega)⟩
    exact RepP.pair (RepP.v _) (RepP.pair (RepP.v _) (RepP.pair (RepP.v _) (RepP.pair (RepP.pair (RepP.v _) (RepP.pair (RepP.v _) (RepP.v _))) (RepP.pair (p4) (RepP.pair (RepP.nil _) (RepP.pair (RepP.nil _) (RepP.pair (RepP.nil _) (RepP.pair (p3) (RepP.pair (RepP.nil _) (RepP.pair (RepP.nil _) (RepP.pair (RepP.v _) (p6))))))))))))
  · omega
end Go.Proofs.YtdhlibkdcldioaaGreat
