/- The laws of the kinds and of the fields. -/
import Derived.Test.YtcilkhjadljaaaaLla
set_option linter.unusedSimpArgs false
set_option linter.unusedVariables false
set_option maxRecDepth 8000
namespace Go.Proofs.Ytcilkhjadljaaaa
open Gx Go

theorem visT_zero {d n : Nat} {l : Lt} (h : (visT d n l).1 = 0) : d ≤ 6 ∧ nodeE l = 0 ∧ (visTs (d + 1) (n + 1) l.parts).1 = 0 := by
  rw [visT_open] at h
  by_cases h1 : 6 < d ∨ 64 ≤ n
  · rw [if_pos h1] at h; cases h
  rw [if_neg h1] at h
  by_cases h2 : nodeE l = 0
  · rw [if_neg (by simpa using h2)] at h
    exact ⟨by omega, h2, h⟩
  · rw [if_pos h2] at h; exact absurd h h2
theorem visTs_zero : ∀ {ps : List Lt} {d n : Nat}, (visTs d n ps).1 = 0 → ∀ p ∈ ps, ∃ m, (visT d m p).1 = 0
  | [], _, _, _, p, hp => by simp at hp
  | q :: ps, d, n, h, p, hp => by
    simp only [visTs] at h
    by_cases h1 : (visT d n q).1 = 0
    · rw [if_neg (by simpa using h1)] at h
      rcases List.mem_cons.1 hp with rfl | hp
      · exact ⟨n, h1⟩
      · exact visTs_zero h p hp
    · rw [if_pos h1] at h; exact absurd h h1
theorem nodeE_shape {l : Lt} (h : nodeE l = 0) : shapeT l = true := by
  unfold nodeE at h
  cases e : shapeT l
  · rw [e] at h; cases h
  · rfl
theorem depTs_le {k : Nat} : ∀ {ps : List Lt}, (∀ p ∈ ps, depT p ≤ k) → depTs ps ≤ k
  | [], _ => by simp [depTs]
  | p :: ps, h => by
    simp only [depTs]
    exact Nat.max_le.2 ⟨h p (by simp), depTs_le fun q hq => h q (by simp [hq])⟩
theorem vis_depth (l : Lt) : ∀ {d n : Nat}, (visT d n l).1 = 0 → d + depT l ≤ 7 := by
  refine ltInd (P := fun l => ∀ {d n : Nat}, (visT d n l).1 = 0 → d + depT l ≤ 7) ?_ l
  intro l ih d n h
  obtain ⟨h1, h2, h3⟩ := visT_zero h
  rw [depT_open]
  have : depTs l.parts ≤ 6 - d := depTs_le fun p hp => by
    obtain ⟨j, hj, rfl⟩ := List.getElem_of_mem hp
    obtain ⟨m, hm⟩ := visTs_zero h3 _ hp
    have := ih j hj hm
    omega
  omega
theorem vis_chain (l : Lt) : ∀ {d n : Nat}, (visT d n l).1 = 0 → chainT l = true → disT l = true := by
  refine ltInd (P := fun l => ∀ {d n : Nat}, (visT d n l).1 = 0 → chainT l = true → disT l = true) ?_ l
  intro l ih d n h hc
  obtain ⟨h1, h2, h3⟩ := visT_zero h
  have hs := nodeE_shape h2
  rw [chainT_open] at hc
  rw [disT_open]
  by_cases k : l.kind = 1 ∨ l.kind = 2 ∨ l.kind = 3
  · rw [if_neg (by omega)]
    have : l.parts = [] := by
      unfold shapeT at hs
      rcases k with k | k | k <;> simp [k] at hs <;> exact hs.1
    rw [this]; rfl
  · rw [if_neg k] at hc
    by_cases k7 : l.kind = 7
    · rw [if_pos k7, Bool.and_eq_true] at hc
      rw [if_neg (by omega), List.all_eq_true]
      intro p hp
      obtain ⟨j, hj, rfl⟩ := List.getElem_of_mem hp
      obtain ⟨m, hm⟩ := visTs_zero h3 _ hp
      exact ih j hj hm (List.all_eq_true.1 hc.2 _ hp)
    · rw [if_neg k7] at hc; cases hc

theorem kinds_ok {l : Lt} {H : Heap} {cs : List Value} (ha : LtA H [] l cs) : HCalls Try.prog 5 #[.agg cs.toArray] H fun r H' => r = .bool true ∧ Fr [] H H' := by
  obtain ⟨vn, vp, vr, rfl, _, _, _⟩ := LtA.open ha
  refine calls_of_vc (args := [_]) Try.func5 c5ok (Nat.le_of_ble_eq_true rfl) ?_
  simp (implicitDefEqProofs := false) only [go_sem, Nat.reduceAdd, Nat.reduceSub, Nat.reduceMul, Nat.reduceEqDiff, Nat.reduceLT, Nat.reduceLeDiff, Nat.reduceBEq, ↓reduceIte, ↓Bool.false_eq_true, reduceCtorEq, Int.reduceLE, Int.reduceLT, Int.reduceEq, Int.reduceNeg, Int.reduceToNat, Int.reduceAdd, Int.reduceSub, Value.cells, Bool.false_eq_true, Int.cast_ofNat_Int, List.drop_nil, List.elem_cons, List.length_nil, List.take_nil, Option.isNone_none, Option.isSome_none, c5]
  refine NewP_intro fun H1 hn1 hf1 hs1 => ?_
  have hfr := hf1
  have hb := hn1
  replace ha := ha.ext hf1
  simp (implicitDefEqProofs := false) only [go_sem, Nat.reduceAdd, Nat.reduceSub, Nat.reduceMul, Nat.reduceEqDiff, Nat.reduceLT, Nat.reduceLeDiff, Nat.reduceBEq, ↓reduceIte, ↓Bool.false_eq_true, reduceCtorEq, Int.reduceLE, Int.reduceLT, Int.reduceEq, Int.reduceNeg, Int.reduceToNat, Int.reduceAdd, Int.reduceSub, Value.cells, Bool.false_eq_true, Int.cast_ofNat_Int, List.drop_nil, List.elem_cons, List.length_nil, List.take_nil, Option.isNone_none, Option.isSome_none]
  refine (awake_ok H1).mono ?_
  rintro r Hc1 ⟨rfl, hfc1⟩
  replace hfr := hfr.trans hfc1
  replace hb := hb.ext hfc1
  replace ha := ha.ext hfc1
  simp (implicitDefEqProofs := false) only [go_sem, Nat.reduceAdd, Nat.reduceSub, Nat.reduceMul, Nat.reduceEqDiff, Nat.reduceLT, Nat.reduceLeDiff, Nat.reduceBEq, ↓reduceIte, ↓Bool.false_eq_true, reduceCtorEq, Int.reduceLE, Int.reduceLT, Int.reduceEq, Int.reduceNeg, Int.reduceToNat, Int.reduceAdd, Int.reduceSub, Value.cells, Bool.false_eq_true, Int.cast_ofNat_Int, List.drop_nil, List.elem_cons, List.length_nil, List.take_nil, Option.isNone_none, Option.isSome_none, hb.cell]
  refine (fcheck_ok ha).mono ?_
  rintro r Hc2 ⟨rfl, hfc2⟩
  replace hfr := hfr.trans hfc2
  replace hb := hb.ext hfc2
  replace ha := ha.ext hfc2
  by_cases e0 : (visT 1 0 l).1 = 0
  case neg =>
    simp (implicitDefEqProofs := false) only [go_sem, Nat.reduceAdd, Nat.reduceSub, Nat.reduceMul, Nat.reduceEqDiff, Nat.reduceLT, Nat.reduceLeDiff, Nat.reduceBEq, ↓reduceIte, ↓Bool.false_eq_true, reduceCtorEq, Int.reduceLE, Int.reduceLT, Int.reduceEq, Int.reduceNeg, Int.reduceToNat, Int.reduceAdd, Int.reduceSub, Value.cells, Bool.false_eq_true, Int.cast_ofNat_Int, List.drop_nil, List.elem_cons, List.length_nil, List.take_nil, Option.isNone_none, Option.isSome_none, e0]
    exact hfr
  have hd : depT l < 2^60 := by have := vis_depth l e0; omega
  have x1 : (chainT l == chainT l) = true := by simp
  have x2 : (finT l == finT l) = true := by simp
  have x3 : (disT l == disT l) = true := by simp
  simp (implicitDefEqProofs := false) only [go_sem, Nat.reduceAdd, Nat.reduceSub, Nat.reduceMul, Nat.reduceEqDiff, Nat.reduceLT, Nat.reduceLeDiff, Nat.reduceBEq, ↓reduceIte, ↓Bool.false_eq_true, reduceCtorEq, Int.reduceLE, Int.reduceLT, Int.reduceEq, Int.reduceNeg, Int.reduceToNat, Int.reduceAdd, Int.reduceSub, Value.cells, Bool.false_eq_true, Int.cast_ofNat_Int, List.drop_nil, List.elem_cons, List.length_nil, List.take_nil, Option.isNone_none, Option.isSome_none, e0, hb.cell]
  refine (chain_ok l ha).mono ?_
  rintro r Hc3 ⟨rfl, hfc3⟩
  replace hfr := hfr.trans hfc3
  replace hb := hb.ext hfc3
  replace ha := ha.ext hfc3
  simp (implicitDefEqProofs := false) only [go_sem, Nat.reduceAdd, Nat.reduceSub, Nat.reduceMul, Nat.reduceEqDiff, Nat.reduceLT, Nat.reduceLeDiff, Nat.reduceBEq, ↓reduceIte, ↓Bool.false_eq_true, reduceCtorEq, Int.reduceLE, Int.reduceLT, Int.reduceEq, Int.reduceNeg, Int.reduceToNat, Int.reduceAdd, Int.reduceSub, Value.cells, Bool.false_eq_true, Int.cast_ofNat_Int, List.drop_nil, List.elem_cons, List.length_nil, List.take_nil, Option.isNone_none, Option.isSome_none, hb.cell]
  refine (fchain_ok l ha).mono ?_
  rintro r Hc4 ⟨rfl, hfc4⟩
  replace hfr := hfr.trans hfc4
  replace hb := hb.ext hfc4
  replace ha := ha.ext hfc4
  simp (implicitDefEqProofs := false) only [go_sem, Nat.reduceAdd, Nat.reduceSub, Nat.reduceMul, Nat.reduceEqDiff, Nat.reduceLT, Nat.reduceLeDiff, Nat.reduceBEq, ↓reduceIte, ↓Bool.false_eq_true, reduceCtorEq, Int.reduceLE, Int.reduceLT, Int.reduceEq, Int.reduceNeg, Int.reduceToNat, Int.reduceAdd, Int.reduceSub, Value.cells, Bool.false_eq_true, Int.cast_ofNat_Int, List.drop_nil, List.elem_cons, List.length_nil, List.take_nil, Option.isNone_none, Option.isSome_none, hb.cell, x1]
  refine (fin_ok l ha).mono ?_
  rintro r Hc5 ⟨rfl, hfc5⟩
  replace hfr := hfr.trans hfc5
  replace hb := hb.ext hfc5
  replace ha := ha.ext hfc5
  simp (implicitDefEqProofs := false) only [go_sem, Nat.reduceAdd, Nat.reduceSub, Nat.reduceMul, Nat.reduceEqDiff, Nat.reduceLT, Nat.reduceLeDiff, Nat.reduceBEq, ↓reduceIte, ↓Bool.false_eq_true, reduceCtorEq, Int.reduceLE, Int.reduceLT, Int.reduceEq, Int.reduceNeg, Int.reduceToNat, Int.reduceAdd, Int.reduceSub, Value.cells, Bool.false_eq_true, Int.cast_ofNat_Int, List.drop_nil, List.elem_cons, List.length_nil, List.take_nil, Option.isNone_none, Option.isSome_none, hb.cell]
  refine (ffin_ok l ha).mono ?_
  rintro r Hc6 ⟨rfl, hfc6⟩
  replace hfr := hfr.trans hfc6
  replace hb := hb.ext hfc6
  replace ha := ha.ext hfc6
  simp (implicitDefEqProofs := false) only [go_sem, Nat.reduceAdd, Nat.reduceSub, Nat.reduceMul, Nat.reduceEqDiff, Nat.reduceLT, Nat.reduceLeDiff, Nat.reduceBEq, ↓reduceIte, ↓Bool.false_eq_true, reduceCtorEq, Int.reduceLE, Int.reduceLT, Int.reduceEq, Int.reduceNeg, Int.reduceToNat, Int.reduceAdd, Int.reduceSub, Value.cells, Bool.false_eq_true, Int.cast_ofNat_Int, List.drop_nil, List.elem_cons, List.length_nil, List.take_nil, Option.isNone_none, Option.isSome_none, hb.cell, x2]
  refine (dis_ok l ha).mono ?_
  rintro r Hc7 ⟨rfl, hfc7⟩
  replace hfr := hfr.trans hfc7
  replace hb := hb.ext hfc7
  replace ha := ha.ext hfc7
  simp (implicitDefEqProofs := false) only [go_sem, Nat.reduceAdd, Nat.reduceSub, Nat.reduceMul, Nat.reduceEqDiff, Nat.reduceLT, Nat.reduceLeDiff, Nat.reduceBEq, ↓reduceIte, ↓Bool.false_eq_true, reduceCtorEq, Int.reduceLE, Int.reduceLT, Int.reduceEq, Int.reduceNeg, Int.reduceToNat, Int.reduceAdd, Int.reduceSub, Value.cells, Bool.false_eq_true, Int.cast_ofNat_Int, List.drop_nil, List.elem_cons, List.length_nil, List.take_nil, Option.isNone_none, Option.isSome_none, hb.cell]
  refine (fdis_ok l ha).mono ?_
  rintro r Hc8 ⟨rfl, hfc8⟩
  replace hfr := hfr.trans hfc8
  replace hb := hb.ext hfc8
  replace ha := ha.ext hfc8
  simp (implicitDefEqProofs := false) only [go_sem, Nat.reduceAdd, Nat.reduceSub, Nat.reduceMul, Nat.reduceEqDiff, Nat.reduceLT, Nat.reduceLeDiff, Nat.reduceBEq, ↓reduceIte, ↓Bool.false_eq_true, reduceCtorEq, Int.reduceLE, Int.reduceLT, Int.reduceEq, Int.reduceNeg, Int.reduceToNat, Int.reduceAdd, Int.reduceSub, Value.cells, Bool.false_eq_true, Int.cast_ofNat_Int, List.drop_nil, List.elem_cons, List.length_nil, List.take_nil, Option.isNone_none, Option.isSome_none, hb.cell, x3]
  refine (dep_ok l ha hd).mono ?_
  rintro r Hc9 ⟨rfl, hfc9⟩
  replace hfr := hfr.trans hfc9
  replace hb := hb.ext hfc9
  replace ha := ha.ext hfc9
  simp (implicitDefEqProofs := false) only [go_sem, Nat.reduceAdd, Nat.reduceSub, Nat.reduceMul, Nat.reduceEqDiff, Nat.reduceLT, Nat.reduceLeDiff, Nat.reduceBEq, ↓reduceIte, ↓Bool.false_eq_true, reduceCtorEq, Int.reduceLE, Int.reduceLT, Int.reduceEq, Int.reduceNeg, Int.reduceToNat, Int.reduceAdd, Int.reduceSub, Value.cells, Bool.false_eq_true, Int.cast_ofNat_Int, List.drop_nil, List.elem_cons, List.length_nil, List.take_nil, Option.isNone_none, Option.isSome_none, hb.cell]
  refine (fdep_ok l ha hd).mono ?_
  rintro r Hc10 ⟨rfl, hfc10⟩
  replace hfr := hfr.trans hfc10
  replace hb := hb.ext hfc10
  replace ha := ha.ext hfc10
  simp (implicitDefEqProofs := false) only [go_sem, Nat.reduceAdd, Nat.reduceSub, Nat.reduceMul, Nat.reduceEqDiff, Nat.reduceLT, Nat.reduceLeDiff, Nat.reduceBEq, ↓reduceIte, ↓Bool.false_eq_true, reduceCtorEq, Int.reduceLE, Int.reduceLT, Int.reduceEq, Int.reduceNeg, Int.reduceToNat, Int.reduceAdd, Int.reduceSub, Value.cells, Bool.false_eq_true, Int.cast_ofNat_Int, List.drop_nil, List.elem_cons, List.length_nil, List.take_nil, Option.isNone_none, Option.isSome_none, hb.cell]
  refine (chain_ok l ha).mono ?_
  rintro r Hc11 ⟨rfl, hfc11⟩
  replace hfr := hfr.trans hfc11
  replace hb := hb.ext hfc11
  replace ha := ha.ext hfc11
  cases ec : chainT l
  · simp (implicitDefEqProofs := false) only [go_sem, Nat.reduceAdd, Nat.reduceSub, Nat.reduceMul, Nat.reduceEqDiff, Nat.reduceLT, Nat.reduceLeDiff, Nat.reduceBEq, ↓reduceIte, ↓Bool.false_eq_true, reduceCtorEq, Int.reduceLE, Int.reduceLT, Int.reduceEq, Int.reduceNeg, Int.reduceToNat, Int.reduceAdd, Int.reduceSub, Value.cells, Bool.false_eq_true, Int.cast_ofNat_Int, List.drop_nil, List.elem_cons, List.length_nil, List.take_nil, Option.isNone_none, Option.isSome_none]
    exact hfr
  · have hdi := vis_chain l e0 ec
    simp (implicitDefEqProofs := false) only [go_sem, Nat.reduceAdd, Nat.reduceSub, Nat.reduceMul, Nat.reduceEqDiff, Nat.reduceLT, Nat.reduceLeDiff, Nat.reduceBEq, ↓reduceIte, ↓Bool.false_eq_true, reduceCtorEq, Int.reduceLE, Int.reduceLT, Int.reduceEq, Int.reduceNeg, Int.reduceToNat, Int.reduceAdd, Int.reduceSub, Value.cells, Bool.false_eq_true, Int.cast_ofNat_Int, List.drop_nil, List.elem_cons, List.length_nil, List.take_nil, Option.isNone_none, Option.isSome_none, hb.cell]
    refine (dis_ok l ha).mono ?_
    rintro r Hc12 ⟨rfl, hfc12⟩
    replace hfr := hfr.trans hfc12
    replace hb := hb.ext hfc12
    replace ha := ha.ext hfc12
    simp (implicitDefEqProofs := false) only [go_sem, Nat.reduceAdd, Nat.reduceSub, Nat.reduceMul, Nat.reduceEqDiff, Nat.reduceLT, Nat.reduceLeDiff, Nat.reduceBEq, ↓reduceIte, ↓Bool.false_eq_true, reduceCtorEq, Int.reduceLE, Int.reduceLT, Int.reduceEq, Int.reduceNeg, Int.reduceToNat, Int.reduceAdd, Int.reduceSub, Value.cells, Bool.false_eq_true, Int.cast_ofNat_Int, List.drop_nil, List.elem_cons, List.length_nil, List.take_nil, Option.isNone_none, Option.isSome_none, hdi]
    exact hfr

end Go.Proofs.Ytcilkhjadljaaaa
