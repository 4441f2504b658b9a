/- The reference's check: contracts. -/
import Derived.Test.YtcilkhjadljaaaaLw
import Derived.Test.YtcilkhjadljaaaaLx
set_option linter.unusedSimpArgs false
set_option linter.unusedVariables false
set_option maxRecDepth 8000
namespace Go.Proofs.Ytcilkhjadljaaaa
open Gx Go

theorem limT_iff (l : Lt) : limT l = true ↔ ((if l.kind = 6 then 8 else if l.kind = 10 then 12 else 32) < l.names.length ∨ 32 < l.rules.length) := by simp [limT]
theorem rngT_iff (l : Lt) : rngT l = true ↔ (l.hi < l.lo ∨ l.lo < -1000000000 ∨ 1000000000 < l.hi) := by simp [rngT]; omega

set_option maxHeartbeats 2000000 in
theorem fnode_ok {l : Lt} {H : Heap} {cs : List Value} {d n : Nat} (ha : LtA H [] l cs) : HCalls Try.prog 56 #[.agg cs.toArray, .int .i64 d, .int .i64 n] H fun r H' => r = .int .i64 (if 6 < d ∨ 64 ≤ n then 6 else nodeE l) ∧ Fr [] H H' := by
  obtain ⟨vn, vp, vr, rfl, h3, h4, h5⟩ := LtA.open ha
  obtain ⟨na, nc, rfl, hnl, hnc⟩ := StrsA.slice h3
  obtain ⟨ra, rc, rfl, hrl, hrc⟩ := RulesA.slice h5
  refine calls_of_vc (args := [_, _, _]) Try.func56 c56ok (Nat.le_of_ble_eq_true rfl) ?_
  simp (implicitDefEqProofs := false) only [go_sem, Nat.reduceAdd, Nat.reduceSub, Nat.reduceMul, Nat.reduceEqDiff, Nat.reduceLT, Nat.reduceLeDiff, Nat.reduceBEq, ↓reduceIte, ↓Bool.false_eq_true, reduceCtorEq, Int.reduceLE, Int.reduceLT, Int.reduceEq, Int.reduceNeg, Int.reduceToNat, Int.reduceAdd, Int.reduceSub, Value.cells, Bool.false_eq_true, Int.cast_ofNat_Int, List.drop_nil, List.elem_cons, List.length_nil, List.take_nil, Option.isNone_none, Option.isSome_none, c56]
  refine NewP_intro fun H1 hn1 hf1 hs1 => ?_
  have hc1 := hn1.cell
  by_cases k6 : l.kind = 6
  · rw [k6] at ha hn1
    by_cases hd : 6 < d ∨ 64 ≤ n
    case pos =>
      rw [if_pos hd]
      by_cases hd1 : (6 : Int) < (d : Int)
      · simp (implicitDefEqProofs := false) only [go_sem, Nat.reduceAdd, Nat.reduceSub, Nat.reduceMul, Nat.reduceEqDiff, Nat.reduceLT, Nat.reduceLeDiff, Nat.reduceBEq, ↓reduceIte, ↓Bool.false_eq_true, reduceCtorEq, Int.reduceLE, Int.reduceLT, Int.reduceEq, Int.reduceNeg, Int.reduceToNat, Int.reduceAdd, Int.reduceSub, Value.cells, Bool.false_eq_true, Int.cast_ofNat_Int, List.drop_nil, List.elem_cons, List.length_nil, List.take_nil, Option.isNone_none, Option.isSome_none, hc1, k6, hd1]
        exact hf1
      · have hn9 : (64 : Int) ≤ (n : Int) := by omega
        simp (implicitDefEqProofs := false) only [go_sem, Nat.reduceAdd, Nat.reduceSub, Nat.reduceMul, Nat.reduceEqDiff, Nat.reduceLT, Nat.reduceLeDiff, Nat.reduceBEq, ↓reduceIte, ↓Bool.false_eq_true, reduceCtorEq, Int.reduceLE, Int.reduceLT, Int.reduceEq, Int.reduceNeg, Int.reduceToNat, Int.reduceAdd, Int.reduceSub, Value.cells, Bool.false_eq_true, Int.cast_ofNat_Int, List.drop_nil, List.elem_cons, List.length_nil, List.take_nil, Option.isNone_none, Option.isSome_none, hc1, k6, hd1, hn9]
        exact hf1
    rw [if_neg hd]
    have hd1 : ¬ (6 : Int) < (d : Int) := by omega
    have hn1' : ¬ (64 : Int) ≤ (n : Int) := by omega
    simp (implicitDefEqProofs := false) only [go_sem, Nat.reduceAdd, Nat.reduceSub, Nat.reduceMul, Nat.reduceEqDiff, Nat.reduceLT, Nat.reduceLeDiff, Nat.reduceBEq, ↓reduceIte, ↓Bool.false_eq_true, reduceCtorEq, Int.reduceLE, Int.reduceLT, Int.reduceEq, Int.reduceNeg, Int.reduceToNat, Int.reduceAdd, Int.reduceSub, Value.cells, Bool.false_eq_true, Int.cast_ofNat_Int, List.drop_nil, List.elem_cons, List.length_nil, List.take_nil, Option.isNone_none, Option.isSome_none, hc1, k6, hd1, hn1']
    refine (fshape_ok (ha.ext hf1)).mono ?_
    rintro r H2 ⟨rfl, hf2⟩
    have hF2 := hf1.trans hf2
    have hn2 := hn1.ext hf2
    have hc2 := hn2.cell
    cases es : shapeT l
    · have hE : nodeE l = 1 := by simp [nodeE, es]
      simp (implicitDefEqProofs := false) only [go_sem, Nat.reduceAdd, Nat.reduceSub, Nat.reduceMul, Nat.reduceEqDiff, Nat.reduceLT, Nat.reduceLeDiff, Nat.reduceBEq, ↓reduceIte, ↓Bool.false_eq_true, reduceCtorEq, Int.reduceLE, Int.reduceLT, Int.reduceEq, Int.reduceNeg, Int.reduceToNat, Int.reduceAdd, Int.reduceSub, Value.cells, Bool.false_eq_true, Int.cast_ofNat_Int, List.drop_nil, List.elem_cons, List.length_nil, List.take_nil, Option.isNone_none, Option.isSome_none, hE]
      exact hF2
    have hE : nodeE l = or4 (if limT l then 6 else 0) (if spellT l then 0 else 3) (if rngT l then 5 else 0) (if chnT l then 4 else 0) := by simp [nodeE, es]
    by_cases hl1 : (8 : Int) < (l.names.length : Int)
    · have hl : limT l = true := by rw [limT_iff, if_pos k6]; omega
      have hE6 : nodeE l = 6 := by rw [hE, hl]; rfl
      simp (implicitDefEqProofs := false) only [go_sem, Nat.reduceAdd, Nat.reduceSub, Nat.reduceMul, Nat.reduceEqDiff, Nat.reduceLT, Nat.reduceLeDiff, Nat.reduceBEq, ↓reduceIte, ↓Bool.false_eq_true, reduceCtorEq, Int.reduceLE, Int.reduceLT, Int.reduceEq, Int.reduceNeg, Int.reduceToNat, Int.reduceAdd, Int.reduceSub, Value.cells, Bool.false_eq_true, Int.cast_ofNat_Int, List.drop_nil, List.elem_cons, List.length_nil, List.take_nil, Option.isNone_none, Option.isSome_none, hc2, k6, hl1, hE6]
      exact hF2
    by_cases hl2 : (32 : Int) < (l.rules.length : Int)
    · have hl : limT l = true := by rw [limT_iff]; omega
      have hE6 : nodeE l = 6 := by rw [hE, hl]; rfl
      simp (implicitDefEqProofs := false) only [go_sem, Nat.reduceAdd, Nat.reduceSub, Nat.reduceMul, Nat.reduceEqDiff, Nat.reduceLT, Nat.reduceLeDiff, Nat.reduceBEq, ↓reduceIte, ↓Bool.false_eq_true, reduceCtorEq, Int.reduceLE, Int.reduceLT, Int.reduceEq, Int.reduceNeg, Int.reduceToNat, Int.reduceAdd, Int.reduceSub, Value.cells, Bool.false_eq_true, Int.cast_ofNat_Int, List.drop_nil, List.elem_cons, List.length_nil, List.take_nil, Option.isNone_none, Option.isSome_none, hc2, k6, hl1, hl2, hE6]
      exact hF2
    have hl : limT l = false := by
      rw [← Bool.not_eq_true, limT_iff, if_pos k6]; omega
    rw [hl] at hE
    simp (implicitDefEqProofs := false) only [go_sem, Nat.reduceAdd, Nat.reduceSub, Nat.reduceMul, Nat.reduceEqDiff, Nat.reduceLT, Nat.reduceLeDiff, Nat.reduceBEq, ↓reduceIte, ↓Bool.false_eq_true, reduceCtorEq, Int.reduceLE, Int.reduceLT, Int.reduceEq, Int.reduceNeg, Int.reduceToNat, Int.reduceAdd, Int.reduceSub, Value.cells, Bool.false_eq_true, Int.cast_ofNat_Int, List.drop_nil, List.elem_cons, List.length_nil, List.take_nil, Option.isNone_none, Option.isSome_none, hc2, k6, hl1, hl2]
    refine (fnamed_ok (ha.ext hF2)).mono ?_
    rintro r H3 ⟨rfl, hf3⟩
    have hF3 := hF2.trans hf3
    have hc3 := (hn2.ext hf3).cell
    rw [named_spell es]
    cases ep : spellT l
    · have hE3 : nodeE l = 3 := by rw [hE, ep]; rfl
      simp (implicitDefEqProofs := false) only [go_sem, Nat.reduceAdd, Nat.reduceSub, Nat.reduceMul, Nat.reduceEqDiff, Nat.reduceLT, Nat.reduceLeDiff, Nat.reduceBEq, ↓reduceIte, ↓Bool.false_eq_true, reduceCtorEq, Int.reduceLE, Int.reduceLT, Int.reduceEq, Int.reduceNeg, Int.reduceToNat, Int.reduceAdd, Int.reduceSub, Value.cells, Bool.false_eq_true, Int.cast_ofNat_Int, List.drop_nil, List.elem_cons, List.length_nil, List.take_nil, Option.isNone_none, Option.isSome_none, hE3]
      exact hF3
    rw [ep] at hE
    cases er : rngT l
    case true =>
      have hE5 : nodeE l = 5 := by rw [hE, er]; rfl
      rw [rngT_iff] at er
      by_cases r1 : l.hi < l.lo
      · simp (implicitDefEqProofs := false) only [go_sem, Nat.reduceAdd, Nat.reduceSub, Nat.reduceMul, Nat.reduceEqDiff, Nat.reduceLT, Nat.reduceLeDiff, Nat.reduceBEq, ↓reduceIte, ↓Bool.false_eq_true, reduceCtorEq, Int.reduceLE, Int.reduceLT, Int.reduceEq, Int.reduceNeg, Int.reduceToNat, Int.reduceAdd, Int.reduceSub, Value.cells, Bool.false_eq_true, Int.cast_ofNat_Int, List.drop_nil, List.elem_cons, List.length_nil, List.take_nil, Option.isNone_none, Option.isSome_none, hc3, k6, r1, hE5]
        exact hF3
      by_cases r2 : l.lo < -1000000000
      · simp (implicitDefEqProofs := false) only [go_sem, Nat.reduceAdd, Nat.reduceSub, Nat.reduceMul, Nat.reduceEqDiff, Nat.reduceLT, Nat.reduceLeDiff, Nat.reduceBEq, ↓reduceIte, ↓Bool.false_eq_true, reduceCtorEq, Int.reduceLE, Int.reduceLT, Int.reduceEq, Int.reduceNeg, Int.reduceToNat, Int.reduceAdd, Int.reduceSub, Value.cells, Bool.false_eq_true, Int.cast_ofNat_Int, List.drop_nil, List.elem_cons, List.length_nil, List.take_nil, Option.isNone_none, Option.isSome_none, hc3, k6, r1, r2, hE5]
        exact hF3
      have r3 : 1000000000 < l.hi := by omega
      simp (implicitDefEqProofs := false) only [go_sem, Nat.reduceAdd, Nat.reduceSub, Nat.reduceMul, Nat.reduceEqDiff, Nat.reduceLT, Nat.reduceLeDiff, Nat.reduceBEq, ↓reduceIte, ↓Bool.false_eq_true, reduceCtorEq, Int.reduceLE, Int.reduceLT, Int.reduceEq, Int.reduceNeg, Int.reduceToNat, Int.reduceAdd, Int.reduceSub, Value.cells, Bool.false_eq_true, Int.cast_ofNat_Int, List.drop_nil, List.elem_cons, List.length_nil, List.take_nil, Option.isNone_none, Option.isSome_none, hc3, k6, r1, r2, r3, hE5]
      exact hF3
    rw [er] at hE
    have er' : ¬ (l.hi < l.lo ∨ l.lo < -1000000000 ∨ 1000000000 < l.hi) := by rw [← rngT_iff, er]; simp
    have r1 : ¬ l.hi < l.lo := fun h => er' (.inl h)
    have r2 : ¬ l.lo < -1000000000 := fun h => er' (.inr (.inl h))
    have r3 : ¬ 1000000000 < l.hi := fun h => er' (.inr (.inr h))
    have k7 : ¬ l.kind = 7 := by omega
    have hE0 : nodeE l = 0 := by rw [hE, chnT, decide_eq_false k7]; rfl
    simp (implicitDefEqProofs := false) only [go_sem, Nat.reduceAdd, Nat.reduceSub, Nat.reduceMul, Nat.reduceEqDiff, Nat.reduceLT, Nat.reduceLeDiff, Nat.reduceBEq, ↓reduceIte, ↓Bool.false_eq_true, reduceCtorEq, Int.reduceLE, Int.reduceLT, Int.reduceEq, Int.reduceNeg, Int.reduceToNat, Int.reduceAdd, Int.reduceSub, Value.cells, Bool.false_eq_true, Int.cast_ofNat_Int, List.drop_nil, List.elem_cons, List.length_nil, List.take_nil, Option.isNone_none, Option.isSome_none, hc3, k6, r1, r2, r3, hE0]
    exact hF3
  by_cases k10 : l.kind = 10
  · rw [k10] at ha hn1
    by_cases hd : 6 < d ∨ 64 ≤ n
    case pos =>
      rw [if_pos hd]
      by_cases hd1 : (6 : Int) < (d : Int)
      · simp (implicitDefEqProofs := false) only [go_sem, Nat.reduceAdd, Nat.reduceSub, Nat.reduceMul, Nat.reduceEqDiff, Nat.reduceLT, Nat.reduceLeDiff, Nat.reduceBEq, ↓reduceIte, ↓Bool.false_eq_true, reduceCtorEq, Int.reduceLE, Int.reduceLT, Int.reduceEq, Int.reduceNeg, Int.reduceToNat, Int.reduceAdd, Int.reduceSub, Value.cells, Bool.false_eq_true, Int.cast_ofNat_Int, List.drop_nil, List.elem_cons, List.length_nil, List.take_nil, Option.isNone_none, Option.isSome_none, hc1, k6, k10, hd1]
        exact hf1
      · have hn9 : (64 : Int) ≤ (n : Int) := by omega
        simp (implicitDefEqProofs := false) only [go_sem, Nat.reduceAdd, Nat.reduceSub, Nat.reduceMul, Nat.reduceEqDiff, Nat.reduceLT, Nat.reduceLeDiff, Nat.reduceBEq, ↓reduceIte, ↓Bool.false_eq_true, reduceCtorEq, Int.reduceLE, Int.reduceLT, Int.reduceEq, Int.reduceNeg, Int.reduceToNat, Int.reduceAdd, Int.reduceSub, Value.cells, Bool.false_eq_true, Int.cast_ofNat_Int, List.drop_nil, List.elem_cons, List.length_nil, List.take_nil, Option.isNone_none, Option.isSome_none, hc1, k6, k10, hd1, hn9]
        exact hf1
    rw [if_neg hd]
    have hd1 : ¬ (6 : Int) < (d : Int) := by omega
    have hn1' : ¬ (64 : Int) ≤ (n : Int) := by omega
    simp (implicitDefEqProofs := false) only [go_sem, Nat.reduceAdd, Nat.reduceSub, Nat.reduceMul, Nat.reduceEqDiff, Nat.reduceLT, Nat.reduceLeDiff, Nat.reduceBEq, ↓reduceIte, ↓Bool.false_eq_true, reduceCtorEq, Int.reduceLE, Int.reduceLT, Int.reduceEq, Int.reduceNeg, Int.reduceToNat, Int.reduceAdd, Int.reduceSub, Value.cells, Bool.false_eq_true, Int.cast_ofNat_Int, List.drop_nil, List.elem_cons, List.length_nil, List.take_nil, Option.isNone_none, Option.isSome_none, hc1, k6, k10, hd1, hn1']
    refine (fshape_ok (ha.ext hf1)).mono ?_
    rintro r H2 ⟨rfl, hf2⟩
    have hF2 := hf1.trans hf2
    have hn2 := hn1.ext hf2
    have hc2 := hn2.cell
    cases es : shapeT l
    · have hE : nodeE l = 1 := by simp [nodeE, es]
      simp (implicitDefEqProofs := false) only [go_sem, Nat.reduceAdd, Nat.reduceSub, Nat.reduceMul, Nat.reduceEqDiff, Nat.reduceLT, Nat.reduceLeDiff, Nat.reduceBEq, ↓reduceIte, ↓Bool.false_eq_true, reduceCtorEq, Int.reduceLE, Int.reduceLT, Int.reduceEq, Int.reduceNeg, Int.reduceToNat, Int.reduceAdd, Int.reduceSub, Value.cells, Bool.false_eq_true, Int.cast_ofNat_Int, List.drop_nil, List.elem_cons, List.length_nil, List.take_nil, Option.isNone_none, Option.isSome_none, hE]
      exact hF2
    have hE : nodeE l = or4 (if limT l then 6 else 0) (if spellT l then 0 else 3) (if rngT l then 5 else 0) (if chnT l then 4 else 0) := by simp [nodeE, es]
    by_cases hl1 : (12 : Int) < (l.names.length : Int)
    · have hl : limT l = true := by rw [limT_iff, if_neg k6, if_pos k10]; omega
      have hE6 : nodeE l = 6 := by rw [hE, hl]; rfl
      simp (implicitDefEqProofs := false) only [go_sem, Nat.reduceAdd, Nat.reduceSub, Nat.reduceMul, Nat.reduceEqDiff, Nat.reduceLT, Nat.reduceLeDiff, Nat.reduceBEq, ↓reduceIte, ↓Bool.false_eq_true, reduceCtorEq, Int.reduceLE, Int.reduceLT, Int.reduceEq, Int.reduceNeg, Int.reduceToNat, Int.reduceAdd, Int.reduceSub, Value.cells, Bool.false_eq_true, Int.cast_ofNat_Int, List.drop_nil, List.elem_cons, List.length_nil, List.take_nil, Option.isNone_none, Option.isSome_none, hc2, k6, k10, hl1, hE6]
      exact hF2
    by_cases hl2 : (32 : Int) < (l.rules.length : Int)
    · have hl : limT l = true := by rw [limT_iff]; omega
      have hE6 : nodeE l = 6 := by rw [hE, hl]; rfl
      simp (implicitDefEqProofs := false) only [go_sem, Nat.reduceAdd, Nat.reduceSub, Nat.reduceMul, Nat.reduceEqDiff, Nat.reduceLT, Nat.reduceLeDiff, Nat.reduceBEq, ↓reduceIte, ↓Bool.false_eq_true, reduceCtorEq, Int.reduceLE, Int.reduceLT, Int.reduceEq, Int.reduceNeg, Int.reduceToNat, Int.reduceAdd, Int.reduceSub, Value.cells, Bool.false_eq_true, Int.cast_ofNat_Int, List.drop_nil, List.elem_cons, List.length_nil, List.take_nil, Option.isNone_none, Option.isSome_none, hc2, k6, k10, hl1, hl2, hE6]
      exact hF2
    have hl : limT l = false := by
      rw [← Bool.not_eq_true, limT_iff, if_neg k6, if_pos k10]; omega
    rw [hl] at hE
    simp (implicitDefEqProofs := false) only [go_sem, Nat.reduceAdd, Nat.reduceSub, Nat.reduceMul, Nat.reduceEqDiff, Nat.reduceLT, Nat.reduceLeDiff, Nat.reduceBEq, ↓reduceIte, ↓Bool.false_eq_true, reduceCtorEq, Int.reduceLE, Int.reduceLT, Int.reduceEq, Int.reduceNeg, Int.reduceToNat, Int.reduceAdd, Int.reduceSub, Value.cells, Bool.false_eq_true, Int.cast_ofNat_Int, List.drop_nil, List.elem_cons, List.length_nil, List.take_nil, Option.isNone_none, Option.isSome_none, hc2, k6, k10, hl1, hl2]
    refine (fnamed_ok (ha.ext hF2)).mono ?_
    rintro r H3 ⟨rfl, hf3⟩
    have hF3 := hF2.trans hf3
    have hc3 := (hn2.ext hf3).cell
    rw [named_spell es]
    cases ep : spellT l
    · have hE3 : nodeE l = 3 := by rw [hE, ep]; rfl
      simp (implicitDefEqProofs := false) only [go_sem, Nat.reduceAdd, Nat.reduceSub, Nat.reduceMul, Nat.reduceEqDiff, Nat.reduceLT, Nat.reduceLeDiff, Nat.reduceBEq, ↓reduceIte, ↓Bool.false_eq_true, reduceCtorEq, Int.reduceLE, Int.reduceLT, Int.reduceEq, Int.reduceNeg, Int.reduceToNat, Int.reduceAdd, Int.reduceSub, Value.cells, Bool.false_eq_true, Int.cast_ofNat_Int, List.drop_nil, List.elem_cons, List.length_nil, List.take_nil, Option.isNone_none, Option.isSome_none, hE3]
      exact hF3
    rw [ep] at hE
    cases er : rngT l
    case true =>
      have hE5 : nodeE l = 5 := by rw [hE, er]; rfl
      rw [rngT_iff] at er
      by_cases r1 : l.hi < l.lo
      · simp (implicitDefEqProofs := false) only [go_sem, Nat.reduceAdd, Nat.reduceSub, Nat.reduceMul, Nat.reduceEqDiff, Nat.reduceLT, Nat.reduceLeDiff, Nat.reduceBEq, ↓reduceIte, ↓Bool.false_eq_true, reduceCtorEq, Int.reduceLE, Int.reduceLT, Int.reduceEq, Int.reduceNeg, Int.reduceToNat, Int.reduceAdd, Int.reduceSub, Value.cells, Bool.false_eq_true, Int.cast_ofNat_Int, List.drop_nil, List.elem_cons, List.length_nil, List.take_nil, Option.isNone_none, Option.isSome_none, hc3, k6, k10, r1, hE5]
        exact hF3
      by_cases r2 : l.lo < -1000000000
      · simp (implicitDefEqProofs := false) only [go_sem, Nat.reduceAdd, Nat.reduceSub, Nat.reduceMul, Nat.reduceEqDiff, Nat.reduceLT, Nat.reduceLeDiff, Nat.reduceBEq, ↓reduceIte, ↓Bool.false_eq_true, reduceCtorEq, Int.reduceLE, Int.reduceLT, Int.reduceEq, Int.reduceNeg, Int.reduceToNat, Int.reduceAdd, Int.reduceSub, Value.cells, Bool.false_eq_true, Int.cast_ofNat_Int, List.drop_nil, List.elem_cons, List.length_nil, List.take_nil, Option.isNone_none, Option.isSome_none, hc3, k6, k10, r1, r2, hE5]
        exact hF3
      have r3 : 1000000000 < l.hi := by omega
      simp (implicitDefEqProofs := false) only [go_sem, Nat.reduceAdd, Nat.reduceSub, Nat.reduceMul, Nat.reduceEqDiff, Nat.reduceLT, Nat.reduceLeDiff, Nat.reduceBEq, ↓reduceIte, ↓Bool.false_eq_true, reduceCtorEq, Int.reduceLE, Int.reduceLT, Int.reduceEq, Int.reduceNeg, Int.reduceToNat, Int.reduceAdd, Int.reduceSub, Value.cells, Bool.false_eq_true, Int.cast_ofNat_Int, List.drop_nil, List.elem_cons, List.length_nil, List.take_nil, Option.isNone_none, Option.isSome_none, hc3, k6, k10, r1, r2, r3, hE5]
      exact hF3
    rw [er] at hE
    have er' : ¬ (l.hi < l.lo ∨ l.lo < -1000000000 ∨ 1000000000 < l.hi) := by rw [← rngT_iff, er]; simp
    have r1 : ¬ l.hi < l.lo := fun h => er' (.inl h)
    have r2 : ¬ l.lo < -1000000000 := fun h => er' (.inr (.inl h))
    have r3 : ¬ 1000000000 < l.hi := fun h => er' (.inr (.inr h))
    have k7 : ¬ l.kind = 7 := by omega
    have hE0 : nodeE l = 0 := by rw [hE, chnT, decide_eq_false k7]; rfl
    simp (implicitDefEqProofs := false) only [go_sem, Nat.reduceAdd, Nat.reduceSub, Nat.reduceMul, Nat.reduceEqDiff, Nat.reduceLT, Nat.reduceLeDiff, Nat.reduceBEq, ↓reduceIte, ↓Bool.false_eq_true, reduceCtorEq, Int.reduceLE, Int.reduceLT, Int.reduceEq, Int.reduceNeg, Int.reduceToNat, Int.reduceAdd, Int.reduceSub, Value.cells, Bool.false_eq_true, Int.cast_ofNat_Int, List.drop_nil, List.elem_cons, List.length_nil, List.take_nil, Option.isNone_none, Option.isSome_none, hc3, k6, k10, r1, r2, r3, hE0]
    exact hF3
  by_cases hd : 6 < d ∨ 64 ≤ n
  case pos =>
    rw [if_pos hd]
    by_cases hd1 : (6 : Int) < (d : Int)
    · simp (implicitDefEqProofs := false) only [go_sem, Nat.reduceAdd, Nat.reduceSub, Nat.reduceMul, Nat.reduceEqDiff, Nat.reduceLT, Nat.reduceLeDiff, Nat.reduceBEq, ↓reduceIte, ↓Bool.false_eq_true, reduceCtorEq, Int.reduceLE, Int.reduceLT, Int.reduceEq, Int.reduceNeg, Int.reduceToNat, Int.reduceAdd, Int.reduceSub, Value.cells, Bool.false_eq_true, Int.cast_ofNat_Int, List.drop_nil, List.elem_cons, List.length_nil, List.take_nil, Option.isNone_none, Option.isSome_none, hc1, k6, k10, hd1]
      exact hf1
    · have hn9 : (64 : Int) ≤ (n : Int) := by omega
      simp (implicitDefEqProofs := false) only [go_sem, Nat.reduceAdd, Nat.reduceSub, Nat.reduceMul, Nat.reduceEqDiff, Nat.reduceLT, Nat.reduceLeDiff, Nat.reduceBEq, ↓reduceIte, ↓Bool.false_eq_true, reduceCtorEq, Int.reduceLE, Int.reduceLT, Int.reduceEq, Int.reduceNeg, Int.reduceToNat, Int.reduceAdd, Int.reduceSub, Value.cells, Bool.false_eq_true, Int.cast_ofNat_Int, List.drop_nil, List.elem_cons, List.length_nil, List.take_nil, Option.isNone_none, Option.isSome_none, hc1, k6, k10, hd1, hn9]
      exact hf1
  rw [if_neg hd]
  have hd1 : ¬ (6 : Int) < (d : Int) := by omega
  have hn1' : ¬ (64 : Int) ≤ (n : Int) := by omega
  simp (implicitDefEqProofs := false) only [go_sem, Nat.reduceAdd, Nat.reduceSub, Nat.reduceMul, Nat.reduceEqDiff, Nat.reduceLT, Nat.reduceLeDiff, Nat.reduceBEq, ↓reduceIte, ↓Bool.false_eq_true, reduceCtorEq, Int.reduceLE, Int.reduceLT, Int.reduceEq, Int.reduceNeg, Int.reduceToNat, Int.reduceAdd, Int.reduceSub, Value.cells, Bool.false_eq_true, Int.cast_ofNat_Int, List.drop_nil, List.elem_cons, List.length_nil, List.take_nil, Option.isNone_none, Option.isSome_none, hc1, k6, k10, hd1, hn1']
  refine (fshape_ok (ha.ext hf1)).mono ?_
  rintro r H2 ⟨rfl, hf2⟩
  have hF2 := hf1.trans hf2
  have hn2 := hn1.ext hf2
  have hc2 := hn2.cell
  cases es : shapeT l
  · have hE : nodeE l = 1 := by simp [nodeE, es]
    simp (implicitDefEqProofs := false) only [go_sem, Nat.reduceAdd, Nat.reduceSub, Nat.reduceMul, Nat.reduceEqDiff, Nat.reduceLT, Nat.reduceLeDiff, Nat.reduceBEq, ↓reduceIte, ↓Bool.false_eq_true, reduceCtorEq, Int.reduceLE, Int.reduceLT, Int.reduceEq, Int.reduceNeg, Int.reduceToNat, Int.reduceAdd, Int.reduceSub, Value.cells, Bool.false_eq_true, Int.cast_ofNat_Int, List.drop_nil, List.elem_cons, List.length_nil, List.take_nil, Option.isNone_none, Option.isSome_none, hE]
    exact hF2
  have hE : nodeE l = or4 (if limT l then 6 else 0) (if spellT l then 0 else 3) (if rngT l then 5 else 0) (if chnT l then 4 else 0) := by simp [nodeE, es]
  by_cases hl1 : (32 : Int) < (l.names.length : Int)
  · have hl : limT l = true := by rw [limT_iff, if_neg k6, if_neg k10]; omega
    have hE6 : nodeE l = 6 := by rw [hE, hl]; rfl
    simp (implicitDefEqProofs := false) only [go_sem, Nat.reduceAdd, Nat.reduceSub, Nat.reduceMul, Nat.reduceEqDiff, Nat.reduceLT, Nat.reduceLeDiff, Nat.reduceBEq, ↓reduceIte, ↓Bool.false_eq_true, reduceCtorEq, Int.reduceLE, Int.reduceLT, Int.reduceEq, Int.reduceNeg, Int.reduceToNat, Int.reduceAdd, Int.reduceSub, Value.cells, Bool.false_eq_true, Int.cast_ofNat_Int, List.drop_nil, List.elem_cons, List.length_nil, List.take_nil, Option.isNone_none, Option.isSome_none, hc2, k6, k10, hl1, hE6]
    exact hF2
  by_cases hl2 : (32 : Int) < (l.rules.length : Int)
  · have hl : limT l = true := by rw [limT_iff]; omega
    have hE6 : nodeE l = 6 := by rw [hE, hl]; rfl
    simp (implicitDefEqProofs := false) only [go_sem, Nat.reduceAdd, Nat.reduceSub, Nat.reduceMul, Nat.reduceEqDiff, Nat.reduceLT, Nat.reduceLeDiff, Nat.reduceBEq, ↓reduceIte, ↓Bool.false_eq_true, reduceCtorEq, Int.reduceLE, Int.reduceLT, Int.reduceEq, Int.reduceNeg, Int.reduceToNat, Int.reduceAdd, Int.reduceSub, Value.cells, Bool.false_eq_true, Int.cast_ofNat_Int, List.drop_nil, List.elem_cons, List.length_nil, List.take_nil, Option.isNone_none, Option.isSome_none, hc2, k6, k10, hl1, hl2, hE6]
    exact hF2
  have hl : limT l = false := by
    rw [← Bool.not_eq_true, limT_iff, if_neg k6, if_neg k10]; omega
  rw [hl] at hE
  simp (implicitDefEqProofs := false) only [go_sem, Nat.reduceAdd, Nat.reduceSub, Nat.reduceMul, Nat.reduceEqDiff, Nat.reduceLT, Nat.reduceLeDiff, Nat.reduceBEq, ↓reduceIte, ↓Bool.false_eq_true, reduceCtorEq, Int.reduceLE, Int.reduceLT, Int.reduceEq, Int.reduceNeg, Int.reduceToNat, Int.reduceAdd, Int.reduceSub, Value.cells, Bool.false_eq_true, Int.cast_ofNat_Int, List.drop_nil, List.elem_cons, List.length_nil, List.take_nil, Option.isNone_none, Option.isSome_none, hc2, k6, k10, hl1, hl2]
  refine (fnamed_ok (ha.ext hF2)).mono ?_
  rintro r H3 ⟨rfl, hf3⟩
  have hF3 := hF2.trans hf3
  have hc3 := (hn2.ext hf3).cell
  rw [named_spell es]
  cases ep : spellT l
  · have hE3 : nodeE l = 3 := by rw [hE, ep]; rfl
    simp (implicitDefEqProofs := false) only [go_sem, Nat.reduceAdd, Nat.reduceSub, Nat.reduceMul, Nat.reduceEqDiff, Nat.reduceLT, Nat.reduceLeDiff, Nat.reduceBEq, ↓reduceIte, ↓Bool.false_eq_true, reduceCtorEq, Int.reduceLE, Int.reduceLT, Int.reduceEq, Int.reduceNeg, Int.reduceToNat, Int.reduceAdd, Int.reduceSub, Value.cells, Bool.false_eq_true, Int.cast_ofNat_Int, List.drop_nil, List.elem_cons, List.length_nil, List.take_nil, Option.isNone_none, Option.isSome_none, hE3]
    exact hF3
  rw [ep] at hE
  cases er : rngT l
  case true =>
    have hE5 : nodeE l = 5 := by rw [hE, er]; rfl
    rw [rngT_iff] at er
    by_cases r1 : l.hi < l.lo
    · simp (implicitDefEqProofs := false) only [go_sem, Nat.reduceAdd, Nat.reduceSub, Nat.reduceMul, Nat.reduceEqDiff, Nat.reduceLT, Nat.reduceLeDiff, Nat.reduceBEq, ↓reduceIte, ↓Bool.false_eq_true, reduceCtorEq, Int.reduceLE, Int.reduceLT, Int.reduceEq, Int.reduceNeg, Int.reduceToNat, Int.reduceAdd, Int.reduceSub, Value.cells, Bool.false_eq_true, Int.cast_ofNat_Int, List.drop_nil, List.elem_cons, List.length_nil, List.take_nil, Option.isNone_none, Option.isSome_none, hc3, k6, k10, r1, hE5]
      exact hF3
    by_cases r2 : l.lo < -1000000000
    · simp (implicitDefEqProofs := false) only [go_sem, Nat.reduceAdd, Nat.reduceSub, Nat.reduceMul, Nat.reduceEqDiff, Nat.reduceLT, Nat.reduceLeDiff, Nat.reduceBEq, ↓reduceIte, ↓Bool.false_eq_true, reduceCtorEq, Int.reduceLE, Int.reduceLT, Int.reduceEq, Int.reduceNeg, Int.reduceToNat, Int.reduceAdd, Int.reduceSub, Value.cells, Bool.false_eq_true, Int.cast_ofNat_Int, List.drop_nil, List.elem_cons, List.length_nil, List.take_nil, Option.isNone_none, Option.isSome_none, hc3, k6, k10, r1, r2, hE5]
      exact hF3
    have r3 : 1000000000 < l.hi := by omega
    simp (implicitDefEqProofs := false) only [go_sem, Nat.reduceAdd, Nat.reduceSub, Nat.reduceMul, Nat.reduceEqDiff, Nat.reduceLT, Nat.reduceLeDiff, Nat.reduceBEq, ↓reduceIte, ↓Bool.false_eq_true, reduceCtorEq, Int.reduceLE, Int.reduceLT, Int.reduceEq, Int.reduceNeg, Int.reduceToNat, Int.reduceAdd, Int.reduceSub, Value.cells, Bool.false_eq_true, Int.cast_ofNat_Int, List.drop_nil, List.elem_cons, List.length_nil, List.take_nil, Option.isNone_none, Option.isSome_none, hc3, k6, k10, r1, r2, r3, hE5]
    exact hF3
  rw [er] at hE
  have er' : ¬ (l.hi < l.lo ∨ l.lo < -1000000000 ∨ 1000000000 < l.hi) := by rw [← rngT_iff, er]; simp
  have r1 : ¬ l.hi < l.lo := fun h => er' (.inl h)
  have r2 : ¬ l.lo < -1000000000 := fun h => er' (.inr (.inl h))
  have r3 : ¬ 1000000000 < l.hi := fun h => er' (.inr (.inr h))
  by_cases k7 : l.kind = 7
  · have hp := shapeT_seven es k7
    obtain ⟨b, o, c, wn, wp, wr, rfl, p0, p1, p2, p3, p4, p5, hq⟩ := PartsA.at (h4.ext hF3) 0 hp
    simp only [Nat.zero_mul, Nat.add_zero] at p0 p1 p2 p3 p4 p5
    have h0 : (0 : Int) < (l.parts.length : Int) := by omega
    have hh : headC l = chainT (l.parts[0]'hp) := by
      unfold headC
      split
      · rename_i e; simp only [e]; rfl
      · rename_i e; rw [e] at hp; simp at hp
    simp (implicitDefEqProofs := false) only [go_sem, Nat.reduceAdd, Nat.reduceSub, Nat.reduceMul, Nat.reduceEqDiff, Nat.reduceLT, Nat.reduceLeDiff, Nat.reduceBEq, ↓reduceIte, ↓Bool.false_eq_true, reduceCtorEq, Int.reduceLE, Int.reduceLT, Int.reduceEq, Int.reduceNeg, Int.reduceToNat, Int.reduceAdd, Int.reduceSub, Value.cells, Bool.false_eq_true, Int.cast_ofNat_Int, List.drop_nil, List.elem_cons, List.length_nil, List.take_nil, Option.isNone_none, Option.isSome_none, hc3, k7, r1, r2, r3, h0, p0, p1, p2, p3, p4, p5]
    refine (fchain_ok _ hq).mono ?_
    rintro r H4 ⟨rfl, hf4⟩
    cases ec : chainT (l.parts[0]'hp)
    · have hE4 : nodeE l = 4 := by rw [hE, chnT, hh, ec, k7]; rfl
      simp (implicitDefEqProofs := false) only [go_sem, Nat.reduceAdd, Nat.reduceSub, Nat.reduceMul, Nat.reduceEqDiff, Nat.reduceLT, Nat.reduceLeDiff, Nat.reduceBEq, ↓reduceIte, ↓Bool.false_eq_true, reduceCtorEq, Int.reduceLE, Int.reduceLT, Int.reduceEq, Int.reduceNeg, Int.reduceToNat, Int.reduceAdd, Int.reduceSub, Value.cells, Bool.false_eq_true, Int.cast_ofNat_Int, List.drop_nil, List.elem_cons, List.length_nil, List.take_nil, Option.isNone_none, Option.isSome_none, hE4]
      exact hF3.trans hf4
    · have hE4 : nodeE l = 0 := by rw [hE, chnT, hh, ec, k7]; rfl
      simp (implicitDefEqProofs := false) only [go_sem, Nat.reduceAdd, Nat.reduceSub, Nat.reduceMul, Nat.reduceEqDiff, Nat.reduceLT, Nat.reduceLeDiff, Nat.reduceBEq, ↓reduceIte, ↓Bool.false_eq_true, reduceCtorEq, Int.reduceLE, Int.reduceLT, Int.reduceEq, Int.reduceNeg, Int.reduceToNat, Int.reduceAdd, Int.reduceSub, Value.cells, Bool.false_eq_true, Int.cast_ofNat_Int, List.drop_nil, List.elem_cons, List.length_nil, List.take_nil, Option.isNone_none, Option.isSome_none, hE4]
      exact hF3.trans hf4
  have hE0 : nodeE l = 0 := by rw [hE, chnT, decide_eq_false k7]; rfl
  simp (implicitDefEqProofs := false) only [go_sem, Nat.reduceAdd, Nat.reduceSub, Nat.reduceMul, Nat.reduceEqDiff, Nat.reduceLT, Nat.reduceLeDiff, Nat.reduceBEq, ↓reduceIte, ↓Bool.false_eq_true, reduceCtorEq, Int.reduceLE, Int.reduceLT, Int.reduceEq, Int.reduceNeg, Int.reduceToNat, Int.reduceAdd, Int.reduceSub, Value.cells, Bool.false_eq_true, Int.cast_ofNat_Int, List.drop_nil, List.elem_cons, List.length_nil, List.take_nil, Option.isNone_none, Option.isSome_none, hc3, k6, k10, k7, r1, r2, r3, hE0]
  exact hF3

end Go.Proofs.Ytcilkhjadljaaaa
