/- The law of the parts. -/
import Derived.Test.YtcilkhjadljaaaaLlb
set_option linter.unusedSimpArgs false
set_option linter.unusedVariables false
set_option maxRecDepth 8000
namespace Go.Proofs.Ytcilkhjadljaaaa
open Gx Go

theorem visTs_mono : ∀ {ps : List Lt}, (∀ p ∈ ps, ∀ {d n d' n' : Nat}, (visT d n p).1 = 0 → d' ≤ d → n' ≤ n → (visT d' n' p).1 = 0 ∧ (visT d' n' p).2 ≤ (visT d n p).2) →
    ∀ {d n d' n' : Nat}, (visTs d n ps).1 = 0 → d' ≤ d → n' ≤ n → (visTs d' n' ps).1 = 0 ∧ (visTs d' n' ps).2 ≤ (visTs d n ps).2
  | [], _, d, n, d', n', _, _, hn => ⟨rfl, hn⟩
  | q :: ps, h, d, n, d', n', hz, hd, hn => by
    simp only [visTs] at hz ⊢
    by_cases h1 : (visT d n q).1 = 0
    · rw [if_neg (by simpa using h1)] at hz
      obtain ⟨h2, h3⟩ := h q (by simp) h1 hd hn
      rw [if_neg (by simpa using h2), if_neg (by simpa using h1)]
      exact visTs_mono (fun p hp => h p (by simp [hp])) hz hd h3
    · rw [if_pos h1] at hz; exact absurd hz h1
theorem vis_mono (l : Lt) : ∀ {d n d' n' : Nat}, (visT d n l).1 = 0 → d' ≤ d → n' ≤ n → (visT d' n' l).1 = 0 ∧ (visT d' n' l).2 ≤ (visT d n l).2 := by
  refine ltInd (P := fun l => ∀ {d n d' n' : Nat}, (visT d n l).1 = 0 → d' ≤ d → n' ≤ n → (visT d' n' l).1 = 0 ∧ (visT d' n' l).2 ≤ (visT d n l).2) ?_ l
  intro l ih d n d' n' h hd hn
  rw [visT_open] at h ⊢
  rw [visT_open d n l]
  by_cases h1 : 6 < d ∨ 64 ≤ n
  · rw [if_pos h1] at h; cases h
  rw [if_neg h1] at h ⊢
  rw [if_neg (by omega)]
  by_cases h2 : nodeE l = 0
  · rw [if_neg (by simpa using h2)] at h ⊢
    rw [if_neg (by simpa using h2)]
    refine visTs_mono (fun p hp => ?_) h (by omega) (by omega)
    obtain ⟨j, hj, rfl⟩ := List.getElem_of_mem hp
    exact ih j hj
  · rw [if_pos h2] at h; exact absurd h h2
theorem vis_part {l : Lt} (h : (visT 1 0 l).1 = 0) (j : Nat) (hj : j < l.parts.length) : (visT 1 0 l.parts[j]).1 = 0 := by
  obtain ⟨h1, h2, h3⟩ := visT_zero h
  -- the part is met at some depth of at least 1 with some count
  have key : ∀ {ps : List Lt} {d n : Nat}, (visTs d n ps).1 = 0 → ∀ p ∈ ps, ∃ m, (visT d m p).1 = 0 := visTs_zero
  obtain ⟨m, hm⟩ := key h3 _ (List.getElem_mem hj)
  exact (vis_mono _ hm (by omega) (Nat.zero_le _)).1
theorem dis_part {l : Lt} (h : disT l = true) (j : Nat) (hj : j < l.parts.length) : disT l.parts[j] = true := by
  rw [disT_open] at h
  split at h
  · cases h
  · exact List.all_eq_true.1 h _ (List.getElem_mem hj)
theorem fin_part {l : Lt} (h : finT l = true) (j : Nat) (hj : j < l.parts.length) : finT l.parts[j] = true := by
  rw [finT_open] at h
  split at h
  · cases h
  · exact List.all_eq_true.1 h _ (List.getElem_mem hj)

set_option maxHeartbeats 2000000 in
theorem lparts_ok {l : Lt} {H : Heap} {cs : List Value} (ha : LtA H [] l cs) : HCalls Try.prog 10 #[.agg cs.toArray] H fun r H' => r = .bool true ∧ Fr [] H H' := by
  obtain ⟨vn, vp, vr, rfl, _, h4, _⟩ := LtA.open ha
  obtain ⟨pa, pc, rfl, hpl, hpc⟩ := PartsA.slice h4
  refine calls_of_vc (args := [_]) Try.func10 c10ok (Nat.le_of_ble_eq_true rfl) ?_
  simp (implicitDefEqProofs := false) only [go_sem, Nat.reduceAdd, Nat.reduceSub, Nat.reduceMul, Nat.reduceEqDiff, Nat.reduceLT, Nat.reduceLeDiff, Nat.reduceBEq, ↓reduceIte, ↓Bool.false_eq_true, reduceCtorEq, Int.reduceLE, Int.reduceLT, Int.reduceEq, Int.reduceNeg, Int.reduceToNat, Int.reduceAdd, Int.reduceSub, Value.cells, Bool.false_eq_true, Int.cast_ofNat_Int, List.drop_nil, List.elem_cons, List.length_nil, List.take_nil, Option.isNone_none, Option.isSome_none, c10]
  refine NewP_intro fun H1 hn1 hf1 hs1 => ?_
  have hfr := hf1
  have hb := hn1
  replace ha := ha.ext hf1
  replace h4 := h4.ext hf1
  simp (implicitDefEqProofs := false) only [go_sem, Nat.reduceAdd, Nat.reduceSub, Nat.reduceMul, Nat.reduceEqDiff, Nat.reduceLT, Nat.reduceLeDiff, Nat.reduceBEq, ↓reduceIte, ↓Bool.false_eq_true, reduceCtorEq, Int.reduceLE, Int.reduceLT, Int.reduceEq, Int.reduceNeg, Int.reduceToNat, Int.reduceAdd, Int.reduceSub, Value.cells, Bool.false_eq_true, Int.cast_ofNat_Int, List.drop_nil, List.elem_cons, List.length_nil, List.take_nil, Option.isNone_none, Option.isSome_none]
  refine (awake_ok H1).mono ?_
  rintro r Hc1 ⟨rfl, hfc1⟩
  replace hfr := hfr.trans hfc1
  replace hb := hb.ext hfc1
  replace ha := ha.ext hfc1
  replace h4 := h4.ext hfc1
  simp (implicitDefEqProofs := false) only [go_sem, Nat.reduceAdd, Nat.reduceSub, Nat.reduceMul, Nat.reduceEqDiff, Nat.reduceLT, Nat.reduceLeDiff, Nat.reduceBEq, ↓reduceIte, ↓Bool.false_eq_true, reduceCtorEq, Int.reduceLE, Int.reduceLT, Int.reduceEq, Int.reduceNeg, Int.reduceToNat, Int.reduceAdd, Int.reduceSub, Value.cells, Bool.false_eq_true, Int.cast_ofNat_Int, List.drop_nil, List.elem_cons, List.length_nil, List.take_nil, Option.isNone_none, Option.isSome_none, hb.cell]
  refine (check_ok ha).mono ?_
  rintro r Hc2 ⟨rfl, hfc2⟩
  replace hfr := hfr.trans hfc2
  replace hb := hb.ext hfc2
  replace ha := ha.ext hfc2
  replace h4 := h4.ext hfc2
  by_cases e0 : (visT 1 0 l).1 = 0
  case neg =>
    simp (implicitDefEqProofs := false) only [go_sem, Nat.reduceAdd, Nat.reduceSub, Nat.reduceMul, Nat.reduceEqDiff, Nat.reduceLT, Nat.reduceLeDiff, Nat.reduceBEq, ↓reduceIte, ↓Bool.false_eq_true, reduceCtorEq, Int.reduceLE, Int.reduceLT, Int.reduceEq, Int.reduceNeg, Int.reduceToNat, Int.reduceAdd, Int.reduceSub, Value.cells, Bool.false_eq_true, Int.cast_ofNat_Int, List.drop_nil, List.elem_cons, List.length_nil, List.take_nil, Option.isNone_none, Option.isSome_none, e0]
    exact hfr
  have hmx : ∀ a b : Nat, (if (a : Int) < (b : Int) then (b : Int) else (a : Int)) = ((max a b : Nat) : Int) := fun a b => by split <;> omega
  have hmx2 : ∀ a b : Nat, ((max a b : Nat) : Int) = (if (a : Int) < (b : Int) then (b : Int) else (a : Int)) := fun a b => (hmx a b).symm
  have hdl := vis_depth l e0
  have hdo := depT_open l
  simp (implicitDefEqProofs := false) only [go_sem, Nat.reduceAdd, Nat.reduceSub, Nat.reduceMul, Nat.reduceEqDiff, Nat.reduceLT, Nat.reduceLeDiff, Nat.reduceBEq, ↓reduceIte, ↓Bool.false_eq_true, reduceCtorEq, Int.reduceLE, Int.reduceLT, Int.reduceEq, Int.reduceNeg, Int.reduceToNat, Int.reduceAdd, Int.reduceSub, Value.cells, Bool.false_eq_true, Int.cast_ofNat_Int, List.drop_nil, List.elem_cons, List.length_nil, List.take_nil, Option.isNone_none, Option.isSome_none, e0, hb.cell]
  have hfr0 := hfr
  refine vc_loop (fun (i : Nat) H' => i ≤ l.parts.length ∧ Fr [] Hc2 H')
    (fun i => [(1, .pointer (some ⟨H.size, 0, none⟩)), (3, .int .i64 (depTs (l.parts.take i))), (4, .int .i64 i)]) (fun i => l.parts.length - i) 0 ?_ ?_ ?_
  · exact ⟨Nat.zero_le _, Fr.refl _ _⟩
  · simp (implicitDefEqProofs := false) only [go_sem, Nat.reduceAdd, Nat.reduceSub, Nat.reduceMul, Nat.reduceEqDiff, Nat.reduceLT, Nat.reduceLeDiff, Nat.reduceBEq, ↓reduceIte, ↓Bool.false_eq_true, reduceCtorEq, Int.reduceLE, Int.reduceLT, Int.reduceEq, Int.reduceNeg, Int.reduceToNat, Int.reduceAdd, Int.reduceSub, Value.cells, Bool.false_eq_true, Int.cast_ofNat_Int, List.drop_nil, List.elem_cons, List.length_nil, List.take_nil, Option.isNone_none, Option.isSome_none, depTs]
  · rintro i H' ⟨hi, hf'⟩
    replace hb := hb.ext hf'
    replace ha := ha.ext hf'
    replace h4 := h4.ext hf'
    clear hfr
    have hfr := hf'
    rcases Nat.lt_or_ge i l.parts.length with hlt | hge
    · have hlt' : (i : Int) < (l.parts.length : Int) := by omega
      have h0 : (0 : Int) ≤ (i : Int) := by omega
      have hw := succ_i64 i l.parts.length hlt (by omega)
      obtain ⟨b, o, c, wn, wp, wr, e1, p0, p1, p2, p3, p4, p5, hp⟩ := PartsA.at h4 i hlt
      cases e1
      have hv := vis_part e0 i hlt
      have hdp : depT l.parts[i] < 2^60 := by have := vis_depth _ hv; omega
      simp (implicitDefEqProofs := false) only [go_sem, Nat.reduceAdd, Nat.reduceSub, Nat.reduceMul, Nat.reduceEqDiff, Nat.reduceLT, Nat.reduceLeDiff, Nat.reduceBEq, ↓reduceIte, ↓Bool.false_eq_true, reduceCtorEq, Int.reduceLE, Int.reduceLT, Int.reduceEq, Int.reduceNeg, Int.reduceToNat, Int.reduceAdd, Int.reduceSub, Value.cells, Bool.false_eq_true, Int.cast_ofNat_Int, List.drop_nil, List.elem_cons, List.length_nil, List.take_nil, Option.isNone_none, Option.isSome_none, hlt', h0, hb.cell, p0, p1, p2, p3, p4, p5]
      refine (check_ok hp).mono ?_
      rintro r Hc3 ⟨rfl, hfc3⟩
      replace hfr := hfr.trans hfc3
      replace hb := hb.ext hfc3
      replace ha := ha.ext hfc3
      replace h4 := h4.ext hfc3
      replace hp := hp.ext hfc3
      simp (implicitDefEqProofs := false) only [go_sem, Nat.reduceAdd, Nat.reduceSub, Nat.reduceMul, Nat.reduceEqDiff, Nat.reduceLT, Nat.reduceLeDiff, Nat.reduceBEq, ↓reduceIte, ↓Bool.false_eq_true, reduceCtorEq, Int.reduceLE, Int.reduceLT, Int.reduceEq, Int.reduceNeg, Int.reduceToNat, Int.reduceAdd, Int.reduceSub, Value.cells, Bool.false_eq_true, Int.cast_ofNat_Int, List.drop_nil, List.elem_cons, List.length_nil, List.take_nil, Option.isNone_none, Option.isSome_none, hv, hb.cell]
      refine (dis_ok l ha).mono ?_
      rintro r Hc4 ⟨rfl, hfc4⟩
      replace hfr := hfr.trans hfc4
      replace hb := hb.ext hfc4
      replace ha := ha.ext hfc4
      replace h4 := h4.ext hfc4
      replace hp := hp.ext hfc4
      cases ed : disT l
      · simp (implicitDefEqProofs := false) only [go_sem, Nat.reduceAdd, Nat.reduceSub, Nat.reduceMul, Nat.reduceEqDiff, Nat.reduceLT, Nat.reduceLeDiff, Nat.reduceBEq, ↓reduceIte, ↓Bool.false_eq_true, reduceCtorEq, Int.reduceLE, Int.reduceLT, Int.reduceEq, Int.reduceNeg, Int.reduceToNat, Int.reduceAdd, Int.reduceSub, Value.cells, Bool.false_eq_true, Int.cast_ofNat_Int, List.drop_nil, List.elem_cons, List.length_nil, List.take_nil, Option.isNone_none, Option.isSome_none, ed, hb.cell]
        refine (fin_ok l ha).mono ?_
        rintro r Hc5 ⟨rfl, hfc5⟩
        replace hfr := hfr.trans hfc5
        replace hb := hb.ext hfc5
        replace ha := ha.ext hfc5
        replace h4 := h4.ext hfc5
        cases ef : finT l
        · simp (implicitDefEqProofs := false) only [go_sem, Nat.reduceAdd, Nat.reduceSub, Nat.reduceMul, Nat.reduceEqDiff, Nat.reduceLT, Nat.reduceLeDiff, Nat.reduceBEq, ↓reduceIte, ↓Bool.false_eq_true, reduceCtorEq, Int.reduceLE, Int.reduceLT, Int.reduceEq, Int.reduceNeg, Int.reduceToNat, Int.reduceAdd, Int.reduceSub, Value.cells, Bool.false_eq_true, Int.cast_ofNat_Int, List.drop_nil, List.elem_cons, List.length_nil, List.take_nil, Option.isNone_none, Option.isSome_none, ef, hb.cell]
          obtain ⟨_, _, _, _, _, _, e21, q0, q1, q2, q3, q4, q5, hp21⟩ := PartsA.at h4 i hlt
          cases e21
          simp (implicitDefEqProofs := false) only [go_sem, Nat.reduceAdd, Nat.reduceSub, Nat.reduceMul, Nat.reduceEqDiff, Nat.reduceLT, Nat.reduceLeDiff, Nat.reduceBEq, ↓reduceIte, ↓Bool.false_eq_true, reduceCtorEq, Int.reduceLE, Int.reduceLT, Int.reduceEq, Int.reduceNeg, Int.reduceToNat, Int.reduceAdd, Int.reduceSub, Value.cells, Bool.false_eq_true, Int.cast_ofNat_Int, List.drop_nil, List.elem_cons, List.length_nil, List.take_nil, Option.isNone_none, Option.isSome_none, hb.cell, hlt', h0, q0, q1, q2, q3, q4, q5]
          refine (dep_ok _ hp21 hdp).mono ?_
          rintro r Hc6 ⟨rfl, hfc6⟩
          replace hfr := hfr.trans hfc6
          replace hb := hb.ext hfc6
          replace ha := ha.ext hfc6
          replace h4 := h4.ext hfc6
          simp (implicitDefEqProofs := false) only [go_sem, Nat.reduceAdd, Nat.reduceSub, Nat.reduceMul, Nat.reduceEqDiff, Nat.reduceLT, Nat.reduceLeDiff, Nat.reduceBEq, ↓reduceIte, ↓Bool.false_eq_true, reduceCtorEq, Int.reduceLE, Int.reduceLT, Int.reduceEq, Int.reduceNeg, Int.reduceToNat, Int.reduceAdd, Int.reduceSub, Value.cells, Bool.false_eq_true, Int.cast_ofNat_Int, List.drop_nil, List.elem_cons, List.length_nil, List.take_nil, Option.isNone_none, Option.isSome_none, hb.cell, hmx]
          refine loopK_intro (i + 1) (by show l.parts.length - (i + 1) < l.parts.length - i; omega) ?_ ⟨hlt, hfr⟩
          simp (implicitDefEqProofs := false) only [go_sem, Nat.reduceAdd, Nat.reduceSub, Nat.reduceMul, Nat.reduceEqDiff, Nat.reduceLT, Nat.reduceLeDiff, Nat.reduceBEq, ↓reduceIte, ↓Bool.false_eq_true, reduceCtorEq, Int.reduceLE, Int.reduceLT, Int.reduceEq, Int.reduceNeg, Int.reduceToNat, Int.reduceAdd, Int.reduceSub, Value.cells, Bool.false_eq_true, Int.cast_ofNat_Int, List.drop_nil, List.elem_cons, List.length_nil, List.take_nil, Option.isNone_none, Option.isSome_none, hw, depTs_take _ _ hlt, hmx2]
        ·
          obtain ⟨_, _, _, _, _, _, e11, q0, q1, q2, q3, q4, q5, hp11⟩ := PartsA.at h4 i hlt
          cases e11
          have hfq := fin_part ef i hlt
          simp (implicitDefEqProofs := false) only [go_sem, Nat.reduceAdd, Nat.reduceSub, Nat.reduceMul, Nat.reduceEqDiff, Nat.reduceLT, Nat.reduceLeDiff, Nat.reduceBEq, ↓reduceIte, ↓Bool.false_eq_true, reduceCtorEq, Int.reduceLE, Int.reduceLT, Int.reduceEq, Int.reduceNeg, Int.reduceToNat, Int.reduceAdd, Int.reduceSub, Value.cells, Bool.false_eq_true, Int.cast_ofNat_Int, List.drop_nil, List.elem_cons, List.length_nil, List.take_nil, Option.isNone_none, Option.isSome_none, ef, hlt', h0, hb.cell, q0, q1, q2, q3, q4, q5]
          refine (fin_ok _ hp11).mono ?_
          rintro r Hc7 ⟨rfl, hfc7⟩
          replace hfr := hfr.trans hfc7
          replace hb := hb.ext hfc7
          replace ha := ha.ext hfc7
          replace h4 := h4.ext hfc7
          simp (implicitDefEqProofs := false) only [go_sem, Nat.reduceAdd, Nat.reduceSub, Nat.reduceMul, Nat.reduceEqDiff, Nat.reduceLT, Nat.reduceLeDiff, Nat.reduceBEq, ↓reduceIte, ↓Bool.false_eq_true, reduceCtorEq, Int.reduceLE, Int.reduceLT, Int.reduceEq, Int.reduceNeg, Int.reduceToNat, Int.reduceAdd, Int.reduceSub, Value.cells, Bool.false_eq_true, Int.cast_ofNat_Int, List.drop_nil, List.elem_cons, List.length_nil, List.take_nil, Option.isNone_none, Option.isSome_none, hfq, hb.cell]
          obtain ⟨_, _, _, _, _, _, e31, q0, q1, q2, q3, q4, q5, hp31⟩ := PartsA.at h4 i hlt
          cases e31
          simp (implicitDefEqProofs := false) only [go_sem, Nat.reduceAdd, Nat.reduceSub, Nat.reduceMul, Nat.reduceEqDiff, Nat.reduceLT, Nat.reduceLeDiff, Nat.reduceBEq, ↓reduceIte, ↓Bool.false_eq_true, reduceCtorEq, Int.reduceLE, Int.reduceLT, Int.reduceEq, Int.reduceNeg, Int.reduceToNat, Int.reduceAdd, Int.reduceSub, Value.cells, Bool.false_eq_true, Int.cast_ofNat_Int, List.drop_nil, List.elem_cons, List.length_nil, List.take_nil, Option.isNone_none, Option.isSome_none, hb.cell, hlt', h0, q0, q1, q2, q3, q4, q5]
          refine (dep_ok _ hp31 hdp).mono ?_
          rintro r Hc8 ⟨rfl, hfc8⟩
          replace hfr := hfr.trans hfc8
          replace hb := hb.ext hfc8
          replace ha := ha.ext hfc8
          replace h4 := h4.ext hfc8
          simp (implicitDefEqProofs := false) only [go_sem, Nat.reduceAdd, Nat.reduceSub, Nat.reduceMul, Nat.reduceEqDiff, Nat.reduceLT, Nat.reduceLeDiff, Nat.reduceBEq, ↓reduceIte, ↓Bool.false_eq_true, reduceCtorEq, Int.reduceLE, Int.reduceLT, Int.reduceEq, Int.reduceNeg, Int.reduceToNat, Int.reduceAdd, Int.reduceSub, Value.cells, Bool.false_eq_true, Int.cast_ofNat_Int, List.drop_nil, List.elem_cons, List.length_nil, List.take_nil, Option.isNone_none, Option.isSome_none, hb.cell, hmx]
          refine loopK_intro (i + 1) (by show l.parts.length - (i + 1) < l.parts.length - i; omega) ?_ ⟨hlt, hfr⟩
          simp (implicitDefEqProofs := false) only [go_sem, Nat.reduceAdd, Nat.reduceSub, Nat.reduceMul, Nat.reduceEqDiff, Nat.reduceLT, Nat.reduceLeDiff, Nat.reduceBEq, ↓reduceIte, ↓Bool.false_eq_true, reduceCtorEq, Int.reduceLE, Int.reduceLT, Int.reduceEq, Int.reduceNeg, Int.reduceToNat, Int.reduceAdd, Int.reduceSub, Value.cells, Bool.false_eq_true, Int.cast_ofNat_Int, List.drop_nil, List.elem_cons, List.length_nil, List.take_nil, Option.isNone_none, Option.isSome_none, hw, depTs_take _ _ hlt, hmx2]
      ·
        obtain ⟨_, _, _, _, _, _, e2, q0, q1, q2, q3, q4, q5, hp2⟩ := PartsA.at h4 i hlt
        cases e2
        have hdq := dis_part ed i hlt
        simp (implicitDefEqProofs := false) only [go_sem, Nat.reduceAdd, Nat.reduceSub, Nat.reduceMul, Nat.reduceEqDiff, Nat.reduceLT, Nat.reduceLeDiff, Nat.reduceBEq, ↓reduceIte, ↓Bool.false_eq_true, reduceCtorEq, Int.reduceLE, Int.reduceLT, Int.reduceEq, Int.reduceNeg, Int.reduceToNat, Int.reduceAdd, Int.reduceSub, Value.cells, Bool.false_eq_true, Int.cast_ofNat_Int, List.drop_nil, List.elem_cons, List.length_nil, List.take_nil, Option.isNone_none, Option.isSome_none, ed, hlt', h0, hb.cell, q0, q1, q2, q3, q4, q5]
        refine (dis_ok _ hp2).mono ?_
        rintro r Hc9 ⟨rfl, hfc9⟩
        replace hfr := hfr.trans hfc9
        replace hb := hb.ext hfc9
        replace ha := ha.ext hfc9
        replace h4 := h4.ext hfc9
        simp (implicitDefEqProofs := false) only [go_sem, Nat.reduceAdd, Nat.reduceSub, Nat.reduceMul, Nat.reduceEqDiff, Nat.reduceLT, Nat.reduceLeDiff, Nat.reduceBEq, ↓reduceIte, ↓Bool.false_eq_true, reduceCtorEq, Int.reduceLE, Int.reduceLT, Int.reduceEq, Int.reduceNeg, Int.reduceToNat, Int.reduceAdd, Int.reduceSub, Value.cells, Bool.false_eq_true, Int.cast_ofNat_Int, List.drop_nil, List.elem_cons, List.length_nil, List.take_nil, Option.isNone_none, Option.isSome_none, hdq, hb.cell]
        refine (fin_ok l ha).mono ?_
        rintro r Hc10 ⟨rfl, hfc10⟩
        replace hfr := hfr.trans hfc10
        replace hb := hb.ext hfc10
        replace ha := ha.ext hfc10
        replace h4 := h4.ext hfc10
        cases ef : finT l
        · simp (implicitDefEqProofs := false) only [go_sem, Nat.reduceAdd, Nat.reduceSub, Nat.reduceMul, Nat.reduceEqDiff, Nat.reduceLT, Nat.reduceLeDiff, Nat.reduceBEq, ↓reduceIte, ↓Bool.false_eq_true, reduceCtorEq, Int.reduceLE, Int.reduceLT, Int.reduceEq, Int.reduceNeg, Int.reduceToNat, Int.reduceAdd, Int.reduceSub, Value.cells, Bool.false_eq_true, Int.cast_ofNat_Int, List.drop_nil, List.elem_cons, List.length_nil, List.take_nil, Option.isNone_none, Option.isSome_none, ef, hb.cell]
          obtain ⟨_, _, _, _, _, _, e23, q0, q1, q2, q3, q4, q5, hp23⟩ := PartsA.at h4 i hlt
          cases e23
          simp (implicitDefEqProofs := false) only [go_sem, Nat.reduceAdd, Nat.reduceSub, Nat.reduceMul, Nat.reduceEqDiff, Nat.reduceLT, Nat.reduceLeDiff, Nat.reduceBEq, ↓reduceIte, ↓Bool.false_eq_true, reduceCtorEq, Int.reduceLE, Int.reduceLT, Int.reduceEq, Int.reduceNeg, Int.reduceToNat, Int.reduceAdd, Int.reduceSub, Value.cells, Bool.false_eq_true, Int.cast_ofNat_Int, List.drop_nil, List.elem_cons, List.length_nil, List.take_nil, Option.isNone_none, Option.isSome_none, hb.cell, hlt', h0, q0, q1, q2, q3, q4, q5]
          refine (dep_ok _ hp23 hdp).mono ?_
          rintro r Hc11 ⟨rfl, hfc11⟩
          replace hfr := hfr.trans hfc11
          replace hb := hb.ext hfc11
          replace ha := ha.ext hfc11
          replace h4 := h4.ext hfc11
          simp (implicitDefEqProofs := false) only [go_sem, Nat.reduceAdd, Nat.reduceSub, Nat.reduceMul, Nat.reduceEqDiff, Nat.reduceLT, Nat.reduceLeDiff, Nat.reduceBEq, ↓reduceIte, ↓Bool.false_eq_true, reduceCtorEq, Int.reduceLE, Int.reduceLT, Int.reduceEq, Int.reduceNeg, Int.reduceToNat, Int.reduceAdd, Int.reduceSub, Value.cells, Bool.false_eq_true, Int.cast_ofNat_Int, List.drop_nil, List.elem_cons, List.length_nil, List.take_nil, Option.isNone_none, Option.isSome_none, hb.cell, hmx]
          refine loopK_intro (i + 1) (by show l.parts.length - (i + 1) < l.parts.length - i; omega) ?_ ⟨hlt, hfr⟩
          simp (implicitDefEqProofs := false) only [go_sem, Nat.reduceAdd, Nat.reduceSub, Nat.reduceMul, Nat.reduceEqDiff, Nat.reduceLT, Nat.reduceLeDiff, Nat.reduceBEq, ↓reduceIte, ↓Bool.false_eq_true, reduceCtorEq, Int.reduceLE, Int.reduceLT, Int.reduceEq, Int.reduceNeg, Int.reduceToNat, Int.reduceAdd, Int.reduceSub, Value.cells, Bool.false_eq_true, Int.cast_ofNat_Int, List.drop_nil, List.elem_cons, List.length_nil, List.take_nil, Option.isNone_none, Option.isSome_none, hw, depTs_take _ _ hlt, hmx2]
        ·
          obtain ⟨_, _, _, _, _, _, e13, q0, q1, q2, q3, q4, q5, hp13⟩ := PartsA.at h4 i hlt
          cases e13
          have hfq := fin_part ef i hlt
          simp (implicitDefEqProofs := false) only [go_sem, Nat.reduceAdd, Nat.reduceSub, Nat.reduceMul, Nat.reduceEqDiff, Nat.reduceLT, Nat.reduceLeDiff, Nat.reduceBEq, ↓reduceIte, ↓Bool.false_eq_true, reduceCtorEq, Int.reduceLE, Int.reduceLT, Int.reduceEq, Int.reduceNeg, Int.reduceToNat, Int.reduceAdd, Int.reduceSub, Value.cells, Bool.false_eq_true, Int.cast_ofNat_Int, List.drop_nil, List.elem_cons, List.length_nil, List.take_nil, Option.isNone_none, Option.isSome_none, ef, hlt', h0, hb.cell, q0, q1, q2, q3, q4, q5]
          refine (fin_ok _ hp13).mono ?_
          rintro r Hc12 ⟨rfl, hfc12⟩
          replace hfr := hfr.trans hfc12
          replace hb := hb.ext hfc12
          replace ha := ha.ext hfc12
          replace h4 := h4.ext hfc12
          simp (implicitDefEqProofs := false) only [go_sem, Nat.reduceAdd, Nat.reduceSub, Nat.reduceMul, Nat.reduceEqDiff, Nat.reduceLT, Nat.reduceLeDiff, Nat.reduceBEq, ↓reduceIte, ↓Bool.false_eq_true, reduceCtorEq, Int.reduceLE, Int.reduceLT, Int.reduceEq, Int.reduceNeg, Int.reduceToNat, Int.reduceAdd, Int.reduceSub, Value.cells, Bool.false_eq_true, Int.cast_ofNat_Int, List.drop_nil, List.elem_cons, List.length_nil, List.take_nil, Option.isNone_none, Option.isSome_none, hfq, hb.cell]
          obtain ⟨_, _, _, _, _, _, e33, q0, q1, q2, q3, q4, q5, hp33⟩ := PartsA.at h4 i hlt
          cases e33
          simp (implicitDefEqProofs := false) only [go_sem, Nat.reduceAdd, Nat.reduceSub, Nat.reduceMul, Nat.reduceEqDiff, Nat.reduceLT, Nat.reduceLeDiff, Nat.reduceBEq, ↓reduceIte, ↓Bool.false_eq_true, reduceCtorEq, Int.reduceLE, Int.reduceLT, Int.reduceEq, Int.reduceNeg, Int.reduceToNat, Int.reduceAdd, Int.reduceSub, Value.cells, Bool.false_eq_true, Int.cast_ofNat_Int, List.drop_nil, List.elem_cons, List.length_nil, List.take_nil, Option.isNone_none, Option.isSome_none, hb.cell, hlt', h0, q0, q1, q2, q3, q4, q5]
          refine (dep_ok _ hp33 hdp).mono ?_
          rintro r Hc13 ⟨rfl, hfc13⟩
          replace hfr := hfr.trans hfc13
          replace hb := hb.ext hfc13
          replace ha := ha.ext hfc13
          replace h4 := h4.ext hfc13
          simp (implicitDefEqProofs := false) only [go_sem, Nat.reduceAdd, Nat.reduceSub, Nat.reduceMul, Nat.reduceEqDiff, Nat.reduceLT, Nat.reduceLeDiff, Nat.reduceBEq, ↓reduceIte, ↓Bool.false_eq_true, reduceCtorEq, Int.reduceLE, Int.reduceLT, Int.reduceEq, Int.reduceNeg, Int.reduceToNat, Int.reduceAdd, Int.reduceSub, Value.cells, Bool.false_eq_true, Int.cast_ofNat_Int, List.drop_nil, List.elem_cons, List.length_nil, List.take_nil, Option.isNone_none, Option.isSome_none, hb.cell, hmx]
          refine loopK_intro (i + 1) (by show l.parts.length - (i + 1) < l.parts.length - i; omega) ?_ ⟨hlt, hfr⟩
          simp (implicitDefEqProofs := false) only [go_sem, Nat.reduceAdd, Nat.reduceSub, Nat.reduceMul, Nat.reduceEqDiff, Nat.reduceLT, Nat.reduceLeDiff, Nat.reduceBEq, ↓reduceIte, ↓Bool.false_eq_true, reduceCtorEq, Int.reduceLE, Int.reduceLT, Int.reduceEq, Int.reduceNeg, Int.reduceToNat, Int.reduceAdd, Int.reduceSub, Value.cells, Bool.false_eq_true, Int.cast_ofNat_Int, List.drop_nil, List.elem_cons, List.length_nil, List.take_nil, Option.isNone_none, Option.isSome_none, hw, depTs_take _ _ hlt, hmx2]
    · have hge' : ¬ (i : Int) < (l.parts.length : Int) := by omega
      have e : l.parts.take i = l.parts := List.take_of_length_le hge
      have hwd : IntKind.i64.wrap ((depTs l.parts : Int) + 1) = ((depTs l.parts + 1 : Nat) : Int) := by rw [wrap_i64_id _ (by omega) (by omega)]; omega
      have h6 : ((depTs l.parts : Nat) : Int) < 6 := by omega
      have he : ((depT l : Nat) : Int) = ((depTs l.parts + 1 : Nat) : Int) := by omega
      simp (implicitDefEqProofs := false) only [go_sem, Nat.reduceAdd, Nat.reduceSub, Nat.reduceMul, Nat.reduceEqDiff, Nat.reduceLT, Nat.reduceLeDiff, Nat.reduceBEq, ↓reduceIte, ↓Bool.false_eq_true, reduceCtorEq, Int.reduceLE, Int.reduceLT, Int.reduceEq, Int.reduceNeg, Int.reduceToNat, Int.reduceAdd, Int.reduceSub, Value.cells, Bool.false_eq_true, Int.cast_ofNat_Int, List.drop_nil, List.elem_cons, List.length_nil, List.take_nil, Option.isNone_none, Option.isSome_none, hge', e, hb.cell]
      refine (dep_ok l ha (by omega)).mono ?_
      rintro r Hc14 ⟨rfl, hfc14⟩
      replace hfr := hfr.trans hfc14
      replace hb := hb.ext hfc14
      replace ha := ha.ext hfc14
      simp (implicitDefEqProofs := false) only [go_sem, Nat.reduceAdd, Nat.reduceSub, Nat.reduceMul, Nat.reduceEqDiff, Nat.reduceLT, Nat.reduceLeDiff, Nat.reduceBEq, ↓reduceIte, ↓Bool.false_eq_true, reduceCtorEq, Int.reduceLE, Int.reduceLT, Int.reduceEq, Int.reduceNeg, Int.reduceToNat, Int.reduceAdd, Int.reduceSub, Value.cells, Bool.false_eq_true, Int.cast_ofNat_Int, List.drop_nil, List.elem_cons, List.length_nil, List.take_nil, Option.isNone_none, Option.isSome_none, hwd, he, h6]
      exact hfr0.trans hfr

end Go.Proofs.Ytcilkhjadljaaaa
