/- The reference's walk: contracts. -/
import Derived.Test.YtcilkhjadljaaaaLy
set_option linter.unusedSimpArgs false
set_option linter.unusedVariables false
set_option maxRecDepth 8000
namespace Go.Proofs.Ytcilkhjadljaaaa
open Gx Go

set_option maxHeartbeats 2000000 in
theorem fwalk_ok (l : Lt) : ∀ {H : Heap} {cs : List Value} {d n : Nat}, LtA H [] l cs →
    HCalls Try.prog 30 #[.agg cs.toArray, .int .i64 d, .int .i64 n] H fun r H' => (∃ c : Nat, r = .tuple #[.int .i64 c, .int .i64 (visT d n l).1] ∧ ((visT d n l).1 = 0 → c = (visT d n l).2)) ∧ Fr [] H H' := by
  refine ltInd (P := fun l => ∀ {H : Heap} {cs : List Value} {d n : Nat}, LtA H [] l cs →
    HCalls Try.prog 30 #[.agg cs.toArray, .int .i64 d, .int .i64 n] H fun r H' => (∃ c : Nat, r = .tuple #[.int .i64 c, .int .i64 (visT d n l).1] ∧ ((visT d n l).1 = 0 → c = (visT d n l).2)) ∧ Fr [] H H') ?_ l
  intro l ih H cs d n ha
  obtain ⟨vn, vp, vr, rfl, h3, h4, h5⟩ := LtA.open ha
  obtain ⟨pa, pc, rfl, hpl, hpc⟩ := PartsA.slice h4
  refine calls_of_vc (args := [_, _, _]) Try.func30 c30ok (Nat.le_of_ble_eq_true rfl) ?_
  rw [visT_open]
  simp (implicitDefEqProofs := false) only [go_sem, Nat.reduceAdd, Nat.reduceSub, Nat.reduceMul, Nat.reduceEqDiff, Nat.reduceLT, Nat.reduceLeDiff, Nat.reduceBEq, ↓reduceIte, ↓Bool.false_eq_true, reduceCtorEq, Int.reduceLE, Int.reduceLT, Int.reduceEq, Int.reduceNeg, Int.reduceToNat, Int.reduceAdd, Int.reduceSub, Value.cells, Bool.false_eq_true, Int.cast_ofNat_Int, List.drop_nil, List.elem_cons, List.length_nil, List.take_nil, Option.isNone_none, Option.isSome_none, c30]
  refine NewP_intro fun H1 hn1 hf1 hs1 => ?_
  have hc1 := hn1.cell
  simp (implicitDefEqProofs := false) only [go_sem, Nat.reduceAdd, Nat.reduceSub, Nat.reduceMul, Nat.reduceEqDiff, Nat.reduceLT, Nat.reduceLeDiff, Nat.reduceBEq, ↓reduceIte, ↓Bool.false_eq_true, reduceCtorEq, Int.reduceLE, Int.reduceLT, Int.reduceEq, Int.reduceNeg, Int.reduceToNat, Int.reduceAdd, Int.reduceSub, Value.cells, Bool.false_eq_true, Int.cast_ofNat_Int, List.drop_nil, List.elem_cons, List.length_nil, List.take_nil, Option.isNone_none, Option.isSome_none, hc1]
  refine (fnode_ok (d := d) (n := n) (ha.ext hf1)).mono ?_
  rintro r H2 ⟨rfl, hf2⟩
  have hF2 := hf1.trans hf2
  have hn2 := hn1.ext hf2
  by_cases hd : 6 < d ∨ 64 ≤ n
  · rw [if_pos hd, if_pos hd]
    simp (implicitDefEqProofs := false) only [go_sem, Nat.reduceAdd, Nat.reduceSub, Nat.reduceMul, Nat.reduceEqDiff, Nat.reduceLT, Nat.reduceLeDiff, Nat.reduceBEq, ↓reduceIte, ↓Bool.false_eq_true, reduceCtorEq, Int.reduceLE, Int.reduceLT, Int.reduceEq, Int.reduceNeg, Int.reduceToNat, Int.reduceAdd, Int.reduceSub, Value.cells, Bool.false_eq_true, Int.cast_ofNat_Int, List.drop_nil, List.elem_cons, List.length_nil, List.take_nil, Option.isNone_none, Option.isSome_none]
    exact ⟨⟨n, rfl⟩, hF2⟩
  rw [if_neg hd, if_neg hd]
  by_cases e0 : nodeE l = 0
  case neg =>
    rw [if_pos e0]
    simp (implicitDefEqProofs := false) only [go_sem, Nat.reduceAdd, Nat.reduceSub, Nat.reduceMul, Nat.reduceEqDiff, Nat.reduceLT, Nat.reduceLeDiff, Nat.reduceBEq, ↓reduceIte, ↓Bool.false_eq_true, reduceCtorEq, Int.reduceLE, Int.reduceLT, Int.reduceEq, Int.reduceNeg, Int.reduceToNat, Int.reduceAdd, Int.reduceSub, Value.cells, Bool.false_eq_true, Int.cast_ofNat_Int, List.drop_nil, List.elem_cons, List.length_nil, List.take_nil, Option.isNone_none, Option.isSome_none, e0]
    exact ⟨⟨n, rfl⟩, hF2⟩
  have hw0 : IntKind.i64.wrap ((n : Int) + 1) = ((n + 1 : Nat) : Int) := by
    rw [wrap_i64_id _ (by omega) (by omega)]; omega
  have hwd : IntKind.i64.wrap ((d : Int) + 1) = ((d + 1 : Nat) : Int) := by
    rw [wrap_i64_id _ (by omega) (by omega)]; omega
  rw [if_neg (by simpa using e0)]
  simp (implicitDefEqProofs := false) only [go_sem, Nat.reduceAdd, Nat.reduceSub, Nat.reduceMul, Nat.reduceEqDiff, Nat.reduceLT, Nat.reduceLeDiff, Nat.reduceBEq, ↓reduceIte, ↓Bool.false_eq_true, reduceCtorEq, Int.reduceLE, Int.reduceLT, Int.reduceEq, Int.reduceNeg, Int.reduceToNat, Int.reduceAdd, Int.reduceSub, Value.cells, Bool.false_eq_true, Int.cast_ofNat_Int, List.drop_nil, List.elem_cons, List.length_nil, List.take_nil, Option.isNone_none, Option.isSome_none, e0, hw0]
  refine vc_loop (fun (x : Nat × Nat) H' => x.1 ≤ l.parts.length ∧ visTs (d + 1) x.2 (l.parts.drop x.1) = visTs (d + 1) (n + 1) l.parts ∧ Fr [] H H' ∧ Fr [] H2 H')
    (fun x => [(1, .int .i64 d), (3, .pointer (some ⟨H.size, 0, none⟩)), (9, .int .i64 x.2), (10, .int .i64 x.1)]) (fun x => l.parts.length - x.1) (0, n + 1) ?_ ?_ ?_
  · exact ⟨Nat.zero_le _, rfl, hF2, Fr.refl _ _⟩
  · simp (implicitDefEqProofs := false) only [go_sem, Nat.reduceAdd, Nat.reduceSub, Nat.reduceMul, Nat.reduceEqDiff, Nat.reduceLT, Nat.reduceLeDiff, Nat.reduceBEq, ↓reduceIte, ↓Bool.false_eq_true, reduceCtorEq, Int.reduceLE, Int.reduceLT, Int.reduceEq, Int.reduceNeg, Int.reduceToNat, Int.reduceAdd, Int.reduceSub, Value.cells, Bool.false_eq_true, Int.cast_ofNat_Int, List.drop_nil, List.elem_cons, List.length_nil, List.take_nil, Option.isNone_none, Option.isSome_none]
  · rintro ⟨i, m⟩ H' ⟨hi, hv, hF, hF'⟩
    simp only at hi hv ⊢
    have hx := (hn2.ext hF').cell
    rcases Nat.lt_or_ge i l.parts.length with hlt | hge
    · have hlt' : (i : Int) < (l.parts.length : Int) := by omega
      have h0 : (0 : Int) ≤ (i : Int) := by omega
      obtain ⟨bb, o, c, wn, wp, wr, e1, p0, p1, p2, p3, p4, p5, hp⟩ := PartsA.at (h4.ext hF) i hlt
      cases e1
      have hw := succ_i64 i l.parts.length hlt (by omega)
      rw [visTs_drop _ _ hlt] at hv
      simp (implicitDefEqProofs := false) only [go_sem, Nat.reduceAdd, Nat.reduceSub, Nat.reduceMul, Nat.reduceEqDiff, Nat.reduceLT, Nat.reduceLeDiff, Nat.reduceBEq, ↓reduceIte, ↓Bool.false_eq_true, reduceCtorEq, Int.reduceLE, Int.reduceLT, Int.reduceEq, Int.reduceNeg, Int.reduceToNat, Int.reduceAdd, Int.reduceSub, Value.cells, Bool.false_eq_true, Int.cast_ofNat_Int, List.drop_nil, List.elem_cons, List.length_nil, List.take_nil, Option.isNone_none, Option.isSome_none, hlt', h0, hx, p0, p1, p2, p3, p4, p5, hwd]
      refine (ih i hlt (d := d + 1) (n := m) hp).mono ?_
      rintro r H4 ⟨⟨c', rfl, hc'⟩, hf4⟩
      by_cases ev : (visT (d + 1) m l.parts[i]).1 = 0
      · rw [if_neg (by simpa using ev)] at hv
        have := hc' ev
        subst this
        simp (implicitDefEqProofs := false) only [go_sem, Nat.reduceAdd, Nat.reduceSub, Nat.reduceMul, Nat.reduceEqDiff, Nat.reduceLT, Nat.reduceLeDiff, Nat.reduceBEq, ↓reduceIte, ↓Bool.false_eq_true, reduceCtorEq, Int.reduceLE, Int.reduceLT, Int.reduceEq, Int.reduceNeg, Int.reduceToNat, Int.reduceAdd, Int.reduceSub, Value.cells, Bool.false_eq_true, Int.cast_ofNat_Int, List.drop_nil, List.elem_cons, List.length_nil, List.take_nil, Option.isNone_none, Option.isSome_none, ev]
        refine loopK_intro (i + 1, (visT (d + 1) m l.parts[i]).2) (by show l.parts.length - (i + 1) < l.parts.length - i; omega) ?_ ⟨hlt, hv, hF.trans hf4, hF'.trans hf4⟩
        simp (implicitDefEqProofs := false) only [go_sem, Nat.reduceAdd, Nat.reduceSub, Nat.reduceMul, Nat.reduceEqDiff, Nat.reduceLT, Nat.reduceLeDiff, Nat.reduceBEq, ↓reduceIte, ↓Bool.false_eq_true, reduceCtorEq, Int.reduceLE, Int.reduceLT, Int.reduceEq, Int.reduceNeg, Int.reduceToNat, Int.reduceAdd, Int.reduceSub, Value.cells, Bool.false_eq_true, Int.cast_ofNat_Int, List.drop_nil, List.elem_cons, List.length_nil, List.take_nil, Option.isNone_none, Option.isSome_none, hw]
      · rw [if_pos ev] at hv
        simp (implicitDefEqProofs := false) only [go_sem, Nat.reduceAdd, Nat.reduceSub, Nat.reduceMul, Nat.reduceEqDiff, Nat.reduceLT, Nat.reduceLeDiff, Nat.reduceBEq, ↓reduceIte, ↓Bool.false_eq_true, reduceCtorEq, Int.reduceLE, Int.reduceLT, Int.reduceEq, Int.reduceNeg, Int.reduceToNat, Int.reduceAdd, Int.reduceSub, Value.cells, Bool.false_eq_true, Int.cast_ofNat_Int, List.drop_nil, List.elem_cons, List.length_nil, List.take_nil, Option.isNone_none, Option.isSome_none, ev]
        exact ⟨⟨m, by rw [hv], fun h => by rw [← hv] at h; exact absurd h ev⟩, hF.trans hf4⟩
    · have hge' : ¬ (i : Int) < (l.parts.length : Int) := by omega
      rw [List.drop_eq_nil_of_le hge] at hv
      simp (implicitDefEqProofs := false) only [go_sem, Nat.reduceAdd, Nat.reduceSub, Nat.reduceMul, Nat.reduceEqDiff, Nat.reduceLT, Nat.reduceLeDiff, Nat.reduceBEq, ↓reduceIte, ↓Bool.false_eq_true, reduceCtorEq, Int.reduceLE, Int.reduceLT, Int.reduceEq, Int.reduceNeg, Int.reduceToNat, Int.reduceAdd, Int.reduceSub, Value.cells, Bool.false_eq_true, Int.cast_ofNat_Int, List.drop_nil, List.elem_cons, List.length_nil, List.take_nil, Option.isNone_none, Option.isSome_none, hge', hx]
      rw [← hv]
      exact ⟨⟨m, rfl, fun _ => rfl⟩, hF⟩

theorem fcheck_ok {l : Lt} {H : Heap} {cs : List Value} (ha : LtA H [] l cs) : HCalls Try.prog 13 #[.agg cs.toArray] H fun r H' => r = .int .i64 (visT 1 0 l).1 ∧ Fr [] H H' := by
  obtain ⟨vn, vp, vr, rfl, h3, h4, h5⟩ := LtA.open ha
  refine calls_of_vc (args := [_]) Try.func13 c13ok (Nat.le_of_ble_eq_true rfl) ?_
  simp (implicitDefEqProofs := false) only [go_sem, Nat.reduceAdd, Nat.reduceSub, Nat.reduceMul, Nat.reduceEqDiff, Nat.reduceLT, Nat.reduceLeDiff, Nat.reduceBEq, ↓reduceIte, ↓Bool.false_eq_true, reduceCtorEq, Int.reduceLE, Int.reduceLT, Int.reduceEq, Int.reduceNeg, Int.reduceToNat, Int.reduceAdd, Int.reduceSub, Value.cells, Bool.false_eq_true, Int.cast_ofNat_Int, List.drop_nil, List.elem_cons, List.length_nil, List.take_nil, Option.isNone_none, Option.isSome_none, c13]
  refine NewP_intro fun H1 hn1 hf1 hs1 => ?_
  have hc1 := hn1.cell
  simp (implicitDefEqProofs := false) only [go_sem, Nat.reduceAdd, Nat.reduceSub, Nat.reduceMul, Nat.reduceEqDiff, Nat.reduceLT, Nat.reduceLeDiff, Nat.reduceBEq, ↓reduceIte, ↓Bool.false_eq_true, reduceCtorEq, Int.reduceLE, Int.reduceLT, Int.reduceEq, Int.reduceNeg, Int.reduceToNat, Int.reduceAdd, Int.reduceSub, Value.cells, Bool.false_eq_true, Int.cast_ofNat_Int, List.drop_nil, List.elem_cons, List.length_nil, List.take_nil, Option.isNone_none, Option.isSome_none, hc1]
  refine (fwalk_ok l (d := 1) (n := 0) (ha.ext hf1)).mono ?_
  rintro r H2 ⟨⟨c', rfl, hc'⟩, hf2⟩
  simp (implicitDefEqProofs := false) only [go_sem, Nat.reduceAdd, Nat.reduceSub, Nat.reduceMul, Nat.reduceEqDiff, Nat.reduceLT, Nat.reduceLeDiff, Nat.reduceBEq, ↓reduceIte, ↓Bool.false_eq_true, reduceCtorEq, Int.reduceLE, Int.reduceLT, Int.reduceEq, Int.reduceNeg, Int.reduceToNat, Int.reduceAdd, Int.reduceSub, Value.cells, Bool.false_eq_true, Int.cast_ofNat_Int, List.drop_nil, List.elem_cons, List.length_nil, List.take_nil, Option.isNone_none, Option.isSome_none]
  exact hf1.trans hf2

end Go.Proofs.Ytcilkhjadljaaaa
