/- The law of the fields. -/
import Derived.Test.YtcilkhjadljaaaaLlb
set_option linter.unusedSimpArgs false
set_option linter.unusedVariables false
set_option maxRecDepth 8000
namespace Go.Proofs.Ytcilkhjadljaaaa
open Gx Go

theorem fields_ok {l : Lt} {s : Bs} {H : Heap} {cs : List Value} (ha : LtA H [] l cs) : HCalls Try.prog 6 #[.agg cs.toArray, sv s] H fun r H' => r = .bool true ∧ Fr [] H H' := by
  obtain ⟨vn, vp, vr, rfl, _, _, _⟩ := LtA.open ha
  refine calls_of_vc (args := [_, _]) Try.func6 c6ok (Nat.le_of_ble_eq_true rfl) ?_
  simp (implicitDefEqProofs := false) only [go_sem, Nat.reduceAdd, Nat.reduceSub, Nat.reduceMul, Nat.reduceEqDiff, Nat.reduceLT, Nat.reduceLeDiff, Nat.reduceBEq, ↓reduceIte, ↓Bool.false_eq_true, reduceCtorEq, Int.reduceLE, Int.reduceLT, Int.reduceEq, Int.reduceNeg, Int.reduceToNat, Int.reduceAdd, Int.reduceSub, Value.cells, Bool.false_eq_true, Int.cast_ofNat_Int, List.drop_nil, List.elem_cons, List.length_nil, List.take_nil, Option.isNone_none, Option.isSome_none, c6]
  refine NewP_intro fun H1 hn1 hf1 hs1 => ?_
  have hfr := hf1
  have hb := hn1
  replace ha := ha.ext hf1
  simp (implicitDefEqProofs := false) only [go_sem, Nat.reduceAdd, Nat.reduceSub, Nat.reduceMul, Nat.reduceEqDiff, Nat.reduceLT, Nat.reduceLeDiff, Nat.reduceBEq, ↓reduceIte, ↓Bool.false_eq_true, reduceCtorEq, Int.reduceLE, Int.reduceLT, Int.reduceEq, Int.reduceNeg, Int.reduceToNat, Int.reduceAdd, Int.reduceSub, Value.cells, Bool.false_eq_true, Int.cast_ofNat_Int, List.drop_nil, List.elem_cons, List.length_nil, List.take_nil, Option.isNone_none, Option.isSome_none]
  refine (awake_ok H1).mono ?_
  rintro r Hc1 ⟨rfl, hfc1⟩
  replace hfr := hfr.trans hfc1
  replace hb := hb.ext hfc1
  replace ha := ha.ext hfc1
  simp (implicitDefEqProofs := false) only [go_sem, Nat.reduceAdd, Nat.reduceSub, Nat.reduceMul, Nat.reduceEqDiff, Nat.reduceLT, Nat.reduceLeDiff, Nat.reduceBEq, ↓reduceIte, ↓Bool.false_eq_true, reduceCtorEq, Int.reduceLE, Int.reduceLT, Int.reduceEq, Int.reduceNeg, Int.reduceToNat, Int.reduceAdd, Int.reduceSub, Value.cells, Bool.false_eq_true, Int.cast_ofNat_Int, List.drop_nil, List.elem_cons, List.length_nil, List.take_nil, Option.isNone_none, Option.isSome_none, hb.cell]
  refine (check_ok ha).mono ?_
  rintro r Hc2 ⟨rfl, hfc2⟩
  replace hfr := hfr.trans hfc2
  replace hb := hb.ext hfc2
  replace ha := ha.ext hfc2
  by_cases e0 : (visT 1 0 l).1 = 0
  case neg =>
    simp (implicitDefEqProofs := false) only [go_sem, Nat.reduceAdd, Nat.reduceSub, Nat.reduceMul, Nat.reduceEqDiff, Nat.reduceLT, Nat.reduceLeDiff, Nat.reduceBEq, ↓reduceIte, ↓Bool.false_eq_true, reduceCtorEq, Int.reduceLE, Int.reduceLT, Int.reduceEq, Int.reduceNeg, Int.reduceToNat, Int.reduceAdd, Int.reduceSub, Value.cells, Bool.false_eq_true, Int.cast_ofNat_Int, List.drop_nil, List.elem_cons, List.length_nil, List.take_nil, Option.isNone_none, Option.isSome_none, e0]
    exact hfr
  simp (implicitDefEqProofs := false) only [go_sem, Nat.reduceAdd, Nat.reduceSub, Nat.reduceMul, Nat.reduceEqDiff, Nat.reduceLT, Nat.reduceLeDiff, Nat.reduceBEq, ↓reduceIte, ↓Bool.false_eq_true, reduceCtorEq, Int.reduceLE, Int.reduceLT, Int.reduceEq, Int.reduceNeg, Int.reduceToNat, Int.reduceAdd, Int.reduceSub, Value.cells, Bool.false_eq_true, Int.cast_ofNat_Int, List.drop_nil, List.elem_cons, List.length_nil, List.take_nil, Option.isNone_none, Option.isSome_none, e0, hb.cell]
  refine (field_ok (s := s) ha).mono ?_
  rintro r Hc3 ⟨⟨fs, rfl, dF⟩, hfc3⟩
  replace hfr := hfr.trans hfc3
  replace hb := hb.ext hfc3
  replace ha := ha.ext hfc3
  obtain ⟨fn, fp, fq, rfl, _, _, _⟩ := LtA.open dF
  simp (implicitDefEqProofs := false) only [go_sem, Nat.reduceAdd, Nat.reduceSub, Nat.reduceMul, Nat.reduceEqDiff, Nat.reduceLT, Nat.reduceLeDiff, Nat.reduceBEq, ↓reduceIte, ↓Bool.false_eq_true, reduceCtorEq, Int.reduceLE, Int.reduceLT, Int.reduceEq, Int.reduceNeg, Int.reduceToNat, Int.reduceAdd, Int.reduceSub, Value.cells, Bool.false_eq_true, Int.cast_ofNat_Int, List.drop_nil, List.elem_cons, List.length_nil, List.take_nil, Option.isNone_none, Option.isSome_none]
  refine NewP_intro fun Ha hna hfa hsa => ?_
  simp (implicitDefEqProofs := false) only [go_sem, Nat.reduceAdd, Nat.reduceSub, Nat.reduceMul, Nat.reduceEqDiff, Nat.reduceLT, Nat.reduceLeDiff, Nat.reduceBEq, ↓reduceIte, ↓Bool.false_eq_true, reduceCtorEq, Int.reduceLE, Int.reduceLT, Int.reduceEq, Int.reduceNeg, Int.reduceToNat, Int.reduceAdd, Int.reduceSub, Value.cells, Bool.false_eq_true, Int.cast_ofNat_Int, List.drop_nil, List.elem_cons, List.length_nil, List.take_nil, Option.isNone_none, Option.isSome_none]
  refine Sto_all hna rfl (LtA.one6 dF) fun Hb hnb hfb hsb => ?_
  have hfab := new_fr hfa hfb
  replace hfr := hfr.trans hfab
  replace hb := hb.ext hfab
  replace ha := ha.ext hfab
  replace dF := dF.ext hfab
  obtain ⟨okv, hok⟩ : ∃ x, x = (fieldT l s).2 := ⟨_, rfl⟩
  rw [← hok]
  have hshape := nodeE_shape (visT_zero e0).2.1
  obtain ⟨_, _, _, e, h3, h4, h5⟩ := LtA.open ha
  simp only [List.cons.injEq, true_and, and_true] at e
  obtain ⟨rfl, rfl, rfl⟩ := e
  obtain ⟨na, nc, rfl, hnl, hnc⟩ := StrsA.slice h3
  obtain ⟨pa, pc, rfl, hpl, hpc⟩ := PartsA.slice h4
  by_cases k6 : l.kind = 6
  case neg =>
    have hf : okv = false := by rw [hok, fieldT, if_neg k6]
    simp (implicitDefEqProofs := false) only [go_sem, Nat.reduceAdd, Nat.reduceSub, Nat.reduceMul, Nat.reduceEqDiff, Nat.reduceLT, Nat.reduceLeDiff, Nat.reduceBEq, ↓reduceIte, ↓Bool.false_eq_true, reduceCtorEq, Int.reduceLE, Int.reduceLT, Int.reduceEq, Int.reduceNeg, Int.reduceToNat, Int.reduceAdd, Int.reduceSub, Value.cells, Bool.false_eq_true, Int.cast_ofNat_Int, List.drop_nil, List.elem_cons, List.length_nil, List.take_nil, Option.isNone_none, Option.isSome_none, hb.cell, k6, hf]
    exact hfr
  have hlen : l.parts.length = l.names.length := by
    unfold shapeT at hshape
    simp [k6] at hshape
    exact hshape.1
  simp (implicitDefEqProofs := false) only [go_sem, Nat.reduceAdd, Nat.reduceSub, Nat.reduceMul, Nat.reduceEqDiff, Nat.reduceLT, Nat.reduceLeDiff, Nat.reduceBEq, ↓reduceIte, ↓Bool.false_eq_true, reduceCtorEq, Int.reduceLE, Int.reduceLT, Int.reduceEq, Int.reduceNeg, Int.reduceToNat, Int.reduceAdd, Int.reduceSub, Value.cells, Bool.false_eq_true, Int.cast_ofNat_Int, List.drop_nil, List.elem_cons, List.length_nil, List.take_nil, Option.isNone_none, Option.isSome_none, hb.cell, k6]
  refine vc_loop (fun (i : Nat) H' => i ≤ l.names.length ∧ (∀ (k : Nat) (hk : k < i) (hl : k < l.names.length), l.names[k] ≠ s) ∧ Hb = H')
    (fun i => [(1, sv s), (2, .pointer (some ⟨H.size, 0, none⟩)), (5, .pointer (some ⟨Hc3.size, 0, none⟩)), (6, .bool okv), (7, .int .i64 i)]) (fun i => l.names.length - i) 0 ?_ ?_ ?_
  · exact ⟨Nat.zero_le _, fun k hk => by omega, rfl⟩
  · simp (implicitDefEqProofs := false) only [go_sem, Nat.reduceAdd, Nat.reduceSub, Nat.reduceMul, Nat.reduceEqDiff, Nat.reduceLT, Nat.reduceLeDiff, Nat.reduceBEq, ↓reduceIte, ↓Bool.false_eq_true, reduceCtorEq, Int.reduceLE, Int.reduceLT, Int.reduceEq, Int.reduceNeg, Int.reduceToNat, Int.reduceAdd, Int.reduceSub, Value.cells, Bool.false_eq_true, Int.cast_ofNat_Int, List.drop_nil, List.elem_cons, List.length_nil, List.take_nil, Option.isNone_none, Option.isSome_none]
  · rintro i H' ⟨hi, hall, rfl⟩
    rcases Nat.lt_or_ge i l.names.length with hlt | hge
    · have hlt' : (i : Int) < (l.names.length : Int) := by omega
      have hlp : i < l.parts.length := by omega
      have hlp' : (i : Int) < (l.parts.length : Int) := by omega
      have h0 : (0 : Int) ≤ (i : Int) := by omega
      have hw := succ_i64 i l.names.length hlt (by omega)
      obtain ⟨b1, o1, c1, e1, h1⟩ := StrsA.at h3 i hlt
      cases e1
      by_cases es : l.names[i] = s
      · have hT : fieldT l s = (l.parts[i], true) := by
          rw [fieldT, if_pos k6, fieldF_at hlt es (fun k hk => hall k hk (by omega)), List.getElem?_eq_getElem hlp]
        have hf : okv = true := by rw [hok, hT]
        rw [hT] at dF
        obtain ⟨bb, o, c, wn, wp, wr, e2, p0, p1, p2, p3, p4, p5, hp⟩ := PartsA.at h4 i hlp
        cases e2
        simp (implicitDefEqProofs := false) only [go_sem, Nat.reduceAdd, Nat.reduceSub, Nat.reduceMul, Nat.reduceEqDiff, Nat.reduceLT, Nat.reduceLeDiff, Nat.reduceBEq, ↓reduceIte, ↓Bool.false_eq_true, reduceCtorEq, Int.reduceLE, Int.reduceLT, Int.reduceEq, Int.reduceNeg, Int.reduceToNat, Int.reduceAdd, Int.reduceSub, Value.cells, Bool.false_eq_true, Int.cast_ofNat_Int, List.drop_nil, List.elem_cons, List.length_nil, List.take_nil, Option.isNone_none, Option.isSome_none, hb.cell, hnb.cell, hlt', h0, h1, sv, ba_eq, es, hf, hlp', p0, p1, p2, p3, p4, p5]
        rw [hT]
        refine (equal_ok _ l.parts[i] l.parts[i] (Nat.le_refl _) dF hp).mono ?_
        rintro r Hc4 ⟨rfl, hfc4⟩
        replace hfr := hfr.trans hfc4
        replace hb := hb.ext hfc4
        simp (implicitDefEqProofs := false) only [go_sem, Nat.reduceAdd, Nat.reduceSub, Nat.reduceMul, Nat.reduceEqDiff, Nat.reduceLT, Nat.reduceLeDiff, Nat.reduceBEq, ↓reduceIte, ↓Bool.false_eq_true, reduceCtorEq, Int.reduceLE, Int.reduceLT, Int.reduceEq, Int.reduceNeg, Int.reduceToNat, Int.reduceAdd, Int.reduceSub, Value.cells, Bool.false_eq_true, Int.cast_ofNat_Int, List.drop_nil, List.elem_cons, List.length_nil, List.take_nil, Option.isNone_none, Option.isSome_none, eqT_refl]
        exact hfr
      · simp (implicitDefEqProofs := false) only [go_sem, Nat.reduceAdd, Nat.reduceSub, Nat.reduceMul, Nat.reduceEqDiff, Nat.reduceLT, Nat.reduceLeDiff, Nat.reduceBEq, ↓reduceIte, ↓Bool.false_eq_true, reduceCtorEq, Int.reduceLE, Int.reduceLT, Int.reduceEq, Int.reduceNeg, Int.reduceToNat, Int.reduceAdd, Int.reduceSub, Value.cells, Bool.false_eq_true, Int.cast_ofNat_Int, List.drop_nil, List.elem_cons, List.length_nil, List.take_nil, Option.isNone_none, Option.isSome_none, hb.cell, hlt', h0, h1, sv, ba_eq, es]
        refine loopK_intro (i + 1) (by show l.names.length - (i + 1) < l.names.length - i; omega) ?_ ⟨hlt, fun k hk hl => ?_, rfl⟩
        · simp (implicitDefEqProofs := false) only [go_sem, Nat.reduceAdd, Nat.reduceSub, Nat.reduceMul, Nat.reduceEqDiff, Nat.reduceLT, Nat.reduceLeDiff, Nat.reduceBEq, ↓reduceIte, ↓Bool.false_eq_true, reduceCtorEq, Int.reduceLE, Int.reduceLT, Int.reduceEq, Int.reduceNeg, Int.reduceToNat, Int.reduceAdd, Int.reduceSub, Value.cells, Bool.false_eq_true, Int.cast_ofNat_Int, List.drop_nil, List.elem_cons, List.length_nil, List.take_nil, Option.isNone_none, Option.isSome_none, hw, sv]
        · rcases Nat.lt_or_ge k i with q | q
          · exact hall k q hl
          · obtain rfl : k = i := by omega
            exact es
    · have hge' : ¬ (i : Int) < (l.names.length : Int) := by omega
      have hf : okv = false := by
        rw [hok, fieldT, if_pos k6, fieldF_none]
        intro hm
        obtain ⟨k, hk, e⟩ := List.getElem_of_mem hm
        exact hall k (by omega) hk e
      simp (implicitDefEqProofs := false) only [go_sem, Nat.reduceAdd, Nat.reduceSub, Nat.reduceMul, Nat.reduceEqDiff, Nat.reduceLT, Nat.reduceLeDiff, Nat.reduceBEq, ↓reduceIte, ↓Bool.false_eq_true, reduceCtorEq, Int.reduceLE, Int.reduceLT, Int.reduceEq, Int.reduceNeg, Int.reduceToNat, Int.reduceAdd, Int.reduceSub, Value.cells, Bool.false_eq_true, Int.cast_ofNat_Int, List.drop_nil, List.elem_cons, List.length_nil, List.take_nil, Option.isNone_none, Option.isSome_none, hb.cell, hge', hf]
      exact hfr

end Go.Proofs.Ytcilkhjadljaaaa
