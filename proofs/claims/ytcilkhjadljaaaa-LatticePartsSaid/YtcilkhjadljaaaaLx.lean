/- The reference's spelling of a node: contracts. -/
import Derived.Test.YtcilkhjadljaaaaLv
set_option linter.unusedSimpArgs false
set_option linter.unusedVariables false
set_option maxRecDepth 8000
namespace Go.Proofs.Ytcilkhjadljaaaa
open Gx Go

def ruleF (names : List Bs) (r : Rl) : Bool := decide (0 < r.ifs.length) && ((r.ifs.all nameT && sortedT r.ifs) && (decide (r.thn ∈ names) && r.ifs.all fun s => decide (s ∈ names)))
def namedT (l : Lt) : Bool := if l.kind = 6 then nmF true [] l.names else (l.names.all nameT && sortedT l.names) && l.rules.all (ruleF l.names)

theorem nmF_all : ∀ (l s : List Bs), nmF false s l = l.all nameT
  | [], _ => rfl
  | x :: r, s => by simp [nmF, nmF_all r]
theorem ruleF_ruleT {names : List Bs} (h : names.all nameT = true) (r : Rl) : ruleF names r = ruleT names r := by
  have key : (r.ifs.all fun s => decide (s ∈ names)) = true → r.ifs.all nameT = true := by
    intro hs
    rw [List.all_eq_true] at *
    intro x hx
    exact h x (by simpa using hs x hx)
  unfold ruleF ruleT
  cases h1 : (r.ifs.all fun s => decide (s ∈ names))
  · simp
  · rw [key h1, Bool.true_and, Bool.and_true, Bool.true_and]
theorem named_spell {l : Lt} (h : shapeT l = true) : namedT l = spellT l := by
  unfold namedT spellT
  by_cases k6 : l.kind = 6
  · have hr : l.rules = [] := by
      unfold shapeT at h
      simp [k6] at h
      exact h.2.2.1
    simp [k6, hr]
  · rw [if_neg k6, decide_eq_false k6, nmF_all, Bool.false_or]
    cases hn : l.names.all nameT
    · simp
    · have : (ruleF l.names) = ruleT l.names := funext fun r => ruleF_ruleT hn r
      rw [this, Bool.true_and, Bool.true_and]

set_option maxHeartbeats 4000000 in
theorem fnamed_ok {l : Lt} {H : Heap} {cs : List Value} (ha : LtA H [] l cs) : HCalls Try.prog 83 #[.agg cs.toArray] H fun r H' => r = .bool (namedT l) ∧ Fr [] H H' := by
  obtain ⟨vn, vp, vr, rfl, h3, h4, h5⟩ := LtA.open ha
  obtain ⟨na, nc, rfl, hnl, hnc⟩ := StrsA.slice h3
  obtain ⟨ra, rc, rfl, hrl, hrc⟩ := RulesA.slice h5
  refine calls_of_vc (args := [_]) Try.func83 c83ok (Nat.le_of_ble_eq_true rfl) ?_
  simp (implicitDefEqProofs := false) only [go_sem, Nat.reduceAdd, Nat.reduceSub, Nat.reduceMul, Nat.reduceEqDiff, Nat.reduceLT, Nat.reduceLeDiff, Nat.reduceBEq, ↓reduceIte, ↓Bool.false_eq_true, reduceCtorEq, Int.reduceLE, Int.reduceLT, Int.reduceEq, Int.reduceNeg, Int.reduceToNat, Int.reduceAdd, Int.reduceSub, Value.cells, Bool.false_eq_true, Int.cast_ofNat_Int, List.drop_nil, List.elem_cons, List.length_nil, List.take_nil, Option.isNone_none, Option.isSome_none, c83]
  refine NewP_intro fun H1 hn1 hf1 hs1 => ?_
  have hc1 := hn1.cell
  by_cases k6 : l.kind = 6
  · have hS : namedT l = nmF true [] l.names := by rw [namedT, if_pos k6]
    simp (implicitDefEqProofs := false) only [go_sem, Nat.reduceAdd, Nat.reduceSub, Nat.reduceMul, Nat.reduceEqDiff, Nat.reduceLT, Nat.reduceLeDiff, Nat.reduceBEq, ↓reduceIte, ↓Bool.false_eq_true, reduceCtorEq, Int.reduceLE, Int.reduceLT, Int.reduceEq, Int.reduceNeg, Int.reduceToNat, Int.reduceAdd, Int.reduceSub, Value.cells, Bool.false_eq_true, Int.cast_ofNat_Int, List.drop_nil, List.elem_cons, List.length_nil, List.take_nil, Option.isNone_none, Option.isSome_none, hc1, k6]
    refine vc_loop (fun (i : Nat) H' => i ≤ l.names.length ∧ nmF true (l.names.take i) (l.names.drop i) = nmF true [] l.names ∧ H1 = H')
      (fun i => [(1, .pointer (some ⟨H.size, 0, none⟩)), (3, .int .i64 i)]) (fun i => l.names.length - i) 0 ?_ ?_ ?_
    · exact ⟨Nat.zero_le _, rfl, rfl⟩
    · simp (implicitDefEqProofs := false) only [go_sem, Nat.reduceAdd, Nat.reduceSub, Nat.reduceMul, Nat.reduceEqDiff, Nat.reduceLT, Nat.reduceLeDiff, Nat.reduceBEq, ↓reduceIte, ↓Bool.false_eq_true, reduceCtorEq, Int.reduceLE, Int.reduceLT, Int.reduceEq, Int.reduceNeg, Int.reduceToNat, Int.reduceAdd, Int.reduceSub, Value.cells, Bool.false_eq_true, Int.cast_ofNat_Int, List.drop_nil, List.elem_cons, List.length_nil, List.take_nil, Option.isNone_none, Option.isSome_none]
    · rintro i H' ⟨hi, hv, rfl⟩
      rcases Nat.lt_or_ge i l.names.length with hlt | hge
      · have hlt' : (i : Int) < (l.names.length : Int) := by omega
        have h0 : (0 : Int) ≤ (i : Int) := by omega
        have hle' : (i : Int) ≤ (nc : Int) := by omega
        obtain ⟨b1, o1, c1, e1, h1⟩ := StrsA.at (h3.ext hf1) i hlt
        cases e1
        have hw := succ_i64 i l.names.length hlt (by omega)
        rw [nmF_drop _ hlt] at hv
        simp (implicitDefEqProofs := false) only [go_sem, Nat.reduceAdd, Nat.reduceSub, Nat.reduceMul, Nat.reduceEqDiff, Nat.reduceLT, Nat.reduceLeDiff, Nat.reduceBEq, ↓reduceIte, ↓Bool.false_eq_true, reduceCtorEq, Int.reduceLE, Int.reduceLT, Int.reduceEq, Int.reduceNeg, Int.reduceToNat, Int.reduceAdd, Int.reduceSub, Value.cells, Bool.false_eq_true, Int.cast_ofNat_Int, List.drop_nil, List.elem_cons, List.length_nil, List.take_nil, Option.isNone_none, Option.isSome_none, hlt', h0, h1, hc1]
        refine (fname_ok l.names[i] H1).mono ?_
        rintro r H2 ⟨rfl, hEq⟩
        obtain rfl := hEq.symm
        cases en : nameT l.names[i]
        · simp (implicitDefEqProofs := false) only [go_sem, Nat.reduceAdd, Nat.reduceSub, Nat.reduceMul, Nat.reduceEqDiff, Nat.reduceLT, Nat.reduceLeDiff, Nat.reduceBEq, ↓reduceIte, ↓Bool.false_eq_true, reduceCtorEq, Int.reduceLE, Int.reduceLT, Int.reduceEq, Int.reduceNeg, Int.reduceToNat, Int.reduceAdd, Int.reduceSub, Value.cells, Bool.false_eq_true, Int.cast_ofNat_Int, List.drop_nil, List.elem_cons, List.length_nil, List.take_nil, Option.isNone_none, Option.isSome_none, hc1]
          exact ⟨by rw [hS, ← hv, en]; rfl, hf1⟩
        rw [en, Bool.true_and] at hv
        simp (implicitDefEqProofs := false) only [go_sem, Nat.reduceAdd, Nat.reduceSub, Nat.reduceMul, Nat.reduceEqDiff, Nat.reduceLT, Nat.reduceLeDiff, Nat.reduceBEq, ↓reduceIte, ↓Bool.false_eq_true, reduceCtorEq, Int.reduceLE, Int.reduceLT, Int.reduceEq, Int.reduceNeg, Int.reduceToNat, Int.reduceAdd, Int.reduceSub, Value.cells, Bool.false_eq_true, Int.cast_ofNat_Int, List.drop_nil, List.elem_cons, List.length_nil, List.take_nil, Option.isNone_none, Option.isSome_none, hc1, h0, hle', hlt', h1]
        refine (fin_ok' l.names[i] (StrsA.takeL (h3.ext hf1) hi)).mono ?_
        rintro r H2 ⟨rfl, hEq⟩
        obtain rfl := hEq.symm
        by_cases ec : l.names[i] ∈ l.names.take i
        · simp (implicitDefEqProofs := false) only [go_sem, Nat.reduceAdd, Nat.reduceSub, Nat.reduceMul, Nat.reduceEqDiff, Nat.reduceLT, Nat.reduceLeDiff, Nat.reduceBEq, ↓reduceIte, ↓Bool.false_eq_true, reduceCtorEq, Int.reduceLE, Int.reduceLT, Int.reduceEq, Int.reduceNeg, Int.reduceToNat, Int.reduceAdd, Int.reduceSub, Value.cells, Bool.false_eq_true, Int.cast_ofNat_Int, List.drop_nil, List.elem_cons, List.length_nil, List.take_nil, Option.isNone_none, Option.isSome_none, ec]
          exact ⟨by rw [hS, ← hv, decide_eq_true ec]; rfl, hf1⟩
        · simp (implicitDefEqProofs := false) only [go_sem, Nat.reduceAdd, Nat.reduceSub, Nat.reduceMul, Nat.reduceEqDiff, Nat.reduceLT, Nat.reduceLeDiff, Nat.reduceBEq, ↓reduceIte, ↓Bool.false_eq_true, reduceCtorEq, Int.reduceLE, Int.reduceLT, Int.reduceEq, Int.reduceNeg, Int.reduceToNat, Int.reduceAdd, Int.reduceSub, Value.cells, Bool.false_eq_true, Int.cast_ofNat_Int, List.drop_nil, List.elem_cons, List.length_nil, List.take_nil, Option.isNone_none, Option.isSome_none, ec]
          refine loopK_intro (i + 1) (by show l.names.length - (i + 1) < l.names.length - i; omega) ?_ ⟨hlt, ?_, rfl⟩
          · simp (implicitDefEqProofs := false) only [go_sem, Nat.reduceAdd, Nat.reduceSub, Nat.reduceMul, Nat.reduceEqDiff, Nat.reduceLT, Nat.reduceLeDiff, Nat.reduceBEq, ↓reduceIte, ↓Bool.false_eq_true, reduceCtorEq, Int.reduceLE, Int.reduceLT, Int.reduceEq, Int.reduceNeg, Int.reduceToNat, Int.reduceAdd, Int.reduceSub, Value.cells, Bool.false_eq_true, Int.cast_ofNat_Int, List.drop_nil, List.elem_cons, List.length_nil, List.take_nil, Option.isNone_none, Option.isSome_none, hw]
          · rw [← hv, decide_eq_false ec, Bool.and_false]; rfl
      · have hge' : ¬ (i : Int) < (l.names.length : Int) := by omega
        rw [List.drop_eq_nil_of_le hge] at hv
        simp (implicitDefEqProofs := false) only [go_sem, Nat.reduceAdd, Nat.reduceSub, Nat.reduceMul, Nat.reduceEqDiff, Nat.reduceLT, Nat.reduceLeDiff, Nat.reduceBEq, ↓reduceIte, ↓Bool.false_eq_true, reduceCtorEq, Int.reduceLE, Int.reduceLT, Int.reduceEq, Int.reduceNeg, Int.reduceToNat, Int.reduceAdd, Int.reduceSub, Value.cells, Bool.false_eq_true, Int.cast_ofNat_Int, List.drop_nil, List.elem_cons, List.length_nil, List.take_nil, Option.isNone_none, Option.isSome_none, hge', hc1]
        exact ⟨by rw [hS, ← hv]; rfl, hf1⟩
  have hS : namedT l = ((l.names.all nameT && sortedT l.names) && l.rules.all (ruleF l.names)) := by rw [namedT, if_neg k6]
  simp (implicitDefEqProofs := false) only [go_sem, Nat.reduceAdd, Nat.reduceSub, Nat.reduceMul, Nat.reduceEqDiff, Nat.reduceLT, Nat.reduceLeDiff, Nat.reduceBEq, ↓reduceIte, ↓Bool.false_eq_true, reduceCtorEq, Int.reduceLE, Int.reduceLT, Int.reduceEq, Int.reduceNeg, Int.reduceToNat, Int.reduceAdd, Int.reduceSub, Value.cells, Bool.false_eq_true, Int.cast_ofNat_Int, List.drop_nil, List.elem_cons, List.length_nil, List.take_nil, Option.isNone_none, Option.isSome_none, hc1, k6]
  refine (rising_ok (h3.ext hf1)).mono ?_
  rintro r H2 ⟨rfl, hEq⟩
  obtain rfl := hEq.symm
  cases es : (l.names.all nameT && sortedT l.names)
  · simp (implicitDefEqProofs := false) only [go_sem, Nat.reduceAdd, Nat.reduceSub, Nat.reduceMul, Nat.reduceEqDiff, Nat.reduceLT, Nat.reduceLeDiff, Nat.reduceBEq, ↓reduceIte, ↓Bool.false_eq_true, reduceCtorEq, Int.reduceLE, Int.reduceLT, Int.reduceEq, Int.reduceNeg, Int.reduceToNat, Int.reduceAdd, Int.reduceSub, Value.cells, Bool.false_eq_true, Int.cast_ofNat_Int, List.drop_nil, List.elem_cons, List.length_nil, List.take_nil, Option.isNone_none, Option.isSome_none]
    exact ⟨by rw [hS, es]; rfl, hf1⟩
  have hsp : namedT l = l.rules.all (ruleF l.names) := by rw [hS, es, Bool.true_and]
  simp (implicitDefEqProofs := false) only [go_sem, Nat.reduceAdd, Nat.reduceSub, Nat.reduceMul, Nat.reduceEqDiff, Nat.reduceLT, Nat.reduceLeDiff, Nat.reduceBEq, ↓reduceIte, ↓Bool.false_eq_true, reduceCtorEq, Int.reduceLE, Int.reduceLT, Int.reduceEq, Int.reduceNeg, Int.reduceToNat, Int.reduceAdd, Int.reduceSub, Value.cells, Bool.false_eq_true, Int.cast_ofNat_Int, List.drop_nil, List.elem_cons, List.length_nil, List.take_nil, Option.isNone_none, Option.isSome_none]
  refine vc_loop (fun (j : Nat) H' => j ≤ l.rules.length ∧ ((l.rules.drop j).all (ruleF l.names)) = (l.rules.all (ruleF l.names)) ∧ Fr [] H H' ∧ Fr [] H1 H')
    (fun j => [(1, .pointer (some ⟨H.size, 0, none⟩)), (4, .int .i64 j)]) (fun j => l.rules.length - j) 0 ?_ ?_ ?_
  · exact ⟨Nat.zero_le _, rfl, hf1, Fr.refl _ _⟩
  · simp (implicitDefEqProofs := false) only [go_sem, Nat.reduceAdd, Nat.reduceSub, Nat.reduceMul, Nat.reduceEqDiff, Nat.reduceLT, Nat.reduceLeDiff, Nat.reduceBEq, ↓reduceIte, ↓Bool.false_eq_true, reduceCtorEq, Int.reduceLE, Int.reduceLT, Int.reduceEq, Int.reduceNeg, Int.reduceToNat, Int.reduceAdd, Int.reduceSub, Value.cells, Bool.false_eq_true, Int.cast_ofNat_Int, List.drop_nil, List.elem_cons, List.length_nil, List.take_nil, Option.isNone_none, Option.isSome_none]
  · rintro j H' ⟨hj, hv2, hf, hfn⟩
    have hx := (hn1.ext hfn).cell
    rcases Nat.lt_or_ge j l.rules.length with hlt2 | hge2
    · have hlt2' : (j : Int) < (l.rules.length : Int) := by omega
      have h02 : (0 : Int) ≤ (j : Int) := by omega
      have hw2 := succ_i64 j l.rules.length hlt2 (by omega)
      obtain ⟨b, o, c, vi, e1, p0, p1, hq⟩ := RulesA.at (h5.ext hf) j hlt2
      cases e1
      obtain ⟨ia, ic, rfl, hil, hic⟩ := StrsA.slice hq
      rw [all_drop2 hlt2] at hv2
      simp (implicitDefEqProofs := false) only [go_sem, Nat.reduceAdd, Nat.reduceSub, Nat.reduceMul, Nat.reduceEqDiff, Nat.reduceLT, Nat.reduceLeDiff, Nat.reduceBEq, ↓reduceIte, ↓Bool.false_eq_true, reduceCtorEq, Int.reduceLE, Int.reduceLT, Int.reduceEq, Int.reduceNeg, Int.reduceToNat, Int.reduceAdd, Int.reduceSub, Value.cells, Bool.false_eq_true, Int.cast_ofNat_Int, List.drop_nil, List.elem_cons, List.length_nil, List.take_nil, Option.isNone_none, Option.isSome_none, hlt2', h02, hx, p0, p1, sv]
      refine NewP_intro fun H2' hn2' hf2' hs2' => ?_
      simp (implicitDefEqProofs := false) only [go_sem, Nat.reduceAdd, Nat.reduceSub, Nat.reduceMul, Nat.reduceEqDiff, Nat.reduceLT, Nat.reduceLeDiff, Nat.reduceBEq, ↓reduceIte, ↓Bool.false_eq_true, reduceCtorEq, Int.reduceLE, Int.reduceLT, Int.reduceEq, Int.reduceNeg, Int.reduceToNat, Int.reduceAdd, Int.reduceSub, Value.cells, Bool.false_eq_true, Int.cast_ofNat_Int, List.drop_nil, List.elem_cons, List.length_nil, List.take_nil, Option.isNone_none, Option.isSome_none]
      refine Sto_all hn2' rfl (one2 (Rep.one1 hq) rfl) fun H2 hn2 hf2'' hs2 => ?_
      have hf2 := new_fr hf2' hf2''
      have hc2 := hn2.cell
      have hx2 := (hn1.ext (hfn.trans hf2)).cell
      by_cases i0 : (l.rules[j].ifs.length : Int) = 0
      · have hr : ruleF l.names l.rules[j] = false := by simp [ruleF]; omega
        simp (implicitDefEqProofs := false) only [go_sem, Nat.reduceAdd, Nat.reduceSub, Nat.reduceMul, Nat.reduceEqDiff, Nat.reduceLT, Nat.reduceLeDiff, Nat.reduceBEq, ↓reduceIte, ↓Bool.false_eq_true, reduceCtorEq, Int.reduceLE, Int.reduceLT, Int.reduceEq, Int.reduceNeg, Int.reduceToNat, Int.reduceAdd, Int.reduceSub, Value.cells, Bool.false_eq_true, Int.cast_ofNat_Int, List.drop_nil, List.elem_cons, List.length_nil, List.take_nil, Option.isNone_none, Option.isSome_none, hc2, i0]
        exact ⟨by rw [hsp, ← hv2, hr]; rfl, hf.trans hf2⟩
      simp (implicitDefEqProofs := false) only [go_sem, Nat.reduceAdd, Nat.reduceSub, Nat.reduceMul, Nat.reduceEqDiff, Nat.reduceLT, Nat.reduceLeDiff, Nat.reduceBEq, ↓reduceIte, ↓Bool.false_eq_true, reduceCtorEq, Int.reduceLE, Int.reduceLT, Int.reduceEq, Int.reduceNeg, Int.reduceToNat, Int.reduceAdd, Int.reduceSub, Value.cells, Bool.false_eq_true, Int.cast_ofNat_Int, List.drop_nil, List.elem_cons, List.length_nil, List.take_nil, Option.isNone_none, Option.isSome_none, hc2, i0, hx2]
      refine (rising_ok (hq.ext hf2)).mono ?_
      rintro r H3 ⟨rfl, hEq⟩
      obtain rfl := hEq.symm
      cases eq : (l.rules[j].ifs.all nameT && sortedT l.rules[j].ifs)
      · have hr : ruleF l.names l.rules[j] = false := by rw [ruleF, eq, Bool.false_and, Bool.and_false]
        simp (implicitDefEqProofs := false) only [go_sem, Nat.reduceAdd, Nat.reduceSub, Nat.reduceMul, Nat.reduceEqDiff, Nat.reduceLT, Nat.reduceLeDiff, Nat.reduceBEq, ↓reduceIte, ↓Bool.false_eq_true, reduceCtorEq, Int.reduceLE, Int.reduceLT, Int.reduceEq, Int.reduceNeg, Int.reduceToNat, Int.reduceAdd, Int.reduceSub, Value.cells, Bool.false_eq_true, Int.cast_ofNat_Int, List.drop_nil, List.elem_cons, List.length_nil, List.take_nil, Option.isNone_none, Option.isSome_none]
        exact ⟨by rw [hsp, ← hv2, hr]; rfl, hf.trans hf2⟩
      simp (implicitDefEqProofs := false) only [go_sem, Nat.reduceAdd, Nat.reduceSub, Nat.reduceMul, Nat.reduceEqDiff, Nat.reduceLT, Nat.reduceLeDiff, Nat.reduceBEq, ↓reduceIte, ↓Bool.false_eq_true, reduceCtorEq, Int.reduceLE, Int.reduceLT, Int.reduceEq, Int.reduceNeg, Int.reduceToNat, Int.reduceAdd, Int.reduceSub, Value.cells, Bool.false_eq_true, Int.cast_ofNat_Int, List.drop_nil, List.elem_cons, List.length_nil, List.take_nil, Option.isNone_none, Option.isSome_none, hc2, hx2]
      refine (fin_ok' l.rules[j].thn (h3.ext (hf.trans hf2))).mono ?_
      rintro r H3 ⟨rfl, hEq⟩
      obtain rfl := hEq.symm
      by_cases et : l.rules[j].thn ∈ l.names
      case neg =>
        have hr : ruleF l.names l.rules[j] = false := by rw [ruleF, decide_eq_false et, Bool.false_and, Bool.and_false, Bool.and_false]
        simp (implicitDefEqProofs := false) only [go_sem, Nat.reduceAdd, Nat.reduceSub, Nat.reduceMul, Nat.reduceEqDiff, Nat.reduceLT, Nat.reduceLeDiff, Nat.reduceBEq, ↓reduceIte, ↓Bool.false_eq_true, reduceCtorEq, Int.reduceLE, Int.reduceLT, Int.reduceEq, Int.reduceNeg, Int.reduceToNat, Int.reduceAdd, Int.reduceSub, Value.cells, Bool.false_eq_true, Int.cast_ofNat_Int, List.drop_nil, List.elem_cons, List.length_nil, List.take_nil, Option.isNone_none, Option.isSome_none, et]
        exact ⟨by rw [hsp, ← hv2, hr]; rfl, hf.trans hf2⟩
      have hR : ruleF l.names l.rules[j] = (l.rules[j].ifs.all fun s => decide (s ∈ l.names)) := by
        have : 0 < l.rules[j].ifs.length := by omega
        rw [ruleF, eq, decide_eq_true et, decide_eq_true this, Bool.true_and, Bool.true_and, Bool.true_and]
      rw [hR] at hv2
      simp (implicitDefEqProofs := false) only [go_sem, Nat.reduceAdd, Nat.reduceSub, Nat.reduceMul, Nat.reduceEqDiff, Nat.reduceLT, Nat.reduceLeDiff, Nat.reduceBEq, ↓reduceIte, ↓Bool.false_eq_true, reduceCtorEq, Int.reduceLE, Int.reduceLT, Int.reduceEq, Int.reduceNeg, Int.reduceToNat, Int.reduceAdd, Int.reduceSub, Value.cells, Bool.false_eq_true, Int.cast_ofNat_Int, List.drop_nil, List.elem_cons, List.length_nil, List.take_nil, Option.isNone_none, Option.isSome_none, et]
      refine vc_loop (fun (k : Nat) H' => k ≤ l.rules[j].ifs.length ∧ ((l.rules[j].ifs.drop k).all fun s => decide (s ∈ l.names)) = (l.rules[j].ifs.all fun s => decide (s ∈ l.names)) ∧ H2 = H')
        (fun k => [(1, .pointer (some ⟨H.size, 0, none⟩)), (4, .int .i64 j), (5, .pointer (some ⟨H'.size, 0, none⟩)), (6, .int .i64 k)]) (fun k => l.rules[j].ifs.length - k) 0 ?_ ?_ ?_
      · exact ⟨Nat.zero_le _, rfl, rfl⟩
      · simp (implicitDefEqProofs := false) only [go_sem, Nat.reduceAdd, Nat.reduceSub, Nat.reduceMul, Nat.reduceEqDiff, Nat.reduceLT, Nat.reduceLeDiff, Nat.reduceBEq, ↓reduceIte, ↓Bool.false_eq_true, reduceCtorEq, Int.reduceLE, Int.reduceLT, Int.reduceEq, Int.reduceNeg, Int.reduceToNat, Int.reduceAdd, Int.reduceSub, Value.cells, Bool.false_eq_true, Int.cast_ofNat_Int, List.drop_nil, List.elem_cons, List.length_nil, List.take_nil, Option.isNone_none, Option.isSome_none]
      · rintro k H3 ⟨hk, hv3, rfl⟩
        rcases Nat.lt_or_ge k l.rules[j].ifs.length with hlt3 | hge3
        · have hlt3' : (k : Int) < (l.rules[j].ifs.length : Int) := by omega
          have h03 : (0 : Int) ≤ (k : Int) := by omega
          have hw3 := succ_i64 k l.rules[j].ifs.length hlt3 (by omega)
          obtain ⟨b3, o3, c3, e3, q3⟩ := StrsA.at (hq.ext hf2) k hlt3
          cases e3
          rw [all_drop2 hlt3] at hv3
          simp (implicitDefEqProofs := false) only [go_sem, Nat.reduceAdd, Nat.reduceSub, Nat.reduceMul, Nat.reduceEqDiff, Nat.reduceLT, Nat.reduceLeDiff, Nat.reduceBEq, ↓reduceIte, ↓Bool.false_eq_true, reduceCtorEq, Int.reduceLE, Int.reduceLT, Int.reduceEq, Int.reduceNeg, Int.reduceToNat, Int.reduceAdd, Int.reduceSub, Value.cells, Bool.false_eq_true, Int.cast_ofNat_Int, List.drop_nil, List.elem_cons, List.length_nil, List.take_nil, Option.isNone_none, Option.isSome_none, hlt3', h03, hx2, hc2, q3]
          refine (fin_ok' (l.rules[j].ifs[k]) (h3.ext (hf.trans hf2))).mono ?_
          rintro r H3 ⟨rfl, hEq⟩
          obtain rfl := hEq.symm
          by_cases ei : l.rules[j].ifs[k] ∈ l.names
          · rw [decide_eq_true ei, Bool.true_and] at hv3
            simp (implicitDefEqProofs := false) only [go_sem, Nat.reduceAdd, Nat.reduceSub, Nat.reduceMul, Nat.reduceEqDiff, Nat.reduceLT, Nat.reduceLeDiff, Nat.reduceBEq, ↓reduceIte, ↓Bool.false_eq_true, reduceCtorEq, Int.reduceLE, Int.reduceLT, Int.reduceEq, Int.reduceNeg, Int.reduceToNat, Int.reduceAdd, Int.reduceSub, Value.cells, Bool.false_eq_true, Int.cast_ofNat_Int, List.drop_nil, List.elem_cons, List.length_nil, List.take_nil, Option.isNone_none, Option.isSome_none, ei]
            refine loopK_intro (k + 1) (by show l.rules[j].ifs.length - (k + 1) < l.rules[j].ifs.length - k; omega) ?_ ⟨hlt3, hv3, rfl⟩
            simp (implicitDefEqProofs := false) only [go_sem, Nat.reduceAdd, Nat.reduceSub, Nat.reduceMul, Nat.reduceEqDiff, Nat.reduceLT, Nat.reduceLeDiff, Nat.reduceBEq, ↓reduceIte, ↓Bool.false_eq_true, reduceCtorEq, Int.reduceLE, Int.reduceLT, Int.reduceEq, Int.reduceNeg, Int.reduceToNat, Int.reduceAdd, Int.reduceSub, Value.cells, Bool.false_eq_true, Int.cast_ofNat_Int, List.drop_nil, List.elem_cons, List.length_nil, List.take_nil, Option.isNone_none, Option.isSome_none, hw3]
          · rw [decide_eq_false ei, Bool.false_and] at hv3
            simp (implicitDefEqProofs := false) only [go_sem, Nat.reduceAdd, Nat.reduceSub, Nat.reduceMul, Nat.reduceEqDiff, Nat.reduceLT, Nat.reduceLeDiff, Nat.reduceBEq, ↓reduceIte, ↓Bool.false_eq_true, reduceCtorEq, Int.reduceLE, Int.reduceLT, Int.reduceEq, Int.reduceNeg, Int.reduceToNat, Int.reduceAdd, Int.reduceSub, Value.cells, Bool.false_eq_true, Int.cast_ofNat_Int, List.drop_nil, List.elem_cons, List.length_nil, List.take_nil, Option.isNone_none, Option.isSome_none, ei]
            exact ⟨by rw [hsp, ← hv2, ← hv3]; rfl, hf.trans hf2⟩
        · have hge3' : ¬ (k : Int) < (l.rules[j].ifs.length : Int) := by omega
          rw [List.drop_eq_nil_of_le hge3] at hv3
          simp (implicitDefEqProofs := false) only [go_sem, Nat.reduceAdd, Nat.reduceSub, Nat.reduceMul, Nat.reduceEqDiff, Nat.reduceLT, Nat.reduceLeDiff, Nat.reduceBEq, ↓reduceIte, ↓Bool.false_eq_true, reduceCtorEq, Int.reduceLE, Int.reduceLT, Int.reduceEq, Int.reduceNeg, Int.reduceToNat, Int.reduceAdd, Int.reduceSub, Value.cells, Bool.false_eq_true, Int.cast_ofNat_Int, List.drop_nil, List.elem_cons, List.length_nil, List.take_nil, Option.isNone_none, Option.isSome_none, hge3', hc2]
          refine loopK_intro (j + 1) (by show l.rules.length - (j + 1) < l.rules.length - j; omega) ?_ ⟨hlt2, ?_, hf.trans hf2, hfn.trans hf2⟩
          · simp (implicitDefEqProofs := false) only [go_sem, Nat.reduceAdd, Nat.reduceSub, Nat.reduceMul, Nat.reduceEqDiff, Nat.reduceLT, Nat.reduceLeDiff, Nat.reduceBEq, ↓reduceIte, ↓Bool.false_eq_true, reduceCtorEq, Int.reduceLE, Int.reduceLT, Int.reduceEq, Int.reduceNeg, Int.reduceToNat, Int.reduceAdd, Int.reduceSub, Value.cells, Bool.false_eq_true, Int.cast_ofNat_Int, List.drop_nil, List.elem_cons, List.length_nil, List.take_nil, Option.isNone_none, Option.isSome_none, hw2]
          · rw [← hv2, ← hv3]; rfl
    · have hge2' : ¬ (j : Int) < (l.rules.length : Int) := by omega
      rw [List.drop_eq_nil_of_le hge2] at hv2
      simp (implicitDefEqProofs := false) only [go_sem, Nat.reduceAdd, Nat.reduceSub, Nat.reduceMul, Nat.reduceEqDiff, Nat.reduceLT, Nat.reduceLeDiff, Nat.reduceBEq, ↓reduceIte, ↓Bool.false_eq_true, reduceCtorEq, Int.reduceLE, Int.reduceLT, Int.reduceEq, Int.reduceNeg, Int.reduceToNat, Int.reduceAdd, Int.reduceSub, Value.cells, Bool.false_eq_true, Int.cast_ofNat_Int, List.drop_nil, List.elem_cons, List.length_nil, List.take_nil, Option.isNone_none, Option.isSome_none, hge2', hx]
      exact ⟨by rw [hsp, ← hv2]; rfl, hf⟩

end Go.Proofs.Ytcilkhjadljaaaa
