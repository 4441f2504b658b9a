/- The laws: words, next, all tokens, places. -/
import Derived.Test.YtighpnijbnllaaaDoorXq
set_option linter.unusedSimpArgs false
set_option linter.unusedVariables false
set_option maxRecDepth 8000
namespace Go.Proofs.YtighpnijbnllaaaDoor
open Gx Go

theorem be1 : (true == true) = true := rfl
theorem be2 : (false == false) = true := rfl
theorem be3 : (true == false) = false := rfl
theorem be4 : (false == true) = false := rfl
theorem words_law (s : Bs) {H : Heap} (hg : GlobH H) : HCalls Tryd.prog 3 #[sv s] H fun r H' => r = .bool true ∧ Fr [] H H' := by
  refine calls_of_vc (args := [_]) Tryd.func3 c3ok (Nat.le_of_ble_eq_true rfl) ?_
  simp (implicitDefEqProofs := false) only [go_sem, c3]
  refine (awake_ok hg).mono ?_
  rintro r H1 ⟨rfl, hf1⟩
  simp (implicitDefEqProofs := false) only [go_sem]
  refine (keyword_ok s H1).mono ?_
  rintro r H2 ⟨rfl, hf2⟩
  simp (implicitDefEqProofs := false) only [go_sem]
  refine (rkeyword_ok s H2).mono ?_
  rintro r H3 ⟨rfl, hf3⟩
  cases kwB s
  all_goals
    simp (implicitDefEqProofs := false) only [go_sem, be1, be2]
    refine (sign_ok s H3).mono ?_
    rintro r H4 ⟨rfl, hf4⟩
    simp (implicitDefEqProofs := false) only [go_sem]
    refine (rsign_ok s H4).mono ?_
    rintro r H5 ⟨rfl, hf5⟩
    cases signB s
    all_goals
      simp (implicitDefEqProofs := false) only [go_sem, be1, be2]
      exact ((((hf1.trans hf2).trans hf3).trans hf4).trans hf5)

theorem next_law (l : Bs) (hl : l.length ≤ maxLen) (a : Int) {H : Heap} (hg : GlobH H) : HCalls Tryd.prog 4 #[sv l, .int .i64 a] H fun r H' => r = .bool true ∧ Fr [] H H' := by
  refine calls_of_vc (args := [_, _]) Tryd.func4 c4ok (Nat.le_of_ble_eq_true rfl) ?_
  simp (implicitDefEqProofs := false) only [go_sem, c4]
  refine (awake_ok hg).mono ?_
  rintro r H1 ⟨rfl, hf1⟩
  by_cases h2 : 2000 < l.length
  · have h2' : (2000 : Int) < (l.length : Int) := by omega
    simp (implicitDefEqProofs := false) only [go_sem, sv, ba_size, h2']
    exact hf1
  have h2' : ¬ (2000 : Int) < (l.length : Int) := by omega
  simp (implicitDefEqProofs := false) only [go_sem, sv, ba_size, h2']
  refine (next_ok l hl a (hg.ext hf1)).mono ?_
  rintro r H2 ⟨rfl, hf2⟩
  have hF2 := hf1.trans hf2
  have hrn : ∀ H', HCalls Tryd.prog 20 #[.string ⟨⟨l⟩⟩, .int .i64 a] H' fun r H'' => r = (nextT l a).val ∧ Fr [] H' H'' := fun H' => rnext_ok l hl a H'
  generalize nextT l a = N at *
  simp (implicitDefEqProofs := false) only [go_sem, NR.val, tkV, ftV, sv]
  refine NewP_intro fun H3 hb3 hf3 hs3 => ?_
  generalize hx3 : H2.size = x3 at *
  simp (implicitDefEqProofs := false) only [go_sem]
  refine NewP_intro fun H4 hb4 hf4 hs4 => ?_
  generalize hx4 : H3.size = x4 at *
  have hb34 := hb3.ext hf4
  simp (implicitDefEqProofs := false) only [go_sem]
  refine Sto_all hb34 rfl one4 fun H5 hb5 hf5 hs5 => ?_
  have hb45 := hb4.fr hf5 (by simp; omega)
  simp (implicitDefEqProofs := false) only [go_sem]
  refine Sto_all hb45 rfl (one2 rfl rfl) fun H6 hb6 hf6 hs6 => ?_
  have hb56 := hb5.fr hf6 (by simp; omega)
  have hF6 : Fr [] H2 H6 := fr_new (fr_new (hf3.trans hf4) hf5 (by omega)) hf6 (by omega)
  simp (implicitDefEqProofs := false) only [go_sem]
  refine (hrn H6).mono ?_
  rintro r H7 ⟨rfl, hf7⟩
  have hb57 := hb56.ext hf7
  have hb67 := hb6.ext hf7
  have hl5 := hb57.lt
  have hl6 := hb67.lt
  simp (implicitDefEqProofs := false) only [go_sem, NR.val, tkV, ftV, sv]
  refine NewP_intro fun H8 hb8 hf8 hs8 => ?_
  generalize hx8 : H7.size = x8 at *
  simp (implicitDefEqProofs := false) only [go_sem]
  refine NewP_intro fun H9 hb9 hf9 hs9 => ?_
  generalize hx9 : H8.size = x9 at *
  have hb89 := hb8.ext hf9
  simp (implicitDefEqProofs := false) only [go_sem]
  refine Sto_all hb89 rfl one4 fun H10 hb10 hf10 hs10 => ?_
  have hb910 := hb9.fr hf10 (by simp; omega)
  simp (implicitDefEqProofs := false) only [go_sem]
  refine Sto_all hb910 rfl (one2 rfl rfl) fun H11 hb11 hf11 hs11 => ?_
  have hb1011 := hb10.fr hf11 (by simp; omega)
  have hF11 : Fr [] H7 H11 := fr_new (fr_new (hf8.trans hf9) hf10 (by omega)) hf11 (by omega)
  have k5 := (hb57.ext hF11).cell
  have k6 := (hb67.ext hF11).cell
  have k10 := hb1011.cell
  have k11 := hb11.cell
  simp (implicitDefEqProofs := false) only [go_sem, k5, k6, k10, k11]
  exact (hF2.trans hF6).trans (hf7.trans hF11)

/-- Where an answer of Lex is a fault, and where a list. -/
theorem LexR.cases {R : LR} {r : Value} {H' : Heap} (h : LexR R r H') : ∃ ts e k a c, r = .tuple #[.slice a ts.length c, ftV e k] ∧ ts.length ≤ c ∧ c ≤ maxLen ∧ RowR tkC H' a ts ∧ (R = .ok ts ∧ e = 0 ∧ k = 0 ∨ ∃ k' : Nat, k = k' ∧ R = .bad e k' ∧ ts = []) := by
  cases R with
  | bad e k => exact ⟨[], e, k, none, 0, h, Nat.le_refl _, Nat.zero_le _, RowR.nil _ _, .inr ⟨k, rfl, rfl, rfl⟩⟩
  | ok ts =>
    obtain ⟨a, c, h1, h2, h3, h4⟩ := h
    exact ⟨ts, 0, 0, a, c, h1, h2, h3, h4, .inl ⟨rfl, rfl, rfl⟩⟩
theorem tkEq_refl (o : Bool) (t : Tk) : tkEq o t t = true := by simp [tkEq]
theorem sameT_refl (o : Bool) : ∀ l : List Tk, sameT o l l = true
  | [] => rfl
  | x :: r => by simp [sameT, tkEq_refl, sameT_refl o r]

theorem lex_law (l : Bs) (hl : l.length ≤ maxLen) {H : Heap} (hg : GlobH H) : HCalls Tryd.prog 5 #[sv l] H fun r H' => r = .bool true ∧ Fr [] H H' := by
  refine calls_of_vc (args := [_]) Tryd.func5 c5ok (Nat.le_of_ble_eq_true rfl) ?_
  simp (implicitDefEqProofs := false) only [go_sem, c5]
  refine (awake_ok hg).mono ?_
  rintro r H1 ⟨rfl, hf1⟩
  by_cases h2 : 2000 < l.length
  · have h2' : (2000 : Int) < (l.length : Int) := by omega
    simp (implicitDefEqProofs := false) only [go_sem, sv, ba_size, h2']
    exact hf1
  have h2' : ¬ (2000 : Int) < (l.length : Int) := by omega
  simp (implicitDefEqProofs := false) only [go_sem, sv, ba_size, h2']
  refine (lex_ok l hl (hg.ext hf1)).mono ?_
  rintro r H2 ⟨hr, hf2⟩
  obtain ⟨ts, e, k, a, c, rfl, q1, q2, hrow, hR⟩ := hr.cases
  simp (implicitDefEqProofs := false) only [go_sem, ftV]
  refine NewP_intro fun H3 hb3 hf3 hs3 => ?_
  generalize hx3 : H2.size = x3 at *
  simp (implicitDefEqProofs := false) only [go_sem]
  refine Sto_all hb3 rfl (one2 rfl rfl) fun H4 hb4 hf4 hs4 => ?_
  have hF4 : Fr [] H H4 := (hf1.trans hf2).trans (fr_new hf3 hf4 (by omega))
  simp (implicitDefEqProofs := false) only [go_sem]
  refine (rlex_ok l hl (hg.ext hF4)).mono ?_
  rintro r H5 ⟨hr', hf5⟩
  obtain ⟨ts', e', k', a', c', rfl, q1', q2', hrow', hR'⟩ := hr'.cases
  have hsame : ts' = ts ∧ e' = e ∧ k' = k := by
    rcases hR with ⟨r1, rfl, rfl⟩ | ⟨j, rfl, r1, rfl⟩ <;> rcases hR' with ⟨s1, rfl, rfl⟩ | ⟨j', rfl, s1, rfl⟩
    · rw [r1] at s1; cases s1; exact ⟨rfl, rfl, rfl⟩
    · rw [r1] at s1; cases s1
    · rw [r1] at s1; cases s1
    · rw [r1] at s1; cases s1; exact ⟨rfl, rfl, rfl⟩
  obtain ⟨rfl, rfl, rfl⟩ := hsame
  have hb5 := hb4.ext hf5
  have hlt5 := hb5.lt
  simp (implicitDefEqProofs := false) only [go_sem, ftV]
  refine NewP_intro fun H6 hb6 hf6 hs6 => ?_
  generalize hx6 : H5.size = x6 at *
  simp (implicitDefEqProofs := false) only [go_sem]
  refine Sto_all hb6 rfl (one2 rfl rfl) fun H7 hb7 hf7 hs7 => ?_
  have hF7 : Fr [] H5 H7 := fr_new hf6 hf7 (by omega)
  have k4 := (hb5.ext hF7).cell
  have k7 := hb7.cell
  simp (implicitDefEqProofs := false) only [go_sem, k4, k7]
  refine (same_ok true (hrow.ext ((fr_new hf3 hf4 (by omega)).trans (hf5.trans hF7))) (hrow'.ext hF7) (by omega)).mono ?_
  rintro r H8 ⟨rfl, hEq⟩
  obtain rfl := hEq.symm
  simp (implicitDefEqProofs := false) only [go_sem, sameT_refl]
  exact hF4.trans (hf5.trans hF7)

theorem places_law (l : Bs) (a : Int) {H : Heap} (hg : GlobH H) : HCalls Tryd.prog 13 #[sv l, .int .i64 a] H fun r H' => r = .bool true ∧ Fr [] H H' := by
  refine calls_of_vc (args := [_, _]) Tryd.func13 c13ok (Nat.le_of_ble_eq_true rfl) ?_
  simp (implicitDefEqProofs := false) only [go_sem, c13]
  refine (awake_ok hg).mono ?_
  rintro r H1 ⟨rfl, hf1⟩
  by_cases h2 : 2000 < l.length
  · have h2' : (2000 : Int) < (l.length : Int) := by omega
    simp (implicitDefEqProofs := false) only [go_sem, sv, ba_size, h2']
    exact hf1
  have h2' : ¬ (2000 : Int) < (l.length : Int) := by omega
  simp (implicitDefEqProofs := false) only [go_sem, sv, ba_size, h2']
  refine (place_ok l (by omega) a H1).mono ?_
  rintro r H2 ⟨rfl, hEq⟩
  obtain rfl := hEq.symm
  simp (implicitDefEqProofs := false) only [go_sem]
  refine (rplace_ok l (by omega) a H1).mono ?_
  rintro r H2 ⟨rfl, hEq⟩
  obtain rfl := hEq.symm
  simp (implicitDefEqProofs := false) only [go_sem]
  exact hf1
end Go.Proofs.YtighpnijbnllaaaDoor
