/- The shape of a node: contracts. -/
import Derived.Test.YtcilkhjadljaaaaLo
set_option linter.unusedSimpArgs false
set_option linter.unusedVariables false
set_option maxRecDepth 8000
namespace Go.Proofs.Ytcilkhjadljaaaa
open Gx Go

def shapeT (l : Lt) : Bool :=
  if l.kind = 1 ∨ l.kind = 9 then decide (l.parts.length = 0 ∧ l.names.length = 0 ∧ l.rules.length = 0 ∧ l.lo = 0 ∧ l.hi = 0)
  else if l.kind = 2 ∨ l.kind = 3 then decide (l.parts.length = 0 ∧ l.names.length = 0 ∧ l.rules.length = 0)
  else if l.kind = 4 ∨ l.kind = 8 then decide (l.parts.length = 0 ∧ l.rules.length = 0 ∧ l.lo = 0 ∧ l.hi = 0)
  else if l.kind = 5 then decide (l.parts.length = 1 ∧ l.rules.length = 0 ∧ l.lo = 0 ∧ l.hi = 0)
  else if l.kind = 7 then decide (l.parts.length = 2 ∧ l.names.length = 0 ∧ l.rules.length = 0 ∧ l.lo = 0 ∧ l.hi = 0)
  else if l.kind = 6 then decide (l.parts.length = l.names.length ∧ 0 < l.names.length ∧ l.rules.length = 0 ∧ l.lo = 0 ∧ l.hi = 0)
  else if l.kind = 10 then decide (l.parts.length = 0 ∧ 0 < l.names.length ∧ l.lo = 0 ∧ l.hi = 0)
  else false

def limT (l : Lt) : Bool := decide ((if l.kind = 6 then 8 else if l.kind = 10 then 12 else 32) < l.names.length ∨ 32 < l.rules.length)
def rngT (l : Lt) : Bool := decide (l.hi < l.lo ∨ l.lo < -1000000000 ∨ 1000000000 < l.lo ∨ l.hi < -1000000000 ∨ 1000000000 < l.hi)
def headC (l : Lt) : Bool := match l.parts with | p :: _ => chainT p | [] => true
def chnT (l : Lt) : Bool := decide (l.kind = 7) && !headC l

theorem when_ok (b : Bool) (e : Int) (H : Heap) : HCalls Try.prog 76 #[.bool b, .int .i64 e] H fun r H' => r = .int .i64 (if b then e else 0) ∧ H' = H := by
  refine calls_of_vc (args := [_, _]) Try.func76 c76ok (Nat.le_of_ble_eq_true rfl) ?_
  cases b
  all_goals simp (implicitDefEqProofs := false) only [go_sem, c76]

set_option maxHeartbeats 4000000 in
theorem shape_ok {l : Lt} {H : Heap} {cs : List Value} (ha : LtA H [] l cs) : HCalls Try.prog 50 #[.agg cs.toArray] H fun r H' => r = .int .i64 (if shapeT l then 0 else 1) ∧ Fr [] H H' := by
  obtain ⟨vn, vp, vr, rfl, h3, h4, h5⟩ := LtA.open ha
  obtain ⟨na, nc, rfl, hnl, hnc⟩ := StrsA.slice h3
  obtain ⟨pa, pc, rfl, hpl, hpc⟩ := PartsA.slice h4
  obtain ⟨ra, rc, rfl, hrl, hrc⟩ := RulesA.slice h5
  have fin : ∀ (b : Bool) (H1 : Heap), Fr [] H H1 → (b = !shapeT l) → HCalls Try.prog 76 #[.bool b, .int .i64 1] H1 fun r H' => r = .int .i64 (if shapeT l then 0 else 1) ∧ Fr [] H H' := by
    intro b H1 hf hb
    refine (when_ok b 1 H1).mono ?_
    rintro r H2 ⟨rfl, rfl⟩
    refine ⟨?_, hf⟩
    rw [hb]
    cases shapeT l <;> rfl
  refine calls_of_vc (args := [_]) Try.func50 c50ok (Nat.le_of_ble_eq_true rfl) ?_
  simp (implicitDefEqProofs := false) only [go_sem, c50]
  refine NewP_intro fun H1 hn1 hf1 hs1 => ?_
  have hc1 := hn1.cell
  by_cases k1 : l.kind = 1
  · simp (implicitDefEqProofs := false) only [go_sem, hc1, k1, Bool.cond_true_left, Bool.cond_false_right]
    refine (fin _ H1 hf1 ?_).mono ?_
    · rw [Bool.eq_iff_iff]
      simp [shapeT, k1, -List.length_eq_zero_iff]
      try omega
    · rintro r H2 ⟨rfl, hf2⟩
      simp (implicitDefEqProofs := false) only [go_sem]
      exact hf2
  by_cases k9 : l.kind = 9
  · simp (implicitDefEqProofs := false) only [go_sem, hc1, k9, Bool.cond_true_left, Bool.cond_false_right]
    refine (fin _ H1 hf1 ?_).mono ?_
    · rw [Bool.eq_iff_iff]
      simp [shapeT, k9, -List.length_eq_zero_iff]
      try omega
    · rintro r H2 ⟨rfl, hf2⟩
      simp (implicitDefEqProofs := false) only [go_sem]
      exact hf2
  by_cases k2 : l.kind = 2
  · simp (implicitDefEqProofs := false) only [go_sem, hc1, k2, Bool.cond_true_left, Bool.cond_false_right]
    refine (fin _ H1 hf1 ?_).mono ?_
    · rw [Bool.eq_iff_iff]
      simp [shapeT, k2, -List.length_eq_zero_iff]
      try omega
    · rintro r H2 ⟨rfl, hf2⟩
      simp (implicitDefEqProofs := false) only [go_sem]
      exact hf2
  by_cases k3 : l.kind = 3
  · simp (implicitDefEqProofs := false) only [go_sem, hc1, k3, Bool.cond_true_left, Bool.cond_false_right]
    refine (fin _ H1 hf1 ?_).mono ?_
    · rw [Bool.eq_iff_iff]
      simp [shapeT, k3, -List.length_eq_zero_iff]
      try omega
    · rintro r H2 ⟨rfl, hf2⟩
      simp (implicitDefEqProofs := false) only [go_sem]
      exact hf2
  by_cases k4 : l.kind = 4
  · simp (implicitDefEqProofs := false) only [go_sem, hc1, k4, Bool.cond_true_left, Bool.cond_false_right]
    refine (fin _ H1 hf1 ?_).mono ?_
    · rw [Bool.eq_iff_iff]
      simp [shapeT, k4, -List.length_eq_zero_iff]
      try omega
    · rintro r H2 ⟨rfl, hf2⟩
      simp (implicitDefEqProofs := false) only [go_sem]
      exact hf2
  by_cases k8 : l.kind = 8
  · simp (implicitDefEqProofs := false) only [go_sem, hc1, k8, Bool.cond_true_left, Bool.cond_false_right]
    refine (fin _ H1 hf1 ?_).mono ?_
    · rw [Bool.eq_iff_iff]
      simp [shapeT, k8, -List.length_eq_zero_iff]
      try omega
    · rintro r H2 ⟨rfl, hf2⟩
      simp (implicitDefEqProofs := false) only [go_sem]
      exact hf2
  by_cases k5 : l.kind = 5
  · simp (implicitDefEqProofs := false) only [go_sem, hc1, k5, Bool.cond_true_left, Bool.cond_false_right]
    refine (fin _ H1 hf1 ?_).mono ?_
    · rw [Bool.eq_iff_iff]
      simp [shapeT, k5, -List.length_eq_zero_iff]
      try omega
    · rintro r H2 ⟨rfl, hf2⟩
      simp (implicitDefEqProofs := false) only [go_sem]
      exact hf2
  by_cases k7 : l.kind = 7
  · simp (implicitDefEqProofs := false) only [go_sem, hc1, k7, Bool.cond_true_left, Bool.cond_false_right]
    refine (fin _ H1 hf1 ?_).mono ?_
    · rw [Bool.eq_iff_iff]
      simp [shapeT, k7, -List.length_eq_zero_iff]
      try omega
    · rintro r H2 ⟨rfl, hf2⟩
      simp (implicitDefEqProofs := false) only [go_sem]
      exact hf2
  by_cases k6 : l.kind = 6
  · simp (implicitDefEqProofs := false) only [go_sem, hc1, k6, Bool.cond_true_left, Bool.cond_false_right]
    refine (fin _ H1 hf1 ?_).mono ?_
    · rw [Bool.eq_iff_iff]
      simp [shapeT, k6, -List.length_eq_zero_iff]
      try omega
    · rintro r H2 ⟨rfl, hf2⟩
      simp (implicitDefEqProofs := false) only [go_sem]
      exact hf2
  by_cases k10 : l.kind = 10
  · simp (implicitDefEqProofs := false) only [go_sem, hc1, k10, Bool.cond_true_left, Bool.cond_false_right]
    refine (fin _ H1 hf1 ?_).mono ?_
    · rw [Bool.eq_iff_iff]
      simp [shapeT, k10, -List.length_eq_zero_iff]
      try omega
    · rintro r H2 ⟨rfl, hf2⟩
      simp (implicitDefEqProofs := false) only [go_sem]
      exact hf2
  simp (implicitDefEqProofs := false) only [go_sem, hc1, k1, k9, k2, k3, k4, k8, k5, k7, k6, k10]
  refine ⟨?_, hf1⟩
  simp [shapeT, k1, k9, k2, k3, k4, k8, k5, k7, k6, k10]

end Go.Proofs.Ytcilkhjadljaaaa
