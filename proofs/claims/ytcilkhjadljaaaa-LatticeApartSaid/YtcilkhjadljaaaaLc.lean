/- The check of a node: contracts. -/
import Derived.Test.YtcilkhjadljaaaaLs
set_option linter.unusedSimpArgs false
set_option linter.unusedVariables false
set_option maxRecDepth 8000
namespace Go.Proofs.Ytcilkhjadljaaaa
open Gx Go

theorem limits_ok {l : Lt} {H : Heap} {cs : List Value} (ha : LtA H [] l cs) : HCalls Try.prog 52 #[.agg cs.toArray] H fun r H' => r = .int .i64 (if limT l then 6 else 0) ∧ Fr [] H H' := by
  obtain ⟨vn, vp, vr, rfl, h3, h4, h5⟩ := LtA.open ha
  obtain ⟨na, nc, rfl, hnl, hnc⟩ := StrsA.slice h3
  obtain ⟨ra, rc, rfl, hrl, hrc⟩ := RulesA.slice h5
  refine calls_of_vc (args := [_]) Try.func52 c52ok (Nat.le_of_ble_eq_true rfl) ?_
  simp (implicitDefEqProofs := false) only [go_sem, c52]
  refine NewP_intro fun H1 hn1 hf1 hs1 => ?_
  have hc1 := hn1.cell
  have fin : ∀ (b : Bool) {R : Value → Heap → Prop}, b = limT l → (R (.int .i64 (if limT l then 6 else 0)) H1) → HCalls Try.prog 76 #[.bool b, .int .i64 6] H1 R := fun b R hb hR => (when_ok b 6 H1).mono fun r H' h => by
    obtain ⟨rfl, rfl⟩ := h
    rw [hb]; exact hR
  by_cases k6 : l.kind = 6
  · simp (implicitDefEqProofs := false) only [go_sem, hc1, k6, Bool.cond_true_left, Bool.cond_false_right]
    refine fin _ ?_ ?_
    · rw [Bool.eq_iff_iff]; simp [limT, k6]; omega
    · simp (implicitDefEqProofs := false) only [go_sem]
      exact hf1
  by_cases k10 : l.kind = 10
  · simp (implicitDefEqProofs := false) only [go_sem, hc1, k10, Bool.cond_true_left, Bool.cond_false_right]
    refine fin _ ?_ ?_
    · rw [Bool.eq_iff_iff]; simp [limT, k10]; omega
    · simp (implicitDefEqProofs := false) only [go_sem]
      exact hf1
  simp (implicitDefEqProofs := false) only [go_sem, hc1, k6, k10, Bool.cond_true_left, Bool.cond_false_right]
  refine fin _ ?_ ?_
  · rw [Bool.eq_iff_iff]; simp [limT, k6, k10]; omega
  · simp (implicitDefEqProofs := false) only [go_sem]
    exact hf1

theorem ranges_ok {l : Lt} {H : Heap} {cs : List Value} (ha : LtA H [] l cs) : HCalls Try.prog 54 #[.agg cs.toArray] H fun r H' => r = .int .i64 (if rngT l then 5 else 0) ∧ Fr [] H H' := by
  obtain ⟨vn, vp, vr, rfl, h3, h4, h5⟩ := LtA.open ha
  refine calls_of_vc (args := [_]) Try.func54 c54ok (Nat.le_of_ble_eq_true rfl) ?_
  simp (implicitDefEqProofs := false) only [go_sem, c54]
  refine NewP_intro fun H1 hn1 hf1 hs1 => ?_
  have hc1 := hn1.cell
  simp (implicitDefEqProofs := false) only [go_sem, hc1, Bool.cond_true_left, Bool.cond_false_right]
  refine (when_ok _ 5 H1).mono fun r H' h => ?_
  obtain ⟨rfl, rfl⟩ := h
  simp (implicitDefEqProofs := false) only [go_sem]
  refine ⟨?_, hf1⟩
  congr 2
  rw [Bool.eq_iff_iff]; simp [rngT]; omega

theorem chains_ok {l : Lt} {H : Heap} {cs : List Value} (ha : LtA H [] l cs) (hp : l.kind = 7 → 0 < l.parts.length) : HCalls Try.prog 55 #[.agg cs.toArray] H fun r H' => r = .int .i64 (if chnT l then 4 else 0) ∧ Fr [] H H' := by
  obtain ⟨vn, vp, vr, rfl, h3, h4, h5⟩ := LtA.open ha
  refine calls_of_vc (args := [_]) Try.func55 c55ok (Nat.le_of_ble_eq_true rfl) ?_
  by_cases k7 : l.kind = 7
  · simp (implicitDefEqProofs := false) only [go_sem, c55, k7]
    refine NewP_intro fun H1 hn1 hf1 hs1 => ?_
    have hc1 := hn1.cell
    obtain ⟨b, o, c, wn, wp, wr, rfl, p0, p1, p2, p3, p4, p5, hq⟩ := PartsA.at (h4.ext hf1) 0 (hp k7)
    simp only [Nat.zero_mul, Nat.add_zero] at p0 p1 p2 p3 p4 p5
    have h0 : (0 : Int) < (l.parts.length : Int) := by have := hp k7; omega
    have hh : headC l = chainT (l.parts[0]'(hp k7)) := by
      unfold headC
      have := hp k7
      split
      · rename_i e; simp only [e]; rfl
      · rename_i e; rw [e] at this; simp at this
    simp (implicitDefEqProofs := false) only [go_sem, hc1, h0, p0, p1, p2, p3, p4, p5]
    refine (chain_ok _ hq).mono ?_
    rintro r H2 ⟨rfl, hf2⟩
    simp (implicitDefEqProofs := false) only [go_sem]
    refine (when_ok _ 4 H2).mono fun r H' h => ?_
    obtain ⟨rfl, rfl⟩ := h
    simp (implicitDefEqProofs := false) only [go_sem]
    refine ⟨?_, hf1.trans hf2⟩
    simp [chnT, k7, hh]
  · simp (implicitDefEqProofs := false) only [go_sem, c55, k7]
    refine NewP_intro fun H1 hn1 hf1 hs1 => ?_
    have hc1 := hn1.cell
    simp (implicitDefEqProofs := false) only [go_sem, hc1, k7]
    refine (when_ok _ 4 H1).mono fun r H' h => ?_
    obtain ⟨rfl, rfl⟩ := h
    simp (implicitDefEqProofs := false) only [go_sem]
    refine ⟨?_, hf1⟩
    simp [chnT, k7]

/-- The first of four numbers that is not zero. -/
def or4 (a b c d : Int) : Int := if a ≠ 0 then a else if b ≠ 0 then b else if c ≠ 0 then c else d
def orI (x y z w : Int) (i : Nat) : Prop := (0 < i → x = 0) ∧ (1 < i → y = 0) ∧ (2 < i → z = 0) ∧ (3 < i → w = 0)
theorem or_ok {H : Heap} {b : Nat} {x y z w : Int} (h : Blk H b 28 [.int .i64 x, .int .i64 y, .int .i64 z, .int .i64 w]) :
    HCalls Try.prog 51 #[.slice (some ⟨b, 0, none⟩) 4 4] H fun r H' => r = .int .i64 (or4 x y z w) ∧ H' = H := by
  have hc := h.cell
  refine calls_of_vc (args := [_]) Try.func51 c51ok (Nat.le_of_ble_eq_true rfl) ?_
  simp (implicitDefEqProofs := false) only [go_sem, c51]
  refine vc_loop (fun (i : Nat) H' => i ≤ 4 ∧ orI x y z w i ∧ H' = H)
    (fun i => [(3, .int .i64 0), (6, .slice (some ⟨b, 0, none⟩) 4 4), (7, .int .i64 4), (8, .int .i64 i)]) (fun i => 4 - i) 0 ?_ ?_ ?_
  · exact ⟨by decide, ⟨by omega, by omega, by omega, by omega⟩, rfl⟩
  · simp (implicitDefEqProofs := false) only [go_sem]
  · rintro i H' ⟨hi, ⟨i0, i1, i2, i3⟩, rfl⟩
    match i, hi with
    | 0, _ =>
      by_cases e : x = 0
      · simp (implicitDefEqProofs := false) only [go_sem, hc, e]
        refine loopK_intro 1 (by decide) ?_ ⟨by decide, ⟨by omega, by omega, by omega, by omega⟩, rfl⟩
        simp (implicitDefEqProofs := false) only [go_sem]
        rfl
      · simp (implicitDefEqProofs := false) only [go_sem, hc, e]
        simp [or4, e]
    | 1, _ =>
      by_cases e : y = 0
      · simp (implicitDefEqProofs := false) only [go_sem, hc, e]
        refine loopK_intro 2 (by decide) ?_ ⟨by decide, ⟨by omega, by omega, by omega, by omega⟩, rfl⟩
        simp (implicitDefEqProofs := false) only [go_sem]
        rfl
      · simp (implicitDefEqProofs := false) only [go_sem, hc, e]
        simp [or4, e, i0]
    | 2, _ =>
      by_cases e : z = 0
      · simp (implicitDefEqProofs := false) only [go_sem, hc, e]
        refine loopK_intro 3 (by decide) ?_ ⟨by decide, ⟨by omega, by omega, by omega, by omega⟩, rfl⟩
        simp (implicitDefEqProofs := false) only [go_sem]
        rfl
      · simp (implicitDefEqProofs := false) only [go_sem, hc, e]
        simp [or4, e, i0, i1]
    | 3, _ =>
      by_cases e : w = 0
      · simp (implicitDefEqProofs := false) only [go_sem, hc, e]
        refine loopK_intro 4 (by decide) ?_ ⟨by decide, ⟨by omega, by omega, by omega, by omega⟩, rfl⟩
        simp (implicitDefEqProofs := false) only [go_sem]
        rfl
      · simp (implicitDefEqProofs := false) only [go_sem, hc, e]
        simp [or4, e, i0, i1, i2]
    | 4, _ =>
      simp (implicitDefEqProofs := false) only [go_sem]
      simp [or4, i0, i1, i2, i3]
end Go.Proofs.Ytcilkhjadljaaaa
