/- The law of encodings that part. -/
import Derived.Test.YtcilkhjadljaaaaLbd
import Derived.Test.YtcilkhjadljaaaaLj
import Derived.Test.YtcilkhjadljaaaaLu
set_option linter.unusedSimpArgs false
set_option linter.unusedVariables false
set_option maxRecDepth 8000
namespace Go.Proofs.Ytcilkhjadljaaaa
open Gx Go

theorem bsR_b2s_take {H : Heap} {a : Option Addr} {c n : Nat} {l : Bs} (h : BsR H a l) (hn : n ≤ l.length) : b2sN H (some (.slice a n c)) = some (.string ⟨⟨l.take n⟩⟩) := by
  have := (h.take n).b2s c
  rwa [List.length_take, Nat.min_eq_left hn] at this

set_option maxHeartbeats 2000000 in
theorem lapart_ok {a b : Lt} {H : Heap} {cs ds : List Value} (ha : LtA H [] a cs) (hb : LtA H [] b ds) : HCalls Try.prog 9 #[.agg cs.toArray, .agg ds.toArray] H fun r H' => r = .bool true ∧ Fr [] H H' := by
  obtain ⟨vn, vp, vr, rfl, _, _, _⟩ := LtA.open ha
  obtain ⟨wn, wp, wr, rfl, _, _, _⟩ := LtA.open hb
  refine calls_of_vc (args := [_, _]) Try.func9 c9ok (Nat.le_of_ble_eq_true rfl) ?_
  simp (implicitDefEqProofs := false) only [go_sem, c9]
  refine NewP_intro fun H1 hn1 hf1 hs1 => ?_
  simp (implicitDefEqProofs := false) only [go_sem]
  refine NewP_intro fun H2 hn2 hf2 hs2 => ?_
  have hfr := hf1.trans hf2
  replace ha := ha.ext hfr
  replace hb := hb.ext hfr
  have b1 := hn1.ext hf2
  have b2 := hn2
  simp (implicitDefEqProofs := false) only [go_sem]
  refine (awake_ok H2).mono ?_
  rintro r Hc1 ⟨rfl, hfc1⟩
  replace hfr := hfr.trans hfc1
  replace b1 := b1.ext hfc1
  replace b2 := b2.ext hfc1
  replace ha := ha.ext hfc1
  replace hb := hb.ext hfc1
  simp (implicitDefEqProofs := false) only [go_sem, b1.cell]
  refine (check_ok ha).mono ?_
  rintro r Hc2 ⟨rfl, hfc2⟩
  replace hfr := hfr.trans hfc2
  replace b1 := b1.ext hfc2
  replace b2 := b2.ext hfc2
  replace ha := ha.ext hfc2
  replace hb := hb.ext hfc2
  by_cases e0 : (visT 1 0 a).1 = 0
  case neg =>
    simp (implicitDefEqProofs := false) only [go_sem, e0]
    exact hfr
  simp (implicitDefEqProofs := false) only [go_sem, e0, b2.cell]
  refine (check_ok hb).mono ?_
  rintro r Hc3 ⟨rfl, hfc3⟩
  replace hfr := hfr.trans hfc3
  replace b1 := b1.ext hfc3
  replace b2 := b2.ext hfc3
  replace ha := ha.ext hfc3
  replace hb := hb.ext hfc3
  by_cases e1 : (visT 1 0 b).1 = 0
  case neg =>
    simp (implicitDefEqProofs := false) only [go_sem, e1]
    exact hfr
  obtain ⟨oka, la⟩ := enc_small e0
  obtain ⟨okb, lb⟩ := enc_small e1
  simp (implicitDefEqProofs := false) only [go_sem, e1, b1.cell, b2.cell]
  refine (encode_ok ha oka (by omega)).mono ?_
  rintro r Hc4 ⟨ax, cx, gx, rfl, ox, nx, hfc4⟩
  replace hfr := hfr.trans hfc4
  replace b1 := b1.ext hfc4
  replace b2 := b2.ext hfc4
  replace ha := ha.ext hfc4
  replace hb := hb.ext hfc4
  simp (implicitDefEqProofs := false) only [go_sem, b1.cell, b2.cell]
  refine (encode_ok hb okb (by omega)).mono ?_
  rintro r Hc5 ⟨ay, cy, gy, rfl, oy, ny, hfc5⟩
  replace hfr := hfr.trans hfc5
  replace b1 := b1.ext hfc5
  replace b2 := b2.ext hfc5
  replace ha := ha.ext hfc5
  replace hb := hb.ext hfc5
  replace ox := ox.fr hfc5 (by simp)
  have hcx := ox.cap_le
  have hcy := oy.cap_le
  have hmin : (if ((encT b).length : Int) < ((encT a).length : Int) then ((encT b).length : Int) else ((encT a).length : Int)) = ((min (encT a).length (encT b).length : Nat) : Int) := by split <;> omega
  have z1 : (0 : Int) ≤ ((min (encT a).length (encT b).length : Nat) : Int) := by omega
  have z2 : ((min (encT a).length (encT b).length : Nat) : Int) ≤ (cx : Int) := by omega
  have z3 : ((min (encT a).length (encT b).length : Nat) : Int) ≤ (cy : Int) := by omega
  have t1 := bsR_b2s_take (c := cx) ox.bsR (Nat.min_le_left (encT a).length (encT b).length)
  have t2 := bsR_b2s_take (c := cy) oy.bsR (Nat.min_le_right (encT a).length (encT b).length)
  simp (implicitDefEqProofs := false) only [go_sem, hmin, z1, z2, z3, t1, t2, b1.cell, b2.cell]
  refine (equal_ok _ a b (Nat.le_refl _) ha hb).mono ?_
  rintro r Hc6 ⟨rfl, hfc6⟩
  replace hfr := hfr.trans hfc6
  replace b1 := b1.ext hfc6
  replace b2 := b2.ext hfc6
  replace ox := ox.fr hfc6 (by simp)
  replace oy := oy.fr hfc6 (by simp)
  have t3 := bsR_b2s_take (c := cx) ox.bsR (Nat.min_le_left (encT a).length (encT b).length)
  have t4 := bsR_b2s_take (c := cy) oy.bsR (Nat.min_le_right (encT a).length (encT b).length)
  simp (implicitDefEqProofs := false) only [go_sem, t3, t4, b1.cell, b2.cell]
  refine ⟨?_, hfr⟩
  congr 1
  simp only [ba_eq]
  by_cases e : a = b
  · subst e
    simp [eqT_refl]
  · have e2 : eqT a b = false := by
      cases h : eqT a b
      · rfl
      · exact absurd ((eqT_iff a b).1 h) e
    rw [e2, decide_eq_false (fun h => e (enc_apart e0 e1 h))]
    rfl
end Go.Proofs.Ytcilkhjadljaaaa
