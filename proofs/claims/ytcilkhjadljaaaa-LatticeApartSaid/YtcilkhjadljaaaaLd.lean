/- The decoding: contract. -/
import Derived.Test.YtcilkhjadljaaaaLmr
import Derived.Test.YtcilkhjadljaaaaLen
set_option linter.unusedSimpArgs false
set_option linter.unusedVariables false
set_option maxRecDepth 8000
namespace Go.Proofs.Ytcilkhjadljaaaa
open Gx Go

/-- The description that these bytes encode. -/
def decT (L : Bs) : Option Lt := if (rT L 6 (some 0)).2 = some L.length ∧ (visT 1 0 (rT L 6 (some 0)).1).1 = 0 then some (rT L 6 (some 0)).1 else none
def decR (L : Bs) : Lt × Int := match decT L with
  | some t => (t, 0)
  | none => (Lt.zero, 2)

theorem decode_ok {H : Heap} {a : Option Addr} {c : Nat} {L : Bs} (h : BsR H a L) (hl : L.length < 2^38) : HCalls Try.prog 26 #[.slice a L.length c] H fun r H' =>
    ∃ cs, r = .tuple #[.agg cs.toArray, .int .i64 (decR L).2] ∧ LtA H' [] (decR L).1 cs ∧ Fr [] H H' := by
  refine calls_of_vc (args := [_]) Try.func26 c26ok (Nat.le_of_ble_eq_true rfl) ?_
  simp (implicitDefEqProofs := false) only [go_sem, c26]
  refine NewP_intro fun H1 hn1 hf1 hs1 => ?_
  simp (implicitDefEqProofs := false) only [go_sem]
  refine (new_ok (h.ext hf1) hl).mono ?_
  rintro r H2 ⟨b, g, rfl, hr2, hf2, hb2, hg2⟩
  have hr2' : RdO H2 b L (some 0) g := hr2
  have hbl := hr2'.lt
  have hn2 := hn1.ext hf2
  simp (implicitDefEqProofs := false) only [go_sem]
  refine (read_ok L 6 (by decide) hr2').mono ?_
  rintro r H3 ⟨cs, rfl, hd3, hr3, hf3⟩
  have hs3 := hf3.size
  have hn3 := hn2.fr hf3 (by simp; omega)
  obtain ⟨t, s', ht⟩ : ∃ t s', rT L 6 (some 0) = (t, s') := ⟨_, _, rfl⟩
  have hdR : decR L = if s' = some L.length ∧ (visT 1 0 t).1 = 0 then (t, 0) else (Lt.zero, 2) := by
    unfold decR decT
    rw [ht]
    simp only
    by_cases hc : s' = some L.length ∧ (visT 1 0 t).1 = 0
    · rw [if_pos hc, if_pos hc]
    · rw [if_neg hc, if_neg hc]
  rw [hdR]
  rw [ht] at hd3 hr3
  simp only at hd3 hr3
  obtain ⟨vn, vp, vr, rfl, _, _, _⟩ := LtA.open hd3.rep
  have hF3 : Fr [] H H3 := (hf1.trans hf2).trans' hf3 (by simp; omega)
  simp (implicitDefEqProofs := false) only [go_sem]
  refine NewP_intro fun H4 hn4 hf4 hs4 => ?_
  simp (implicitDefEqProofs := false) only [go_sem]
  refine Sto_all hn4 rfl (LtA.one6 hd3.rep) fun H5 hn5 hf5 hs5 => ?_
  have hfa := new_fr hf4 hf5
  have hr5 := hr3.ext hfa
  have hF5 := hF3.trans hfa
  have hc5 := hn5.cell
  have hd5 : LtA H5 [] t [.int .i64 t.kind, .int .i64 t.lo, .int .i64 t.hi, vn, vp, vr] := hd3.rep.ext hfa
  have hn5' := hn3.ext hfa
  simp (implicitDefEqProofs := false) only [go_sem]
  refine (rend_o hr5).mono ?_
  rintro r H6 ⟨rfl, hEq⟩
  obtain rfl := hEq.symm
  by_cases hend : s' = some L.length
  case neg =>
    rw [if_neg (fun hc => hend hc.1), if_neg hend]
    simp (implicitDefEqProofs := false) only [go_sem, hc5]
    refine Sto_all hn5' rfl (by simp [Value.oneCell']) fun H8 hn8 hf8 hs8 => ?_
    have hc8 := hn8.cell
    simp (implicitDefEqProofs := false) only [go_sem, hc8]
    exact ⟨_, rfl, zeroA _ _, hF5.trans' hf8 (by simp)⟩
  rw [if_pos hend]
  simp (implicitDefEqProofs := false) only [go_sem, hc5]
  refine (check_ok hd5).mono ?_
  rintro r H7 ⟨rfl, hf7⟩
  have hn7 := hn5'.ext hf7
  have hc7 := (hn5.ext hf7).cell
  have hd7 := hd5.ext hf7
  by_cases hv : (visT 1 0 t).1 = 0
  · rw [if_pos ⟨hend, hv⟩]
    simp (implicitDefEqProofs := false) only [go_sem, hv, hc7]
    refine Sto_all hn7 rfl (LtA.one6 hd7) fun H8 hn8 hf8 hs8 => ?_
    have hc8 := hn8.cell
    have hd3' : RepP H8 (fun _ => False) t.dat [.int .i64 t.kind, .int .i64 t.lo, .int .i64 t.hi, vn, vp, vr] :=
      ((hd3.ext (B' := fun y => y = H.size) hfa (fun y hy => by left; have := hn2.lt; omega)).ext (B' := fun y => y = H.size) hf7 (fun y hy => .inl hy)).fr hf8 (by simp) (fun y hy => hy.elim)
    simp (implicitDefEqProofs := false) only [go_sem, hc8]
    exact ⟨_, rfl, hd3'.rep, (hF5.trans hf7).trans' hf8 (by simp)⟩
  · rw [if_neg (fun hc => hv hc.2)]
    simp (implicitDefEqProofs := false) only [go_sem, hv, hc7]
    refine Sto_all hn7 rfl (by simp [Value.oneCell']) fun H8 hn8 hf8 hs8 => ?_
    have hc8 := hn8.cell
    simp (implicitDefEqProofs := false) only [go_sem, hc8]
    exact ⟨_, rfl, zeroA _ _, (hF5.trans hf7).trans' hf8 (by simp)⟩

theorem decode_two {H : Heap} {a : Option Addr} {c : Nat} (h : BsR H a [2, 0, 18]) : HCalls Try.prog 26 #[.slice a 3 c] H fun r H' =>
    ∃ cs, r = .tuple #[.agg cs.toArray, .int .i64 0] ∧ LtA H' [] (.mk 2 0 9 [] [] []) cs ∧ Fr [] H H' := by
  have e : decR [2, 0, 18] = (.mk 2 0 9 [] [] [], 0) := by
    have e1 : rT [2, 0, 18] 6 (some 0) = (.mk 2 0 9 [] [] [], some 3) := by rfl
    unfold decR decT
    rw [e1, if_pos (by decide)]
  have := decode_ok (c := c) h (by decide)
  rw [e] at this
  exact this
end Go.Proofs.Ytcilkhjadljaaaa
