/- The law of trees. -/
import Derived.Test.YtbgjgaaobnbijaaDoorPo
set_option linter.unusedSimpArgs false
set_option linter.unusedVariables false
set_option maxRecDepth 8000
namespace Go.Proofs.YtbgjgaaobnbijaaDoor
open Gx Go

mutual
theorem sameN_refl : ∀ x : Nd, sameN x x = true
  | .mk k t n a ks => by simp [sameN, sameL_refl ks]
theorem sameL_refl : ∀ l : List Nd, sameL l l = true
  | [] => by simp [sameL]
  | x :: l => by simp [sameL, sameN_refl x, sameL_refl l]
end
mutual
theorem sameN_symm : ∀ x y : Nd, sameN x y = sameN y x
  | .mk k t n a ks, .mk k' t' n' a' ks' => by
    simp only [sameN, sameL_symm ks ks', eq_comm (a := k), eq_comm (a := t), eq_comm (a := n), eq_comm (a := ks.length)]
theorem sameL_symm : ∀ l m : List Nd, sameL l m = sameL m l
  | [], [] => rfl
  | [], _ :: _ => by simp [sameL]
  | _ :: _, [] => by simp [sameL]
  | x :: l, y :: m => by simp only [sameL, sameN_symm x y, sameL_symm l m]
end
set_option maxHeartbeats 1000000 in
theorem trees_law (x y : Nd) {H : Heap} {vx vy : Value} (hG : GlobH H) (hx : NA H x vx) (hy : NA H y vy) : HCalls Tryd.prog 3 #[vx, vy] H fun v H' => v = .bool true ∧ Fr [] H H' := by
  have hx0 := hx
  have hy0 := hy
  obtain ⟨k, t, n, a, ks⟩ := x
  obtain ⟨k', t', n', a', ks'⟩ := y
  obtain ⟨kv, rfl, hk⟩ := hx.open
  obtain ⟨kv', rfl, hk'⟩ := hy.open
  obtain ⟨aa, cc, rfl, hcc, hmx⟩ := kids_len hk
  obtain ⟨aa', cc', rfl, hcc', hmx'⟩ := kids_len hk'
  refine calls_of_vc (args := [_, _]) Tryd.func3 c3ok (Nat.le_of_ble_eq_true rfl) ?_
  have L := L0 H
  simp (implicitDefEqProofs := false) only [go_sem, c3]
  refine L.newP fun bx H1 L => ?_
  simp (implicitDefEqProofs := false) only [go_sem]
  refine L.newP fun bb H2 L => ?_
  simp (implicitDefEqProofs := false) only [go_sem]
  refine (awake_ok (hG.ext L.fr)).mono ?_
  rintro v H3 ⟨rfl, hf⟩
  have L := L.ext hf
  have ca := L.cell 1 rfl
  have cb := L.cell 0 rfl
  simp (implicitDefEqProofs := false) only [go_sem, ca, cb, beq_self_eq_true]
  refine (small_ok _ (by decide) (hx0.ext L.fr)).mono ?_
  rintro v H4 ⟨rfl, hf⟩
  have L := L.ext hf
  have ca := L.cell 1 rfl
  have cb := L.cell 0 rfl
  by_cases e1 : sizeN (.mk k t n a ks) ≤ 400
  case neg =>
    simp (implicitDefEqProofs := false) only [go_sem, e1]
    exact L.fr
  simp (implicitDefEqProofs := false) only [go_sem, e1, ca, cb]
  refine (small_ok _ (by decide) (hy0.ext L.fr)).mono ?_
  rintro v H5 ⟨rfl, hf⟩
  have L := L.ext hf
  have ca := L.cell 1 rfl
  have cb := L.cell 0 rfl
  by_cases e2 : sizeN (.mk k' t' n' a' ks') ≤ 400
  case neg =>
    simp (implicitDefEqProofs := false) only [go_sem, e2]
    exact L.fr
  simp (implicitDefEqProofs := false) only [go_sem, e2, ca, cb]
  refine (same_ok _ _ _ (Nat.le_refl _) (hx0.ext L.fr) (hy0.ext L.fr)).mono ?_
  rintro v HF ⟨rfl, hf⟩
  have L := L.ext hf
  have ca := L.cell 1 rfl
  have cb := L.cell 0 rfl
  simp (implicitDefEqProofs := false) only [go_sem, ca, cb, beq_self_eq_true]
  refine (rsame_ok _ _ _ (Nat.le_refl _) (hx0.ext L.fr) (hy0.ext L.fr)).mono ?_
  rintro v HF ⟨rfl, hf⟩
  have L := L.ext hf
  have ca := L.cell 1 rfl
  have cb := L.cell 0 rfl
  simp (implicitDefEqProofs := false) only [go_sem, ca, cb, beq_self_eq_true]
  refine (same_ok _ _ _ (Nat.le_refl _) (hy0.ext L.fr) (hx0.ext L.fr)).mono ?_
  rintro v HF ⟨rfl, hf⟩
  have L := L.ext hf
  have ca := L.cell 1 rfl
  have cb := L.cell 0 rfl
  simp (implicitDefEqProofs := false) only [go_sem, ca, cb, beq_self_eq_true]
  refine (same_ok _ _ _ (Nat.le_refl _) (hx0.ext L.fr) (hy0.ext L.fr)).mono ?_
  rintro v HF ⟨rfl, hf⟩
  have L := L.ext hf
  have ca := L.cell 1 rfl
  have cb := L.cell 0 rfl
  rw [sameN_symm (.mk k' t' n' a' ks')]
  simp (implicitDefEqProofs := false) only [go_sem, ca, cb, beq_self_eq_true]
  refine (same_ok _ _ _ (Nat.le_refl _) (hx0.ext L.fr) (hx0.ext L.fr)).mono ?_
  rintro v HF ⟨rfl, hf⟩
  have L := L.ext hf
  have ca := L.cell 1 rfl
  have cb := L.cell 0 rfl
  rw [sameN_refl]
  simp (implicitDefEqProofs := false) only [go_sem, ca, cb, beq_self_eq_true]
  refine (size_ok _ _ (Nat.le_refl _) (hx0.ext L.fr)).mono ?_
  rintro v HF ⟨rfl, hf⟩
  have L := L.ext hf
  have ca := L.cell 1 rfl
  have cb := L.cell 0 rfl
  simp (implicitDefEqProofs := false) only [go_sem, ca, cb, beq_self_eq_true]
  refine (rsize_ok _ _ (Nat.le_refl _) (hx0.ext L.fr)).mono ?_
  rintro v HF ⟨rfl, hf⟩
  have L := L.ext hf
  have ca := L.cell 1 rfl
  have cb := L.cell 0 rfl
  simp (implicitDefEqProofs := false) only [go_sem, ca, cb, beq_self_eq_true]
  exact L.fr
end Go.Proofs.YtbgjgaaobnbijaaDoor
