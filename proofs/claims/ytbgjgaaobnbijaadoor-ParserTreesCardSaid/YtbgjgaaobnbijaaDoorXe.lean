/- The next token: contracts of the program and of the specification. -/
import Derived.Test.YtbgjgaaobnbijaaDoorXd
set_option linter.unusedSimpArgs false
set_option linter.unusedVariables false
set_option maxRecDepth 8000
namespace Go.Proofs.YtbgjgaaobnbijaaDoor
open Gx Go

def tkV (t : Tk) : Value := .agg #[.int .i64 t.kind, sv t.text, .int .i64 t.n, .int .i64 t.at_]
def ftV (c a : Int) : Value := .agg #[.int .i64 c, .int .i64 a]
def zTk : Tk := ⟨0, [], 0, 0⟩
structure NR where
  tok : Tk
  fin : Int
  code : Int
  fat : Int
def NR.val (r : NR) : Value := .tuple #[tkV r.tok, .int .i64 r.fin, ftV r.code r.fat]
/-- The answer for a token at an offset. -/
def ansT (k : Nat) : TR → NR
  | .ok kd t n m => ⟨⟨kd, t, n, k⟩, (k + m : Nat), 0, 0⟩
  | .bad e => ⟨zTk, 0, e, k⟩
def nextN (l : Bs) (a : Nat) : NR := ansT (a + skB false (l.drop a)) (tokS (l.drop (a + skB false (l.drop a))))
def nextT (l : Bs) (a : Int) : NR := if 65536 < l.length then ⟨zTk, 0, 6, 65536⟩ else if a < 0 ∨ (l.length : Int) < a then ⟨zTk, 0, 1, 0⟩ else nextN l a.toNat

theorem fr_new {H H1 H2 : Heap} {x : Nat} (h : Fr [] H H1) (h2 : Fr [x] H1 H2) (hx : H.size ≤ x) : Fr [] H H2 := h.trans' h2 (by simp; omega)

/-- A token is none without its code. -/
theorem bad_code {s : Bs} {e : Int} (h : tokS s = .bad e) : e ≠ 0 := by
  cases s with
  | nil => simp [tokS] at h
  | cons c r =>
    simp only [tokS, tokW, tokD, tokQ, tokG] at h
    repeat' split at h
    all_goals first
      | (cases h; done)
      | (simp only [TR.bad.injEq] at h; omega)

set_option maxHeartbeats 4000000 in
theorem next_ok (l : Bs) (hl : l.length ≤ maxLen) (a : Int) {H : Heap} (hg : GlobH H) : HCalls Tryd.prog 27 #[sv l, .int .i64 a] H fun r H' => r = (nextT l a).val ∧ Fr [] H H' := by
  refine calls_of_vc (args := [_, _]) Tryd.func27 c27ok (Nat.le_of_ble_eq_true rfl) ?_
  unfold sv
  simp (implicitDefEqProofs := false) only [go_sem, c27]
  refine NewP_intro fun H1 hb1 hf1 hs1 => ?_
  simp (implicitDefEqProofs := false) only [go_sem]
  refine NewP_intro fun H2 hb2 hf2 hs2 => ?_
  have hb12 := hb1.ext hf2
  have hF2 := hf1.trans hf2
  have hz1 : H.size ≤ H.size := Nat.le_refl _
  generalize hx1 : H.size = x1 at *
  generalize hx2 : H1.size = x2 at *
  have hx12 : x1 ≠ x2 := by omega
  unfold nextT
  by_cases hmax : 65536 < l.length
  · have hmax' : (65536 : Int) < (l.length : Int) := by omega
    rw [if_pos hmax]
    simp (implicitDefEqProofs := false) only [go_sem, ba_size, hmax']
    refine Sto_all hb12 rfl (one4 (t := [])) fun H3 hb3 hf3 hs3 => ?_
    have hb23 := hb2.fr hf3 (by simp [Ne.symm hx12])
    simp (implicitDefEqProofs := false) only [go_sem]
    refine Sto_all hb23 rfl (one2 rfl rfl) fun H4 hb4 hf4 hs4 => ?_
    have hc4 := hb4.cell
    have hc3 := (hb3.fr hf4 (by simp [hx12])).cell
    simp (implicitDefEqProofs := false) only [go_sem, hc3, hc4]
    exact ⟨rfl, fr_new (fr_new hF2 hf3 (by omega)) hf4 (by omega)⟩
  rw [if_neg hmax]
  have hmax' : ¬ (65536 : Int) < (l.length : Int) := by omega
  by_cases hr : a < 0 ∨ (l.length : Int) < a
  · rw [if_pos hr]
    have hr' : (decide (a < 0) = true) ∨ (decide (a < 0) = false ∧ (l.length : Int) < a) := by
      by_cases q : a < 0
      · exact .inl (by simpa using q)
      · exact .inr ⟨by simpa using q, by omega⟩
    rcases hr' with q | ⟨q, q2⟩
    case' inl => simp (implicitDefEqProofs := false) only [go_sem, ba_size, hmax', q]
    case' inr => simp (implicitDefEqProofs := false) only [go_sem, ba_size, hmax', q, q2]
    all_goals
      refine Sto_all hb12 rfl (one4 (t := [])) fun H3 hb3 hf3 hs3 => ?_
      have hb23 := hb2.fr hf3 (by simp [Ne.symm hx12])
      simp (implicitDefEqProofs := false) only [go_sem]
      refine Sto_all hb23 rfl (one2 rfl rfl) fun H4 hb4 hf4 hs4 => ?_
      have hc4 := hb4.cell
      have hc3 := (hb3.fr hf4 (by simp [hx12])).cell
      simp (implicitDefEqProofs := false) only [go_sem, hc3, hc4]
      exact ⟨rfl, fr_new (fr_new hF2 hf3 (by omega)) hf4 (by omega)⟩
  rw [if_neg hr]
  obtain ⟨k, rfl⟩ : ∃ k : Nat, a = k := ⟨a.toNat, by omega⟩
  have hk : k ≤ l.length := by omega
  have q1 : decide ((k : Int) < 0) = false := by simp
  have q2 : ¬ (l.length : Int) < (k : Int) := by omega
  rw [Int.toNat_natCast]
  simp (implicitDefEqProofs := false) only [go_sem, ba_size, hmax', q1, q2]
  refine NewP_intro fun H3 hb3 hf3 hs3 => ?_
  generalize hx3 : H2.size = x3 at *
  simp (implicitDefEqProofs := false) only [go_sem]
  refine Sto_all hb3 rfl (one2 rfl rfl) fun H4 hb4 hf4 hs4 => ?_
  simp (implicitDefEqProofs := false) only [go_sem]
  refine (skip_ok (l := l) hl hk hb4).mono ?_
  rintro r H5 ⟨hb5, hf5⟩
  have hsk : k + skB false (l.drop k) ≤ l.length := by
    have := skB_le false (l.drop k)
    simp only [List.length_drop] at this
    omega
  unfold nextN
  generalize hj : k + skB false (l.drop k) = j at *
  have hF5 : Fr [] H H5 := fr_new (fr_new (hF2.trans hf3) hf4 (by omega)) hf5 (by omega)
  have hb15 := ((hb12.ext hf3).fr hf4 (by simp; omega)).fr hf5 (by simp; omega)
  have hb25 := ((hb2.ext hf3).fr hf4 (by simp; omega)).fr hf5 (by simp; omega)
  have hc5 := hb5.cell
  simp (implicitDefEqProofs := false) only [go_sem, hc5]
  refine (token_ok (l := l) (by omega) hsk hb5 (hg.ext hF5)).mono ?_
  rintro r H6 ht
  unfold TokR at ht
  cases e : tokS (l.drop j) with
  | bad c =>
    rw [e] at ht
    obtain ⟨⟨k', t', n', a', rfl⟩, hf6⟩ := ht
    have hc0 : (c = 0) = False := by simp [bad_code e]
    have hb16 := hb15.fr hf6 (by simp; omega)
    have hb26 := hb25.fr hf6 (by simp; omega)
    have hF6 := fr_new hF5 hf6 (by omega)
    simp (implicitDefEqProofs := false) only [go_sem]
    refine NewP_intro fun H7 hb7 hf7 hs7 => ?_
    generalize hx7 : H6.size = x7 at *
    have hlt6 := hb26.lt
    simp (implicitDefEqProofs := false) only [go_sem, sv]
    refine Sto_all hb7 rfl one4 fun H8 hb8 hf8 hs8 => ?_
    have hb18 := (hb16.ext hf7).fr hf8 (by simp; omega)
    have hb28 := (hb26.ext hf7).fr hf8 (by simp; omega)
    have hF8 := fr_new (hF6.trans hf7) hf8 (by omega)
    simp (implicitDefEqProofs := false) only [go_sem, hc0]
    refine Sto_all hb18 rfl (one4 (t := [])) fun H9 hb9 hf9 hs9 => ?_
    have hb29 := hb28.fr hf9 (by simp [Ne.symm hx12])
    simp (implicitDefEqProofs := false) only [go_sem]
    refine Sto_all hb29 rfl (one2 rfl rfl) fun H10 hb10 hf10 hs10 => ?_
    have hc10 := hb10.cell
    have hc9 := (hb9.fr hf10 (by simp [hx12])).cell
    simp (implicitDefEqProofs := false) only [go_sem, hc9, hc10]
    exact ⟨rfl, fr_new (fr_new hF8 hf9 (by omega)) hf10 (by omega)⟩
  | ok kd t n m =>
    rw [e] at ht
    obtain ⟨rfl, hb6, hf6⟩ := ht
    have hb16 := hb15.fr hf6 (by simp; omega)
    have hb26 := hb25.fr hf6 (by simp; omega)
    have hF6 := fr_new hF5 hf6 (by omega)
    simp (implicitDefEqProofs := false) only [go_sem]
    refine NewP_intro fun H7 hb7 hf7 hs7 => ?_
    generalize hx7 : H6.size = x7 at *
    have hlt6 := hb6.lt
    simp (implicitDefEqProofs := false) only [go_sem, sv]
    refine Sto_all hb7 rfl one4 fun H8 hb8 hf8 hs8 => ?_
    have hb18 := (hb16.ext hf7).fr hf8 (by simp; omega)
    have hb28 := (hb26.ext hf7).fr hf8 (by simp; omega)
    have hb68 := (hb6.ext hf7).fr hf8 (by simp; omega)
    have hF8 := fr_new (hF6.trans hf7) hf8 (by omega)
    have hc8 := hb8.cell
    have hc68 := hb68.cell
    simp (implicitDefEqProofs := false) only [go_sem, hc8, hc68]
    refine Sto_all hb18 rfl (one4 (t := t)) fun H9 hb9 hf9 hs9 => ?_
    have hb29 := hb28.fr hf9 (by simp [Ne.symm hx12])
    have hc9' := (hb8.fr hf9 (by simp; omega)).cell
    have hc69 := (hb68.fr hf9 (by simp; omega)).cell
    simp (implicitDefEqProofs := false) only [go_sem, hc9', hc69]
    refine Sto_all hb29 rfl (one2 rfl rfl) fun H10 hb10 hf10 hs10 => ?_
    have hc10 := hb10.cell
    have hc9 := (hb9.fr hf10 (by simp [hx12])).cell
    simp (implicitDefEqProofs := false) only [go_sem, hc9, hc10]
    exact ⟨rfl, fr_new (fr_new hF8 hf9 (by omega)) hf10 (by omega)⟩
end Go.Proofs.YtbgjgaaobnbijaaDoor
