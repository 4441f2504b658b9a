/- Runs and blanks: contracts. -/
import Derived.Test.YtbgjgaaobnbijaaDoorXa
set_option linter.unusedSimpArgs false
set_option linter.unusedVariables false
set_option maxRecDepth 8000
namespace Go.Proofs.YtbgjgaaobnbijaaDoor
open Gx Go

theorem getD_at (l : Bs) (i : Nat) (h : i < l.length) : l.getD i 0 = l[i] := by simp [h]

theorem run_ok {p : UInt8 → Bool} {f : Nat} (hb : hasBody Tryd.prog f = true) (hp : ∀ (c : UInt8) (H : Heap), HCalls Tryd.prog f #[.int .u8 c.toNat] H fun r H' => r = .bool (p c) ∧ H' = H)
    {l : Bs} (hl : l.length ≤ maxLen) {H : Heap} {b at_ : Nat} (hat : at_ ≤ l.length) (h : Blk H b 71 [sv l, .int .i64 at_]) :
    HCalls Tryd.prog 58 #[.pointer (some ⟨b, 0, none⟩), .func (.func f) #[] #[]] H fun r H' => r = sv ((l.drop at_).takeWhile p) ∧ Blk H' b 71 [sv l, .int .i64 (at_ + twN p (l.drop at_) : Nat)] ∧ Fr [b] H H' := by
  refine calls_of_vc (args := [_, _]) Tryd.func58 c58ok (Nat.le_of_ble_eq_true rfl) ?_
  have hc := h.cell
  simp (implicitDefEqProofs := false) only [go_sem, c58, hc]
  refine vc_loop (fun (i : Nat) H' => (at_ ≤ i ∧ i ≤ l.length ∧ i + twN p (l.drop i) = at_ + twN p (l.drop at_)) ∧ Blk H' b 71 [sv l, .int .i64 i] ∧ Fr [b] H H')
    (fun i => [(0, .pointer (some ⟨b, 0, none⟩)), (1, .func (.func f) #[] #[]), (5, .int .i64 at_)]) (fun i => l.length - i) at_ ?_ ?_ ?_
  · exact ⟨⟨Nat.le_refl _, hat, rfl⟩, h, Fr.refl _ _⟩
  · simp (implicitDefEqProofs := false) only [go_sem]
  · rintro i H' ⟨⟨h1, h2, h3⟩, hb', hf⟩
    have hc' := hb'.cell
    have stop : twN p (l.drop i) = 0 → (l.drop at_).takeWhile p = (l.take i).drop at_ ∧ Blk H' b 71 [sv l, .int .i64 (at_ + twN p (l.drop at_) : Nat)] ∧ Fr [b] H H' := by
      intro h0
      rw [h0, Nat.add_zero] at h3
      rw [← h3]
      refine ⟨?_, hb', hf⟩
      rw [← take_twN, List.drop_take]
      congr 1; omega
    rcases Nat.lt_or_ge i l.length with hlt | hge
    · have hlt' : (i : Int) < (l.length : Int) := by omega
      have hi0 : (0 : Int) ≤ (i : Int) := by omega
      have hw := succ_i64 i l.length hlt hl
      have hg := getD_at l i hlt
      have ht := twN_at p l i hlt
      simp (implicitDefEqProofs := false) only [go_sem, hc', sv, ba_size, hlt', hi0, hg, hb]
      refine (hp l[i] H').mono ?_
      rintro r H2 ⟨rfl, hEq⟩
      obtain rfl := hEq.symm
      cases e : p l[i]
      · rw [e] at ht
        obtain ⟨q1, q2, q3⟩ := stop (by simpa using ht)
        have hle : (at_ : Int) ≤ (i : Int) := by omega
        have hil : (i : Int) ≤ (l.length : Int) := by omega
        have ha0 : (0 : Int) ≤ (at_ : Int) := by omega
        simp (implicitDefEqProofs := false) only [go_sem, hc', sv, ba_size, hlt', hi0, hg, e, hle, hil, ha0]
        refine ⟨?_, q2, q3⟩
        rw [q1]
        exact congrArg Value.string (ba_ext l at_ i)
      · rw [e] at ht
        simp (implicitDefEqProofs := false) only [go_sem, hc', sv, ba_size, hlt', hi0, hg, e, hw]
        refine Sto_one hb' (by simp) rfl fun H3 hb3 hf3 hs3 => ?_
        simp (implicitDefEqProofs := false) only [go_sem]
        refine loopK_intro (i + 1) (by show l.length - (i + 1) < l.length - i; omega) ?_ ⟨⟨by omega, hlt, by simp at ht; omega⟩, ?_, hf.trans hf3⟩
        · simp (implicitDefEqProofs := false) only [go_sem]
        · exact hb3
    · have hlt' : ¬ (i : Int) < (l.length : Int) := by omega
      have hi0 : (0 : Int) ≤ (i : Int) := by omega
      obtain ⟨q1, q2, q3⟩ := stop (twN_end p l i hge)
      have hle : (at_ : Int) ≤ (i : Int) := by omega
      have hil : (i : Int) ≤ (l.length : Int) := by omega
      have ha0 : (0 : Int) ≤ (at_ : Int) := by omega
      simp (implicitDefEqProofs := false) only [go_sem, hc', sv, ba_size, hlt', hi0, hle, hil, ha0]
      refine ⟨?_, q2, q3⟩
      rw [q1]
      exact congrArg Value.string (ba_ext l at_ i)

theorem body_blank : hasBody Tryd.prog 59 = true := by kernel_rfl
theorem body_line : hasBody Tryd.prog 60 = true := by kernel_rfl

theorem skip_ok {l : Bs} (hl : l.length ≤ maxLen) {H : Heap} {b at_ : Nat} (hat : at_ ≤ l.length) (h : Blk H b 71 [sv l, .int .i64 at_]) :
    HCalls Tryd.prog 40 #[.pointer (some ⟨b, 0, none⟩)] H fun r H' => Blk H' b 71 [sv l, .int .i64 (at_ + skB false (l.drop at_) : Nat)] ∧ Fr [b] H H' := by
  refine calls_of_vc (args := [_]) Tryd.func40 c40ok (Nat.le_of_ble_eq_true rfl) ?_
  simp (implicitDefEqProofs := false) only [go_sem, c40]
  refine vc_loop (fun (i : Nat) H' => (at_ ≤ i ∧ i ≤ l.length ∧ i + skB false (l.drop i) = at_ + skB false (l.drop at_)) ∧ Blk H' b 71 [sv l, .int .i64 i] ∧ Fr [b] H H')
    (fun i => [(0, .pointer (some ⟨b, 0, none⟩))]) (fun i => l.length - i) at_ ?_ ?_ ?_
  · exact ⟨⟨Nat.le_refl _, hat, rfl⟩, h, Fr.refl _ _⟩
  · simp (implicitDefEqProofs := false) only [go_sem]
  · rintro i H' ⟨⟨h1, h2, h3⟩, hb', hf⟩
    simp (implicitDefEqProofs := false) only [go_sem]
    refine (run_ok body_blank blank_ok hl h2 hb').mono ?_
    rintro r H2 ⟨rfl, hb2, hf2⟩
    have hle := twN_le blankB (l.drop i)
    simp only [List.length_drop] at hle
    have hr := skB_run (l.drop i)
    rw [List.drop_drop] at hr
    generalize hk : i + twN blankB (l.drop i) = k at *
    have hc2 := hb2.cell
    have hF := hf.trans hf2
    have hk0 : (0 : Int) ≤ (k : Int) := by omega
    rcases Nat.lt_or_ge k l.length with hlt | hge
    · have hlt' : ¬ (l.length : Int) ≤ (k : Int) := by omega
      have hlt2 : (k : Int) < (l.length : Int) := by omega
      have hg := getD_at l k hlt
      have hnb : blankB l[k] = false := by
        refine twN_stop blankB (l.drop i) l[k] (l.drop (k + 1)) ?_
        rw [List.drop_drop, hk, ← List.drop_eq_getElem_cons hlt]
      by_cases e : (l[k].toNat : Int) = 35
      · simp (implicitDefEqProofs := false) only [go_sem, hc2, sv, ba_size, hlt', hlt2, hk0, hg, e]
        refine (run_ok body_line line_ok hl (Nat.le_of_lt hlt) hb2).mono ?_
        rintro r H3 ⟨rfl, hb3, hf3⟩
        have hh := skB_hash e (l.drop (k + 1))
        rw [← List.drop_eq_getElem_cons hlt, List.drop_drop] at hh
        have hle2 := twN_le lineB (l.drop k)
        simp only [List.length_drop] at hle2
        have hpos : 0 < twN lineB (l.drop k) := by
          rw [twN_at _ _ _ hlt, if_pos (by simp [lineB]; omega)]; omega
        simp (implicitDefEqProofs := false) only [go_sem]
        refine loopK_intro (k + twN lineB (l.drop k)) (by show l.length - (k + twN lineB (l.drop k)) < l.length - i; omega) ?_ ⟨⟨by omega, by omega, by omega⟩, hb3, hF.trans hf3⟩
        simp (implicitDefEqProofs := false) only [go_sem]
      · have h0 : skB false (l.drop k) = 0 := by
          rw [List.drop_eq_getElem_cons hlt]; exact skB_other hnb e _
        simp (implicitDefEqProofs := false) only [go_sem, hc2, sv, ba_size, hlt', hlt2, hk0, hg, e]
        rw [show at_ + skB false (l.drop at_) = k by omega]
        exact ⟨hb2, hF⟩
    · have hlt' : (l.length : Int) ≤ (k : Int) := by omega
      have h0 : skB false (l.drop k) = 0 := by
        rw [List.drop_eq_nil_of_le hge]; rfl
      simp (implicitDefEqProofs := false) only [go_sem, hc2, sv, ba_size, hlt', hk0]
      rw [show at_ + skB false (l.drop at_) = k by omega]
      exact ⟨hb2, hF⟩


end Go.Proofs.YtbgjgaaobnbijaaDoor
