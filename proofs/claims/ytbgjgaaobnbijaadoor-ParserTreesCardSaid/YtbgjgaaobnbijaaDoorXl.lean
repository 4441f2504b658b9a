/- The laws of tokens: what is skipped, what a token is, and what comes behind. -/
import Derived.Test.YtbgjgaaobnbijaaDoorXt
set_option linter.unusedSimpArgs false
set_option linter.unusedVariables false
set_option maxRecDepth 8000
namespace Go.Proofs.YtbgjgaaobnbijaaDoor
open Gx Go

/-! ### skipping -/
theorem skB_take : ∀ (b : Bool) (s y : Bs), skB true y = skB false y → skB b (s.take (skB b s) ++ y) = skB b s + skB false y
  | false, [], y, h => by simp [skB]
  | true, [], y, h => by simp [skB, h]
  | false, c :: r, y, h => by
    simp only [skB]
    split
    · rename_i hc
      rw [List.take_succ_cons, List.cons_append]
      simp only [skB, hc, if_true]
      rw [skB_take false r y h]; omega
    · rename_i hc
      split
      · rename_i hh
        rw [List.take_succ_cons, List.cons_append]
        simp only [skB, hc, hh, if_true]
        have := skB_take true r y h
        simp only [Bool.false_eq_true, if_false]
        omega
      · simp
  | true, c :: r, y, h => by
    simp only [skB]
    split
    · rename_i hc
      rw [List.take_succ_cons, List.cons_append]
      simp only [skB, hc, if_true]
      rw [skB_take true r y h]; omega
    · rename_i hc
      rw [List.take_succ_cons, List.cons_append]
      simp only [skB, hc]
      have := skB_take false r y h
      simp only [Bool.false_eq_true, if_false]
      omega
/-- What comes behind the first byte of a token says nothing of what is skipped. -/
theorem skB_same : ∀ (b : Bool) (p : Bs) (c : UInt8) (r r' : Bs), skB b (p ++ c :: r) = p.length → skB b (p ++ c :: r') = p.length
  | false, [], c, r, r', h => by
    simp only [List.nil_append, skB, List.length_nil] at h ⊢
    split at h
    · omega
    · split at h
      · omega
      · rename_i h1 h2; simp [h1, h2]
  | true, [], c, r, r', h => by
    simp only [List.nil_append, skB, List.length_nil] at h ⊢
    split at h <;> omega
  | false, d :: p, c, r, r', h => by
    simp only [List.cons_append, skB, List.length_cons] at h ⊢
    split at h
    · rename_i h1
      rw [if_pos h1, skB_same false p c r r' (by omega)]
    · rename_i h1
      split at h
      · rename_i h2
        rw [if_neg h1, if_pos h2, skB_same true p c r r' (by omega)]
      · omega
  | true, d :: p, c, r, r', h => by
    simp only [List.cons_append, skB, List.length_cons] at h ⊢
    split at h
    · rename_i h1
      rw [if_pos h1, skB_same true p c r r' (by omega)]
    · rename_i h1
      rw [if_neg h1, skB_same false p c r r' (by omega)]
theorem skB_blanks : ∀ (n : Nat) (s : Bs), skB false (List.replicate n 32 ++ s) = n + skB false s
  | 0, s => by simp
  | n + 1, s => by
    rw [List.replicate_succ, List.cons_append]
    simp only [skB]
    rw [if_pos (by decide), skB_blanks n s]; omega
theorem skB_comment : ∀ (com : Bs) (y : Bs), com.all lineB = true → skB true (com ++ 13 :: 10 :: y) = com.length + 2 + skB false y
  | [], y, _ => by
    simp only [List.nil_append, skB]
    rw [if_pos (by decide), if_neg (by decide)]
    simp only [List.length_nil]; omega
  | c :: com, y, h => by
    rw [List.all_cons, Bool.and_eq_true] at h
    rw [List.cons_append]
    simp only [skB]
    rw [if_pos h.1, skB_comment com y h.2]
    simp only [List.length_cons]; omega

/-! ### tokens and what comes behind -/
/-- What may come behind a token without changing it. -/
def FolB (s s' : Bs) : Prop := s' = [] ∨ s'.getD 0 0 = s.getD 0 0 ∧ s ≠ [] ∨ blankB (s'.getD 0 0) = true ∧ s' ≠ []

theorem blank_not {c : UInt8} (h : blankB c = true) : letB c = false ∧ digB c = false ∧ partB c = false := by
  simp only [blankB, Bool.or_eq_true, decide_eq_true_eq] at h
  simp only [partB, letB, digB, Bool.or_eq_false_iff, Bool.and_eq_false_iff, decide_eq_false_iff_not]
  omega
theorem takeWhile_behind (p : UInt8 → Bool) (hp : ∀ c, blankB c = true → p c = false) : ∀ (w s s' : Bs), (w ++ s).takeWhile p = w → FolB s s' → (w ++ s').takeWhile p = w
  | [], s, s', h, hf => by
    rw [List.nil_append] at h ⊢
    cases s' with
    | nil => rfl
    | cons d t =>
      rcases hf with hf | hf | hf
      · cases hf
      · cases s with
        | nil => exact absurd rfl hf.2
        | cons e u =>
          simp at hf
          rw [List.takeWhile_cons] at h ⊢
          rw [hf]
          split at h
          · cases h
          · rename_i hn; rw [if_neg hn]
      · simp at hf
        rw [List.takeWhile_cons, if_neg (by rw [hp d hf]; decide)]
  | c :: w, s, s', h, hf => by
    rw [List.cons_append, List.takeWhile_cons] at h ⊢
    split at h
    · rename_i hc
      simp only [List.cons.injEq, true_and] at h
      rw [if_pos hc, takeWhile_behind p hp w s s' h hf]
    · cases h
theorem part_blank : ∀ c, blankB c = true → partB c = false := fun c h => (blank_not h).2.2
theorem dig_blank : ∀ c, blankB c = true → digB c = false := fun c h => (blank_not h).2.1

theorem takeWhile_self (p : UInt8 → Bool) (s : Bs) : ∃ r, s = s.takeWhile p ++ r ∧ s.dropWhile p = r := ⟨s.dropWhile p, (List.takeWhile_append_dropWhile).symm, rfl⟩

theorem signs_two : ∀ a b : UInt8, signB [a, b] = true → (a, b) = (60, 61) ∨ (a, b) = (61, 61) ∨ (a, b) = (61, 62) := by
  intro a b h
  simp only [signB, decide_eq_true_eq, signList, List.mem_cons, List.cons.injEq, List.not_mem_nil, or_false, false_or, and_true, reduceCtorEq, and_false, List.ne_cons_self] at h
  simp only [Prod.mk.injEq]
  simpa using h
theorem sign_blank (a b : UInt8) (h : blankB b = true) : signB [a, b] = false := by
  cases e : signB [a, b] with
  | false => rfl
  | true =>
    exfalso
    simp only [blankB, Bool.or_eq_true, decide_eq_true_eq] at h
    rcases signs_two a b e with h1 | h1 | h1
    all_goals
      simp only [Prod.mk.injEq] at h1
      rw [h1.2] at h
      revert h; decide

/-- A token is the same whatever follows that may. -/
theorem tokS_behind {w s s' : Bs} {k n : Int} {t : Bs} (h : tokS (w ++ s) = .ok k t n w.length) (hw : w ≠ []) (hf : FolB s s') : tokS (w ++ s') = .ok k t n w.length := by
  cases w with
  | nil => exact absurd rfl hw
  | cons c r =>
    rw [List.cons_append] at h ⊢
    simp only [tokS] at h ⊢
    split at h
    · rename_i hc
      rw [if_pos hc]
      have e : (c :: (r ++ s)).takeWhile partB = c :: r := by
        unfold tokW at h
        split at h
        · cases h
        · simp only [TR.ok.injEq] at h
          have h1 := h.2.2.2
          have h2 := take_twN partB (c :: (r ++ s))
          unfold twN at h2
          rw [← h2, h1]
          rw [← List.cons_append, List.take_left]
      have e' := takeWhile_behind partB part_blank (c :: r) s s' (by rw [List.cons_append]; exact e) hf
      rw [List.cons_append] at e'
      rw [e'] ; rw [e] at h; exact h
    · rename_i hc
      rw [if_neg hc]
      split at h
      · rename_i hd
        rw [if_pos hd]
        have e : (c :: (r ++ s)).takeWhile digB = c :: r := by
          unfold tokD at h
          split at h
          · cases h
          · split at h
            · cases h
            · simp only [TR.ok.injEq] at h
              have h1 := h.2.2.2
              have h2 := take_twN digB (c :: (r ++ s))
              unfold twN at h2
              rw [← h2, h1]
              rw [← List.cons_append, List.take_left]
        have e' := takeWhile_behind digB dig_blank (c :: r) s s' (by rw [List.cons_append]; exact e) hf
        rw [List.cons_append] at e'
        rw [e']; rw [e] at h; exact h
      · rename_i hd
        rw [if_neg hd]
        split at h
        · rename_i hq
          rw [if_pos hq]
          unfold tokQ at h
          split at h
          · cases h
          · rename_i hne
            split at h
            · rename_i hv
              simp only [TR.ok.injEq, List.length_cons] at h
              obtain ⟨h1, h2, h3, h4⟩ := h
              obtain ⟨q, hq1, hq2⟩ := takeWhile_self partB (r ++ s)
              rw [hq2] at hne
              generalize hu : (r ++ s).takeWhile partB = u at *
              -- r = u ++ [39]
              have hlen : r.length = u.length + 1 := by omega
              cases q with
              | nil => exact absurd (.inl rfl) hne
              | cons d q' =>
                have hd39 : d = 39 := by
                  by_cases hx : d = 39
                  · exact hx
                  · exact absurd (.inr (by simpa using hx)) hne
                subst hd39
                have hr : r = u ++ [39] := by
                  have := congrArg (List.take (u.length + 1)) hq1
                  rw [← hlen, List.take_left] at this
                  rw [this, hlen, show u ++ 39 :: q' = (u ++ [39]) ++ q' by simp]
                  rw [show u.length + 1 = (u ++ [39]).length by simp, List.take_left]
                subst hr
                have hall : ∀ x ∈ u, partB x = true := by
                  intro x hx
                  rw [← hu] at hx
                  exact (List.all_eq_true.1 (List.all_takeWhile (p := partB))) x hx
                have e1 : (u ++ [39] ++ s').takeWhile partB = u := by
                  rw [List.append_assoc, List.takeWhile_append_of_pos hall]
                  rw [List.cons_append, List.takeWhile_cons, if_neg (by decide)]; simp
                have e2 : (u ++ [39] ++ s').dropWhile partB = 39 :: s' := by
                  rw [List.append_assoc, List.dropWhile_append_of_pos hall]
                  rw [List.cons_append, List.dropWhile_cons, if_neg (by decide)]; rfl
                rw [e1, e2]
                unfold tokQ
                rw [if_neg (by simp), if_pos hv, h1, h2, h3]
                simp
            · cases h
        · rename_i hq
          rw [if_neg hq]
          unfold tokG at h ⊢
          split at h
          · rename_i h2
            simp only [TR.ok.injEq, List.length_cons] at h
            obtain ⟨h3, h4, h5, h6⟩ := h
            cases r with
            | nil => simp at h6
            | cons d r' =>
              cases r' with
              | cons _ _ => simp at h6
              | nil =>
                have h2' : signB [c, d] = true := h2.2
                have h4' : [c, d] = t := h4
                show (if 2 ≤ (c :: d :: s').length ∧ signB [c, d] = true then TR.ok 5 [c, d] 0 2 else if signB [c] = true then TR.ok 5 [c] 0 1 else TR.bad 2) = TR.ok k t n 2
                rw [if_pos ⟨by simp, h2'⟩, h3, h4', h5]
          · rename_i h2
            split at h
            · rename_i h1
              simp only [TR.ok.injEq, List.length_cons] at h
              obtain ⟨h3, h4, h5, h6⟩ := h
              cases r with
              | cons _ _ => simp at h6
              | nil =>
                have h1' : signB [c] = true := h1
                have h4' : [c] = t := h4
                have h2' : ¬ (2 ≤ (c :: s).length ∧ signB (c :: s.take 1) = true) := h2
                have hno : ¬ (2 ≤ (c :: s').length ∧ signB (c :: s'.take 1) = true) := by
                  rintro ⟨g1, g2⟩
                  cases s' with
                  | nil => simp at g1
                  | cons d u =>
                    simp only [List.take_succ_cons, List.take_zero] at g2
                    rcases hf with hf | hf | hf
                    · cases hf
                    · cases s with
                      | nil => exact hf.2 rfl
                      | cons e v =>
                        simp at hf
                        subst hf
                        exact h2' ⟨by simp, by simpa using g2⟩
                    · simp at hf
                      rw [sign_blank c d hf] at g2; cases g2
                show (if 2 ≤ (c :: s').length ∧ signB (c :: s'.take 1) = true then TR.ok 5 (c :: s'.take 1) 0 2 else if signB [c] = true then TR.ok 5 [c] 0 1 else TR.bad 2) = TR.ok k t n 1
                rw [if_neg hno, if_pos h1', h3, h4', h5]
            · cases h
end Go.Proofs.YtbgjgaaobnbijaaDoor
