/- What a check without an error says of depths. -/
import Derived.Test.YtcilkhjadljaaaaLv
set_option linter.unusedSimpArgs false
set_option linter.unusedVariables false
set_option maxRecDepth 8000
namespace Go.Proofs.Ytcilkhjadljaaaa
open Gx Go

theorem visT_zero {d n : Nat} {l : Lt} (h : (visT d n l).1 = 0) : d ≤ 6 ∧ nodeE l = 0 ∧ (visTs (d + 1) (n + 1) l.parts).1 = 0 := by
  rw [visT_open] at h
  by_cases h1 : 6 < d ∨ 64 ≤ n
  · rw [if_pos h1] at h; cases h
  rw [if_neg h1] at h
  by_cases h2 : nodeE l = 0
  · rw [if_neg (by simpa using h2)] at h
    exact ⟨by omega, h2, h⟩
  · rw [if_pos h2] at h; exact absurd h h2
theorem visTs_zero : ∀ {ps : List Lt} {d n : Nat}, (visTs d n ps).1 = 0 → ∀ p ∈ ps, ∃ m, (visT d m p).1 = 0
  | [], _, _, _, p, hp => by simp at hp
  | q :: ps, d, n, h, p, hp => by
    simp only [visTs] at h
    by_cases h1 : (visT d n q).1 = 0
    · rw [if_neg (by simpa using h1)] at h
      rcases List.mem_cons.1 hp with rfl | hp
      · exact ⟨n, h1⟩
      · exact visTs_zero h p hp
    · rw [if_pos h1] at h; exact absurd h h1
theorem nodeE_shape {l : Lt} (h : nodeE l = 0) : shapeT l = true := by
  unfold nodeE at h
  cases e : shapeT l
  · rw [e] at h; cases h
  · rfl
theorem depTs_le {k : Nat} : ∀ {ps : List Lt}, (∀ p ∈ ps, depT p ≤ k) → depTs ps ≤ k
  | [], _ => by simp [depTs]
  | p :: ps, h => by
    simp only [depTs]
    exact Nat.max_le.2 ⟨h p (by simp), depTs_le fun q hq => h q (by simp [hq])⟩
theorem vis_depth (l : Lt) : ∀ {d n : Nat}, (visT d n l).1 = 0 → d + depT l ≤ 7 := by
  refine ltInd (P := fun l => ∀ {d n : Nat}, (visT d n l).1 = 0 → d + depT l ≤ 7) ?_ l
  intro l ih d n h
  obtain ⟨h1, h2, h3⟩ := visT_zero h
  rw [depT_open]
  have : depTs l.parts ≤ 6 - d := depTs_le fun p hp => by
    obtain ⟨j, hj, rfl⟩ := List.getElem_of_mem hp
    obtain ⟨m, hm⟩ := visTs_zero h3 _ hp
    have := ih j hj hm
    omega
  omega
end Go.Proofs.Ytcilkhjadljaaaa
