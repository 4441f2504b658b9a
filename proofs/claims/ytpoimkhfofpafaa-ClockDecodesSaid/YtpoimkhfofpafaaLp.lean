/- The laws of chapter 07: plain facts. -/
import Derived.Test.YtpoimkhfofpafaaCd
set_option linter.unusedSimpArgs false
set_option linter.unusedVariables false
set_option maxRecDepth 8000
namespace Go.Proofs.Ytpoimkhfofpafaa
open Gx Go

section
variable {a b c : List Tk}
theorem lk_merge (ha : valid a = true) (hb : valid b = true) (p : Int) : look (mergeT a b) p = max (look a p) (look b p) := by
  rw [(merge_spec ha hb).2]
  have := nn ha p; have := nn hb p
  unfold maxC pos; repeat' split
  all_goals omega
theorem lk_common (ha : valid a = true) (hb : valid b = true) (p : Int) : look (commonT a b) p = min (look a p) (look b p) := by
  rw [(common_spec ha hb).2]
  have := nn ha p; have := nn hb p
  unfold minC pos; repeat' split
  all_goals omega
theorem lk_minus (ha : valid a = true) (hb : valid b = true) (p : Int) : look (minusT a b) p = if look b p < look a p then look a p else 0 := by
  rw [(minus_spec ha hb).2]
  have := nn ha p; have := nn hb p
  unfold subC pos; repeat' split
  all_goals omega
theorem v_merge (ha : valid a = true) (hb : valid b = true) : valid (mergeT a b) = true := (merge_spec ha hb).1
theorem v_common (ha : valid a = true) (hb : valid b = true) : valid (commonT a b) = true := (common_spec ha hb).1
theorem v_minus (ha : valid a = true) (hb : valid b = true) : valid (minusT a b) = true := (minus_spec ha hb).1

theorem merge_comm (ha : valid a = true) (hb : valid b = true) : mergeT a b = mergeT b a :=
  ext_valid (v_merge ha hb) (v_merge hb ha) fun p => by rw [lk_merge ha hb, lk_merge hb ha]; omega
theorem common_comm (ha : valid a = true) (hb : valid b = true) : commonT a b = commonT b a :=
  ext_valid (v_common ha hb) (v_common hb ha) fun p => by rw [lk_common ha hb, lk_common hb ha]; omega
theorem merge_idem (ha : valid a = true) : mergeT a a = a :=
  ext_valid (v_merge ha ha) ha fun p => by rw [lk_merge ha ha]; omega
theorem common_idem (ha : valid a = true) : commonT a a = a :=
  ext_valid (v_common ha ha) ha fun p => by rw [lk_common ha ha]; omega
theorem merge_assoc (ha : valid a = true) (hb : valid b = true) (hc : valid c = true) : mergeT (mergeT a b) c = mergeT a (mergeT b c) :=
  ext_valid (v_merge (v_merge ha hb) hc) (v_merge ha (v_merge hb hc)) fun p => by rw [lk_merge (v_merge ha hb) hc, lk_merge ha (v_merge hb hc), lk_merge ha hb, lk_merge hb hc]; omega
theorem common_assoc (ha : valid a = true) (hb : valid b = true) (hc : valid c = true) : commonT (commonT a b) c = commonT a (commonT b c) :=
  ext_valid (v_common (v_common ha hb) hc) (v_common ha (v_common hb hc)) fun p => by rw [lk_common (v_common ha hb) hc, lk_common ha (v_common hb hc), lk_common ha hb, lk_common hb hc]; omega
theorem merge_absorb (ha : valid a = true) (hb : valid b = true) : mergeT a (commonT a b) = a :=
  ext_valid (v_merge ha (v_common ha hb)) ha fun p => by rw [lk_merge ha (v_common ha hb), lk_common ha hb]; omega
theorem common_absorb (ha : valid a = true) (hb : valid b = true) : commonT a (mergeT a b) = a :=
  ext_valid (v_common ha (v_merge ha hb)) ha fun p => by rw [lk_common ha (v_merge ha hb), lk_merge ha hb]; omega
theorem common_distr (ha : valid a = true) (hb : valid b = true) (hc : valid c = true) : commonT (mergeT a b) c = mergeT (commonT a c) (commonT b c) :=
  ext_valid (v_common (v_merge ha hb) hc) (v_merge (v_common ha hc) (v_common hb hc)) fun p => by rw [lk_common (v_merge ha hb) hc, lk_merge (v_common ha hc) (v_common hb hc), lk_common ha hc, lk_common hb hc, lk_merge ha hb]; omega

theorem minus_back (ha : valid a = true) (hb : valid b = true) : mergeT b (minusT a b) = mergeT a b :=
  ext_valid (v_merge hb (v_minus ha hb)) (v_merge ha hb) fun p => by
    rw [lk_merge hb (v_minus ha hb), lk_merge ha hb, lk_minus ha hb]
    have := nn ha p; have := nn hb p
    split <;> omega
theorem minus_least (ha : valid a = true) (hb : valid b = true) (hc : valid c = true) (h : mergeT b c = mergeT a b) : mergeT (minusT a b) c = c :=
  ext_valid (v_merge (v_minus ha hb) hc) hc fun p => by
    rw [lk_merge (v_minus ha hb) hc, lk_minus ha hb]
    have h1 := congrArg (fun x => look x p) h
    simp only [lk_merge hb hc, lk_merge ha hb] at h1
    have := nn ha p; have := nn hb p; have := nn hc p
    split <;> omega

theorem up_iff (ha : valid a = true) (hb : valid b = true) : mergeT a b = b ↔ ∀ p, look a p ≤ look b p := by
  constructor
  · intro h p
    have h1 := congrArg (fun x => look x p) h
    simp only [lk_merge ha hb] at h1
    omega
  · intro h
    exact ext_valid (v_merge ha hb) hb fun p => by rw [lk_merge ha hb]; have := h p; omega

theorem cmp_trans (h1 : cmpT a b = 0 ∨ cmpT a b = 1) (h2 : cmpT b c = 0 ∨ cmpT b c = 1) : cmpT a c = if cmpT a b = 0 ∧ cmpT b c = 0 then 0 else 1 := by
  obtain ⟨ha, hb, hab⟩ := cmp_le h1
  obtain ⟨_, hc, hbc⟩ := cmp_le h2
  split
  · rename_i h
    rw [(cmp_eq ha hb).1 h.1, (cmp_eq hb hc).1 h.2]
    exact (cmp_eq hc hc).2 rfl
  · rename_i h
    refine (cmp_lt ha hc).2 ⟨fun p => Int.le_trans (hab p) (hbc p), ?_⟩
    rintro rfl
    have e : a = b := le_antisymm_look ha hb hab hbc
    subst e
    exact h ⟨(cmp_eq ha ha).2 rfl, (cmp_eq ha ha).2 rfl⟩
end

/-- An increment goes up by one. -/
theorem inc_up {c : List Tk} {p : Int} (h : (incT c p).2 = 0) : valid (incT c p).1 = true ∧ cmpT c (incT c p).1 = 1 ∧ getT (incT c p).1 p = getT c p + 1 ∧ ∀ q, p ≠ q → getT (incT c p).1 q = getT c q := by
  unfold incT at h ⊢
  split
  · rename_i hv
    rw [if_pos hv] at h
    split
    · rename_i h2; rw [if_pos h2] at h; cases h
    · rename_i h2
      have r := nn hv.1 p
      have e := getT_valid hv.1 p
      have hone := valid_one hv.2.1 hv.2.2 (n := getT c p + 1) (by omega) (by omega)
      have hm := v_merge hv.1 hone
      have hl : ∀ q, look (mergeT c [(p, getT c p + 1)]) q = max (look c q) (if p = q then getT c p + 1 else 0) := fun q => by
        rw [lk_merge hv.1 hone]; simp [look]
      have hp : look (mergeT c [(p, getT c p + 1)]) p = getT c p + 1 := by rw [hl, if_pos rfl]; omega
      have hq : ∀ q, p ≠ q → look (mergeT c [(p, getT c p + 1)]) q = look c q := fun q hq => by
        rw [hl, if_neg hq]; have := nn hv.1 q; omega
      refine ⟨hm, (cmp_lt hv.1 hm).2 ⟨fun q => ?_, fun h => ?_⟩, ?_, fun q hpq => ?_⟩
      · by_cases e2 : p = q
        · subst e2; rw [hp]; omega
        · rw [hq q e2]; exact Int.le_refl _
      · rw [← h] at hp; omega
      · rw [getT_valid hm, hp]
      · rw [getT_valid hm, getT_valid hv.1 q, hq q hpq]
  · rename_i hv; rw [if_neg hv] at h; cases h
theorem inc_err {c : List Tk} {p : Int} (h : (incT c p).2 ≠ 0) : (incT c p).1 = [] := by
  unfold incT at h ⊢
  split
  · rename_i hv
    rw [if_pos hv] at h
    split
    · rfl
    · rename_i h2; rw [if_neg h2] at h; exact absurd rfl h
  · rfl
theorem inc_len (c : List Tk) (p : Int) : (incT c p).1.length ≤ c.length + 1 := by
  unfold incT
  split
  · split
    · simp
    · have := length_walkT maxC c [(p, getT c p + 1)]
      simpa [mergeT] using this
  · simp
end Go.Proofs.Ytpoimkhfofpafaa
