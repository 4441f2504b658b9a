/- Version vectors as lists of pairs of numbers: the plain facts. -/
import Derived.Test.YtpoimkhfofpafaaGx13
set_option linter.unusedSimpArgs false
set_option linter.unusedVariables false
namespace Go.Proofs.Ytpoimkhfofpafaa
open Gx Go

abbrev Tk := Int × Int

def validF : Int → List Tk → Bool
  | _, [] => true
  | last, t :: r => decide (last < t.1) && decide (t.1 ≤ 63) && decide (1 ≤ t.2) && decide (t.2 ≤ 1000000000000000) && validF t.1 r
def valid (c : List Tk) : Bool := validF (-1) c

def look : List Tk → Int → Int
  | [], _ => 0
  | t :: r, p => if t.1 = p then t.2 else look r p
def getT (c : List Tk) (p : Int) : Int := if valid c then look c p else 0

def pushIf (p k : Int) (r : List Tk) : List Tk := if 0 < k then (p, k) :: r else r

def walk2 (ch : Int → Int → Int) : List Tk → List Tk → List Tk
  | [], [] => []
  | s :: a, [] => pushIf s.1 (ch s.2 0) (walk2 ch a [])
  | [], t :: b => pushIf t.1 (ch 0 t.2) (walk2 ch [] b)
  | s :: a, t :: b => if s.1 < t.1 then pushIf s.1 (ch s.2 0) (walk2 ch a (t :: b)) else if t.1 < s.1 then pushIf t.1 (ch 0 t.2) (walk2 ch (s :: a) b) else pushIf s.1 (ch s.2 t.2) (walk2 ch a b)
termination_by a b => a.length + b.length

def walkT (ch : Int → Int → Int) (a b : List Tk) : List Tk := if valid a && valid b then walk2 ch a b else []
def maxC (m n : Int) : Int := if n > m then n else m
def minC (m n : Int) : Int := if n < m then n else m
def subC (m n : Int) : Int := if n < m then m else 0
def mergeT := walkT maxC
def commonT := walkT minC
def minusT := walkT subC

def cmpT (a b : List Tk) : Int :=
  if valid a && valid b then
    if (minusT a b).length = 0 then (if (minusT b a).length = 0 then 0 else 1) else (if (minusT b a).length = 0 then 2 else 3)
  else 3

theorem validF_mono : ∀ {l : List Tk} {x y : Int}, y ≤ x → validF x l = true → validF y l = true
  | [], _, _, _, _ => rfl
  | t :: r, x, y, h, hv => by
    simp only [validF, Bool.and_eq_true, decide_eq_true_eq] at hv ⊢
    refine ⟨⟨⟨⟨by omega, hv.1.1.1.2⟩, hv.1.1.2⟩, hv.1.2⟩, hv.2⟩

theorem look_le : ∀ {l : List Tk} {x p : Int}, validF x l = true → p ≤ x → look l p = 0
  | [], _, _, _, _ => rfl
  | t :: r, x, p, hv, hp => by
    simp only [validF, Bool.and_eq_true, decide_eq_true_eq] at hv
    simp only [look]
    rw [if_neg (by omega)]
    exact look_le hv.2 (by omega)

theorem look_big : ∀ {l : List Tk} {x p : Int}, validF x l = true → 63 < p → look l p = 0
  | [], _, _, _, _ => rfl
  | t :: r, x, p, hv, hp => by
    simp only [validF, Bool.and_eq_true, decide_eq_true_eq] at hv
    simp only [look]
    rw [if_neg (by omega)]
    exact look_big hv.2 hp

theorem look_rng : ∀ {l : List Tk} {x : Int} (p : Int), validF x l = true → 0 ≤ look l p ∧ look l p ≤ 1000000000000000
  | [], _, _, _ => by simp [look]
  | t :: r, x, p, hv => by
    simp only [validF, Bool.and_eq_true, decide_eq_true_eq] at hv
    simp only [look]
    split
    · omega
    · exact look_rng p hv.2

/-- Two version vectors with the same numbers are the same. -/
theorem ext_look : ∀ {a b : List Tk} {x : Int}, validF x a = true → validF x b = true → (∀ p, look a p = look b p) → a = b
  | [], [], _, _, _, _ => rfl
  | [], t :: b, x, ha, hb, h => by
    simp only [validF, Bool.and_eq_true, decide_eq_true_eq] at hb
    have := h t.1
    simp only [look, if_true] at this
    omega
  | t :: a, [], x, ha, hb, h => by
    simp only [validF, Bool.and_eq_true, decide_eq_true_eq] at ha
    have := h t.1
    simp only [look, if_true] at this
    omega
  | s :: a, t :: b, x, ha, hb, h => by
    simp only [validF, Bool.and_eq_true, decide_eq_true_eq] at ha hb
    have h1 := h s.1
    have h2 := h t.1
    simp only [look, if_true] at h1 h2
    have e : s.1 = t.1 := by
      rcases Int.lt_trichotomy s.1 t.1 with hlt | he | hlt
      · rw [if_neg (by omega), look_le hb.2 (by omega)] at h1; omega
      · exact he
      · rw [if_neg (by omega), look_le ha.2 (by omega)] at h2; omega
    rw [if_pos e.symm] at h1
    have e2 : s = t := Prod.ext e h1
    subst e2
    congr 1
    refine ext_look ha.2 hb.2 fun p => ?_
    have := h p
    simp only [look] at this
    by_cases hp : s.1 = p
    · rw [look_le ha.2 (by omega), look_le hb.2 (by omega)]
    · rw [if_neg hp, if_neg hp] at this; exact this

theorem validF_push {x y p k : Int} {r : List Tk} (hx : x < p) (hp : p ≤ 63) (hk : k ≤ 1000000000000000) (h : validF p r = true) : validF x (pushIf p k r) = true := by
  unfold pushIf
  split
  · simp only [validF, Bool.and_eq_true, decide_eq_true_eq]
    exact ⟨⟨⟨⟨hx, hp⟩, by omega⟩, hk⟩, h⟩
  · exact validF_mono (by omega) h

theorem look_push {p k q : Int} {r : List Tk} (h : validF p r = true) : look (pushIf p k r) q = if q = p then (if 0 < k then k else 0) else look r q := by
  unfold pushIf
  by_cases e : q = p
  · subst e
    rw [if_pos rfl]
    split
    · simp [look]
    · exact look_le h (Int.le_refl _)
  · rw [if_neg e]
    split
    · simp [look, Ne.symm e]
    · rfl

def pos (k : Int) : Int := if 0 < k then k else 0

theorem walk2_spec {ch : Int → Int → Int} (h0 : ch 0 0 ≤ 0) (hm : ∀ m n, 0 ≤ m → m ≤ 1000000000000000 → 0 ≤ n → n ≤ 1000000000000000 → ch m n ≤ 1000000000000000) : ∀ (k : Nat) {a b : List Tk} {x : Int}, a.length + b.length ≤ k → validF x a = true → validF x b = true →
    validF x (walk2 ch a b) = true ∧ ∀ p, look (walk2 ch a b) p = pos (ch (look a p) (look b p)) := by
  intro k
  induction k with
  | zero =>
    intro a b x hk ha hb
    have e1 : a = [] := List.eq_nil_of_length_eq_zero (by omega)
    have e2 : b = [] := List.eq_nil_of_length_eq_zero (by omega)
    subst e1; subst e2
    refine ⟨by simp [walk2, validF], fun p => ?_⟩
    rw [walk2]; show (0 : Int) = pos (ch 0 0); unfold pos; rw [if_neg (by omega)]
  | succ k ih =>
    intro a b x hk ha hb
    have hz : (0 : Int) ≤ 1000000000000000 := by decide
    match a, b, hk, ha, hb with
    | [], [], _, _, _ =>
      refine ⟨by simp [walk2, validF], fun p => ?_⟩
      rw [walk2]; show (0 : Int) = pos (ch 0 0); unfold pos; rw [if_neg (by omega)]
    | s :: a, [], hk, ha, hb =>
      simp only [validF, Bool.and_eq_true, decide_eq_true_eq] at ha
      obtain ⟨h1, h2⟩ := ih (a := a) (b := []) (x := s.1) (by simp at hk ⊢; omega) ha.2 rfl
      rw [walk2]
      refine ⟨validF_push (y := 0) (by omega) (by omega) (hm _ _ (by omega) (by omega) (by omega) hz) h1, fun p => ?_⟩
      rw [look_push h1]
      by_cases e : p = s.1
      · subst e; simp [look, pos]
      · rw [if_neg e, h2]; simp [look, Ne.symm e]
    | [], t :: b, hk, ha, hb =>
      simp only [validF, Bool.and_eq_true, decide_eq_true_eq] at hb
      obtain ⟨h1, h2⟩ := ih (a := []) (b := b) (x := t.1) (by simp at hk ⊢; omega) rfl hb.2
      rw [walk2]
      refine ⟨validF_push (y := 0) (by omega) (by omega) (hm _ _ (by omega) hz (by omega) (by omega)) h1, fun p => ?_⟩
      rw [look_push h1]
      by_cases e : p = t.1
      · subst e; simp [look, pos]
      · rw [if_neg e, h2]; simp [look, Ne.symm e]
    | s :: a, t :: b, hk, ha, hb =>
      have ha' := ha
      have hb' := hb
      simp only [validF, Bool.and_eq_true, decide_eq_true_eq] at ha hb
      rw [walk2]
      split
      · rename_i hlt
        obtain ⟨h1, h2⟩ := ih (a := a) (b := t :: b) (x := s.1) (by simp at hk ⊢; omega) ha.2 (by
          simp only [validF, Bool.and_eq_true, decide_eq_true_eq]; exact ⟨⟨⟨⟨hlt, hb.1.1.1.2⟩, hb.1.1.2⟩, hb.1.2⟩, hb.2⟩)
        refine ⟨validF_push (y := 0) (by omega) (by omega) (hm _ _ (by omega) (by omega) (by omega) hz) h1, fun p => ?_⟩
        rw [look_push h1]
        by_cases e : p = s.1
        · subst e
          have : look (t :: b) s.1 = 0 := by simp only [look]; rw [if_neg (by omega)]; exact look_le hb.2 (by omega)
          rw [this]; simp [look, pos]
        · rw [if_neg e, h2]; simp [look, Ne.symm e]
      · rename_i hlt
        split
        · rename_i hgt
          obtain ⟨h1, h2⟩ := ih (a := s :: a) (b := b) (x := t.1) (by simp at hk ⊢; omega) (by
            simp only [validF, Bool.and_eq_true, decide_eq_true_eq]; exact ⟨⟨⟨⟨hgt, ha.1.1.1.2⟩, ha.1.1.2⟩, ha.1.2⟩, ha.2⟩) hb.2
          refine ⟨validF_push (y := 0) (by omega) (by omega) (hm _ _ (by omega) hz (by omega) (by omega)) h1, fun p => ?_⟩
          rw [look_push h1]
          by_cases e : p = t.1
          · subst e
            have : look (s :: a) t.1 = 0 := by simp only [look]; rw [if_neg (by omega)]; exact look_le ha.2 (by omega)
            rw [this]; simp [look, pos]
          · rw [if_neg e, h2]; simp [look, Ne.symm e]
        · rename_i hgt
          have est : t.1 = s.1 := by omega
          obtain ⟨h1, h2⟩ := ih (a := a) (b := b) (x := s.1) (by simp at hk ⊢; omega) ha.2 (est ▸ hb.2)
          refine ⟨validF_push (y := 0) (by omega) (by omega) (hm _ _ (by omega) (by omega) (by omega) (by omega)) h1, fun p => ?_⟩
          rw [look_push h1]
          by_cases e : p = s.1
          · subst e; simp [look, pos, est]
          · rw [if_neg e, h2]; simp [look, Ne.symm e, est]

theorem length_push (p k : Int) (r : List Tk) : (pushIf p k r).length ≤ r.length + 1 := by unfold pushIf; split <;> simp
theorem length_walk2 (ch : Int → Int → Int) : ∀ (k : Nat) {a b : List Tk}, a.length + b.length ≤ k → (walk2 ch a b).length ≤ a.length + b.length := by
  intro k
  induction k with
  | zero =>
    intro a b hk
    have e1 : a = [] := List.eq_nil_of_length_eq_zero (by omega)
    have e2 : b = [] := List.eq_nil_of_length_eq_zero (by omega)
    subst e1; subst e2
    simp [walk2]
  | succ k ih =>
    intro a b hk
    match a, b, hk with
    | [], [], _ => simp [walk2]
    | s :: a, [], hk =>
      rw [walk2]
      have := length_push s.1 (ch s.2 0) (walk2 ch a [])
      have := ih (a := a) (b := []) (by simp at hk ⊢; omega)
      simp at *; omega
    | [], t :: b, hk =>
      rw [walk2]
      have := length_push t.1 (ch 0 t.2) (walk2 ch [] b)
      have := ih (a := []) (b := b) (by simp at hk ⊢; omega)
      simp at *; omega
    | s :: a, t :: b, hk =>
      rw [walk2]
      have h1 := length_push s.1 (ch s.2 0) (walk2 ch a (t :: b))
      have h2 := length_push t.1 (ch 0 t.2) (walk2 ch (s :: a) b)
      have h3 := length_push s.1 (ch s.2 t.2) (walk2 ch a b)
      have i1 := ih (a := a) (b := t :: b) (by simp at hk ⊢; omega)
      have i2 := ih (a := s :: a) (b := b) (by simp at hk ⊢; omega)
      have i3 := ih (a := a) (b := b) (by simp at hk ⊢; omega)
      simp at *
      split
      · omega
      · split <;> omega
theorem length_walkT (ch : Int → Int → Int) (a b : List Tk) : (walkT ch a b).length ≤ a.length + b.length := by
  unfold walkT; split
  · exact length_walk2 ch _ (Nat.le_refl _)
  · simp

theorem maxC_ok : maxC 0 0 ≤ 0 ∧ ∀ m n, 0 ≤ m → m ≤ 1000000000000000 → 0 ≤ n → n ≤ 1000000000000000 → maxC m n ≤ 1000000000000000 := ⟨by decide, fun m n _ _ _ _ => by unfold maxC; split <;> omega⟩
theorem minC_ok : minC 0 0 ≤ 0 ∧ ∀ m n, 0 ≤ m → m ≤ 1000000000000000 → 0 ≤ n → n ≤ 1000000000000000 → minC m n ≤ 1000000000000000 := ⟨by decide, fun m n _ _ _ _ => by unfold minC; split <;> omega⟩
theorem subC_ok : subC 0 0 ≤ 0 ∧ ∀ m n, 0 ≤ m → m ≤ 1000000000000000 → 0 ≤ n → n ≤ 1000000000000000 → subC m n ≤ 1000000000000000 := ⟨by decide, fun m n _ _ _ _ => by unfold subC; split <;> first | omega | decide⟩

section
variable {a b c : List Tk}
theorem walkT_spec {ch : Int → Int → Int} (hc : ch 0 0 ≤ 0 ∧ ∀ m n, 0 ≤ m → m ≤ 1000000000000000 → 0 ≤ n → n ≤ 1000000000000000 → ch m n ≤ 1000000000000000) (ha : valid a = true) (hb : valid b = true) :
    valid (walkT ch a b) = true ∧ ∀ p, look (walkT ch a b) p = pos (ch (look a p) (look b p)) := by
  unfold walkT
  rw [ha, hb]
  exact walk2_spec hc.1 hc.2 _ (Nat.le_refl _) ha hb

theorem ext_valid (ha : valid a = true) (hb : valid b = true) (h : ∀ p, look a p = look b p) : a = b := ext_look ha hb h
theorem merge_spec (ha : valid a = true) (hb : valid b = true) : valid (mergeT a b) = true ∧ ∀ p, look (mergeT a b) p = pos (maxC (look a p) (look b p)) := walkT_spec maxC_ok ha hb
theorem common_spec (ha : valid a = true) (hb : valid b = true) : valid (commonT a b) = true ∧ ∀ p, look (commonT a b) p = pos (minC (look a p) (look b p)) := walkT_spec minC_ok ha hb
theorem minus_spec (ha : valid a = true) (hb : valid b = true) : valid (minusT a b) = true ∧ ∀ p, look (minusT a b) p = pos (subC (look a p) (look b p)) := walkT_spec subC_ok ha hb
theorem nn (ha : valid a = true) (p : Int) : 0 ≤ look a p ∧ look a p ≤ 1000000000000000 := look_rng p ha

theorem len_nil (ha : valid a = true) : a.length = 0 ↔ ∀ p, look a p = 0 := by
  constructor
  · intro h p; rw [List.eq_nil_of_length_eq_zero h]; rfl
  · intro h
    have : a = [] := ext_valid ha rfl h
    simp [this]
theorem minus_nil (ha : valid a = true) (hb : valid b = true) : (minusT a b).length = 0 ↔ ∀ p, look a p ≤ look b p := by
  obtain ⟨h1, h2⟩ := minus_spec ha hb
  rw [len_nil h1]
  refine forall_congr' fun p => ?_
  rw [h2]
  have := nn ha p
  have := nn hb p
  unfold subC pos
  split <;> split <;> omega
theorem le_antisymm_look (ha : valid a = true) (hb : valid b = true) (h1 : ∀ p, look a p ≤ look b p) (h2 : ∀ p, look b p ≤ look a p) : a = b :=
  ext_valid ha hb fun p => Int.le_antisymm (h1 p) (h2 p)

theorem cmp_eq (ha : valid a = true) (hb : valid b = true) : cmpT a b = 0 ↔ a = b := by
  unfold cmpT; rw [ha, hb]
  simp only [Bool.and_self, if_true]
  constructor
  · intro h
    refine le_antisymm_look ha hb ((minus_nil ha hb).1 ?_) ((minus_nil hb ha).1 ?_)
    all_goals (split at h <;> split at h <;> first | assumption | simp at h)
  · rintro rfl
    have := (minus_nil ha ha).2 (fun _ => Int.le_refl _)
    simp [this]
theorem cmp_lt (ha : valid a = true) (hb : valid b = true) : cmpT a b = 1 ↔ (∀ p, look a p ≤ look b p) ∧ a ≠ b := by
  unfold cmpT; rw [ha, hb]
  simp only [Bool.and_self, if_true]
  rw [← minus_nil ha hb]
  constructor
  · intro h
    split at h <;> split at h <;> simp at h
    rename_i h1 h2
    refine ⟨h1, ?_⟩
    rintro rfl
    exact h2 h1
  · rintro ⟨h1, h2⟩
    rw [if_pos h1, if_neg]
    intro h3
    exact h2 (le_antisymm_look ha hb ((minus_nil ha hb).1 h1) ((minus_nil hb ha).1 h3))
theorem cmp_gt (ha : valid a = true) (hb : valid b = true) : cmpT a b = 2 ↔ cmpT b a = 1 := by
  unfold cmpT; rw [ha, hb]
  simp only [Bool.and_self, if_true]
  split <;> split <;> simp
theorem cmp_cc (ha : valid a = true) (hb : valid b = true) : cmpT a b = 3 ↔ cmpT b a = 3 := by
  unfold cmpT; rw [ha, hb]
  simp only [Bool.and_self, if_true]
  split <;> split <;> simp
theorem cmp_valid (h : cmpT a b ≠ 3) : valid a = true ∧ valid b = true := by
  unfold cmpT at h
  split at h
  · rename_i h1; simpa using h1
  · exact absurd rfl h
theorem cmp_le (h : cmpT a b = 0 ∨ cmpT a b = 1) : valid a = true ∧ valid b = true ∧ ∀ p, look a p ≤ look b p := by
  have hv := cmp_valid (a := a) (b := b) (by omega)
  refine ⟨hv.1, hv.2, ?_⟩
  rcases h with h | h
  · rw [(cmp_eq hv.1 hv.2).1 h]; exact fun _ => Int.le_refl _
  · exact ((cmp_lt hv.1 hv.2).1 h).1
theorem cmp_rng (a b : List Tk) : cmpT a b = 0 ∨ cmpT a b = 1 ∨ cmpT a b = 2 ∨ cmpT a b = 3 := by
  unfold cmpT; split
  · split <;> split <;> simp
  · simp
end
end Go.Proofs.Ytpoimkhfofpafaa
