/- The specification of version vectors: plain facts. -/
import Derived.Test.YtpoimkhfofpafaaCp
set_option linter.unusedSimpArgs false
set_option linter.unusedVariables false
namespace Go.Proofs.Ytpoimkhfofpafaa
open Gx Go

def tab (F : Nat → Int) (n : Nat) : List Int := (List.range n).map F
theorem tab_len (F : Nat → Int) (n : Nat) : (tab F n).length = n := by simp [tab]
theorem tab_get (F : Nat → Int) (n j : Nat) : (tab F n)[j]? = if j < n then some (F j) else none := by
  unfold tab
  by_cases h : j < n
  · rw [if_pos h]; simp [h]
  · rw [if_neg h]; simp; omega
theorem tab_succ (F : Nat → Int) (n : Nat) : tab F (n + 1) = tab F n ++ [F n] := by simp [tab, List.range_succ]
theorem tab_set (F : Nat → Int) (n p : Nat) (x : Int) (hp : p < n) : (tab F n).set p x = tab (fun j => if j = p then x else F j) n := by
  apply List.ext_getElem?
  intro j
  rw [List.getElem?_set, tab_get, tab_get, tab_len]
  by_cases e : p = j
  · subst e; simp [hp]
  · simp [e, Ne.symm e]
theorem tab_congr {F G : Nat → Int} {n : Nat} (h : ∀ j, j < n → F j = G j) : tab F n = tab G n := by
  apply List.ext_getElem?
  intro j
  rw [tab_get, tab_get]
  split
  · rename_i h'; rw [h j h']
  · rfl

def allT (c : List Tk) : List Int := tab (fun j => getT c j) 64

def ofT : Int → List Int → List Tk
  | _, [] => []
  | i, x :: r => pushIf i x (ofT (i + 1) r)

theorem of_spec : ∀ (xs : List Int) (i : Int), i + xs.length ≤ 64 → (∀ x ∈ xs, x ≤ 1000000000000000) →
    validF (i - 1) (ofT i xs) = true ∧ ∀ p, look (ofT i xs) p = if i ≤ p ∧ p < i + xs.length then pos (xs.getD (p - i).toNat 0) else 0
  | [], i, _, _ => ⟨rfl, fun p => by rw [if_neg (by simp only [List.length_nil]; omega)]; rfl⟩
  | x :: r, i, h, hx => by
    simp only [List.length_cons] at h
    obtain ⟨h1, h2⟩ := of_spec r (i + 1) (by omega) (fun y hy => hx y (by simp [hy]))
    rw [show i + 1 - 1 = i by omega] at h1
    refine ⟨validF_push (y := 0) (by omega) (by omega) (hx x (by simp)) h1, fun p => ?_⟩
    simp only [ofT]
    rw [look_push h1]
    by_cases e : p = i
    · subst e
      have hc : p ≤ p ∧ p < p + ((x :: r).length : Int) := ⟨Int.le_refl _, by simp only [List.length_cons]; omega⟩
      rw [if_pos rfl, if_pos hc]
      simp [pos]
    · rw [if_neg e, h2]
      by_cases hp : i + 1 ≤ p ∧ p < i + 1 + r.length
      · have hc : i ≤ p ∧ p < i + ((x :: r).length : Int) := by simp only [List.length_cons]; omega
        rw [if_pos hp, if_pos hc]
        have : (p - i).toNat = (p - (i + 1)).toNat + 1 := by omega
        rw [this]; simp
      · have hc : ¬ (i ≤ p ∧ p < i + ((x :: r).length : Int)) := by simp only [List.length_cons]; omega
        rw [if_neg hp, if_neg hc]

theorem of_tab {F : Nat → Int} (hF : ∀ j, j < 64 → F j ≤ 1000000000000000) : valid (ofT 0 (tab F 64)) = true ∧ ∀ p : Int, look (ofT 0 (tab F 64)) p = if 0 ≤ p ∧ p < 64 then pos (F p.toNat) else 0 := by
  obtain ⟨h1, h2⟩ := of_spec (tab F 64) 0 (by simp [tab_len]) (fun x hx => by
    obtain ⟨j, hj, rfl⟩ := List.mem_map.1 hx
    exact hF j (by simpa using hj))
  refine ⟨h1, fun p => ?_⟩
  rw [h2]
  simp only [tab_len, Int.zero_add, Int.sub_zero]
  have e : ((64 : Nat) : Int) = 64 := rfl
  rw [e]
  split
  · rename_i hp
    rw [List.getD_eq_getElem?_getD, tab_get, if_pos (by omega)]; rfl
  · rfl

theorem getT_valid {c : List Tk} (h : valid c = true) (p : Int) : getT c p = look c p := by unfold getT; rw [if_pos h]

/-- The reference's list of numbers, made anew, is what the walk makes. -/
theorem of_walk {ch op : Int → Int → Int} (hc : ch 0 0 ≤ 0 ∧ ∀ m n, 0 ≤ m → m ≤ 1000000000000000 → 0 ≤ n → n ≤ 1000000000000000 → ch m n ≤ 1000000000000000) (hop : ∀ m n, 0 ≤ m → 0 ≤ n → pos (op m n) = pos (ch m n)) (hle : ∀ m n, 0 ≤ m → m ≤ 1000000000000000 → 0 ≤ n → n ≤ 1000000000000000 → op m n ≤ 1000000000000000)
    {a b : List Tk} (ha : valid a = true) (hb : valid b = true) : ofT 0 (tab (fun j => op (getT a j) (getT b j)) 64) = walkT ch a b := by
  obtain ⟨h1, h2⟩ := walkT_spec hc ha hb
  obtain ⟨h3, h4⟩ := of_tab (F := fun j => op (getT a j) (getT b j)) (fun j _ => by
    have r1 := nn ha j; have r2 := nn hb j
    rw [getT_valid ha, getT_valid hb]
    exact hle _ _ (by omega) (by omega) (by omega) (by omega))
  refine ext_valid h3 h1 fun p => ?_
  rw [h4, h2]
  have r1 := nn ha p; have r2 := nn hb p
  split
  · rename_i hp
    have e : ((p.toNat : Nat) : Int) = p := by omega
    simp only [e]
    rw [getT_valid ha, getT_valid hb]
    exact hop _ _ (by omega) (by omega)
  · rename_i hp
    have z1 : look a p = 0 := by
      rcases Int.lt_or_le p 0 with h | h
      · exact look_le ha (by omega)
      · exact look_big ha (by omega)
    have z2 : look b p = 0 := by
      rcases Int.lt_or_le p 0 with h | h
      · exact look_le hb (by omega)
      · exact look_big hb (by omega)
    rw [z1, z2]
    unfold pos; rw [if_neg (by omega)]

def leqT (a b : List Tk) : Bool := decide (∀ j : Nat, j < 64 → getT a j ≤ getT b j)
theorem leqT_iff {a b : List Tk} (ha : valid a = true) (hb : valid b = true) : leqT a b = true ↔ ∀ p, look a p ≤ look b p := by
  unfold leqT
  rw [decide_eq_true_eq]
  constructor
  · intro h p
    have r2 := nn hb p
    by_cases hp : 0 ≤ p ∧ p < 64
    · have := h p.toNat (by omega)
      rw [getT_valid ha, getT_valid hb, show ((p.toNat : Nat) : Int) = p by omega] at this
      exact this
    · have z1 : look a p = 0 := by
        rcases Int.lt_or_le p 0 with h | h
        · exact look_le ha (by omega)
        · exact look_big ha (by omega)
      omega
  · intro h j _
    rw [getT_valid ha, getT_valid hb]
    exact h j

def rcmpT (a b : List Tk) : Int := if valid a && valid b then (if a = b then 0 else if leqT a b then 1 else if leqT b a then 2 else 3) else 3
theorem rcmp_eq (a b : List Tk) : rcmpT a b = cmpT a b := by
  unfold rcmpT
  split
  · rename_i h
    simp only [Bool.and_eq_true] at h
    obtain ⟨ha, hb⟩ := h
    split
    · rename_i e; exact ((cmp_eq ha hb).2 e).symm
    · rename_i e
      split
      · rename_i h1
        exact ((cmp_lt ha hb).2 ⟨(leqT_iff ha hb).1 h1, e⟩).symm
      · rename_i h1
        split
        · rename_i h2
          exact ((cmp_gt ha hb).2 ((cmp_lt hb ha).2 ⟨(leqT_iff hb ha).1 h2, Ne.symm e⟩)).symm
        · rename_i h2
          rcases cmp_rng a b with h | h | h | h
          · exact absurd ((cmp_eq ha hb).1 h) e
          · exact absurd ((leqT_iff ha hb).2 ((cmp_lt ha hb).1 h).1) h1
          · exact absurd ((leqT_iff hb ha).2 ((cmp_lt hb ha).1 ((cmp_gt ha hb).1 h)).1) h2
          · exact h.symm
  · rename_i h
    unfold cmpT; rw [if_neg h]

theorem valid_one {p n : Int} (h0 : 0 ≤ p) (h1 : p ≤ 63) (h2 : 1 ≤ n) (h3 : n ≤ 1000000000000000) : valid [(p, n)] = true := by
  simp only [valid, validF, Bool.and_eq_true, decide_eq_true_eq]
  exact ⟨⟨⟨⟨by omega, h1⟩, h2⟩, h3⟩, trivial⟩

/-- The reference's increment. -/
theorem of_inc {c : List Tk} (hc : valid c = true) {p : Int} (h0 : 0 ≤ p) (h1 : p ≤ 63) (h2 : getT c p ≠ 1000000000000000) :
    ofT 0 (tab (fun j => if j = p.toNat then getT c p + 1 else getT c j) 64) = mergeT c [(p, getT c p + 1)] := by
  have r := nn hc p
  have e := getT_valid hc p
  have hv := valid_one h0 h1 (n := getT c p + 1) (by omega) (by omega)
  obtain ⟨h3, h4⟩ := merge_spec hc hv
  obtain ⟨h5, h6⟩ := of_tab (F := fun j => if j = p.toNat then getT c p + 1 else getT c j) (fun j _ => by
    have := nn hc j
    have := getT_valid hc j
    by_cases hj : j = p.toNat
    · simp only [hj, if_true]; omega
    · simp only [hj, if_false]; omega)
  refine ext_valid h5 h3 fun q => ?_
  rw [h4, h6]
  have r2 := nn hc q
  have e2 := getT_valid hc q
  by_cases hq : q = p
  · subst hq
    rw [if_pos (by omega), if_pos rfl]
    simp only [look, if_true]
    unfold maxC; rw [if_pos (by omega)]
  · have z : look [(p, getT c p + 1)] q = 0 := by simp [look, Ne.symm hq]
    rw [z]
    split
    · rename_i hr
      rw [if_neg (by omega), show ((q.toNat : Nat) : Int) = q by omega, e2]
      unfold maxC; rw [if_neg (by omega)]
    · rename_i hr
      have z1 : look c q = 0 := by
        rcases Int.lt_or_le q 0 with h | h
        · exact look_le hc (by omega)
        · exact look_big hc (by omega)
      rw [z1]; rfl
end Go.Proofs.Ytpoimkhfofpafaa
