/- Rows of elements of several cells each. -/
import Derived.Test.YtbgjgaaobnbijaaDoorGx14
namespace Gx
open Go

/-- Cells behind a slice's address. -/
def CsR (H : Heap) (a : Option Addr) (l : List Value) : Prop :=
  l = [] ∨ ∃ b o, a = some ⟨b, o, none⟩ ∧ ∀ j (h : j < l.length), cellB H b (o + j) = some l[j]

theorem CsR.nil (H : Heap) (a : Option Addr) : CsR H a [] := .inl rfl
theorem CsR.fr {M : List Nat} {H H' : Heap} {a : Option Addr} {l : List Value} (h : CsR H a l) (hf : Fr M H H') (hm : ∀ b o, a = some ⟨b, o, none⟩ → b ∉ M) : CsR H' a l := by
  rcases h with h | ⟨b, o, h1, h2⟩
  · exact .inl h
  · exact .inr ⟨b, o, h1, fun j hj => cellB_fr (h2 j hj) hf (hm b o h1)⟩
theorem CsR.ext {H H' : Heap} {a : Option Addr} {l : List Value} (h : CsR H a l) (hf : Fr [] H H') : CsR H' a l := h.fr hf (by simp)
theorem CsR.lt {H : Heap} {b o : Nat} {l : List Value} (h : CsR H (some ⟨b, o, none⟩) l) (h0 : l ≠ []) : b < H.size := by
  rcases h with h | ⟨b', o', h1, h2⟩
  · exact absurd h h0
  · simp at h1; obtain ⟨rfl, rfl⟩ := h1
    exact cellB_lt (h2 0 (List.length_pos_iff.2 h0))
theorem CsR.get {H : Heap} {a : Option Addr} {l : List Value} (h : CsR H a l) (j : Nat) (hj : j < l.length) : ∃ b o, a = some ⟨b, o, none⟩ ∧ cellB H b (o + j) = some l[j] := by
  rcases h with h | ⟨b, o, h1, h2⟩
  · subst h; simp at hj
  · exact ⟨b, o, h1, h2 j hj⟩
theorem CsR.take {H : Heap} {a : Option Addr} {l : List Value} (h : CsR H a l) (n : Nat) : CsR H a (l.take n) := by
  rcases h with h | ⟨b, o, h1, h2⟩
  · subst h; simp [CsR]
  · refine .inr ⟨b, o, h1, fun j hj => ?_⟩
    simp only [List.length_take] at hj
    rw [h2 j (by omega)]; simp
theorem CsR.drop {H : Heap} {a : Option Addr} {l : List Value} (h : CsR H a l) (n : Nat) : CsR H (a.map (·.add n)) (l.drop n) := by
  rcases h with h | ⟨b, o, h1, h2⟩
  · subst h; simp [CsR]
  · refine .inr ⟨b, o + n, by simp [h1, add_mk], fun j hj => ?_⟩
    simp only [List.length_drop] at hj
    rw [show o + n + j = o + (n + j) by omega, h2 (n + j) (by omega)]; simp

section
variable {α : Type} {f : α → List Value} {m : Nat}

/-- Elements behind a slice's address; f says the cells of an element. -/
def RowR (f : α → List Value) (H : Heap) (a : Option Addr) (l : List α) : Prop := CsR H a (l.flatMap f)

theorem RowR.nil (H : Heap) (a : Option Addr) : RowR f H a [] := CsR.nil _ _
theorem RowR.fr {M : List Nat} {H H' : Heap} {a : Option Addr} {l : List α} (h : RowR f H a l) (hf : Fr M H H') (hm : ∀ b o, a = some ⟨b, o, none⟩ → b ∉ M) : RowR f H' a l := CsR.fr h hf hm
theorem RowR.ext {H H' : Heap} {a : Option Addr} {l : List α} (h : RowR f H a l) (hf : Fr [] H H') : RowR f H' a l := CsR.ext h hf

theorem length_cells (hm : ∀ x, (f x).length = m) : ∀ l : List α, (l.flatMap f).length = l.length * m
  | [] => by simp
  | x :: l => by simp [length_cells hm l, hm, Nat.add_mul, Nat.add_comm]
theorem drop_cells (hm : ∀ x, (f x).length = m) : ∀ (l : List α) (n : Nat), (l.flatMap f).drop (n * m) = (l.drop n).flatMap f
  | [], n => by simp
  | x :: l, 0 => by simp
  | x :: l, n + 1 => by
    rw [List.flatMap_cons, List.drop_succ_cons, ← drop_cells hm l n, List.drop_append, List.drop_eq_nil_of_le (by rw [hm, Nat.add_mul]; omega), hm]
    simp [Nat.add_mul]
theorem take_cells (hm : ∀ x, (f x).length = m) : ∀ (l : List α) (n : Nat), (l.flatMap f).take (n * m) = (l.take n).flatMap f
  | [], n => by simp
  | x :: l, 0 => by simp
  | x :: l, n + 1 => by
    rw [List.flatMap_cons, List.take_succ_cons, List.flatMap_cons, ← take_cells hm l n, List.take_append, List.take_of_length_le (by rw [hm, Nat.add_mul]; omega), hm]
    simp [Nat.add_mul]
theorem get_cells (hm : ∀ x, (f x).length = m) (l : List α) (j i : Nat) (hj : j < l.length) (hi : i < m) : (l.flatMap f)[j * m + i]? = (f l[j])[i]? := by
  have h1 := drop_cells hm l j
  have h2 : (l.flatMap f)[j * m + i]? = ((l.flatMap f).drop (j * m))[i]? := by simp
  rw [h2, h1, List.drop_eq_getElem_cons hj, List.flatMap_cons, List.getElem?_append_left (by rw [hm]; exact hi)]

/-- The cells of one element. -/
theorem RowR.get {H : Heap} {a : Option Addr} {l : List α} (h : RowR f H a l) (hm : ∀ x, (f x).length = m) (j : Nat) (hj : j < l.length) (h0 : 0 < m) : ∃ b o, a = some ⟨b, o, none⟩ ∧ ∀ i, i < m → cellB H b (o + j * m + i) = (f l[j])[i]? := by
  have hlen := length_cells hm l
  have hle : (j + 1) * m ≤ l.length * m := Nat.mul_le_mul_right _ hj
  rcases h with h | ⟨b, o, h1, h2⟩
  · rw [h] at hlen; simp at hlen; rw [Nat.add_mul] at hle; omega
  · refine ⟨b, o, h1, fun i hi => ?_⟩
    have hlt : j * m + i < (l.flatMap f).length := by rw [hlen]; rw [Nat.add_mul] at hle; omega
    rw [Nat.add_assoc, h2 _ hlt, ← get_cells hm l j i hj hi, List.getElem?_eq_getElem hlt]

theorem RowR.take {H : Heap} {a : Option Addr} {l : List α} (h : RowR f H a l) (hm : ∀ x, (f x).length = m) (n : Nat) : RowR f H a (l.take n) := by
  unfold RowR; rw [← take_cells hm]; exact CsR.take h _
theorem RowR.drop {H : Heap} {a : Option Addr} {l : List α} (h : RowR f H a l) (hm : ∀ x, (f x).length = m) (n : Nat) : RowR f H (a.map (·.add (n * m))) (l.drop n) := by
  unfold RowR; rw [← drop_cells hm]; exact CsR.drop h _
/-- A slice cut, as the machine makes it. -/
theorem RowR.cut {H : Heap} {a : Option Addr} {l : List α} (h : RowR f H a l) (hm : ∀ x, (f x).length = m) {c : Nat} (hc : l.length ≤ c) (n : Nat) : RowR f H (if c = n then a else a.map (·.add (n * m))) (l.drop n) := by
  by_cases e : c = n
  · rw [List.drop_eq_nil_of_le (by omega)]; exact RowR.nil _ _
  · rw [if_neg e]; exact h.drop hm n

theorem RowR.src {P : Program} {H : Heap} {a : Option Addr} {l : List α} {tx e c : Nat} (hk : P.underlying tx = some (.slice e)) (h : RowR f H a l) (hm : ∀ x, (f x).length = m) (h0 : 0 < m) (h1 : ∀ x, ∀ u ∈ f x, u.oneCell' = true) : SrcH P H m tx (.slice a l.length c) l.length (l.flatMap f) := by
  rcases h with h | ⟨b, o, h2, h3⟩
  · have : l = [] := by
      have := length_cells hm l
      rw [h] at this
      rcases Nat.eq_zero_or_pos l.length with h' | h'
      · exact List.eq_nil_of_length_eq_zero h'
      · have : 1 * m ≤ l.length * m := Nat.mul_le_mul_right _ h'
        simp at *; omega
    subst this; exact SrcH.empty hk a c
  · subst h2
    refine SrcH.cells hk (length_cells hm l) (fun j u hj => ?_) (by intro u hu; obtain ⟨x, _, hx⟩ := List.mem_flatMap.1 hu; exact h1 x u hx)
    have hlt : j < (l.flatMap f).length := by
      rcases Nat.lt_or_ge j (l.flatMap f).length with h | h
      · exact h
      · rw [List.getElem?_eq_none h] at hj; cases hj
    rw [add_mk, cellAt_mk, h3 j hlt, ← List.getElem?_eq_getElem hlt]; exact hj

theorem Own.csR {H : Heap} {a : Option Addr} {n c e : Nat} {xs : List Value} {g : Option Nat} (h : Own H e m (.slice a n c) n xs g) : CsR H a xs := by
  rcases h.2 with ⟨h1, h2, h3⟩ | ⟨b, cap, cur, h1, h2, h3, h4, h5, h6, h7⟩
  · subst h3; refine .inl (List.eq_nil_of_length_eq_zero ?_); have := h.1; omega
  · refine .inr ⟨b, 0, by simp at h2; exact h2.1, fun j hj => ?_⟩
    subst h1
    rw [Nat.zero_add, h.cell j (by have := h.1; omega)]
    simp [hj]
theorem Own.rowR {H : Heap} {a : Option Addr} {n c e : Nat} {l : List α} {g : Option Nat} (h : Own H e m (.slice a n c) n (l.flatMap f) g) : RowR f H a l := Own.csR h

/-- A slice of the heap that a reading says. -/
theorem RowR.of_ElR {H : Heap} {a : Option Addr} {l : List α} {R : α → List Value → Heap → Prop} (hm : ∀ x, (f x).length = m) (hR : ∀ x vs, R x vs H → vs = f x) (h : ElR R m H a l) : RowR f H a l := by
  rcases h with h | ⟨b, o, h1, h2⟩
  · subst h; exact RowR.nil _ _
  · refine .inr ⟨b, o, h1, fun k hk => ?_⟩
    have hlen := length_cells hm l
    have hm0 : 0 < m := by
      rcases Nat.eq_zero_or_pos m with h' | h'
      · subst h'; rw [hlen] at hk; simp at hk
      · exact h'
    have hj : k / m < l.length := by rw [hlen] at hk; exact (Nat.div_lt_iff_lt_mul hm0).2 hk
    have hi : k % m < m := Nat.mod_lt _ hm0
    obtain ⟨vs, h3, h4, h5⟩ := h2 (k / m) hj
    have e : o + k = o + k / m * m + k % m := by rw [Nat.add_assoc, Nat.mul_comm, Nat.div_add_mod]
    rw [e, h4 _ hi, hR _ _ h5, ← get_cells hm l _ _ hj hi]
    have e2 : k / m * m + k % m = k := by rw [Nat.mul_comm, Nat.div_add_mod]
    rw [e2, List.getElem?_eq_getElem hk]
end

/-- A store into a row of one's own. -/
theorem Sto_own {e m n b j : Nat} {v : Value} {xs : List Value} {H : Heap} {u : Value} {R : Heap → Prop} (h : Own H e m v n xs (some b)) (hj : j < xs.length) (h1 : u.oneCell' = true)
    (hR : ∀ H', Own H' e m v n (xs.set j u) (some b) → Fr [b] H H' → H'.size = H.size → R H') : Sto H ⟨b, j, none⟩ [u] 0 R := by
  rcases h.2 with ⟨h2, _⟩ | ⟨b', cap, cur, h2, h3, h4, h5, h6, h7, h8⟩
  · cases h2
  · cases h2
    have hb : Blk H b e cur.toList := by simpa [Blk] using h4
    have hlt : j < cur.toList.length := by
      have := congrArg List.length h8
      simp only [List.length_take, Array.length_toList] at this
      simp; omega
    refine Sto_one hb hlt h1 fun H' hb' hf hs => hR H' ⟨by simpa using h.1, .inr ⟨b, cap, _, rfl, h3, hb', h5, h6, by simpa using h7, ?_⟩⟩ hf hs
    rw [← h8, List.take_set]

/-- A block that is written whole. -/
theorem Sto_all {b t : Nat} {l vs : List Value} {H : Heap} {R : Heap → Prop} (h : Blk H b t l) (hl : vs.length = l.length) (h1 : ∀ v ∈ vs, v.oneCell' = true)
    (hR : ∀ H', Blk H' b t vs → Fr [b] H H' → H'.size = H.size → R H') : Sto H ⟨b, 0, none⟩ vs 0 R :=
  Sto_blk vs H l 0 0 h (by omega) h1 fun H' hb hf hs => hR H' (by
    rw [setL_eq _ _ _ (by omega)] at hb
    rw [List.drop_eq_nil_of_le (by omega)] at hb
    simpa using hb) hf hs

end Gx
