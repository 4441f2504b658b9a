/- Data that lie in memory: trees of cells and of slices. -/
import Derived.Test.YtbgjgaaobnbijaaDoorGx15
namespace Gx
open Go

/-- Cells behind an address whose block is none of `M`. -/
def CsA (H : Heap) (M : List Nat) (a : Option Addr) (l : List Value) : Prop :=
  l = [] ∨ ∃ b o, a = some ⟨b, o, none⟩ ∧ b ∉ M ∧ ∀ j (h : j < l.length), cellB H b (o + j) = some l[j]

theorem CsA.csR {H : Heap} {M : List Nat} {a : Option Addr} {l : List Value} (h : CsA H M a l) : CsR H a l := by
  rcases h with h | ⟨b, o, h1, _, h2⟩
  · exact .inl h
  · exact .inr ⟨b, o, h1, h2⟩
theorem CsA.of_csR {H : Heap} {a : Option Addr} {l : List Value} (h : CsR H a l) : CsA H [] a l := by
  rcases h with h | ⟨b, o, h1, h2⟩
  · exact .inl h
  · exact .inr ⟨b, o, h1, by simp, h2⟩

/-- The step from one memory to another: what was readable and none of `M` is as it was, and none of `M'`. -/
def Stays (H : Heap) (M : List Nat) (H' : Heap) (M' : List Nat) : Prop := ∀ b, b < H.size → b ∉ M → b ∉ M' ∧ H'[b]? = H[b]?

theorem Stays.refl (H : Heap) (M : List Nat) : Stays H M H M := fun _ _ h => ⟨h, rfl⟩
/-- Behind writes to blocks of `M`, or new ones. -/
theorem Stays.fr {H H' : Heap} {M M' : List Nat} (hf : Fr M' H H') (hm : ∀ x, x ∈ M' → x ∈ M ∨ H.size ≤ x) : Stays H M H' M := fun b hb hn =>
  ⟨hn, hf.same b hb fun h => by rcases hm b h with q | q; exact hn q; omega⟩
theorem Stays.more {H : Heap} {M M' : List Nat} (hm : ∀ x, x ∈ M' → x ∈ M ∨ H.size ≤ x) : Stays H M H M' := fun b hb hn =>
  ⟨fun h => by rcases hm b h with q | q; exact hn q; omega, rfl⟩
theorem Stays.ext {H H' : Heap} {M : List Nat} (hf : Fr [] H H') : Stays H M H' M := Stays.fr hf (by simp)
theorem Stays.trans {H H' H'' : Heap} {M M' M'' : List Nat} (h : Stays H M H' M') (k : Stays H' M' H'' M'') (hs : H.size ≤ H'.size) : Stays H M H'' M'' := fun b hb hn => by
  obtain ⟨h1, h2⟩ := h b hb hn
  obtain ⟨h3, h4⟩ := k b (by omega) h1
  exact ⟨h3, h4.trans h2⟩

theorem CsA.to {H H' : Heap} {M M' : List Nat} {a : Option Addr} {l : List Value} (h : CsA H M a l) (hs : Stays H M H' M') : CsA H' M' a l := by
  rcases h with h | ⟨b, o, h1, h2, h3⟩
  · exact .inl h
  · rcases Nat.eq_zero_or_pos l.length with h0 | h0
    · exact .inl (List.eq_nil_of_length_eq_zero h0)
    · have hlt := cellB_lt (h3 0 h0)
      obtain ⟨q1, q2⟩ := hs b hlt h2
      refine .inr ⟨b, o, h1, q1, fun j hj => ?_⟩
      have := h3 j hj
      unfold cellB at *
      rw [q2]; exact this

/-- What is read: a cell; a slice of elements of m cells each; fields one behind the other. -/
inductive Dat where
  | v (x : Value)
  | list (m : Nat) (l : List Dat)
  | agg (l : List Dat)

mutual
def Rep (H : Heap) (M : List Nat) : Dat → List Value → Prop
  | .v x, cs => cs = [x]
  | .list m l, cs => ∃ a c css, cs = [.slice a l.length c] ∧ l.length ≤ c ∧ c ≤ maxLen ∧ Reps H M l css ∧ (∀ x ∈ css, x.length = m) ∧ CsA H M a css.flatten
  | .agg l, cs => ∃ css, cs = css.flatten ∧ Reps H M l css
def Reps (H : Heap) (M : List Nat) : List Dat → List (List Value) → Prop
  | [], css => css = []
  | d :: ds, css => ∃ x xs, css = x :: xs ∧ Rep H M d x ∧ Reps H M ds xs
end

section
variable {H H' : Heap} {M M' : List Nat} {α : Type}

mutual
theorem Rep.to (hs : Stays H M H' M') : ∀ (d : Dat) (cs : List Value), Rep H M d cs → Rep H' M' d cs
  | .v x, cs, h => by simpa [Rep] using h
  | .list m l, cs, h => by
    simp only [Rep] at h ⊢
    obtain ⟨a, c, css, h1, h2, h3, h4, h5, h6⟩ := h
    exact ⟨a, c, css, h1, h2, h3, Reps.to hs l css h4, h5, h6.to hs⟩
  | .agg l, cs, h => by
    simp only [Rep] at h ⊢
    obtain ⟨css, h1, h2⟩ := h
    exact ⟨css, h1, Reps.to hs l css h2⟩
theorem Reps.to (hs : Stays H M H' M') : ∀ (l : List Dat) (css : List (List Value)), Reps H M l css → Reps H' M' l css
  | [], css, h => by simpa [Reps] using h
  | d :: ds, css, h => by
    simp only [Reps] at h ⊢
    obtain ⟨x, xs, h1, h2, h3⟩ := h
    exact ⟨x, xs, h1, Rep.to hs d x h2, Reps.to hs ds xs h3⟩
end

theorem Rep.ext {d : Dat} {cs : List Value} (h : Rep H M d cs) (hf : Fr [] H H') : Rep H' M d cs := Rep.to (Stays.ext hf) d cs h
theorem Rep.stay {d : Dat} {cs : List Value} (h : Rep H M d cs) (hs : Stays H M H' M') : Rep H' M' d cs := Rep.to hs d cs h

theorem Reps.length : ∀ {l : List Dat} {css : List (List Value)}, Reps H M l css → css.length = l.length
  | [], css, h => by simp only [Reps] at h; subst h; rfl
  | d :: ds, css, h => by
    simp only [Reps] at h
    obtain ⟨x, xs, rfl, _, h3⟩ := h
    simp [Reps.length h3]
theorem Reps.get : ∀ {l : List Dat} {css : List (List Value)}, Reps H M l css → ∀ (j : Nat) (hj : j < l.length), ∃ x, css[j]? = some x ∧ Rep H M l[j] x
  | [], css, h, j, hj => by simp at hj
  | d :: ds, css, h, j, hj => by
    simp only [Reps] at h
    obtain ⟨x, xs, rfl, h2, h3⟩ := h
    cases j with
    | zero => exact ⟨x, rfl, h2⟩
    | succ j => simpa using Reps.get h3 j (by simpa using hj)
theorem Reps.append : ∀ {l l' : List Dat} {css css' : List (List Value)}, Reps H M l css → Reps H M l' css' → Reps H M (l ++ l') (css ++ css')
  | [], l', css, css', h, h' => by simp only [Reps] at h; subst h; exact h'
  | d :: ds, l', css, css', h, h' => by
    simp only [Reps] at h
    obtain ⟨x, xs, rfl, h2, h3⟩ := h
    exact ⟨x, xs ++ css', rfl, h2, Reps.append h3 h'⟩
theorem Reps.one {d : Dat} {x : List Value} (h : Rep H M d x) : Reps H M [d] [x] := ⟨x, [], rfl, h, rfl⟩
theorem Reps.take : ∀ {l : List Dat} {css : List (List Value)} (n : Nat), Reps H M l css → Reps H M (l.take n) (css.take n)
  | [], css, n, h => by simp only [Reps] at h; subst h; simp [Reps]
  | d :: ds, css, 0, h => by simp [Reps]
  | d :: ds, css, n + 1, h => by
    simp only [Reps] at h
    obtain ⟨x, xs, rfl, h2, h3⟩ := h
    exact ⟨x, xs.take n, rfl, h2, Reps.take n h3⟩
theorem Reps.drop : ∀ {l : List Dat} {css : List (List Value)} (n : Nat), Reps H M l css → Reps H M (l.drop n) (css.drop n)
  | [], css, n, h => by simp only [Reps] at h; subst h; simp [Reps]
  | d :: ds, css, 0, h => h
  | d :: ds, css, n + 1, h => by
    simp only [Reps] at h
    obtain ⟨x, xs, rfl, h2, h3⟩ := h
    exact Reps.drop n h3

theorem flatten_len {m : Nat} : ∀ {css : List (List Value)}, (∀ x ∈ css, x.length = m) → css.flatten.length = css.length * m
  | [], _ => by simp
  | x :: css, h => by
    have := flatten_len (css := css) fun y hy => h y (by simp [hy])
    simp [this, h x (by simp), Nat.add_mul, Nat.add_comm]
theorem flatten_take {m : Nat} : ∀ {css : List (List Value)} (n : Nat), (∀ x ∈ css, x.length = m) → css.flatten.take (n * m) = (css.take n).flatten
  | [], n, _ => by simp
  | x :: css, 0, h => by simp
  | x :: css, n + 1, h => by
    rw [List.flatten_cons, List.take_succ_cons, List.flatten_cons, ← flatten_take n (fun y hy => h y (by simp [hy])), List.take_append, List.take_of_length_le (by rw [h x (by simp), Nat.add_mul]; omega), h x (by simp)]
    simp [Nat.add_mul]
theorem flatten_drop {m : Nat} : ∀ {css : List (List Value)} (n : Nat), (∀ x ∈ css, x.length = m) → css.flatten.drop (n * m) = (css.drop n).flatten
  | [], n, _ => by simp
  | x :: css, 0, h => by simp
  | x :: css, n + 1, h => by
    rw [List.flatten_cons, List.drop_succ_cons, ← flatten_drop n (fun y hy => h y (by simp [hy])), List.drop_append, List.drop_eq_nil_of_le (by rw [h x (by simp), Nat.add_mul]; omega), h x (by simp)]
    simp [Nat.add_mul]

/-- An element of a slice. -/
theorem Rep.at {m : Nat} {l : List Dat} {v : Value} (h : Rep H M (.list m l) [v]) (j : Nat) (hj : j < l.length) (h0 : 0 < m) :
    ∃ b o c x, v = .slice (some ⟨b, o, none⟩) l.length c ∧ b ∉ M ∧ x.length = m ∧ (∀ i, i < m → cellB H b (o + j * m + i) = x[i]?) ∧ Rep H M l[j] x := by
  simp only [Rep] at h
  obtain ⟨a, c, css, h1, h2, h3, h4, h5, h6⟩ := h
  simp only [List.cons.injEq, and_true] at h1
  have hlen := Reps.length h4
  obtain ⟨x, hx, hr⟩ := Reps.get h4 j hj
  have hxm : x ∈ css := List.mem_of_getElem? hx
  have hxl := h5 x hxm
  have hfl := flatten_len h5
  have hle : (j + 1) * m ≤ l.length * m := Nat.mul_le_mul_right _ hj
  rw [Nat.add_mul, Nat.one_mul] at hle
  rcases h6 with h6 | ⟨b, o, h7, h8, h9⟩
  · rw [h6, hlen] at hfl
    simp only [List.length_nil] at hfl
    omega
  · refine ⟨b, o, c, x, by rw [h1, h7], h8, hxl, fun i hi => ?_, hr⟩
    have hlt : j * m + i < css.flatten.length := by rw [hfl, hlen]; omega
    rw [Nat.add_assoc, h9 _ hlt, ← List.getElem?_eq_getElem hlt]
    have e1 : css.flatten[j * m + i]? = (css.flatten.drop (j * m))[i]? := by simp
    have hj' : j < css.length := by omega
    rw [e1, flatten_drop j h5, List.drop_eq_getElem_cons hj', List.flatten_cons, List.getElem?_append_left (by
      rw [List.getElem?_eq_getElem hj'] at hx; cases hx; omega)]
    rw [List.getElem?_eq_getElem hj'] at hx; cases hx; rfl

theorem Rep.slice {m : Nat} {l : List Dat} {v : Value} (h : Rep H M (.list m l) [v]) : ∃ a c, v = .slice a l.length c ∧ l.length ≤ c ∧ c ≤ maxLen := by
  simp only [Rep] at h
  obtain ⟨a, c, css, h1, h2, h3, _⟩ := h
  simp only [List.cons.injEq, and_true] at h1
  exact ⟨a, c, h1, h2, h3⟩
theorem Rep.nil (m : Nat) : Rep H M (.list m []) [.slice none 0 0] := by
  simp only [Rep]
  exact ⟨none, 0, [], rfl, Nat.le_refl _, by decide, rfl, by simp, .inl rfl⟩
/-- A slice cut off behind. -/
theorem Rep.takeL {m : Nat} {l : List Dat} {a : Option Addr} {n c : Nat} (h : Rep H M (.list m l) [.slice a n c]) {k : Nat} (hk : k ≤ l.length) : Rep H M (.list m (l.take k)) [.slice a k c] := by
  simp only [Rep] at h ⊢
  obtain ⟨a', c', css, h1, h2, h3, h4, h5, h6⟩ := h
  simp only [List.cons.injEq, and_true, Value.slice.injEq] at h1
  obtain ⟨rfl, rfl, rfl⟩ := h1
  refine ⟨a, c, css.take k, by rw [List.length_take, Nat.min_eq_left hk], by rw [List.length_take]; omega, h3, Reps.take k h4, fun x hx => h5 x (List.mem_of_mem_take hx), ?_⟩
  rw [← flatten_take k h5]
  rcases h6 with h6 | ⟨b, o, h7, h8, h9⟩
  · exact .inl (by rw [h6]; simp)
  · refine .inr ⟨b, o, h7, h8, fun j hj => ?_⟩
    simp only [List.length_take] at hj
    rw [h9 j (by omega)]; simp

/-- Rows of one cell or several that hold no slices. -/
def leaf (f : α → List Value) (x : α) : Dat := .agg ((f x).map .v)
theorem reps_leaf : ∀ (l : List Value) (css : List (List Value)), Reps H M (l.map .v) css → css.flatten = l
  | [], css, h => by simp only [List.map_nil, Reps] at h; subst h; rfl
  | x :: l, css, h => by
    simp only [List.map_cons, Reps, Rep] at h
    obtain ⟨y, ys, rfl, rfl, h3⟩ := h
    simp [reps_leaf l ys h3]
theorem rep_leaf {f : α → List Value} {x : α} {cs : List Value} (h : Rep H M (leaf f x) cs) : cs = f x := by
  simp only [leaf, Rep] at h
  obtain ⟨css, h1, h2⟩ := h
  rw [h1, reps_leaf _ _ h2]

theorem reps_flat {f : α → Dat} {g : α → List Value} (hfg : ∀ x cs, Rep H M (f x) cs → cs = g x) : ∀ {l : List α} {css : List (List Value)}, Reps H M (l.map f) css → css.flatten = l.flatMap g
  | [], css, h => by simp only [List.map_nil, Reps] at h; subst h; rfl
  | x :: l, css, h => by
    simp only [List.map_cons, Reps] at h
    obtain ⟨y, ys, rfl, h2, h3⟩ := h
    simp [reps_flat hfg h3, hfg x y h2]
/-- A slice of such elements, as a row. -/
theorem Rep.row {f : α → Dat} {g : α → List Value} {m : Nat} (hfg : ∀ x cs, Rep H M (f x) cs → cs = g x) {l : List α} {v : Value} (h : Rep H M (.list m (l.map f)) [v]) :
    ∃ a c, v = .slice a l.length c ∧ l.length ≤ c ∧ c ≤ maxLen ∧ RowR g H a l := by
  simp only [Rep] at h
  obtain ⟨a, c, css, h1, h2, h3, h4, h5, h6⟩ := h
  simp only [List.cons.injEq, and_true, List.length_map] at h1 h2
  refine ⟨a, c, h1, h2, h3, ?_⟩
  unfold RowR
  rw [← reps_flat hfg h4]
  exact h6.csR
end
end Gx
