/- How long the encoding of a valid description can be; that encodings part. -/
import Derived.Test.YtcilkhjadljaaaaLen
import Derived.Test.YtcilkhjadljaaaaLvd
set_option linter.unusedSimpArgs false
set_option linter.unusedVariables false
set_option maxRecDepth 8000
namespace Go.Proofs.Ytcilkhjadljaaaa
open Gx Go

theorem less_irrefl : ∀ a : Bs, Op.bytesLess a a = false
  | [] => by simp [Op.bytesLess]
  | x :: a => by simp [Op.bytesLess, less_irrefl a]
theorem less_trans : ∀ {a b c : Bs}, Op.bytesLess a b = true → Op.bytesLess b c = true → Op.bytesLess a c = true
  | [], b, [], h, k => by cases b <;> simp [Op.bytesLess] at k
  | [], b, z :: c, h, k => by simp [Op.bytesLess]
  | x :: a, [], c, h, k => by simp [Op.bytesLess] at h
  | x :: a, y :: b, [], h, k => by simp [Op.bytesLess] at k
  | x :: a, y :: b, z :: c, h, k => by
    simp only [Op.bytesLess, Bool.or_eq_true, Bool.and_eq_true, decide_eq_true_eq, beq_iff_eq] at h k ⊢
    rcases h with h | ⟨h, h'⟩ <;> rcases k with k | ⟨k, k'⟩
    · exact .inl (UInt8.lt_trans h k)
    · subst k; exact .inl h
    · subst h; exact .inl k
    · subst h; subst k; exact .inr ⟨rfl, less_trans h' k'⟩
theorem sorted_head : ∀ {l : List Bs} {a : Bs}, sortedT (a :: l) = true → ∀ b ∈ l, ltB a b = true
  | [], a, _, b, hb => by cases hb
  | c :: l, a, h, b, hb => by
    simp only [sortedT, Bool.and_eq_true] at h
    rcases List.mem_cons.1 hb with rfl | hb
    · exact h.1
    · exact less_trans h.1 (sorted_head h.2 b hb)
theorem sorted_tail {l : List Bs} {a : Bs} (h : sortedT (a :: l) = true) : sortedT l = true := by
  cases l with
  | nil => rfl
  | cons b l => simp only [sortedT, Bool.and_eq_true] at h; exact h.2
theorem sorted_sub : ∀ (l m : List Bs), sortedT l = true → (∀ x ∈ l, x ∈ m) → l.length ≤ m.length
  | [], m, _, _ => Nat.zero_le _
  | a :: l, m, h, hs => by
    have ha : a ∈ m := hs a (by simp)
    have := sorted_sub l (m.erase a) (sorted_tail h) (fun x hx => by
      have hne : x ≠ a := by
        rintro rfl
        have := sorted_head h _ hx
        unfold ltB at this
        rw [less_irrefl] at this; cases this
      exact (List.mem_erase_of_ne hne).2 (hs x (by simp [hx])))
    rw [List.length_erase_of_mem ha] at this
    have := List.length_pos_of_mem ha
    simp only [List.length_cons]; omega

theorem nmF_mem {k6 : Bool} : ∀ {l s : List Bs}, nmF k6 s l = true → ∀ x ∈ l, nameT x = true
  | [], s, _, x, hx => by cases hx
  | y :: l, s, h, x, hx => by
    simp only [nmF, Bool.and_eq_true] at h
    rcases List.mem_cons.1 hx with rfl | hx
    · exact h.1
    · exact nmF_mem h.2.2 x hx
theorem nameT_len {s : Bs} (h : nameT s = true) : s.length ≤ 16 := by
  simp only [nameT, Bool.and_eq_true, decide_eq_true_eq] at h
  exact h.2.1
theorem textB_le {s : Bs} (h : s.length ≤ 16) : (textB s).length ≤ 17 := by
  have := len_enc (n := s.length) (f := 1) (by omega) (Nat.le_refl _)
  unfold textB; rw [List.length_append]; omega
theorem flat_le {α : Type} {f : α → Bs} {c : Nat} : ∀ {l : List α}, (∀ x ∈ l, (f x).length ≤ c) → (l.flatMap f).length ≤ l.length * c
  | [], _ => by simp
  | x :: l, h => by
    have h1 := flat_le (l := l) fun y hy => h y (by simp [hy])
    have h2 := h x (by simp)
    rw [List.flatMap_cons, List.length_append, List.length_cons, Nat.add_mul]; omega
theorem strsB_le {l : List Bs} (h : ∀ x ∈ l, nameT x = true) (hl : l.length ≤ 32) : (strsB l).length ≤ 545 := by
  have h1 := flat_le (f := textB) (c := 17) (l := l) fun x hx => textB_le (nameT_len (h x hx))
  have h2 := len_enc (n := l.length) (f := 1) (by omega) (Nat.le_refl _)
  unfold strsB; rw [List.length_append]; omega

def nodeLen : Nat := 20000
theorem enc_le10 (n : Nat) (h : n < 2^64) : (enc n).length ≤ 10 := len_enc (Nat.lt_of_lt_of_le h (by decide)) (by decide)
/-- What one node itself adds: its head, its names, its rules. -/
theorem node_le {t : Lt} (h : nodeE t = 0) : (headB t).length + (t.names.flatMap textB).length + (tailB t).length ≤ nodeLen ∧ ∀ x ∈ t.names, nameT x = true := by
  obtain ⟨hsh, hlim, hsp, hrng, _⟩ := nodeE_zero h
  obtain ⟨s1, s2, s3, _⟩ := shapeT_spec hsh
  replace hlim := of_decide_eq_false hlim
  replace hrng := of_decide_eq_false hrng
  simp only [spellT, Bool.and_eq_true] at hsp
  obtain ⟨h1, h2, h3⟩ := hsp
  have hnm := nmF_mem h1
  have hnl : t.names.length ≤ 32 := by
    revert hlim
    repeat' split
    all_goals (intro hlim; omega)
  have hrl : t.rules.length ≤ 32 := by omega
  refine ⟨?_, hnm⟩
  have e1 := enc_le10 t.kind.toNat (by omega)
  have e2 := enc_le10 (zig t.lo) (by unfold zig; split <;> omega)
  have e3 := enc_le10 (zig t.hi) (by unfold zig; split <;> omega)
  have e4 := strsB_le hnm hnl
  have e5 := enc_le10 t.names.length (by omega)
  have e6 := flat_le (f := textB) (c := 17) (l := t.names) fun x hx => textB_le (nameT_len (hnm x hx))
  have hh : (headB t).length ≤ 555 := by
    unfold headB
    rw [List.length_append]
    repeat' split
    all_goals (try simp only [List.length_append, List.length_nil]); (try omega)
  have ht : (tailB t).length ≤ 18500 := by
    unfold tailB
    split
    · have hr : ∀ r ∈ t.rules, (ruleB r).length ≤ 562 := by
        intro r hr
        have := List.all_eq_true.1 h3 r hr
        simp only [ruleT, Bool.and_eq_true, decide_eq_true_eq, List.all_eq_true] at this
        obtain ⟨r1, r2, r3, r4⟩ := this
        have hi : ∀ x ∈ r.ifs, x ∈ t.names := r3
        have a1 := sorted_sub r.ifs t.names r2 hi
        have a2 := strsB_le (fun x hx => hnm x (hi x hx)) (by omega : r.ifs.length ≤ 32)
        have a3 := textB_le (nameT_len (hnm r.thn r4))
        unfold ruleB; rw [List.length_append]; omega
      have b1 := flat_le hr
      have b2 := enc_le10 t.rules.length (by omega)
      rw [List.length_append]
      have : t.rules.length * 562 ≤ 32 * 562 := Nat.mul_le_mul_right _ hrl
      omega
    · simp
  have : t.names.length * 17 ≤ 32 * 17 := Nat.mul_le_mul_right _ hnl
  unfold nodeLen
  omega

theorem encPs_split (k6 : Bool) : ∀ (ps : List Lt) (ns : List Bs), (encPs k6 ps ns).length ≤ (ns.flatMap textB).length + (ps.map fun p => (encT p).length).sum
  | [], ns => by simp [encPs]
  | p :: ps, ns => by
    have h1 := encPs_split k6 ps ns.tail
    simp only [encPs, List.length_append, List.map_cons, List.sum_cons]
    have h2 : (nameB k6 ns).length + (ns.tail.flatMap textB).length ≤ (ns.flatMap textB).length := by
      cases ns with
      | nil => cases k6 <;> simp [nameB]
      | cons n ns => cases k6 <;> simp [nameB]
    omega

/-- A valid description: its encoding's length goes by its nodes. -/
theorem enc_len (t : Lt) : ∀ {d n : Nat}, (visT d n t).1 = 0 → (encT t).length + n * nodeLen ≤ (visT d n t).2 * nodeLen ∧ n < (visT d n t).2 ∧ (visT d n t).2 ≤ 64 ∧ okT t := by
  refine ltInd (P := fun t => ∀ {d n : Nat}, (visT d n t).1 = 0 → (encT t).length + n * nodeLen ≤ (visT d n t).2 * nodeLen ∧ n < (visT d n t).2 ∧ (visT d n t).2 ≤ 64 ∧ okT t) ?_ t
  intro t ih d n hv
  obtain ⟨h6, hnode, hparts⟩ := visT_zero' hv
  obtain ⟨hlen, _⟩ := node_le hnode
  obtain ⟨hsh, hlim, hsp, hrng, _⟩ := nodeE_zero hnode
  obtain ⟨s1, s2, s3, _⟩ := shapeT_spec hsh
  replace hrng := of_decide_eq_false hrng
  rw [visT_open] at hv ⊢
  have h1 : ¬ (6 < d ∨ 64 ≤ n) := by
    intro hc; rw [if_pos hc] at hv; cases hv
  rw [if_neg h1, if_neg (by simpa using hnode)] at hv
  rw [if_neg h1, if_neg (by simpa using hnode)]
  have key : ∀ (ps : List Lt) (m : Nat), (∀ p ∈ ps, ∀ {d n : Nat}, (visT d n p).1 = 0 → (encT p).length + n * nodeLen ≤ (visT d n p).2 * nodeLen ∧ n < (visT d n p).2 ∧ (visT d n p).2 ≤ 64 ∧ okT p) → m ≤ 64 → (visTs (d + 1) m ps).1 = 0 →
      (ps.map fun p => (encT p).length).sum + m * nodeLen ≤ (visTs (d + 1) m ps).2 * nodeLen ∧ m ≤ (visTs (d + 1) m ps).2 ∧ (visTs (d + 1) m ps).2 ≤ 64 ∧ okTs ps := by
    intro ps
    induction ps with
    | nil => intro m _ hm _; simp [visTs, okTs, hm]
    | cons p ps ihp =>
      intro m hp hm hz
      simp only [visTs] at hz ⊢
      by_cases e : (visT (d + 1) m p).1 = 0
      · rw [if_neg (by simpa using e)] at hz
        rw [if_neg (by simpa using e)]
        obtain ⟨a1, a2, a3, a4⟩ := hp p (by simp) e
        obtain ⟨b1, b2, b3, b4⟩ := ihp _ (fun q hq => hp q (by simp [hq])) a3 hz
        simp only [List.map_cons, List.sum_cons, okTs]
        exact ⟨by omega, by omega, b3, a4, b4⟩
      · rw [if_pos e] at hz; exact absurd hz e
  obtain ⟨c1, c2, c3, c4⟩ := key t.parts (n + 1) (fun p hp => by
    obtain ⟨j, hj, rfl⟩ := List.getElem_of_mem hp
    exact ih j hj) (by omega) hv
  refine ⟨?_, by omega, c3, (okT_open t).2 ⟨by omega, c4⟩⟩
  rw [encT_open]
  simp only [List.length_append]
  have := encPs_split (decide (t.kind = 6)) t.parts t.names
  rw [Nat.add_mul, Nat.one_mul] at c1
  omega

theorem enc_small {t : Lt} (h : (visT 1 0 t).1 = 0) : okT t ∧ (encT t).length ≤ 1280000 := by
  obtain ⟨h1, _, h3, h4⟩ := enc_len t h
  refine ⟨h4, ?_⟩
  have : (visT 1 0 t).2 * nodeLen ≤ 64 * nodeLen := Nat.mul_le_mul_right _ h3
  unfold nodeLen at *
  omega

/-- None is a part of another at its beginning. -/
theorem enc_apart {a b : Lt} (ha : (visT 1 0 a).1 = 0) (hb : (visT 1 0 b).1 = 0) (h : (encT a).take (min (encT a).length (encT b).length) = (encT b).take (min (encT a).length (encT b).length)) : a = b := by
  have h1 := (enc_small ha).2
  have h2 := (enc_small hb).2
  have d1 := vis_depth a ha
  have d2 := vis_depth b hb
  rcases Nat.le_total (encT a).length (encT b).length with hl | hl
  · rw [Nat.min_eq_left hl, List.take_length] at h
    have e1 := rT_at (L := encT b) (by omega) b (lv := 6) (p := 0) hb (by omega) ⟨[], by simp⟩
    have e2 := rT_at (L := encT b) (by omega) a (lv := 6) (p := 0) ha (by omega) ⟨(encT b).drop (encT a).length, by
      rw [List.drop_zero]
      exact ((List.take_append_drop (encT a).length (encT b)).symm.trans (by rw [← h]))⟩
    rw [e1] at e2
    exact (congrArg Prod.fst e2).symm
  · rw [Nat.min_eq_right hl, List.take_length] at h
    have e1 := rT_at (L := encT a) (by omega) a (lv := 6) (p := 0) ha (by omega) ⟨[], by simp⟩
    have e2 := rT_at (L := encT a) (by omega) b (lv := 6) (p := 0) hb (by omega) ⟨(encT a).drop (encT b).length, by
      rw [List.drop_zero]
      exact ((List.take_append_drop (encT b).length (encT a)).symm.trans (by rw [h]))⟩
    rw [e1] at e2
    exact congrArg Prod.fst e2
end Go.Proofs.Ytcilkhjadljaaaa
