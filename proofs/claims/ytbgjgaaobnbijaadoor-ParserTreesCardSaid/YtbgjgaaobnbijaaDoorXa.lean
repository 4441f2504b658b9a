/- Bytes, words, names: contracts. -/
import Derived.Test.YtbgjgaaobnbijaaDoorXl
set_option linter.unusedSimpArgs false
set_option linter.unusedVariables false
set_option maxRecDepth 8000
namespace Go.Proofs.YtbgjgaaobnbijaaDoor
open Gx Go

theorem letter_ok (c : UInt8) (H : Heap) : HCalls Tryd.prog 61 #[.int .u8 c.toNat] H fun r H' => r = .bool (letB c) ∧ H' = H := by
  refine calls_of_vc (args := [_]) Tryd.func61 c61ok (Nat.le_of_ble_eq_true rfl) ?_
  unfold letB
  cases e : decide ((97 : Int) ≤ c.toNat) <;> simp (implicitDefEqProofs := false) only [go_sem, c61, e]
theorem digit_ok (c : UInt8) (H : Heap) : HCalls Tryd.prog 63 #[.int .u8 c.toNat] H fun r H' => r = .bool (digB c) ∧ H' = H := by
  refine calls_of_vc (args := [_]) Tryd.func63 c63ok (Nat.le_of_ble_eq_true rfl) ?_
  unfold digB
  cases e : decide ((48 : Int) ≤ c.toNat) <;> simp (implicitDefEqProofs := false) only [go_sem, c63, e]
theorem line_ok (c : UInt8) (H : Heap) : HCalls Tryd.prog 60 #[.int .u8 c.toNat] H fun r H' => r = .bool (lineB c) ∧ H' = H := by
  refine calls_of_vc (args := [_]) Tryd.func60 c60ok (Nat.le_of_ble_eq_true rfl) ?_
  unfold lineB
  simp (implicitDefEqProofs := false) only [go_sem, c60]
theorem blank_ok (c : UInt8) (H : Heap) : HCalls Tryd.prog 59 #[.int .u8 c.toNat] H fun r H' => r = .bool (blankB c) ∧ H' = H := by
  refine calls_of_vc (args := [_]) Tryd.func59 c59ok (Nat.le_of_ble_eq_true rfl) ?_
  unfold blankB
  cases e : decide ((c.toNat : Int) = 32) <;> cases e1 : decide ((c.toNat : Int) = 9) <;> cases e2 : decide ((c.toNat : Int) = 10) <;> simp (implicitDefEqProofs := false) only [go_sem, c59, e, e1, e2]
theorem part_ok (c : UInt8) (H : Heap) : HCalls Tryd.prog 62 #[.int .u8 c.toNat] H fun r H' => r = .bool (partB c) ∧ H' = H := by
  refine calls_of_vc (args := [_]) Tryd.func62 c62ok (Nat.le_of_ble_eq_true rfl) ?_
  simp (implicitDefEqProofs := false) only [go_sem, c62]
  refine (letter_ok c H).mono ?_
  rintro r H' ⟨rfl, rfl⟩
  unfold partB
  cases e : letB c
  · simp (implicitDefEqProofs := false) only [go_sem]
    refine (digit_ok c H').mono ?_
    rintro r H' ⟨rfl, rfl⟩
    cases e1 : digB c <;> simp (implicitDefEqProofs := false) only [go_sem]
  · simp (implicitDefEqProofs := false) only [go_sem]

theorem word_ok (c : UInt8) (H : Heap) : HCalls Tryd.prog 69 #[.int .u8 c.toNat] H fun r H' => r = .bool (partB c) ∧ H' = H := by
  refine calls_of_vc (args := [_]) Tryd.func69 c69ok (Nat.le_of_ble_eq_true rfl) ?_
  unfold partB letB digB
  by_cases h1 : (97 : Int) ≤ c.toNat <;> by_cases h2 : (c.toNat : Int) ≤ 122 <;> by_cases h3 : (48 : Int) ≤ c.toNat <;> by_cases h4 : (c.toNat : Int) ≤ 57 <;> by_cases h5 : (c.toNat : Int) = 45
  all_goals first
    | (exfalso; omega)
    | (simp (implicitDefEqProofs := false) only [go_sem, c69, h1, h2, h3, h4, h5]; done)
    | (simp (implicitDefEqProofs := false) only [go_sem, c69, h1, h2, h3, h4, h5]; simp [h1, h2, h3, h4, h5])

theorem valid_ok (s : Bs) (H : Heap) : HCalls Tryd.prog 49 #[sv s] H fun r H' => r = .bool (validN s) ∧ H' = H := by
  refine calls_of_vc (args := [_]) Tryd.func49 c49ok (Nat.le_of_ble_eq_true rfl) ?_
  unfold sv
  have hz : ((s.length : Int) = 0) = (s.length = 0) := by apply propext; omega
  by_cases h0 : s.length = 0
  · simp (implicitDefEqProofs := false) only [go_sem, c49, ba_size, hz, h0]
    simp [validN, h0]
  by_cases h16 : 16 < s.length
  · have h16' : (16 : Int) < (s.length : Int) := by omega
    simp (implicitDefEqProofs := false) only [go_sem, c49, ba_size, hz, h0, h16']
    simp [validN, show ¬ s.length ≤ 16 by omega]
  have h16' : ¬ (16 : Int) < (s.length : Int) := by omega
  have hp : (0 : Int) < (s.length : Int) := by omega
  have hn1 : decide (0 < s.length) = true := decide_eq_true (by omega)
  have hn2 : decide (s.length ≤ 16) = true := decide_eq_true (by omega)
  unfold validN
  rw [hn1, hn2]
  generalize hc : s.getD 0 0 = c
  by_cases l1 : (c.toNat : Int) < 97
  · simp (implicitDefEqProofs := false) only [go_sem, c49, ba_size, hz, h0, h16', hp, hc, l1]
    simp [letB, show ¬ (97 : Int) ≤ c.toNat by omega]
  by_cases l2 : (122 : Int) < (c.toNat : Int)
  · simp (implicitDefEqProofs := false) only [go_sem, c49, ba_size, hz, h0, h16', hp, hc, l1, l2]
    simp [letB, show ¬ (c.toNat : Int) ≤ 122 by omega]
  have hl : letB c = true := by simp [letB]; omega
  rw [hl]
  simp (implicitDefEqProofs := false) only [go_sem, c49, ba_size, hz, h0, h16', hp, hc, l1, l2]
  refine vc_loop (fun (i : Nat) H' => i ≤ s.length ∧ (s.drop i).all partB = s.all partB ∧ H' = H)
    (fun i => [(0, .string ⟨⟨s⟩⟩), (23, .int .i64 s.length), (24, .int .i64 i)]) (fun i => s.length - i) 0 ?_ ?_ ?_
  · exact ⟨Nat.zero_le _, rfl, rfl⟩
  · simp (implicitDefEqProofs := false) only [go_sem]
  · rintro i H' ⟨hi, hv, rfl⟩
    rcases Nat.lt_or_ge i s.length with hlt | hge
    · have hlt' : (i : Int) < (s.length : Int) := by omega
      have hi0 : (0 : Int) ≤ (i : Int) := by omega
      have hw := succ_i64 i s.length hlt (by unfold maxLen; omega)
      have hg : s.getD i 0 = s[i] := by simp [hlt]
      rw [List.drop_eq_getElem_cons hlt, List.all_cons] at hv
      simp (implicitDefEqProofs := false) only [go_sem, hlt', hi0, ba_size, hg]
      refine (word_ok s[i] H').mono ?_
      rintro r H2 ⟨rfl, rfl⟩
      cases e : partB s[i]
      · simp (implicitDefEqProofs := false) only [go_sem]
        rw [← hv, e, Bool.false_and]
      · simp (implicitDefEqProofs := false) only [go_sem]
        refine loopK_intro (i + 1) (by show s.length - (i + 1) < s.length - i; omega) ?_ ⟨hlt, ?_, rfl⟩
        · simp (implicitDefEqProofs := false) only [go_sem, hw]
        · rw [← hv, e, Bool.true_and]
    · have hlt' : ¬ (i : Int) < (s.length : Int) := by omega
      simp (implicitDefEqProofs := false) only [go_sem, hlt']
      rw [List.drop_eq_nil_of_le hge] at hv
      rw [← hv]; rfl


/-! ### lists of strings -/
def strC (s : Bs) : List Value := [sv s]
theorem strC_len (x : Bs) : (strC x).length = 1 := rfl
theorem rowS_at {H : Heap} {a : Option Addr} {l : List Bs} (h : RowR strC H a l) (j : Nat) (hj : j < l.length) : ∃ b o, a = some ⟨b, o, none⟩ ∧ cellB H b (o + j) = some (.string ⟨⟨l[j]⟩⟩) := by
  obtain ⟨b, o, h1, h2⟩ := RowR.get h strC_len j hj (by decide)
  exact ⟨b, o, h1, by simpa [strC, sv] using h2 0 (by decide)⟩
theorem rowS_blk {H : Heap} {b t : Nat} {vs : List Value} (l : List Bs) (h : Blk H b t vs) (hv : vs = l.map sv) : RowR strC H (some ⟨b, 0, none⟩) l := by
  subst hv
  refine .inr ⟨b, 0, rfl, fun j hj => ?_⟩
  have e : l.flatMap strC = l.map sv := by
    clear h hj
    induction l with
    | nil => rfl
    | cons x l ih => simp [strC, ih]
  simp only [e] at hj ⊢
  rw [Nat.zero_add, h.cell, List.getElem?_eq_getElem hj]

theorem index_ok {H : Heap} {a : Option Addr} {l : List Bs} {c : Nat} (s : Bs) (h : RowR strC H a l) (hc : l.length ≤ maxLen) :
    HCalls Tryd.prog 79 #[.slice a l.length c, sv s] H fun r H' => ∃ k : Int, r = .int .i64 k ∧ ((k < 0 ∧ s ∉ l) ∨ ∃ j : Nat, k = j ∧ ∃ hj : j < l.length, l[j] = s ∧ ∀ (i : Nat) (hi : i < j), l[i] ≠ s) ∧ H' = H := by
  refine calls_of_vc (args := [_, _]) Tryd.func79 c79ok (Nat.le_of_ble_eq_true rfl) ?_
  simp (implicitDefEqProofs := false) only [go_sem, c79]
  refine vc_loop (fun (i : Nat) H' => i ≤ l.length ∧ (∀ (k : Nat) (hk : k < i) (hl : k < l.length), l[k] ≠ s) ∧ H' = H)
    (fun i => [(0, .slice a l.length c), (1, sv s), (7, .int .i64 l.length), (8, .int .i64 i)]) (fun i => l.length - i) 0 ?_ ?_ ?_
  · exact ⟨Nat.zero_le _, fun k hk => by omega, rfl⟩
  · simp (implicitDefEqProofs := false) only [go_sem]
  · rintro i H' ⟨hi, hall, rfl⟩
    rcases Nat.lt_or_ge i l.length with hlt | hge
    · have hlt' : (i : Int) < (l.length : Int) := by omega
      have h0 : (0 : Int) ≤ (i : Int) := by omega
      obtain ⟨b1, o1, rfl, h1⟩ := rowS_at h i hlt
      have hw := succ_i64 i l.length hlt (by omega)
      by_cases e : s = l[i]
      · simp (implicitDefEqProofs := false) only [go_sem, hlt', h0, h1, sv, ba_eq, e]
        exact ⟨_, rfl, .inr ⟨i, rfl, hlt, rfl, fun k hk => by rw [← e]; exact hall k hk (by omega)⟩⟩
      · simp (implicitDefEqProofs := false) only [go_sem, hlt', h0, h1, sv, ba_eq, e]
        refine loopK_intro (i + 1) (by show l.length - (i + 1) < l.length - i; omega) ?_ ⟨hlt, fun k hk hl => ?_, rfl⟩
        · simp (implicitDefEqProofs := false) only [go_sem, hw, sv]
        · rcases Nat.lt_or_ge k i with q | q
          · exact hall k q hl
          · obtain rfl : k = i := by omega
            exact Ne.symm e
    · have hlt' : ¬ (i : Int) < (l.length : Int) := by omega
      simp (implicitDefEqProofs := false) only [go_sem, hlt']
      refine ⟨_, rfl, .inl ⟨by decide, fun hm => ?_⟩⟩
      obtain ⟨k, hk, e⟩ := List.getElem_of_mem hm
      exact hall k (by omega) hk e
theorem contains_ok {H : Heap} {a : Option Addr} {l : List Bs} {c : Nat} (s : Bs) (h : RowR strC H a l) (hc : l.length ≤ maxLen) : HCalls Tryd.prog 70 #[.slice a l.length c, sv s] H fun r H' => r = .bool (decide (s ∈ l)) ∧ H' = H := by
  refine calls_of_vc (args := [_, _]) Tryd.func70 c70ok (Nat.le_of_ble_eq_true rfl) ?_
  simp (implicitDefEqProofs := false) only [go_sem, c70]
  refine (index_ok s h hc).mono ?_
  rintro r H1 ⟨k, rfl, hk, rfl⟩
  simp (implicitDefEqProofs := false) only [go_sem]
  congr 1
  rw [Bool.eq_iff_iff, decide_eq_true_eq, decide_eq_true_eq]
  rcases hk with ⟨h1, h2⟩ | ⟨j, rfl, hj, e, _⟩
  · exact ⟨fun h => by omega, fun h => absurd h h2⟩
  · exact ⟨fun _ => by rw [← e]; exact List.getElem_mem _, fun _ => by omega⟩

theorem keyword_ok (s : Bs) (H : Heap) : HCalls Tryd.prog 50 #[sv s] H fun r H' => r = .bool (kwB s) ∧ Fr [] H H' := by
  refine calls_of_vc (args := [_]) Tryd.func50 c50ok (Nat.le_of_ble_eq_true rfl) ?_
  simp (implicitDefEqProofs := false) only [go_sem, c50]
  refine NewS_intro fun H1 hb1 hf1 hs1 => ?_
  simp (implicitDefEqProofs := false) only [go_sem]
  refine (contains_ok (l := kwList) s (rowS_blk kwList hb1 rfl) (by decide)).mono ?_
  rintro r H2 ⟨rfl, rfl⟩
  simp (implicitDefEqProofs := false) only [go_sem]
  exact ⟨rfl, hf1⟩
theorem sign_ok (s : Bs) (H : Heap) : HCalls Tryd.prog 52 #[sv s] H fun r H' => r = .bool (signB s) ∧ Fr [] H H' := by
  refine calls_of_vc (args := [_]) Tryd.func52 c52ok (Nat.le_of_ble_eq_true rfl) ?_
  simp (implicitDefEqProofs := false) only [go_sem, c52]
  refine NewS_intro fun H1 hb1 hf1 hs1 => ?_
  simp (implicitDefEqProofs := false) only [go_sem]
  refine (contains_ok (l := signList) s (rowS_blk signList hb1 rfl) (by decide)).mono ?_
  rintro r H2 ⟨rfl, rfl⟩
  simp (implicitDefEqProofs := false) only [go_sem]
  exact ⟨rfl, hf1⟩
/-- The signs, in the order of the specification. -/
def signRef : List Bs := [[60, 61], [61, 61], [61, 62], [61], [58], [59], [44], [40], [41], [123], [125], [91], [93], [46], [43], [45], [60]]
theorem signRef_mem (s : Bs) : decide (s ∈ signRef) = signB s := by
  unfold signB
  congr 1
  simp only [signRef, signList, List.mem_cons, List.not_mem_nil, or_false]
  apply propext
  constructor
  · rintro (h | h | h | h | h | h | h | h | h | h | h | h | h | h | h | h | h) <;> simp [h]
  · rintro (h | h | h | h | h | h | h | h | h | h | h | h | h | h | h | h | h) <;> simp [h]
end Go.Proofs.YtbgjgaaobnbijaaDoor
