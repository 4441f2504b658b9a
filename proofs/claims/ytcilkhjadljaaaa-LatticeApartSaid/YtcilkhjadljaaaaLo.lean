/- Lists of names: contracts. -/
import Derived.Test.YtcilkhjadljaaaaLn
set_option linter.unusedSimpArgs false
set_option linter.unusedVariables false
set_option maxRecDepth 8000
namespace Go.Proofs.Ytcilkhjadljaaaa
open Gx Go

def ltB (a b : Bs) : Bool := Op.bytesLess a b
def sortedT : List Bs → Bool
  | [] => true
  | [_] => true
  | a :: b :: r => ltB a b && sortedT (b :: r)
def risF : Option Bs → List Bs → Bool
  | _, [] => true
  | none, x :: r => nameT x && risF (some x) r
  | some p, x :: r => nameT x && (ltB p x && risF (some x) r)
theorem risF_some : ∀ (p : Bs) (l : List Bs), risF (some p) l = (l.all nameT && sortedT (p :: l))
  | p, [] => rfl
  | p, x :: r => by
    simp only [risF, risF_some x r, List.all_cons, sortedT]
    cases nameT x <;> cases ltB p x <;> cases r.all nameT <;> rfl
theorem risF_none : ∀ (l : List Bs), risF none l = (l.all nameT && sortedT l)
  | [] => rfl
  | x :: r => by
    simp only [risF, risF_some x r, List.all_cons]
    cases nameT x <;> cases r.all nameT <;> simp [sortedT]

theorem risF_bad {q : Option Bs} {x : Bs} {r : List Bs} (h : nameT x = false) : risF q (x :: r) = false := by cases q <;> simp [risF, h]

theorem index_ok {H : Heap} {l : List Bs} {v : Value} (s : Bs) (h : StrsA H [] l v) :
    HCalls Try.prog 38 #[v, sv s] H fun r H' => ∃ k : Int, r = .int .i64 k ∧ ((k < 0 ∧ s ∉ l) ∨ ∃ j : Nat, k = j ∧ ∃ hj : j < l.length, l[j] = s ∧ ∀ (i : Nat) (hi : i < j), l[i] ≠ s) ∧ H' = H := by
  obtain ⟨a, c, rfl, hlc, hc⟩ := StrsA.slice h
  refine calls_of_vc (args := [_, _]) Try.func38 c38ok (Nat.le_of_ble_eq_true rfl) ?_
  simp (implicitDefEqProofs := false) only [go_sem, c38]
  refine vc_loop (fun (i : Nat) H' => i ≤ l.length ∧ (∀ (k : Nat) (hk : k < i) (hl : k < l.length), l[k] ≠ s) ∧ H' = H)
    (fun i => [(0, .slice a l.length c), (1, sv s), (7, .int .i64 l.length), (8, .int .i64 i)]) (fun i => l.length - i) 0 ?_ ?_ ?_
  · exact ⟨Nat.zero_le _, fun k hk => by omega, rfl⟩
  · simp (implicitDefEqProofs := false) only [go_sem]
  · rintro i H' ⟨hi, hall, rfl⟩
    rcases Nat.lt_or_ge i l.length with hlt | hge
    · have hlt' : (i : Int) < (l.length : Int) := by omega
      have h0 : (0 : Int) ≤ (i : Int) := by omega
      obtain ⟨b1, o1, c1, e1, h1⟩ := StrsA.at h i hlt
      cases e1
      have hw := succ_i64 i l.length hlt (by omega)
      by_cases e : s = l[i]
      · simp (implicitDefEqProofs := false) only [go_sem, hlt', h0, h1, sv, ba_eq, e]
        exact ⟨_, rfl, .inr ⟨i, rfl, hlt, rfl, fun k hk => by rw [← e]; exact hall k hk (by omega)⟩⟩
      · simp (implicitDefEqProofs := false) only [go_sem, hlt', h0, h1, sv, ba_eq, e]
        refine loopK_intro (i + 1) (by show l.length - (i + 1) < l.length - i; omega) ?_ ⟨hlt, fun k hk hl => ?_, rfl⟩
        · simp (implicitDefEqProofs := false) only [go_sem, hw, sv]
        · rcases Nat.lt_or_ge k i with q | q
          · exact hall k q hl
          · obtain rfl : k = i := by omega
            exact Ne.symm e
    · have hlt' : ¬ (i : Int) < (l.length : Int) := by omega
      simp (implicitDefEqProofs := false) only [go_sem, hlt']
      refine ⟨_, rfl, .inl ⟨by decide, fun hm => ?_⟩⟩
      obtain ⟨k, hk, e⟩ := List.getElem_of_mem hm
      exact hall k (by omega) hk e

theorem contains_ok {H : Heap} {l : List Bs} {v : Value} (s : Bs) (h : StrsA H [] l v) : HCalls Try.prog 78 #[v, sv s] H fun r H' => r = .bool (decide (s ∈ l)) ∧ H' = H := by
  refine calls_of_vc (args := [_, _]) Try.func78 c78ok (Nat.le_of_ble_eq_true rfl) ?_
  simp (implicitDefEqProofs := false) only [go_sem, c78]
  refine (index_ok s h).mono ?_
  rintro r H1 ⟨k, rfl, hk, rfl⟩
  simp (implicitDefEqProofs := false) only [go_sem]
  congr 1
  rw [Bool.eq_iff_iff, decide_eq_true_eq, decide_eq_true_eq]
  rcases hk with ⟨h1, h2⟩ | ⟨j, rfl, hj, e, _⟩
  · exact ⟨fun h => by omega, fun h => absurd h h2⟩
  · exact ⟨fun _ => by rw [← e]; exact List.getElem_mem _, fun _ => by omega⟩
theorem has_ok {H : Heap} {l : List Bs} {v : Value} (s : Bs) (h : StrsA H [] l v) : HCalls Try.prog 81 #[v, sv s] H fun r H' => r = .bool (decide (s ∈ l)) ∧ H' = H := by
  refine calls_of_vc (args := [_, _]) Try.func81 c81ok (Nat.le_of_ble_eq_true rfl) ?_
  simp (implicitDefEqProofs := false) only [go_sem, c81]
  refine (contains_ok s h).mono ?_
  rintro r H1 ⟨rfl, rfl⟩
  simp (implicitDefEqProofs := false) only [go_sem]

theorem subset_ok {H : Heap} {l m : List Bs} {v u : Value} (h : StrsA H [] l v) (hm : StrsA H [] m u) : HCalls Try.prog 80 #[v, u] H fun r H' => r = .bool (l.all fun s => decide (s ∈ m)) ∧ H' = H := by
  obtain ⟨a, c, rfl, hlc, hc⟩ := StrsA.slice h
  refine calls_of_vc (args := [_, _]) Try.func80 c80ok (Nat.le_of_ble_eq_true rfl) ?_
  simp (implicitDefEqProofs := false) only [go_sem, c80]
  refine vc_loop (fun (i : Nat) H' => i ≤ l.length ∧ ((l.drop i).all fun s => decide (s ∈ m)) = (l.all fun s => decide (s ∈ m)) ∧ H' = H)
    (fun i => [(1, u), (7, .slice a l.length c), (8, .int .i64 l.length), (9, .int .i64 i)]) (fun i => l.length - i) 0 ?_ ?_ ?_
  · exact ⟨Nat.zero_le _, rfl, rfl⟩
  · simp (implicitDefEqProofs := false) only [go_sem]
  · rintro i H' ⟨hi, hv, rfl⟩
    rcases Nat.lt_or_ge i l.length with hlt | hge
    · have hlt' : (i : Int) < (l.length : Int) := by omega
      have h0 : (0 : Int) ≤ (i : Int) := by omega
      obtain ⟨b1, o1, c1, e1, h1⟩ := StrsA.at h i hlt
      cases e1
      have hw := succ_i64 i l.length hlt (by omega)
      rw [List.drop_eq_getElem_cons hlt, List.all_cons] at hv
      simp (implicitDefEqProofs := false) only [go_sem, hlt', h0, h1]
      refine (has_ok l[i] hm).mono ?_
      rintro r H2 ⟨rfl, rfl⟩
      by_cases e : l[i] ∈ m
      · simp (implicitDefEqProofs := false) only [go_sem, e]
        refine loopK_intro (i + 1) (by show l.length - (i + 1) < l.length - i; omega) ?_ ⟨hlt, ?_, rfl⟩
        · simp (implicitDefEqProofs := false) only [go_sem, hw]
        · rw [← hv, decide_eq_true e, Bool.true_and]
      · simp (implicitDefEqProofs := false) only [go_sem, e]
        rw [← hv, decide_eq_false e, Bool.false_and]
    · have hlt' : ¬ (i : Int) < (l.length : Int) := by omega
      simp (implicitDefEqProofs := false) only [go_sem, hlt']
      rw [List.drop_eq_nil_of_le hge] at hv
      rw [← hv]; rfl

theorem sorted_ok {H : Heap} {l : List Bs} {v : Value} (h : StrsA H [] l v) : HCalls Try.prog 79 #[v] H fun r H' => r = .bool (sortedT l) ∧ H' = H := by
  obtain ⟨a, c, rfl, hlc, hc⟩ := StrsA.slice h
  refine calls_of_vc (args := [_]) Try.func79 c79ok (Nat.le_of_ble_eq_true rfl) ?_
  simp (implicitDefEqProofs := false) only [go_sem, c79]
  refine vc_loop (fun (i : Nat) H' => 1 ≤ i ∧ (i = 1 ∨ i ≤ l.length) ∧ sortedT (l.drop (i - 1)) = sortedT l ∧ H' = H)
    (fun i => [(0, .slice a l.length c), (3, .int .i64 i)]) (fun i => l.length - i) 1 ?_ ?_ ?_
  · exact ⟨Nat.le_refl _, .inl rfl, rfl, rfl⟩
  · simp (implicitDefEqProofs := false) only [go_sem]
  · rintro i H' ⟨hi, hi2, hv, rfl⟩
    rcases Nat.lt_or_ge i l.length with hlt | hge
    · have hlt' : (i : Int) < (l.length : Int) := by omega
      have h0 : (0 : Int) ≤ (i : Int) := by omega
      have hlp : i - 1 < l.length := by omega
      obtain ⟨b1, o1, c1, e1, h1⟩ := StrsA.at h i hlt
      obtain ⟨b2, o2, c2, e2, h2⟩ := StrsA.at h (i - 1) hlp
      cases e1
      cases e2
      have hw := succ_i64 i l.length hlt (by omega)
      have hm1 : IntKind.i64.wrap ((i : Int) - 1) = ((i - 1 : Nat) : Int) := by
        unfold maxLen at hc
        rw [wrap_i64_id _ (by omega) (by omega)]; omega
      have h3 : ((i - 1 : Nat) : Int) < (l.length : Int) := by omega
      have h4 : (0 : Int) ≤ ((i - 1 : Nat) : Int) := by omega
      have hd : sortedT (l.drop (i - 1)) = (ltB l[i - 1] l[i] && sortedT (l.drop i)) := by
        rw [List.drop_eq_getElem_cons hlp]
        have e : i - 1 + 1 = i := by omega
        simp only [e]
        rw [List.drop_eq_getElem_cons hlt]; rfl
      rw [hd] at hv
      cases e : ltB l[i - 1] l[i]
      · have e' : Op.bytesLess l[i - 1] l[i] = false := e
        simp (implicitDefEqProofs := false) only [go_sem, hlt', h0, h1, h2, h3, h4, hm1, e']
        rw [← hv, e, Bool.false_and]
      · have e' : Op.bytesLess l[i - 1] l[i] = true := e
        simp (implicitDefEqProofs := false) only [go_sem, hlt', h0, h1, h2, h3, h4, hm1, e']
        refine loopK_intro (i + 1) (by show l.length - (i + 1) < l.length - i; omega) ?_ ⟨by omega, by omega, ?_, rfl⟩
        · simp (implicitDefEqProofs := false) only [go_sem, hw]
        · rw [← hv, e, Bool.true_and]; rfl
    · have hlt' : ¬ (i : Int) < (l.length : Int) := by omega
      simp (implicitDefEqProofs := false) only [go_sem, hlt']
      rw [← hv]
      have : (l.drop (i - 1)).length ≤ 1 := by rw [List.length_drop]; omega
      match hx : l.drop (i - 1), this with
      | [], _ => rfl
      | [x], _ => rfl

theorem fin_ok' {H : Heap} {l : List Bs} {v : Value} (s : Bs) (h : StrsA H [] l v) : HCalls Try.prog 91 #[v, sv s] H fun r H' => r = .bool (decide (s ∈ l)) ∧ H' = H := by
  obtain ⟨a, c, rfl, hlc, hc⟩ := StrsA.slice h
  refine calls_of_vc (args := [_, _]) Try.func91 c91ok (Nat.le_of_ble_eq_true rfl) ?_
  simp (implicitDefEqProofs := false) only [go_sem, c91]
  refine vc_loop (fun (i : Nat) H' => i ≤ l.length ∧ (∀ (k : Nat) (hk : k < i) (hl : k < l.length), l[k] ≠ s) ∧ H' = H)
    (fun i => [(0, .slice a l.length c), (1, sv s), (5, .int .i64 i)]) (fun i => l.length - i) 0 ?_ ?_ ?_
  · exact ⟨Nat.zero_le _, fun k hk => by omega, rfl⟩
  · simp (implicitDefEqProofs := false) only [go_sem]
  · rintro i H' ⟨hi, hall, rfl⟩
    rcases Nat.lt_or_ge i l.length with hlt | hge
    · have hlt' : (i : Int) < (l.length : Int) := by omega
      have h0 : (0 : Int) ≤ (i : Int) := by omega
      obtain ⟨b1, o1, c1, e1, h1⟩ := StrsA.at h i hlt
      cases e1
      have hw := succ_i64 i l.length hlt (by omega)
      by_cases e : l[i] = s
      · simp (implicitDefEqProofs := false) only [go_sem, hlt', h0, h1, sv, ba_eq, e]
        rw [decide_eq_true (by rw [← e]; exact List.getElem_mem _)]
      · simp (implicitDefEqProofs := false) only [go_sem, hlt', h0, h1, sv, ba_eq, e]
        refine loopK_intro (i + 1) (by show l.length - (i + 1) < l.length - i; omega) ?_ ⟨hlt, fun k hk hl => ?_, rfl⟩
        · simp (implicitDefEqProofs := false) only [go_sem, hw, sv]
        · rcases Nat.lt_or_ge k i with q | q
          · exact hall k q hl
          · obtain rfl : k = i := by omega
            exact e
    · have hlt' : ¬ (i : Int) < (l.length : Int) := by omega
      simp (implicitDefEqProofs := false) only [go_sem, hlt']
      rw [decide_eq_false fun hm => by
        obtain ⟨k, hk, e⟩ := List.getElem_of_mem hm
        exact hall k (by omega) hk e]

theorem rising_ok {H : Heap} {l : List Bs} {v : Value} (h : StrsA H [] l v) : HCalls Try.prog 92 #[v] H fun r H' => r = .bool (l.all nameT && sortedT l) ∧ H' = H := by
  obtain ⟨a, c, rfl, hlc, hc⟩ := StrsA.slice h
  refine calls_of_vc (args := [_]) Try.func92 c92ok (Nat.le_of_ble_eq_true rfl) ?_
  rw [← risF_none]
  simp (implicitDefEqProofs := false) only [go_sem, c92]
  refine vc_loop (fun (i : Nat) H' => i ≤ l.length ∧ risF (if i = 0 then none else l[i - 1]?) (l.drop i) = risF none l ∧ H' = H)
    (fun i => [(0, .slice a l.length c), (3, .int .i64 i)]) (fun i => l.length - i) 0 ?_ ?_ ?_
  · exact ⟨Nat.zero_le _, rfl, rfl⟩
  · simp (implicitDefEqProofs := false) only [go_sem]
  · rintro i H' ⟨hi, hv, rfl⟩
    rcases Nat.lt_or_ge i l.length with hlt | hge
    · have hlt' : (i : Int) < (l.length : Int) := by omega
      have h0 : (0 : Int) ≤ (i : Int) := by omega
      obtain ⟨b1, o1, c1, e1, h1⟩ := StrsA.at h i hlt
      cases e1
      have hw := succ_i64 i l.length hlt (by omega)
      rw [List.drop_eq_getElem_cons hlt] at hv
      have hnx : ∀ q, risF (some l[i]) (l.drop (i + 1)) = q → risF (if i + 1 = 0 then none else l[i + 1 - 1]?) (l.drop (i + 1)) = q := fun q hq => by
        rw [if_neg (by omega), show i + 1 - 1 = i by omega, List.getElem?_eq_getElem hlt]; exact hq
      simp (implicitDefEqProofs := false) only [go_sem, hlt', h0, h1]
      refine (fname_ok l[i] H').mono ?_
      rintro r H2 ⟨rfl, rfl⟩
      cases e : nameT l[i]
      · simp (implicitDefEqProofs := false) only [go_sem]
        rw [risF_bad e] at hv
        rw [← hv]
      by_cases hi0 : i = 0
      · subst hi0
        simp only [if_true, risF, e, Bool.true_and] at hv
        simp (implicitDefEqProofs := false) only [go_sem]
        refine loopK_intro (0 + 1) (by show l.length - (0 + 1) < l.length - 0; omega) ?_ ⟨by omega, hnx _ hv, rfl⟩
        simp (implicitDefEqProofs := false) only [go_sem, hw]
        rfl
      · have hlp : i - 1 < l.length := by omega
        obtain ⟨b2, o2, c2, e2, h2⟩ := StrsA.at h (i - 1) hlp
        cases e2
        have hm1 : IntKind.i64.wrap ((i : Int) - 1) = ((i - 1 : Nat) : Int) := by
          unfold maxLen at hc
          rw [wrap_i64_id _ (by omega) (by omega)]; omega
        have h3 : ((i - 1 : Nat) : Int) < (l.length : Int) := by omega
        have h4 : (0 : Int) ≤ ((i - 1 : Nat) : Int) := by omega
        have h5 : (0 : Int) < (i : Int) := by omega
        rw [if_neg hi0, List.getElem?_eq_getElem hlp] at hv
        simp only [risF, e, Bool.true_and] at hv
        cases e3 : ltB l[i - 1] l[i]
        · have e' : Op.bytesLess l[i - 1] l[i] = false := e3
          simp (implicitDefEqProofs := false) only [go_sem, hlt', h0, h1, h2, h3, h4, h5, hm1, e']
          rw [← hv, e3, Bool.false_and]
        · have e' : Op.bytesLess l[i - 1] l[i] = true := e3
          rw [e3, Bool.true_and] at hv
          simp (implicitDefEqProofs := false) only [go_sem, hlt', h0, h1, h2, h3, h4, h5, hm1, e']
          refine loopK_intro (i + 1) (by show l.length - (i + 1) < l.length - i; omega) ?_ ⟨by omega, hnx _ hv, rfl⟩
          simp (implicitDefEqProofs := false) only [go_sem, hw]
    · have hlt' : ¬ (i : Int) < (l.length : Int) := by omega
      simp (implicitDefEqProofs := false) only [go_sem, hlt']
      rw [List.drop_eq_nil_of_le hge] at hv
      rw [← hv]
      split <;> simp [risF]
end Go.Proofs.Ytcilkhjadljaaaa
