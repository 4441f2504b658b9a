/- Names and lists of names: contracts. -/
import Derived.Test.YtcilkhjadljaaaaLk
set_option linter.unusedSimpArgs false
set_option linter.unusedVariables false
set_option maxRecDepth 8000
namespace Go.Proofs.Ytcilkhjadljaaaa
open Gx Go

def loB (c : UInt8) : Bool := decide (97 ≤ c.toNat) && decide (c.toNat ≤ 122)
def wordB (c : UInt8) : Bool := (loB c || (decide (48 ≤ c.toNat) && decide (c.toNat ≤ 57))) || decide (c.toNat = 45)
def nameT (s : Bs) : Bool := decide (0 < s.length) && (decide (s.length ≤ 16) && (loB (s.getD 0 0) && s.all wordB))

theorem word_ok (c : UInt8) (H : Heap) : HCalls Try.prog 89 #[.int .u8 c.toNat] H fun r H' => r = .bool (wordB c) ∧ H' = H := by
  refine calls_of_vc (args := [_]) Try.func89 c89ok (Nat.le_of_ble_eq_true rfl) ?_
  have i1 : ((97 : Int) ≤ (c.toNat : Int)) = (97 ≤ c.toNat) := by apply propext; omega
  have i2 : ((c.toNat : Int) ≤ 122) = (c.toNat ≤ 122) := by apply propext; omega
  have i3 : ((48 : Int) ≤ (c.toNat : Int)) = (48 ≤ c.toNat) := by apply propext; omega
  have i4 : ((c.toNat : Int) ≤ 57) = (c.toNat ≤ 57) := by apply propext; omega
  have i5 : ((c.toNat : Int) = 45) = (c.toNat = 45) := by apply propext; omega
  have j1 : (122 : Int) < (c.toNat : Int) ↔ ¬ c.toNat ≤ 122 := by omega
  have j2 : (57 : Int) < (c.toNat : Int) ↔ ¬ c.toNat ≤ 57 := by omega
  by_cases h1 : 97 ≤ c.toNat <;> by_cases h2 : c.toNat ≤ 122 <;> by_cases h3 : 48 ≤ c.toNat <;> by_cases h4 : c.toNat ≤ 57 <;> by_cases h5 : c.toNat = 45
  all_goals first
    | (exfalso; omega)
    | (simp (implicitDefEqProofs := false) only [go_sem, c89, i1, i2, i3, i4, i5, h1, h2, h3, h4, h5, wordB, loB]; done)
    | (simp (implicitDefEqProofs := false) only [go_sem, c89, i1, i2, i3, i4, i5, h1, h2, h3, h4, h5, wordB, loB]; simp [h1, h2, h3, h4, h5])

theorem valid_ok (s : Bs) (H : Heap) : HCalls Try.prog 77 #[sv s] H fun r H' => r = .bool (nameT s) ∧ H' = H := by
  refine calls_of_vc (args := [_]) Try.func77 c77ok (Nat.le_of_ble_eq_true rfl) ?_
  unfold sv
  have hz : ((s.length : Int) = 0) = (s.length = 0) := by apply propext; omega
  by_cases h0 : s.length = 0
  · simp (implicitDefEqProofs := false) only [go_sem, c77, ba_size, hz, h0]
    simp [nameT, h0]
  by_cases h16 : 16 < s.length
  · have h16' : (16 : Int) < (s.length : Int) := by omega
    simp (implicitDefEqProofs := false) only [go_sem, c77, ba_size, hz, h0, h16']
    simp [nameT, show ¬ s.length ≤ 16 by omega]
  have h16' : ¬ (16 : Int) < (s.length : Int) := by omega
  have hp : (0 : Int) < (s.length : Int) := by omega
  have hn1 : decide (0 < s.length) = true := decide_eq_true (by omega)
  have hn2 : decide (s.length ≤ 16) = true := decide_eq_true (by omega)
  unfold nameT
  rw [hn1, hn2]
  generalize hc : s.getD 0 0 = c
  by_cases l1 : (c.toNat : Int) < 97
  · simp (implicitDefEqProofs := false) only [go_sem, c77, ba_size, hz, h0, h16', hp, hc, l1]
    simp [loB, show ¬ 97 ≤ c.toNat by omega]
  by_cases l2 : (122 : Int) < (c.toNat : Int)
  · simp (implicitDefEqProofs := false) only [go_sem, c77, ba_size, hz, h0, h16', hp, hc, l1, l2]
    simp [loB, show ¬ c.toNat ≤ 122 by omega]
  have hl : loB c = true := by simp [loB]; omega
  rw [hl]
  simp (implicitDefEqProofs := false) only [go_sem, c77, ba_size, hz, h0, h16', hp, hc, l1, l2]
  refine vc_loop (fun (i : Nat) H' => i ≤ s.length ∧ (s.drop i).all wordB = s.all wordB ∧ H' = H)
    (fun i => [(0, .string ⟨⟨s⟩⟩), (23, .int .i64 s.length), (24, .int .i64 i)]) (fun i => s.length - i) 0 ?_ ?_ ?_
  · exact ⟨Nat.zero_le _, rfl, rfl⟩
  · simp (implicitDefEqProofs := false) only [go_sem]
  · rintro i H' ⟨hi, hv, rfl⟩
    rcases Nat.lt_or_ge i s.length with hlt | hge
    · have hlt' : (i : Int) < (s.length : Int) := by omega
      have hi0 : (0 : Int) ≤ (i : Int) := by omega
      have hw := succ_i64 i s.length hlt (by unfold maxLen; omega)
      have hg : s.getD i 0 = s[i] := by simp [hlt]
      rw [List.drop_eq_getElem_cons hlt, List.all_cons] at hv
      simp (implicitDefEqProofs := false) only [go_sem, hlt', hi0, ba_size, hg]
      refine (word_ok s[i] H').mono ?_
      rintro r H2 ⟨rfl, rfl⟩
      cases e : wordB s[i]
      · simp (implicitDefEqProofs := false) only [go_sem]
        rw [← hv, e, Bool.false_and]
      · simp (implicitDefEqProofs := false) only [go_sem]
        refine loopK_intro (i + 1) (by show s.length - (i + 1) < s.length - i; omega) ?_ ⟨hlt, ?_, rfl⟩
        · simp (implicitDefEqProofs := false) only [go_sem, hw]
        · rw [← hv, e, Bool.true_and]
    · have hlt' : ¬ (i : Int) < (s.length : Int) := by omega
      simp (implicitDefEqProofs := false) only [go_sem, hlt']
      rw [List.drop_eq_nil_of_le hge] at hv
      rw [← hv]; rfl

theorem fname_ok (s : Bs) (H : Heap) : HCalls Try.prog 90 #[sv s] H fun r H' => r = .bool (nameT s) ∧ H' = H := by
  refine calls_of_vc (args := [_]) Try.func90 c90ok (Nat.le_of_ble_eq_true rfl) ?_
  unfold sv
  by_cases h0 : s.length = 0
  · have hz : (s.length : Int) < 1 := by omega
    simp (implicitDefEqProofs := false) only [go_sem, c90, ba_size, hz]
    simp [nameT, h0]
  have hz : ¬ (s.length : Int) < 1 := by omega
  by_cases h16 : 16 < s.length
  · have h16' : (16 : Int) < (s.length : Int) := by omega
    simp (implicitDefEqProofs := false) only [go_sem, c90, ba_size, hz, h16']
    simp [nameT, show ¬ s.length ≤ 16 by omega]
  have h16' : ¬ (16 : Int) < (s.length : Int) := by omega
  have hp : (0 : Int) < (s.length : Int) := by omega
  have hn1 : decide (0 < s.length) = true := decide_eq_true (by omega)
  have hn2 : decide (s.length ≤ 16) = true := decide_eq_true (by omega)
  unfold nameT
  rw [hn1, hn2]
  generalize hc : s.getD 0 0 = c
  by_cases l1 : (c.toNat : Int) < 97
  · simp (implicitDefEqProofs := false) only [go_sem, c90, ba_size, hz, h16', hp, hc, l1]
    simp [loB, show ¬ 97 ≤ c.toNat by omega]
  by_cases l2 : (122 : Int) < (c.toNat : Int)
  · simp (implicitDefEqProofs := false) only [go_sem, c90, ba_size, hz, h16', hp, hc, l1, l2]
    simp [loB, show ¬ c.toNat ≤ 122 by omega]
  have hl : loB c = true := by simp [loB]; omega
  rw [hl]
  simp (implicitDefEqProofs := false) only [go_sem, c90, ba_size, hz, h16', hp, hc, l1, l2]
  refine vc_loop (fun (i : Nat) H' => i ≤ s.length ∧ (s.drop i).all wordB = s.all wordB ∧ H' = H)
    (fun i => [(0, .string ⟨⟨s⟩⟩), (3, .int .i64 i)]) (fun i => s.length - i) 0 ?_ ?_ ?_
  · exact ⟨Nat.zero_le _, rfl, rfl⟩
  · simp (implicitDefEqProofs := false) only [go_sem]
  · rintro i H' ⟨hi, hv, rfl⟩
    rcases Nat.lt_or_ge i s.length with hlt | hge
    · have hlt' : (i : Int) < (s.length : Int) := by omega
      have hi0 : (0 : Int) ≤ (i : Int) := by omega
      have hw := succ_i64 i s.length hlt (by unfold maxLen; omega)
      have hg : s.getD i 0 = s[i] := by simp [hlt]
      rw [List.drop_eq_getElem_cons hlt, List.all_cons] at hv
      generalize s[i] = x at *
      have good : wordB x = true → i + 1 ≤ s.length ∧ (s.drop (i + 1)).all wordB = s.all wordB ∧ H' = H' := fun e => ⟨hlt, by rw [← hv, e, Bool.true_and], rfl⟩
      have bad : wordB x = false → s.all wordB = false := fun e => by rw [← hv, e, Bool.false_and]
      by_cases a1 : (x.toNat : Int) < 97
      · by_cases a2 : (x.toNat : Int) < 48
        · by_cases a3 : x.toNat = 45
          · have a3' : (x.toNat : Int) = 45 := by omega
            simp (implicitDefEqProofs := false) only [go_sem, hlt', hi0, ba_size, hg, a1, a2, a3']
            refine loopK_intro (i + 1) (by show s.length - (i + 1) < s.length - i; omega) ?_ (good (by simp [wordB, a3]))
            simp (implicitDefEqProofs := false) only [go_sem, hw]
          · have a3' : ¬ (x.toNat : Int) = 45 := by omega
            simp (implicitDefEqProofs := false) only [go_sem, hlt', hi0, ba_size, hg, a1, a2, a3']
            rw [bad (by simp [wordB, loB]; omega)]
        · by_cases a4 : (57 : Int) < (x.toNat : Int)
          · have a3' : ¬ (x.toNat : Int) = 45 := by omega
            simp (implicitDefEqProofs := false) only [go_sem, hlt', hi0, ba_size, hg, a1, a2, a3', a4]
            rw [bad (by simp [wordB, loB]; omega)]
          · simp (implicitDefEqProofs := false) only [go_sem, hlt', hi0, ba_size, hg, a1, a2, a4]
            refine loopK_intro (i + 1) (by show s.length - (i + 1) < s.length - i; omega) ?_ (good (by simp [wordB, loB]; omega))
            simp (implicitDefEqProofs := false) only [go_sem, hw]
      · by_cases a5 : (122 : Int) < (x.toNat : Int)
        · have a2 : ¬ (x.toNat : Int) < 48 := by omega
          have a4 : (57 : Int) < (x.toNat : Int) := by omega
          have a3' : ¬ (x.toNat : Int) = 45 := by omega
          simp (implicitDefEqProofs := false) only [go_sem, hlt', hi0, ba_size, hg, a1, a2, a3', a4, a5]
          rw [bad (by simp [wordB, loB]; omega)]
        · simp (implicitDefEqProofs := false) only [go_sem, hlt', hi0, ba_size, hg, a1, a5]
          refine loopK_intro (i + 1) (by show s.length - (i + 1) < s.length - i; omega) ?_ (good (by simp [wordB, loB]; omega))
          simp (implicitDefEqProofs := false) only [go_sem, hw]
    · have hlt' : ¬ (i : Int) < (s.length : Int) := by omega
      simp (implicitDefEqProofs := false) only [go_sem, hlt', ba_size]
      rw [List.drop_eq_nil_of_le hge] at hv
      rw [← hv]; rfl
end Go.Proofs.Ytcilkhjadljaaaa
