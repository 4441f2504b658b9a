/- What reading says of bytes that were written, cut off, or read completely. -/
import Derived.Test.YtighhngepdmmlaaGt
set_option linter.unusedSimpArgs false
set_option linter.unusedVariables false
set_option maxRecDepth 8000
namespace Go.Proofs.Ytighhngepdmmlaa
open Gx Go

theorem uintR_at (pre r : List UInt8) (n : Nat) (h : n < 2^64) : uintR (pre ++ (enc n ++ r)) pre.length 0 = (n, pre.length + (enc n).length, 0) := by
  simp [uintR, num_enc n h]

theorem zag_zig (n : Int) : zag (zig n) = n := by
  unfold zig zag
  split <;> split <;> omega

theorem zig_zag (n : Nat) : zig (zag n) = n := by
  unfold zig zag
  split <;> split <;> omega

theorem get_enc (x : It) (hn : x.n < 2^64) (hb : x.b.length < 2^64) (pre r : List UInt8) : getB x (pre ++ (encI x ++ r)) pre.length 0 ∧ stepR x.kind (pre ++ (encI x ++ r)) pre.length 0 = (pre.length + (encI x).length, 0) := by
  unfold getB stepR encI
  have hr := IntKind.wrap_i64 (x.n : Int)
  by_cases h0 : x.kind = 0
  · simp only [h0, if_true]
    rw [uintR_at pre r x.n hn]
    exact ⟨rfl, rfl⟩
  by_cases h1 : x.kind = 1
  · simp only [h1, if_true, if_false, Int.one_ne_zero]
    rw [uintR_at pre r _ (zig_lt _ (by omega) (by omega))]
    exact ⟨zag_zig _, rfl⟩
  by_cases h2 : x.kind = 2
  · simp only [h2, if_true, if_false]
    by_cases hx : x.n % 2 = 1
    · simp [hx, boolR]
    · simp [hx, boolR]
  · simp only [h0, h1, h2, if_false]
    have hnum := num_enc x.b.length hb (x.b ++ r)
    have hd : (pre ++ (enc x.b.length ++ x.b ++ r)).drop pre.length = enc x.b.length ++ (x.b ++ r) := by simp
    have hd2 : (pre ++ (enc x.b.length ++ x.b ++ r)).drop (pre.length + (enc x.b.length).length) = x.b ++ r := by
      rw [← List.drop_drop, hd]; simp
    unfold bytesR
    rw [if_pos rfl, hd, hnum]
    simp only
    rw [hd2, if_pos (by simp; omega)]
    simp [Nat.add_assoc]

/-- A number that is cut off. -/
theorem numG_cut (r : List UInt8) : ∀ (f m i acc k : Nat), k < (encF f m).length → f + i ≤ 10 → (i = 0 ∨ 0 < m) → numG i acc ((encF f m).take k) = none
  | 0, m, i, acc, k, h, _, _ => by simp [encF] at h
  | f+1, m, i, acc, 0, _, _, _ => by simp [numG]
  | f+1, m, i, acc, k+1, h, hf, hi => by
    simp only [encF] at h ⊢
    split at h
    · simp at h
    · rename_i hge
      rw [if_neg hge]
      have e : (UInt8.ofNat (m % 128 + 128)).toNat = m % 128 + 128 := by rw [UInt8.toNat_ofNat']; omega
      simp only [List.length_cons] at h
      simp only [List.take_succ_cons, numG, e]
      split
      · rfl
      · split
        · rfl
        · rw [if_neg (by omega)]
          exact numG_cut r f (m / 128) (i + 1) _ k (by omega) (by omega) (.inr (by omega))

theorem num_cut (n k : Nat) (h : k < (enc n).length) : num ((enc n).take k) = none := numG_cut [] 10 n 0 0 k h (by omega) (.inl rfl)

/-- A number that was read stands there in its own form. -/
theorem numG_canon : ∀ (l : List UInt8) (i acc v k : Nat), numG i acc l = some (v, k) → acc < 2^(7*i) → ∃ m, v = acc + m * 2^(7*i) ∧ (i = 0 ∨ 0 < m) ∧ m < 128^(k - i) ∧ i < k ∧ k ≤ 10 ∧ ∀ f, k ≤ i + f → l.take (k - i) = encF f m
  | [], i, acc, v, k, h, _ => by simp [numG] at h
  | b :: r, i, acc, v, k, h, hacc => by
    have hpow : acc + (b.toNat % 128) * 2^(7*i) < 2^(7*(i+1)) := by
      have e : 2^(7*(i+1)) = 128 * 2^(7*i) := by rw [Nat.mul_add, Nat.pow_add, Nat.mul_comm]
      have hb : b.toNat % 128 < 128 := Nat.mod_lt _ (by decide)
      rw [e]
      have : (b.toNat % 128) * 2^(7*i) ≤ 127 * 2^(7*i) := Nat.mul_le_mul_right _ (by omega)
      omega
    simp only [numG] at h
    split at h
    · cases h
    rename_i hi10
    split at h
    · cases h
    split at h
    · rename_i hlt
      split at h
      · rename_i hnz
        simp only [Option.some.injEq, Prod.mk.injEq] at h
        obtain ⟨rfl, rfl⟩ := h
        refine ⟨b.toNat, by rw [Nat.mod_eq_of_lt hlt], by omega, by rw [show i + 1 - i = 1 by omega]; simpa using hlt, by omega, by omega, fun f hf => ?_⟩
        obtain ⟨f', rfl⟩ : ∃ f', f = f' + 1 := ⟨f - 1, by omega⟩
        rw [show i + 1 - i = 1 by omega]
        simp only [encF, if_pos hlt, List.take_succ_cons, List.take_zero]
        congr 1
        exact (UInt8.ofNat_toNat).symm
      · cases h
    · rename_i hge
      obtain ⟨m, rfl, hm, hmk, hik, hk10, hf⟩ := numG_canon r (i + 1) _ v k h hpow
      have hm0 : 0 < m := by omega
      have e2 : 2^(7*(i+1)) = 128 * 2^(7*i) := by rw [Nat.mul_add, Nat.pow_add, Nat.mul_comm]
      refine ⟨b.toNat % 128 + 128 * m, ?_, by omega, ?_, by omega, hk10, fun f hfk => ?_⟩
      · rw [e2, Nat.add_mul, ← Nat.mul_assoc, Nat.mul_comm m 128]; omega
      · rw [show k - i = (k - (i + 1)) + 1 by omega, Nat.pow_succ]
        have hb : b.toNat % 128 < 128 := Nat.mod_lt _ (by decide)
        omega
      · obtain ⟨f', rfl⟩ : ∃ f', f = f' + 1 := ⟨f - 1, by omega⟩
        rw [show k - i = (k - (i + 1)) + 1 by omega]
        simp only [encF, if_neg (show ¬ b.toNat % 128 + 128 * m < 128 by omega), List.take_succ_cons]
        rw [show (b.toNat % 128 + 128 * m) / 128 = m by omega, hf f' (by omega)]
        congr 1
        have hb := b.toNat_lt
        rw [show (b.toNat % 128 + 128 * m) % 128 + 128 = b.toNat by omega]
        exact (UInt8.ofNat_toNat).symm

theorem num_canon {l : List UInt8} {v k : Nat} (h : num l = some (v, k)) : l.take k = enc v := by
  obtain ⟨m, e, _, _, _, hk, hf⟩ := numG_canon l 0 0 v k h (by decide)
  have : v = m := by simpa using e
  subst this
  exact hf 10 (by omega)

end Go.Proofs.Ytighhngepdmmlaa
