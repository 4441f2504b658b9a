/- Numbers in groups of seven bits: plain facts. -/
import Derived.Test.YtdhlibkdcldioaaGreatRd
set_option linter.unusedSimpArgs false
set_option linter.unusedVariables false
set_option maxRecDepth 8000
namespace Go.Proofs.YtdhlibkdcldioaaGreat
open Gx Go

theorem encF_mono : ∀ (f n m : Nat), n ≤ m → (encF f n).length ≤ (encF f m).length
  | 0, _, _, _ => by simp [encF]
  | f+1, n, m, h => by
    simp only [encF]
    split
    · split <;> simp
    · rw [if_neg (by omega)]
      simp only [List.length_cons]
      exact Nat.succ_le_succ (encF_mono f _ _ (Nat.div_le_div_right h))

theorem numG_enc (r : List UInt8) : ∀ (f m i acc : Nat), m < 128^f → f + i = 10 → (i = 0 ∨ 0 < m) → m * 2^(7*i) < 2^64 → numG i acc (encF f m ++ r) = some (acc + m * 2^(7*i), i + (encF f m).length)
  | 0, m, i, acc, h, hf, hi, hm => by
    exfalso; simp at h; omega
  | f+1, m, i, acc, h, hf, hi, hm => by
    have hi9 : i ≤ 9 := by omega
    have h9 : i = 9 → m ≤ 1 := fun e => by
      subst e
      have : 2 * 2^(7*9) ≤ m * 2^(7*9) ∨ m < 2 := by
        rcases Nat.lt_or_ge m 2 with h | h
        · exact .inr h
        · exact .inl (Nat.mul_le_mul_right _ h)
      rcases this with h | h
      · exact absurd (Nat.lt_of_le_of_lt h hm) (by decide)
      · omega
    simp only [encF]
    split
    · rename_i hlt
      have e : (UInt8.ofNat m).toNat = m := by rw [UInt8.toNat_ofNat']; omega
      simp only [List.cons_append, List.nil_append, numG, e]
      rw [if_neg (by omega), if_neg (by omega), if_pos hlt, if_pos (by omega), Nat.mod_eq_of_lt hlt]
      rfl
    · rename_i hge
      have e : (UInt8.ofNat (m % 128 + 128)).toNat = m % 128 + 128 := by rw [UInt8.toNat_ofNat']; omega
      simp only [List.cons_append, numG, e]
      rw [if_neg (by omega), if_neg (by omega), if_neg (by omega)]
      have e2 : 2^(7*(i+1)) = 128 * 2^(7*i) := by rw [Nat.mul_add, Nat.pow_add, Nat.mul_comm]
      have e3 : m / 128 * 2^(7*(i+1)) = 128 * (m / 128) * 2^(7*i) := by rw [e2, ← Nat.mul_assoc, Nat.mul_comm (m / 128) 128]
      have e4 : m * 2^(7*i) = 128 * (m / 128) * 2^(7*i) + m % 128 * 2^(7*i) := by
        rw [← Nat.add_mul]; congr 1; omega
      rw [numG_enc r f (m / 128) (i + 1) _ (by rw [Nat.pow_succ] at h; omega) (by omega) (.inr (by omega)) (by rw [e3]; omega)]
      have e5 : (m % 128 + 128) % 128 = m % 128 := by omega
      rw [e5, e3, e4]
      simp only [List.length_cons, Option.some.injEq, Prod.mk.injEq]
      omega

theorem num_enc (n : Nat) (h : n < 2^64) (r : List UInt8) : num (enc n ++ r) = some (n, (enc n).length) := by
  have := numG_enc r 10 n 0 0 (Nat.lt_of_lt_of_le h (by decide)) rfl (.inl rfl) (by simpa using h)
  simpa [num, enc] using this

theorem uintR_at (pre r : List UInt8) (n : Nat) (h : n < 2^64) : uintR (pre ++ (enc n ++ r)) pre.length 0 = (n, pre.length + (enc n).length, 0) := by
  simp [uintR, num_enc n h]

theorem zag_zig (n : Int) : zag (zig n) = n := by
  unfold zig zag
  split <;> split <;> omega

theorem zig_zag (n : Nat) : zig (zag n) = n := by
  unfold zig zag
  split <;> split <;> omega

theorem numG_cut (r : List UInt8) : ∀ (f m i acc k : Nat), k < (encF f m).length → f + i ≤ 10 → (i = 0 ∨ 0 < m) → numG i acc ((encF f m).take k) = none
  | 0, m, i, acc, k, h, _, _ => by simp [encF] at h
  | f+1, m, i, acc, 0, _, _, _ => by simp [numG]
  | f+1, m, i, acc, k+1, h, hf, hi => by
    simp only [encF] at h ⊢
    split at h
    · simp at h
    · rename_i hge
      rw [if_neg hge]
      have e : (UInt8.ofNat (m % 128 + 128)).toNat = m % 128 + 128 := by rw [UInt8.toNat_ofNat']; omega
      simp only [List.length_cons] at h
      simp only [List.take_succ_cons, numG, e]
      split
      · rfl
      · split
        · rfl
        · rw [if_neg (by omega)]
          exact numG_cut r f (m / 128) (i + 1) _ k (by omega) (by omega) (.inr (by omega))

theorem num_cut (n k : Nat) (h : k < (enc n).length) : num ((enc n).take k) = none := numG_cut [] 10 n 0 0 k h (by omega) (.inl rfl)

/-- A number that was read stands there in its own form. -/
theorem numG_canon : ∀ (l : List UInt8) (i acc v k : Nat), numG i acc l = some (v, k) → acc < 2^(7*i) → ∃ m, v = acc + m * 2^(7*i) ∧ (i = 0 ∨ 0 < m) ∧ m < 128^(k - i) ∧ i < k ∧ k ≤ 10 ∧ ∀ f, k ≤ i + f → l.take (k - i) = encF f m
  | [], i, acc, v, k, h, _ => by simp [numG] at h
  | b :: r, i, acc, v, k, h, hacc => by
    have hpow : acc + (b.toNat % 128) * 2^(7*i) < 2^(7*(i+1)) := by
      have e : 2^(7*(i+1)) = 128 * 2^(7*i) := by rw [Nat.mul_add, Nat.pow_add, Nat.mul_comm]
      have hb : b.toNat % 128 < 128 := Nat.mod_lt _ (by decide)
      rw [e]
      have : (b.toNat % 128) * 2^(7*i) ≤ 127 * 2^(7*i) := Nat.mul_le_mul_right _ (by omega)
      omega
    simp only [numG] at h
    split at h
    · cases h
    rename_i hi10
    split at h
    · cases h
    split at h
    · rename_i hlt
      split at h
      · rename_i hnz
        simp only [Option.some.injEq, Prod.mk.injEq] at h
        obtain ⟨rfl, rfl⟩ := h
        refine ⟨b.toNat, by rw [Nat.mod_eq_of_lt hlt], by omega, by rw [show i + 1 - i = 1 by omega]; simpa using hlt, by omega, by omega, fun f hf => ?_⟩
        obtain ⟨f', rfl⟩ : ∃ f', f = f' + 1 := ⟨f - 1, by omega⟩
        rw [show i + 1 - i = 1 by omega]
        simp only [encF, if_pos hlt, List.take_succ_cons, List.take_zero]
        congr 1
        exact (UInt8.ofNat_toNat).symm
      · cases h
    · rename_i hge
      obtain ⟨m, rfl, hm, hmk, hik, hk10, hf⟩ := numG_canon r (i + 1) _ v k h hpow
      have hm0 : 0 < m := by omega
      have e2 : 2^(7*(i+1)) = 128 * 2^(7*i) := by rw [Nat.mul_add, Nat.pow_add, Nat.mul_comm]
      refine ⟨b.toNat % 128 + 128 * m, ?_, by omega, ?_, by omega, hk10, fun f hfk => ?_⟩
      · rw [e2, Nat.add_mul, ← Nat.mul_assoc, Nat.mul_comm m 128]; omega
      · rw [show k - i = (k - (i + 1)) + 1 by omega, Nat.pow_succ]
        have hb : b.toNat % 128 < 128 := Nat.mod_lt _ (by decide)
        omega
      · obtain ⟨f', rfl⟩ : ∃ f', f = f' + 1 := ⟨f - 1, by omega⟩
        rw [show k - i = (k - (i + 1)) + 1 by omega]
        simp only [encF, if_neg (show ¬ b.toNat % 128 + 128 * m < 128 by omega), List.take_succ_cons]
        rw [show (b.toNat % 128 + 128 * m) / 128 = m by omega, hf f' (by omega)]
        congr 1
        have hb := b.toNat_lt
        rw [show (b.toNat % 128 + 128 * m) % 128 + 128 = b.toNat by omega]
        exact (UInt8.ofNat_toNat).symm

theorem num_canon {l : List UInt8} {v k : Nat} (h : num l = some (v, k)) : l.take k = enc v := by
  obtain ⟨m, e, _, _, _, hk, hf⟩ := numG_canon l 0 0 v k h (by decide)
  have : v = m := by simpa using e
  subst this
  exact hf 10 (by omega)


theorem len_encF : ∀ (g f n : Nat), n < 128^f → 1 ≤ f → (encF g n).length ≤ f
  | 0, f, n, _, h => by simp [encF]
  | g+1, f, n, hn, h => by
    simp only [encF]
    split
    · simpa using h
    · rename_i hge
      obtain ⟨f', rfl⟩ : ∃ f', f = f' + 1 := ⟨f - 1, by omega⟩
      rw [Nat.pow_succ] at hn
      have h1 : 1 ≤ f' := by
        rcases Nat.eq_zero_or_pos f' with h0 | h0
        · subst h0; simp at hn; omega
        · exact h0
      have := len_encF g f' (n / 128) (by omega) h1
      simp; omega
theorem len_enc {n f : Nat} (h : n < 128^f) (h1 : 1 ≤ f) : (enc n).length ≤ f := len_encF 10 f n h h1
theorem len_enc_pos (n : Nat) : 1 ≤ (enc n).length := by
  unfold enc encF; split <;> simp
end Go.Proofs.YtdhlibkdcldioaaGreat
