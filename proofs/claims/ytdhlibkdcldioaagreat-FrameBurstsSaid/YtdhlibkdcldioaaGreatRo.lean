/- The Reader, said with an optional place: none once a read has failed. -/
import Derived.Test.YtdhlibkdcldioaaGreatNu
import Derived.Test.YtdhlibkdcldioaaGreatGx18
set_option linter.unusedSimpArgs false
set_option linter.unusedVariables false
set_option maxRecDepth 8000
namespace Go.Proofs.YtdhlibkdcldioaaGreat
open Gx Go

abbrev Pl := Option Nat
def RdO (H : Heap) (b : Nat) (L : List UInt8) (s : Pl) (g : Option Nat) : Prop :=
  match s with
  | some p => Rd H b L p 0 g
  | none => ∃ p, Rd H b L p 2 g

theorem RdO.fr {M : List Nat} {H H' : Heap} {b : Nat} {L : List UInt8} {s : Pl} {g : Option Nat} (h : RdO H b L s g) (hf : Fr M H H') (hb : b ∉ M) (hg : ∀ k, g = some k → k ∉ M) : RdO H' b L s g := by
  cases s with
  | some p => exact Rd.fr h hf hb hg
  | none => obtain ⟨p, h⟩ := h; exact ⟨p, Rd.fr h hf hb hg⟩
theorem RdO.ext {H H' : Heap} {b : Nat} {L : List UInt8} {s : Pl} {g : Option Nat} (h : RdO H b L s g) (hf : Fr [] H H') : RdO H' b L s g := h.fr hf (by simp) (by simp)
theorem RdO.lt {H : Heap} {b : Nat} {L : List UInt8} {s : Pl} {g : Option Nat} (h : RdO H b L s g) : b < H.size := by
  cases s with
  | some p => exact Rd.lt h
  | none => obtain ⟨p, h⟩ := h; exact h.lt
theorem RdO.ltg {H : Heap} {b : Nat} {L : List UInt8} {s : Pl} {g : Option Nat} (h : RdO H b L s g) {k : Nat} (hk : g = some k) : k < H.size := by
  cases s with
  | some p => exact Rd.ltg h hk
  | none => obtain ⟨p, h⟩ := h; exact h.ltg hk
theorem RdO.len {H : Heap} {b : Nat} {L : List UInt8} {s : Pl} {g : Option Nat} (h : RdO H b L s g) : L.length < 2^40 := by
  cases s with
  | some p => obtain ⟨i, a, c, _, _, _, _, h5⟩ := h; exact h5
  | none => obtain ⟨p, i, a, c, _, _, _, _, h5⟩ := h; exact h5
theorem RdO.place {H : Heap} {b : Nat} {L : List UInt8} {p : Nat} {g : Option Nat} (h : RdO H b L (some p) g) : p ≤ L.length := by
  obtain ⟨i, a, c, _, _, h3, _, _⟩ := h; exact h3

def uintO (L : List UInt8) : Pl → Nat × Pl
  | some p => match num (L.drop p) with
    | some (n, k) => (n, some (p + k))
    | none => (0, none)
  | none => (0, none)
def boolO (L : List UInt8) : Pl → Bool × Pl
  | some p => match L.drop p with
    | x :: _ => if 1 < x.toNat then (false, none) else (x.toNat == 1, some (p + 1))
    | [] => (false, none)
  | none => (false, none)
def bytesO (L : List UInt8) : Pl → List UInt8 × Pl
  | some p => match num (L.drop p) with
    | some (n, k) => if p + k + n ≤ L.length then ((L.drop (p + k)).take n, some (p + k + n)) else ([], none)
    | none => ([], none)
  | none => ([], none)
def countO (L : List UInt8) : Pl → Nat × Pl
  | some p => match num (L.drop p) with
    | some (n, k) => if p + k + n ≤ L.length then (n, some (p + k)) else (0, none)
    | none => (0, none)
  | none => (0, none)

theorem uintO_lt (L : List UInt8) (s : Pl) : (uintO L s).1 < 2^64 := by
  unfold uintO
  split
  · split
    · rename_i h; exact (num_bound h).1
    · exact Nat.two_pow_pos 64
  · exact Nat.two_pow_pos 64
theorem countO_le (L : List UInt8) (s : Pl) : (countO L s).1 ≤ L.length := by
  unfold countO
  split
  · split
    · split
      · show _ ≤ _; omega
      · exact Nat.zero_le _
    · exact Nat.zero_le _
  · exact Nat.zero_le _

section
variable {H : Heap} {b : Nat} {L : List UInt8} {s : Pl} {g : Option Nat}
theorem ruint_o (h : RdO H b L s g) : HCalls Tryz.prog 131 #[.pointer (some ⟨b, 0, none⟩)] H fun v H' => v = .int .u64 (uintO L s).1 ∧ RdO H' b L (uintO L s).2 g ∧ Fr [b] H H' := by
  cases s with
  | some p =>
    refine (ruint_ok h).mono ?_
    rintro v H' ⟨rfl, h1, hf⟩
    unfold uintO
    simp only [uintR, if_true] at h1 ⊢
    cases hn : num (L.drop p) with
    | none => rw [hn] at h1; exact ⟨rfl, ⟨p, h1⟩, hf⟩
    | some x => rw [hn] at h1; exact ⟨rfl, h1, hf⟩
  | none =>
    obtain ⟨p, h⟩ := h
    refine (ruint_ok h).mono ?_
    rintro v H' ⟨rfl, h1, hf⟩
    exact ⟨rfl, ⟨p, h1⟩, hf⟩
theorem rint_o (h : RdO H b L s g) : HCalls Tryz.prog 153 #[.pointer (some ⟨b, 0, none⟩)] H fun v H' => v = .int .i64 (zag (uintO L s).1) ∧ RdO H' b L (uintO L s).2 g ∧ Fr [b] H H' := by
  cases s with
  | some p =>
    refine (rint_ok h).mono ?_
    rintro v H' ⟨rfl, h1, hf⟩
    unfold uintO
    simp only [uintR, if_true] at h1 ⊢
    cases hn : num (L.drop p) with
    | none => rw [hn] at h1; exact ⟨rfl, ⟨p, h1⟩, hf⟩
    | some x => rw [hn] at h1; exact ⟨rfl, h1, hf⟩
  | none =>
    obtain ⟨p, h⟩ := h
    refine (rint_ok h).mono ?_
    rintro v H' ⟨rfl, h1, hf⟩
    exact ⟨rfl, ⟨p, h1⟩, hf⟩
theorem rbool_o (h : RdO H b L s g) : HCalls Tryz.prog 161 #[.pointer (some ⟨b, 0, none⟩)] H fun v H' => v = .bool (boolO L s).1 ∧ RdO H' b L (boolO L s).2 g ∧ Fr [b] H H' := by
  cases s with
  | some p =>
    refine (rbool_ok h).mono ?_
    rintro v H' ⟨rfl, h1, hf⟩
    unfold boolO
    simp only [boolR, if_true] at h1 ⊢
    cases hn : L.drop p with
    | nil => rw [hn] at h1; exact ⟨rfl, ⟨p, h1⟩, hf⟩
    | cons x r =>
      rw [hn] at h1
      simp only at h1 ⊢
      by_cases hx : 1 < x.toNat
      · simp only [if_pos hx] at h1 ⊢; exact ⟨trivial, ⟨p, h1⟩, hf⟩
      · simp only [if_neg hx] at h1 ⊢; exact ⟨trivial, h1, hf⟩
  | none =>
    obtain ⟨p, h⟩ := h
    refine (rbool_ok h).mono ?_
    rintro v H' ⟨rfl, h1, hf⟩
    exact ⟨rfl, ⟨p, h1⟩, hf⟩
theorem rbytes_o (h : RdO H b L s g) : HCalls Tryz.prog 156 #[.pointer (some ⟨b, 0, none⟩)] H fun v H' => ∃ a c g', v = .slice a (bytesO L s).1.length c ∧ Own H' 5 1 v (bytesO L s).1.length ((bytesO L s).1.map bv) g' ∧ (∀ k, g' = some k → H.size ≤ k) ∧ RdO H' b L (bytesO L s).2 g ∧ Fr [b] H H' := by
  cases s with
  | some p =>
    refine (rbytes_ok h).mono ?_
    rintro v H' ⟨a, c, g', e, ho, hg, h1, hf⟩
    unfold bytesO
    simp only [bytesR, if_true] at e ho h1 ⊢
    cases hn : num (L.drop p) with
    | none => rw [hn] at e ho h1; exact ⟨a, c, g', e, ho, hg, ⟨p, h1⟩, hf⟩
    | some x =>
      rw [hn] at e ho h1
      simp only at e ho h1 ⊢
      by_cases hx : p + x.2 + x.1 ≤ L.length
      · simp only [if_pos hx] at e ho h1 ⊢; exact ⟨a, c, g', e, ho, hg, h1, hf⟩
      · simp only [if_neg hx] at e ho h1 ⊢; exact ⟨a, c, g', e, ho, hg, ⟨p, h1⟩, hf⟩
  | none =>
    obtain ⟨p, h⟩ := h
    refine (rbytes_ok h).mono ?_
    rintro v H' ⟨a, c, g', e, ho, hg, h1, hf⟩
    exact ⟨a, c, g', e, ho, hg, ⟨p, h1⟩, hf⟩
theorem rtext_o (h : RdO H b L s g) : HCalls Tryz.prog 147 #[.pointer (some ⟨b, 0, none⟩)] H fun v H' => v = .string ⟨⟨(bytesO L s).1⟩⟩ ∧ RdO H' b L (bytesO L s).2 g ∧ Fr [b] H H' := by
  cases s with
  | some p =>
    refine (rtext_ok h).mono ?_
    rintro v H' ⟨rfl, h1, hf⟩
    unfold bytesO
    simp only [bytesR, if_true] at h1 ⊢
    cases hn : num (L.drop p) with
    | none => rw [hn] at h1; exact ⟨rfl, ⟨p, h1⟩, hf⟩
    | some x =>
      rw [hn] at h1
      simp only at h1 ⊢
      by_cases hx : p + x.2 + x.1 ≤ L.length
      · simp only [if_pos hx] at h1 ⊢; exact ⟨trivial, h1, hf⟩
      · simp only [if_neg hx] at h1 ⊢; exact ⟨trivial, ⟨p, h1⟩, hf⟩
  | none =>
    obtain ⟨p, h⟩ := h
    refine (rtext_ok h).mono ?_
    rintro v H' ⟨rfl, h1, hf⟩
    exact ⟨rfl, ⟨p, h1⟩, hf⟩
theorem rcount_o (h : RdO H b L s g) : HCalls Tryz.prog 154 #[.pointer (some ⟨b, 0, none⟩)] H fun v H' => v = .int .i64 (countO L s).1 ∧ RdO H' b L (countO L s).2 g ∧ Fr [b] H H' := by
  cases s with
  | some p =>
    refine (rcount_ok h).mono ?_
    rintro v H' ⟨rfl, h1, hf⟩
    unfold countO
    simp only [countR, if_true] at h1 ⊢
    cases hn : num (L.drop p) with
    | none => rw [hn] at h1; exact ⟨rfl, ⟨p, h1⟩, hf⟩
    | some x =>
      rw [hn] at h1
      simp only at h1 ⊢
      by_cases hx : p + x.2 + x.1 ≤ L.length
      · simp only [if_pos hx] at h1 ⊢; exact ⟨trivial, h1, hf⟩
      · simp only [if_neg hx] at h1 ⊢; exact ⟨trivial, ⟨p, h1⟩, hf⟩
  | none =>
    obtain ⟨p, h⟩ := h
    refine (rcount_ok h).mono ?_
    rintro v H' ⟨rfl, h1, hf⟩
    exact ⟨rfl, ⟨p, h1⟩, hf⟩
theorem rerr_o (h : RdO H b L s g) : HCalls Tryz.prog 163 #[.pointer (some ⟨b, 0, none⟩)] H fun v H' => v = .int .i64 (if s.isSome then 0 else 2) ∧ H' = H := by
  cases s with
  | some p => exact rerr_ok h
  | none => obtain ⟨p, h⟩ := h; exact rerr_ok h
theorem rend_o (h : RdO H b L s g) : HCalls Tryz.prog 100 #[.pointer (some ⟨b, 0, none⟩)] H fun v H' => v = .int .i64 (if s = some L.length then 0 else 2) ∧ H' = H := by
  cases s with
  | some p =>
    have hp := RdO.place h
    refine (rend_ok h).mono ?_
    rintro v H' ⟨rfl, he⟩
    refine ⟨?_, he⟩
    by_cases e : p = L.length
    · subst e
      rw [if_neg (by omega), if_pos rfl]; rfl
    · rw [if_pos ⟨rfl, by omega⟩, if_neg (by simpa using e)]
  | none =>
    obtain ⟨p, h⟩ := h
    refine (rend_ok h).mono ?_
    rintro v H' ⟨rfl, he⟩
    exact ⟨by simp, he⟩


end
end Go.Proofs.YtdhlibkdcldioaaGreat
