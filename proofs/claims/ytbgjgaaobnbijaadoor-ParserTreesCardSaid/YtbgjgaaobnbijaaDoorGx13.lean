/- Bytes. -/
import Derived.Test.YtbgjgaaobnbijaaDoorGx12
namespace Gx
open Go

def bv (b : UInt8) : Value := .int .u8 b.toNat
@[simp] theorem bv_one (b : UInt8) : (bv b).oneCell' = true := rfl

theorem wrap_u8_id (x : Int) (h : 0 ≤ x) (h' : x < 256) : IntKind.u8.wrap x = x := by
  rw [IntKind.wrap_u8]; omega
theorem wrap_u64_id (x : Int) (h : 0 ≤ x) (h' : x < 18446744073709551616) : IntKind.u64.wrap x = x := by
  rw [IntKind.wrap_u64]; omega
theorem wrap_i64_id (x : Int) (h : -9223372036854775808 ≤ x) (h' : x < 9223372036854775808) : IntKind.i64.wrap x = x := by
  rw [IntKind.wrap_i64]; omega
theorem u8_of (n : Nat) (h : n < 256) : ((UInt8.ofNat n).toNat : Int) = n := by
  have : (UInt8.ofNat n).toNat = n % 256 := UInt8.toNat_ofNat'
  omega

/-- What can be read behind a slice's address. -/
def BsR (H : Heap) (a : Option Addr) (l : List UInt8) : Prop :=
  l = [] ∨ ∃ b o, a = some ⟨b, o, none⟩ ∧ ∀ j (h : j < l.length), cellB H b (o + j) = some (bv l[j])

theorem BsR.nil (H : Heap) (a : Option Addr) : BsR H a [] := .inl rfl
theorem BsR.ext {H H' : Heap} {a : Option Addr} {l : List UInt8} (h : BsR H a l) (hf : Fr [] H H') : BsR H' a l := by
  rcases h with h | ⟨b, o, h1, h2⟩
  · exact .inl h
  · exact .inr ⟨b, o, h1, fun j hj => cellB_fr (h2 j hj) hf (by simp)⟩
/-- Behind writes to blocks that it does not lie in. -/
theorem BsR.fr {M : List Nat} {H H' : Heap} {a : Option Addr} {l : List UInt8} (h : BsR H a l) (hf : Fr M H H') (hm : ∀ b o, a = some ⟨b, o, none⟩ → b ∉ M) : BsR H' a l := by
  rcases h with h | ⟨b, o, h1, h2⟩
  · exact .inl h
  · exact .inr ⟨b, o, h1, fun j hj => cellB_fr (h2 j hj) hf (hm b o h1)⟩
theorem BsR.take {H : Heap} {a : Option Addr} {l : List UInt8} (h : BsR H a l) (n : Nat) : BsR H a (l.take n) := by
  rcases h with h | ⟨b, o, h1, h2⟩
  · subst h; simp [BsR]
  · refine .inr ⟨b, o, h1, fun j hj => ?_⟩
    simp only [List.length_take] at hj
    rw [h2 j (by omega)]; simp
theorem BsR.drop {H : Heap} {a : Option Addr} {l : List UInt8} (h : BsR H a l) (n : Nat) : BsR H (a.map (·.add n)) (l.drop n) := by
  rcases h with h | ⟨b, o, h1, h2⟩
  · subst h; simp [BsR]
  · refine .inr ⟨b, o + n, by simp [h1, add_mk], fun j hj => ?_⟩
    simp only [List.length_drop] at hj
    rw [show o + n + j = o + (n + j) by omega, h2 (n + j) (by omega)]; simp

theorem BsR.src {P : Program} {H : Heap} {a : Option Addr} {l : List UInt8} {tx e c : Nat} (hk : P.underlying tx = some (.slice e)) (h : BsR H a l) : SrcH P H 1 tx (.slice a l.length c) l.length (l.map bv) := by
  rcases h with h | ⟨b, o, h1, h2⟩
  · subst h; exact SrcH.empty hk a c
  · subst h1
    refine SrcH.cells hk (by simp) (fun j u hj => ?_) (by simp)
    have hlt : j < l.length := by
      rcases Nat.lt_or_ge j l.length with h | h
      · exact h
      · rw [List.getElem?_eq_none (by simpa using h)] at hj; cases hj
    rw [add_mk, cellAt_mk, h2 j hlt]
    simp [hlt] at hj; rw [hj]

theorem Own.bsR {H : Heap} {a : Option Addr} {c : Nat} {l : List UInt8} {e : Nat} {g : Option Nat} (h : Own H e 1 (.slice a l.length c) l.length (l.map bv) g) : BsR H a l := by
  rcases h.2 with ⟨h1, h2, h3⟩ | ⟨b, cap, cur, h1, h2, h3, h4, h5, h6, h7⟩
  · exact .inl (List.eq_nil_of_length_eq_zero h3)
  · refine .inr ⟨b, 0, by simp at h2; exact h2.1, fun j hj => ?_⟩
    subst h1
    rw [Nat.zero_add, h.cell j (by simpa using hj)]
    simp [hj]

/-- The string of the bytes behind a slice. -/
theorem BsR.b2s {H : Heap} {a : Option Addr} {l : List UInt8} (c : Nat) (h : BsR H a l) : b2sN H (some (.slice a l.length c)) = some (.string ⟨⟨l⟩⟩) := by
  have key : ∀ (k : List UInt8) (b o i : Nat), (∀ j (h : j < k.length), cellB H b (o + i + j) = some (bv k[j])) → bytesFrom H ⟨b, o, none⟩ i k.length = some k := by
    intro k
    induction k with
    | nil => intro b o i _; rfl
    | cons x k ih =>
      intro b o i hc
      simp only [List.length_cons, bytesFrom, add_mk, cellAt_mk]
      have h0 := hc 0 (by simp)
      simp only [Nat.add_zero, List.getElem_cons_zero] at h0
      rw [h0, ih b o (i + 1) (fun j hj => by have := hc (j + 1) (by simpa using hj); simpa [Nat.add_assoc, Nat.add_comm 1 j] using this)]
      simp [bv]
  rcases h with h | ⟨b, o, h1, h2⟩
  · subst h; cases a <;> rfl
  · subst h1
    simp only [b2sN]
    rw [key l b o 0 (by simpa using h2)]

theorem Own.cap_le {H : Heap} {e z n c : Nat} {a : Option Addr} {xs : List Value} {g : Option Nat} (h : Own H e z (.slice a n c) n xs g) : n ≤ c := by
  rcases h.2 with ⟨_, h2, _⟩ | ⟨b, cap, cur, h1, h2, h3, h4, _⟩
  · simp at h2; omega
  · simp at h2; omega
theorem BsR.sub {H : Heap} {a : Option Addr} {l : List UInt8} (h : BsR H a l) (c : Nat) {lo hi : Nat} (hc : lo ≤ hi ∧ hi ≤ c) : BsR H (if c = lo then a else Option.map (fun x => x.add lo) a) ((l.drop lo).take (hi - lo)) := by
  by_cases e : c = lo
  · rw [show hi - lo = 0 by omega]; exact .inl rfl
  · rw [if_neg e]; exact (h.drop lo).take _

end Gx
