/- The CRC-32 as a law of bits. -/
import Derived.Test.YtdhlibkdcldioaaGreatGx13
set_option linter.unusedSimpArgs false
set_option linter.unusedVariables false
set_option maxRecDepth 8000
namespace Go.Proofs.YtdhlibkdcldioaaGreat
open Gx Go

abbrev W32 := BitVec 32
def crcP : W32 := 3988292384#32
/-- One bit. -/
def crcT (x : W32) : W32 := (x >>> 1) ^^^ (if x.getLsbD 0 then crcP else 0#32)
def crcN : Nat → W32 → W32
  | 0, x => x
  | n + 1, x => crcN n (crcT x)
def byW (b : UInt8) : W32 := BitVec.ofNat 32 b.toNat
def crcB (s : W32) (b : UInt8) : W32 := crcN 8 (s ^^^ byW b)
def crcS (s : W32) (l : List UInt8) : W32 := l.foldl crcB s
def ones : W32 := BitVec.allOnes 32
def crc (l : List UInt8) : W32 := ~~~ (crcS ones l)
/-- The four bytes of a sum. -/
def le4 (v : W32) : List UInt8 := [UInt8.ofNat (v.toNat % 256), UInt8.ofNat (v.toNat / 256 % 256), UInt8.ofNat (v.toNat / 65536 % 256), UInt8.ofNat (v.toNat / 16777216 % 256)]

theorem crcT_xor (x y : W32) : crcT (x ^^^ y) = crcT x ^^^ crcT y := by
  simp only [crcT, BitVec.ushiftRight_xor_distrib, BitVec.getLsbD_xor]
  cases x.getLsbD 0 <;> cases y.getLsbD 0 <;> simp only [Bool.xor_false, Bool.false_xor, Bool.xor_true, Bool.not_false, Bool.not_true, if_true, if_false, Bool.false_eq_true, BitVec.xor_zero, BitVec.zero_xor]
  · rw [BitVec.xor_assoc]
  · rw [BitVec.xor_assoc, BitVec.xor_assoc, BitVec.xor_comm crcP]
  · rw [BitVec.xor_assoc, ← BitVec.xor_assoc crcP, BitVec.xor_comm crcP, BitVec.xor_assoc (y >>> 1), BitVec.xor_self, BitVec.xor_zero]
theorem crcN_xor : ∀ (n : Nat) (x y : W32), crcN n (x ^^^ y) = crcN n x ^^^ crcN n y
  | 0, _, _ => rfl
  | n + 1, x, y => by simp only [crcN, crcT_xor, crcN_xor n]
theorem crcN_add : ∀ (n m : Nat) (x : W32), crcN (n + m) x = crcN m (crcN n x)
  | 0, m, x => by simp [crcN]
  | n + 1, m, x => by
    rw [show n + 1 + m = (n + m) + 1 by omega]
    simp only [crcN]; exact crcN_add n m _
theorem crcN_succ (n : Nat) (x : W32) : crcN (n + 1) x = crcT (crcN n x) := by rw [crcN_add n 1]; rfl
theorem crcN_zero : ∀ n, crcN n (0#32) = 0#32
  | 0 => rfl
  | n + 1 => by
    have : crcT (0#32) = 0#32 := by decide
    simp only [crcN, this]; exact crcN_zero n

theorem crcT_shl {y : W32} (h : y.getLsbD 31 = false) : crcT (y <<< 1) = y := by
  have h0 : (y <<< 1).getLsbD 0 = false := by simp [BitVec.getLsbD_shiftLeft]
  simp only [crcT, h0, Bool.false_eq_true, if_false, BitVec.xor_zero]
  apply BitVec.eq_of_getLsbD_eq
  intro i hi
  simp only [BitVec.getLsbD_ushiftRight, BitVec.getLsbD_shiftLeft]
  by_cases h31 : i = 31
  · subst h31; rw [h]; simp
  · have : 1 + i < 32 := by omega
    simp [this]
theorem crcN_shl : ∀ (k : Nat) {y : W32}, (∀ i, 32 ≤ i + k → y.getLsbD i = false) → crcN k (y <<< k) = y
  | 0, y, h => by simp [crcN]
  | k + 1, y, h => by
    have e : y <<< (k + 1) = (y <<< k) <<< 1 := by rw [← BitVec.shiftLeft_add]
    rw [e]
    simp only [crcN]
    rw [crcT_shl]
    · exact crcN_shl k fun i hi => h i (by omega)
    · rw [BitVec.getLsbD_shiftLeft]
      by_cases hk : 31 < k
      · simp [hk]
      · simp [h (31 - k) (by omega)]

/-- A byte that comes in later comes in higher. -/
theorem crcB_late (n : Nat) (x : W32) (b : UInt8) (h : n ≤ 24) : crcB (crcN n x) b = crcN (n + 8) (x ^^^ (byW b <<< n)) := by
  have hb : ∀ i, 32 ≤ i + n → (byW b).getLsbD i = false := by
    intro i hi
    simp only [byW, BitVec.getLsbD_ofNat]
    have : b.toNat.testBit i = false := Nat.testBit_lt_two_pow (Nat.lt_of_lt_of_le b.toNat_lt (Nat.pow_le_pow_right (by omega) (show 8 ≤ i by omega)))
    simp [this]
  rw [crcN_add, crcN_xor n, crcN_shl n hb]; rfl

theorem bits8 (v : W32) : v = byW (UInt8.ofNat (v.toNat % 256)) ^^^ (byW (UInt8.ofNat (v.toNat / 256 % 256)) <<< 8) ^^^ (byW (UInt8.ofNat (v.toNat / 65536 % 256)) <<< 16) ^^^ (byW (UInt8.ofNat (v.toNat / 16777216 % 256)) <<< 24) := by
  have hb : ∀ (k i : Nat), (byW (UInt8.ofNat (v.toNat / 2^k % 256))).getLsbD i = (decide (i < 8) && v.getLsbD (k + i)) := by
    intro k i
    have e : (UInt8.ofNat (v.toNat / 2^k % 256)).toNat = v.toNat / 2^k % 2^8 := by simp
    simp only [byW, BitVec.getLsbD_ofNat, e, Nat.testBit_mod_two_pow, Nat.testBit_div_two_pow]
    rw [BitVec.getLsbD, Nat.add_comm i k]
    by_cases h : i < 8
    · simp [h, show i < 32 by omega]
    · simp [h]
  have h0 := hb 0; have h1 := hb 8; have h2 := hb 16; have h3 := hb 24
  simp only [Nat.pow_zero, Nat.div_one, Nat.zero_add, Nat.reducePow] at h0 h1 h2 h3
  apply BitVec.eq_of_getLsbD_eq
  intro i hi
  simp only [BitVec.getLsbD_xor, BitVec.getLsbD_shiftLeft, h0, h1, h2, h3]
  have c : i < 8 ∨ (8 ≤ i ∧ i < 16) ∨ (16 ≤ i ∧ i < 24) ∨ (24 ≤ i) := by omega
  rcases c with c | c | c | c
  · simp [c, hi, show i < 16 by omega, show i < 24 by omega]
  · simp [c, hi, show ¬ i < 8 by omega, show i < 24 by omega, show i - 8 < 8 by omega, show 8 + (i - 8) = i by omega]
  · simp [c, hi, show ¬ i < 8 by omega, show ¬ i < 16 by omega, show ¬ i - 8 < 8 by omega, show i - 16 < 8 by omega, show 16 + (i - 16) = i by omega]
  · simp [c, hi, show ¬ i < 8 by omega, show ¬ i < 16 by omega, show ¬ i < 24 by omega, show ¬ i - 8 < 8 by omega, show ¬ i - 16 < 8 by omega, show i - 24 < 8 by omega, show 24 + (i - 24) = i by omega]

theorem crcS_append (s : W32) (a b : List UInt8) : crcS s (a ++ b) = crcS (crcS s a) b := by simp [crcS]
theorem crcS_le4 (s v : W32) : crcS s (le4 v) = crcN 32 (s ^^^ v) := by
  have e : crcS s (le4 v) = crcB (crcB (crcB (crcB (crcN 0 s) (UInt8.ofNat (v.toNat % 256))) (UInt8.ofNat (v.toNat / 256 % 256))) (UInt8.ofNat (v.toNat / 65536 % 256))) (UInt8.ofNat (v.toNat / 16777216 % 256)) := rfl
  rw [e, crcB_late 0 _ _ (by omega), crcB_late 8 _ _ (by omega), crcB_late 16 _ _ (by omega), crcB_late 24 _ _ (by omega)]
  congr 1
  have hv := bits8 v
  simp only [BitVec.shiftLeft_zero]
  rw [BitVec.xor_assoc, BitVec.xor_assoc, BitVec.xor_assoc]
  congr 1
  rw [BitVec.xor_assoc, BitVec.xor_assoc] at hv
  exact hv.symm
/-- Bytes followed by their own sum. -/
theorem crc_sealed (l : List UInt8) : crc (l ++ le4 (crc l)) = crc [0, 0, 0, 0] := by
  have h1 : crcS ones (l ++ le4 (crc l)) = crcN 32 ones := by
    rw [crcS_append, crcS_le4]
    congr 1
    simp only [crc]
    apply BitVec.eq_of_getLsbD_eq
    intro i hi
    have ho : ones.getLsbD i = true := by simp only [ones, BitVec.getLsbD_allOnes, hi, decide_true]
    rw [BitVec.getLsbD_xor, BitVec.getLsbD_not, ho]
    cases (crcS ones l).getLsbD i <;> simp [hi]
  have h2 : crcS ones [0, 0, 0, 0] = crcN 32 ones := by
    have : le4 0#32 = [0, 0, 0, 0] := by decide
    rw [← this, crcS_le4, BitVec.xor_zero]
  show ~~~ (crcS ones (l ++ le4 (crc l))) = ~~~ (crcS ones [0, 0, 0, 0])
  rw [h1, h2]

theorem byW_xor (a b : UInt8) : byW (a ^^^ b) = byW a ^^^ byW b := by
  apply BitVec.eq_of_toNat_eq
  simp only [byW, BitVec.toNat_ofNat, BitVec.toNat_xor, UInt8.toNat_xor]
  have h1 := a.toNat_lt; have h2 := b.toNat_lt
  have h3 : a.toNat ^^^ b.toNat < 2^8 := Nat.xor_lt_two_pow h1 h2
  rw [Nat.mod_eq_of_lt (by omega), Nat.mod_eq_of_lt (by omega), Nat.mod_eq_of_lt (by omega)]
/-- Three rows of one length. -/
def xor3 : List UInt8 → List UInt8 → List UInt8 → List UInt8
  | a :: as, b :: bs, c :: cs => (a ^^^ b ^^^ c) :: xor3 as bs cs
  | _, _, _ => []
theorem crcS_xor3 : ∀ (a b c : List UInt8) (s t u : W32), a.length = b.length → b.length = c.length → crcS (s ^^^ t ^^^ u) (xor3 a b c) = crcS s a ^^^ crcS t b ^^^ crcS u c
  | [], [], [], s, t, u, _, _ => rfl
  | a :: as, b :: bs, c :: cs, s, t, u, h1, h2 => by
    have e : crcB (s ^^^ t ^^^ u) (a ^^^ b ^^^ c) = crcB s a ^^^ crcB t b ^^^ crcB u c := by
      simp only [crcB, byW_xor]
      rw [← crcN_xor, ← crcN_xor]
      congr 1
      ac_rfl
    have ih := crcS_xor3 as bs cs (crcB s a) (crcB t b) (crcB u c) (by simpa using h1) (by simpa using h2)
    simp only [xor3, crcS, List.foldl_cons] at ih ⊢
    rw [e]; exact ih
  | [], b :: bs, _, _, _, _, h, _ => by simp at h
  | a :: as, [], _, _, _, _, h, _ => by simp at h
  | _, [], c :: cs, _, _, _, _, h => by simp at h
  | _, b :: bs, [], _, _, _, _, h => by simp at h
theorem crc_xor3 {a b c : List UInt8} (h1 : a.length = b.length) (h2 : b.length = c.length) : crc (xor3 a b c) = crc a ^^^ crc b ^^^ crc c := by
  have h : ones = ones ^^^ ones ^^^ ones := by decide
  have k := crcS_xor3 a b c ones ones ones h1 h2
  rw [← h] at k
  simp only [crc, k]
  apply BitVec.eq_of_getLsbD_eq
  intro i hi
  simp only [BitVec.getLsbD_not, BitVec.getLsbD_xor, hi, decide_true, Bool.true_and]
  cases (crcS ones a).getLsbD i <;> cases (crcS ones b).getLsbD i <;> cases (crcS ones c).getLsbD i <;> rfl

end Go.Proofs.YtdhlibkdcldioaaGreat
