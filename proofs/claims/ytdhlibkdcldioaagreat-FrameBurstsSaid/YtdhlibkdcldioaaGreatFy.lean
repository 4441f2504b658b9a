/- A burst of changed bits changes the remainder: plain facts. -/
import Derived.Test.YtdhlibkdcldioaaGreatFa
set_option linter.unusedSimpArgs false
set_option linter.unusedVariables false
set_option maxRecDepth 8000
namespace Go.Proofs.YtdhlibkdcldioaaGreat
open Gx Go

def b2w (b : Bool) : W32 := if b then 1#32 else 0#32
def stB (s : W32) (b : Bool) : W32 := crcT (s ^^^ b2w b)
def bitS (s : W32) (l : List Bool) : W32 := l.foldl stB s
def wbits (k : Nat) (y : W32) : List Bool := (List.range k).map fun i => y.getLsbD i
def lowW (k : Nat) (y : W32) : W32 := (y <<< (32 - k)) >>> (32 - k)
theorem lowW_get {k : Nat} (hk : k ≤ 32) (y : W32) (i : Nat) : (lowW k y).getLsbD i = (decide (i < k) && y.getLsbD i) := by
  simp only [lowW, BitVec.getLsbD_ushiftRight, BitVec.getLsbD_shiftLeft]
  by_cases h : i < k
  · simp [h, show 32 - k + i < 32 by omega]
  · simp [h, show ¬ 32 - k + i < 32 by omega]
theorem b2w_get (b : Bool) (i : Nat) : (b2w b).getLsbD i = (decide (i = 0) && b) := by
  cases b
  · simp [b2w]
  · simp [b2w, BitVec.getLsbD_one]
theorem bitS_append (s : W32) (a b : List Bool) : bitS s (a ++ b) = bitS (bitS s a) b := by simp [bitS]
theorem wbits_succ (k : Nat) (y : W32) : wbits (k + 1) y = wbits k y ++ [y.getLsbD k] := by simp [wbits, List.range_succ]
theorem bitS_wbits : ∀ (k : Nat), k ≤ 32 → ∀ (s y : W32), bitS s (wbits k y) = crcN k (s ^^^ lowW k y)
  | 0, _, s, y => by
    have : lowW 0 y = 0#32 := by
      apply BitVec.eq_of_getLsbD_eq
      intro i _
      rw [lowW_get (by omega)]; simp
    rw [this, BitVec.xor_zero]; rfl
  | k + 1, hk, s, y => by
    have hb : ∀ i, 32 ≤ i + k → (b2w (y.getLsbD k)).getLsbD i = false := by
      intro i hi
      rw [b2w_get]
      simp; omega
    have e : lowW (k + 1) y = lowW k y ^^^ (b2w (y.getLsbD k) <<< k) := by
      apply BitVec.eq_of_getLsbD_eq
      intro i hi
      rw [BitVec.getLsbD_xor, BitVec.getLsbD_shiftLeft, lowW_get (by omega), lowW_get (by omega), b2w_get]
      rcases Nat.lt_trichotomy i k with h | h | h
      · simp [h, show i < k + 1 by omega, hi]
      · subst h; simp [hi]
      · simp [show ¬ i < k + 1 by omega, show ¬ i < k by omega, show ¬ i - k = 0 by omega]
    rw [wbits_succ, bitS_append, bitS_wbits k (by omega), e, ← BitVec.xor_assoc, crcN_succ, crcN_xor k (s ^^^ lowW k y), crcN_shl k hb]
    rfl
def bits8' (b : UInt8) : List Bool := wbits 8 (byW b)
theorem crcB_bits (s : W32) (b : UInt8) : crcB s b = bitS s (bits8' b) := by
  rw [bits8', bitS_wbits 8 (by omega)]
  have : lowW 8 (byW b) = byW b := by
    apply BitVec.eq_of_getLsbD_eq
    intro i hi
    rw [lowW_get (by omega)]
    by_cases h : i < 8
    · simp [h]
    · have h0 : (byW b).getLsbD i = false := by
        simp only [byW, BitVec.getLsbD_ofNat]
        have : b.toNat.testBit i = false := Nat.testBit_lt_two_pow (Nat.lt_of_lt_of_le b.toNat_lt (Nat.pow_le_pow_right (by omega) (show 8 ≤ i by omega)))
        simp [this]
      simp [h, h0]
  rw [this]; rfl
def bitsL (l : List UInt8) : List Bool := l.flatMap bits8'
theorem crcS_bits : ∀ (l : List UInt8) (s : W32), crcS s l = bitS s (bitsL l)
  | [], s => rfl
  | b :: l, s => by
    have e : crcS s (b :: l) = crcS (crcB s b) l := rfl
    rw [e, crcS_bits l, crcB_bits]
    show bitS (bitS s (bits8' b)) (bitsL l) = bitS s (bits8' b ++ bitsL l)
    rw [bitS_append]
theorem bits8_len (b : UInt8) : (bits8' b).length = 8 := by simp [bits8', wbits]
theorem bitsL_len : ∀ l : List UInt8, (bitsL l).length = 8 * l.length
  | [] => rfl
  | b :: l => by
    have := bitsL_len l
    simp only [bitsL, List.flatMap_cons, List.length_append, bits8_len, List.length_cons] at this ⊢; omega

theorem stB_xor (s t : W32) (a b : Bool) : stB (s ^^^ t) (a ^^ b) = stB s a ^^^ stB t b := by
  unfold stB
  rw [← crcT_xor]
  congr 1
  have : b2w (a ^^ b) = b2w a ^^^ b2w b := by cases a <;> cases b <;> decide
  rw [this]; ac_rfl
theorem bitS_xor : ∀ (a b : List Bool) (s t : W32), a.length = b.length → bitS (s ^^^ t) (List.zipWith xor a b) = bitS s a ^^^ bitS t b
  | [], [], s, t, _ => rfl
  | x :: a, y :: b, s, t, h => by
    have := bitS_xor a b (stB s x) (stB t y) (by simpa using h)
    simp only [bitS, List.zipWith_cons_cons, List.foldl_cons] at this ⊢
    rw [show stB (s ^^^ t) (xor x y) = stB s x ^^^ stB t y from stB_xor s t x y]
    exact this
  | [], _ :: _, _, _, h => by simp at h
  | _ :: _, [], _, _, h => by simp at h
theorem bitS_zeros : ∀ (n : Nat) (s : W32), bitS s (List.replicate n false) = crcN n s
  | 0, s => rfl
  | n + 1, s => by
    have := bitS_zeros n (crcT s)
    simp only [bitS, List.replicate_succ, List.foldl_cons, crcN] at this ⊢
    rw [show stB s false = crcT s by simp [stB, b2w]]; exact this
theorem crcT_zero {x : W32} (h : crcT x = 0#32) : x = 0#32 := by
  have h31 : (x >>> 1).getLsbD 31 = false := by simp [BitVec.getLsbD_ushiftRight]
  cases h0 : x.getLsbD 0 with
  | true =>
    have := congrArg (fun y : W32 => y.getLsbD 31) h
    simp only [crcT, h0, if_true, BitVec.getLsbD_xor, h31] at this
    have e : crcP.getLsbD 31 = true := by decide
    rw [e] at this
    simp at this
  | false =>
    simp only [crcT, h0, Bool.false_eq_true, if_false, BitVec.xor_zero] at h
    apply BitVec.eq_of_getLsbD_eq
    intro i hi
    cases i with
    | zero => rw [h0]; simp
    | succ i =>
      have := congrArg (fun y : W32 => y.getLsbD i) h
      simp only [BitVec.getLsbD_ushiftRight] at this
      rw [Nat.add_comm i 1, this]; simp
theorem crcN_eq_zero : ∀ (n : Nat) {x : W32}, crcN n x = 0#32 → x = 0#32
  | 0, x, h => h
  | n + 1, x, h => crcT_zero (crcN_eq_zero n h)
theorem crcN_inj (n : Nat) {x y : W32} (h : crcN n x = crcN n y) : x = y := by
  have h1 : crcN n (x ^^^ y) = 0#32 := by rw [crcN_xor, h, BitVec.xor_self]
  have h2 := crcN_eq_zero n h1
  have : x ^^^ y ^^^ y = y := by rw [h2, BitVec.zero_xor]
  rwa [BitVec.xor_assoc, BitVec.xor_self, BitVec.xor_zero] at this

/-- Some of 32 bits flipped. -/
def flips (bs : List Bool) (at_ : Nat) (w : W32) : Nat → List Bool
  | 0 => bs
  | i + 1 => if w.getLsbD i then (flips bs at_ w i).modify (at_ + i) not else flips bs at_ w i
theorem flips_len (bs : List Bool) (at_ : Nat) (w : W32) : ∀ i, (flips bs at_ w i).length = bs.length
  | 0 => rfl
  | i + 1 => by
    simp only [flips]
    split <;> simp [flips_len bs at_ w i]
theorem flips_get (bs : List Bool) (at_ : Nat) (w : W32) : ∀ (i k : Nat), (flips bs at_ w i)[k]? = bs[k]?.map fun x => x ^^ (decide (at_ ≤ k) && decide (k < at_ + i) && w.getLsbD (k - at_))
  | 0, k => by
    have : (decide (at_ ≤ k) && decide (k < at_ + 0) && w.getLsbD (k - at_)) = false := by
      rcases Nat.lt_or_ge k at_ with h | h
      · simp [show ¬ at_ ≤ k by omega]
      · simp [show ¬ k < at_ by omega]
    rw [this]; simp [flips]
  | i + 1, k => by
    have ih := flips_get bs at_ w i k
    have key : ((decide (at_ ≤ k) && decide (k < at_ + (i + 1)) && w.getLsbD (k - at_))) = ((decide (at_ ≤ k) && decide (k < at_ + i) && w.getLsbD (k - at_)) ^^ (decide (k = at_ + i) && w.getLsbD i)) := by
      rcases Nat.lt_trichotomy k (at_ + i) with h | h | h
      · simp [h, show k < at_ + (i + 1) by omega, show ¬ k = at_ + i by omega]
      · subst h; simp
      · simp [show ¬ k < at_ + i by omega, show ¬ k < at_ + (i + 1) by omega, show ¬ k = at_ + i by omega]
    rw [key]
    simp only [flips]
    cases hw : w.getLsbD i
    · simp only [Bool.false_eq_true, if_false, Bool.and_false, Bool.xor_false]; exact ih
    · simp only [if_true, Bool.and_true]
      rw [List.getElem?_modify, ih]
      by_cases e : at_ + i = k
      · simp only [e, decide_true]
        cases bs[k]? with
        | none => rfl
        | some x => simp
      · simp only [e, if_false]
        have : ¬ k = at_ + i := fun h => e h.symm
        simp only [this, decide_false, Bool.xor_false]
        cases bs[k]? <;> rfl
theorem flips_zip {bs : List Bool} {at_ : Nat} (w : W32) (h : at_ + 32 ≤ bs.length) : flips bs at_ w 32 = List.zipWith xor bs (List.replicate at_ false ++ (wbits 32 w ++ List.replicate (bs.length - at_ - 32) false)) := by
  apply List.ext_getElem?
  intro k
  rw [flips_get, List.getElem?_zipWith]
  rcases Nat.lt_or_ge k bs.length with hk | hk
  · rw [List.getElem?_eq_getElem hk]
    simp only [Option.map_some]
    have : (List.replicate at_ false ++ (wbits 32 w ++ List.replicate (bs.length - at_ - 32) false))[k]? = some (decide (at_ ≤ k) && decide (k < at_ + 32) && w.getLsbD (k - at_)) := by
      rcases Nat.lt_or_ge k at_ with h1 | h1
      · rw [List.getElem?_append_left (by simpa using h1)]
        simp [List.getElem?_replicate, h1, show ¬ at_ ≤ k by omega]
      · rw [List.getElem?_append_right (by simpa using h1), List.length_replicate]
        rcases Nat.lt_or_ge k (at_ + 32) with h2 | h2
        · rw [List.getElem?_append_left (by simp [wbits]; omega)]
          simp [wbits, h1, h2, show k - at_ < 32 by omega]
        · rw [List.getElem?_append_right (by simp [wbits]; omega)]
          simp [wbits, List.getElem?_replicate, h1, show ¬ k < at_ + 32 by omega]
          omega
    rw [this]
  · rw [List.getElem?_eq_none hk]; rfl
/-- The remainder of what a burst has changed. -/
theorem burst_ne {b c : List UInt8} {at_ : Nat} {w : W32} (hw : w ≠ 0#32) (h : at_ + 32 ≤ 8 * b.length) (hc : bitsL c = flips (bitsL b) at_ w 32) : crcS ones c ≠ crcS ones b := by
  intro he
  have hl := bitsL_len b
  rw [crcS_bits, crcS_bits b, hc, flips_zip w (by omega)] at he
  have h1 := bitS_xor (bitsL b) (List.replicate at_ false ++ (wbits 32 w ++ List.replicate ((bitsL b).length - at_ - 32) false)) ones 0#32 (by simp [wbits]; omega)
  rw [BitVec.xor_zero] at h1
  rw [h1, bitS_append, bitS_zeros, crcN_zero, bitS_append, bitS_wbits 32 (by omega), BitVec.zero_xor, bitS_zeros] at he
  have h2 : lowW 32 w = w := by
    apply BitVec.eq_of_getLsbD_eq
    intro i hi
    rw [lowW_get (by omega)]; simp [hi]
  rw [h2] at he
  have h3 : crcN ((bitsL b).length - at_ - 32) (crcN 32 w) = 0#32 := by
    have : bitS ones (bitsL b) ^^^ (bitS ones (bitsL b) ^^^ crcN ((bitsL b).length - at_ - 32) (crcN 32 w)) = bitS ones (bitsL b) ^^^ bitS ones (bitsL b) := by rw [he]
    rwa [← BitVec.xor_assoc, BitVec.xor_self, BitVec.zero_xor] at this
  exact hw (crcN_eq_zero 32 (crcN_eq_zero _ h3))

/-- A byte with one bit flipped. -/
def flipB (x : UInt8) (r : Nat) : UInt8 := UInt8.ofNat (x.toNat ^^^ 2^r)
theorem flipB_fin : ∀ x : Fin 256, ∀ r : Fin 8, bits8' (flipB (UInt8.ofNat x.val) r.val) = (bits8' (UInt8.ofNat x.val)).modify r.val not := by decide +kernel
theorem flipB_bits (x : UInt8) {r : Nat} (hr : r < 8) : bits8' (flipB x r) = (bits8' x).modify r not := by
  have := flipB_fin ⟨x.toNat, x.toNat_lt⟩ ⟨r, hr⟩
  simpa using this
theorem mod_left (a b : List Bool) (n : Nat) (f : Bool → Bool) (h : n < a.length) : (a ++ b).modify n f = a.modify n f ++ b := by
  apply List.ext_getElem?
  intro k
  rw [List.getElem?_modify]
  rcases Nat.lt_or_ge k a.length with h1 | h1
  · rw [List.getElem?_append_left h1, List.getElem?_append_left (by simpa using h1), List.getElem?_modify]
  · rw [List.getElem?_append_right h1, List.getElem?_append_right (by simpa using h1), List.length_modify]
    have : n ≠ k := by omega
    simp [this]
theorem mod_right (a b : List Bool) (n : Nat) (f : Bool → Bool) (h : a.length ≤ n) : (a ++ b).modify n f = a ++ b.modify (n - a.length) f := by
  apply List.ext_getElem?
  intro k
  rw [List.getElem?_modify]
  rcases Nat.lt_or_ge k a.length with h1 | h1
  · rw [List.getElem?_append_left h1, List.getElem?_append_left h1]
    have : n ≠ k := by omega
    simp [this]
  · rw [List.getElem?_append_right h1, List.getElem?_append_right h1, List.getElem?_modify]
    by_cases e : n = k
    · subst e; simp
    · simp [e, show ¬ n - a.length = k - a.length by omega]
theorem bitsL_flip : ∀ (l : List UInt8) (q r : Nat) (x : UInt8), l[q]? = some x → r < 8 → bitsL (l.set q (flipB x r)) = (bitsL l).modify (8 * q + r) not
  | [], q, r, x, h, _ => by simp at h
  | y :: l, 0, r, x, h, hr => by
    simp at h; subst h
    simp only [List.set_cons_zero, bitsL, List.flatMap_cons, flipB_bits _ hr]
    rw [mod_left _ _ _ _ (by rw [bits8_len]; omega), Nat.mul_zero, Nat.zero_add]
  | y :: l, q + 1, r, x, h, hr => by
    have ih := bitsL_flip l q r x (by simpa using h) hr
    simp only [List.set_cons_succ, bitsL, List.flatMap_cons] at ih ⊢
    rw [mod_right _ _ _ _ (by rw [bits8_len]; omega), bits8_len, ih, show 8 * (q + 1) + r - 8 = 8 * q + r by omega]

/-- Which four bytes are the sum of what stands before them. -/
theorem le4_bits (v : W32) : crcS 0#32 (le4 v) = crcN 32 v := by rw [crcS_le4, BitVec.zero_xor]
theorem sealed_iff (l : List UInt8) (v : W32) : crcS ones (l ++ le4 v) = crcN 32 ones ↔ v = crc l := by
  rw [crcS_append, crcS_le4]
  constructor
  · intro h
    have h1 := crcN_inj 32 h
    apply BitVec.eq_of_getLsbD_eq
    intro i hi
    have := congrArg (fun y : W32 => y.getLsbD i) h1
    have ho : ones.getLsbD i = true := by simp only [ones, BitVec.getLsbD_allOnes, hi, decide_true]
    simp only [BitVec.getLsbD_xor, ho] at this
    simp only [crc, BitVec.getLsbD_not, hi, decide_true, Bool.true_and]
    revert this
    cases (crcS ones l).getLsbD i <;> cases v.getLsbD i <;> simp
  · rintro rfl
    congr 1
    simp only [crc]
    apply BitVec.eq_of_getLsbD_eq
    intro i hi
    have ho : ones.getLsbD i = true := by simp only [ones, BitVec.getLsbD_allOnes, hi, decide_true]
    rw [BitVec.getLsbD_xor, BitVec.getLsbD_not, ho]
    cases (crcS ones l).getLsbD i <;> simp [hi]
/-- Four bytes as a number. -/
def ofLe (a b c d : UInt8) : W32 := byW a ^^^ (byW b <<< 8) ^^^ (byW c <<< 16) ^^^ (byW d <<< 24)
end Go.Proofs.YtdhlibkdcldioaaGreat
