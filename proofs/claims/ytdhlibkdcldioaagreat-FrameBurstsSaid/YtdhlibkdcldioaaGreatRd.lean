/- The Reader of package wire: contracts. -/
import Derived.Test.YtdhlibkdcldioaaGreatWr
set_option linter.unusedSimpArgs false
set_option linter.unusedVariables false
set_option maxRecDepth 8000
namespace Go.Proofs.YtdhlibkdcldioaaGreat
open Gx Go

/-- The number at the head of these bytes, and how many bytes it takes; `i` groups have been read, of the value `n`. -/
def numG : Nat → Nat → List UInt8 → Option (Nat × Nat)
  | _, _, [] => none
  | i, n, b :: r =>
    if 10 ≤ i then none
    else if i = 9 ∧ 1 < b.toNat then none
    else if b.toNat < 128 then (if b.toNat ≠ 0 ∨ i = 0 then some (n + (b.toNat % 128) * 2^(7*i), i + 1) else none)
    else numG (i + 1) (n + (b.toNat % 128) * 2^(7*i)) r
def num (l : List UInt8) : Option (Nat × Nat) := numG 0 0 l

theorem numG_bound : ∀ (l : List UInt8) (i n : Nat) {v k : Nat}, numG i n l = some (v, k) → n < 2^(7*i) → i ≤ 9 → v < 2^64 ∧ i < k ∧ k ≤ i + l.length ∧ k ≤ 10
  | [], i, n, v, k, h, _, _ => by simp [numG] at h
  | b :: r, i, n, v, k, h, hn, hi => by
    simp only [numG] at h
    rw [if_neg (by omega)] at h
    split at h
    · cases h
    · rename_i h9
      have hb : b.toNat % 128 < 128 := Nat.mod_lt _ (by decide)
      have hpow : n + (b.toNat % 128) * 2^(7*i) < 2^(7*(i+1)) := by
        have e : 2^(7*(i+1)) = 128 * 2^(7*i) := by rw [Nat.mul_add, Nat.pow_add, Nat.mul_comm]
        rw [e]
        have : (b.toNat % 128) * 2^(7*i) ≤ 127 * 2^(7*i) := Nat.mul_le_mul_right _ (by omega)
        omega
      split at h
      · split at h
        · simp at h; obtain ⟨rfl, rfl⟩ := h
          refine ⟨?_, by omega, by simp, by omega⟩
          rcases Nat.lt_or_ge i 9 with h' | h'
          · exact Nat.lt_of_lt_of_le hpow (Nat.pow_le_pow_right (by decide) (by omega))
          · have : i = 9 := by omega
            subst this
            have hb1 : b.toNat ≤ 1 := by
              rcases Nat.lt_or_ge 1 b.toNat with h | h
              · exact absurd ⟨rfl, h⟩ h9
              · exact h
            have : b.toNat % 128 ≤ 1 := by omega
            have : (b.toNat % 128) * 2^(7*9) ≤ 1 * 2^(7*9) := Nat.mul_le_mul_right _ this
            have e2 : (2:Nat)^(7*9) + 2^(7*9) = 2^64 := by decide
            omega
        · cases h
      · have hlt : i < 9 := by
          rcases Nat.lt_or_ge i 9 with h' | h'
          · exact h'
          · have : i = 9 := by omega
            subst this
            exact absurd ⟨rfl, by omega⟩ h9
        obtain ⟨h1, h2, h3, h4⟩ := numG_bound r (i + 1) _ h hpow (by omega)
        exact ⟨h1, by omega, by simp; omega, h4⟩

theorem num_bound {l : List UInt8} {v k : Nat} (h : num l = some (v, k)) : v < 2^64 ∧ 0 < k ∧ k ≤ l.length ∧ k ≤ 10 := by
  obtain ⟨h1, h2, h3, h4⟩ := numG_bound l 0 0 h (by decide) (by decide)
  exact ⟨h1, h2, by rw [Nat.zero_add] at h3; exact h3, h4⟩

theorem bits_or_u64 (x y : Nat) (hx : x < 2^64) (hy : y < 2^64) : bits .or .u64 (x : Int) (y : Int) = ((x ||| y : Nat) : Int) := by
  have hx' : (BitVec.ofInt 64 (x : Int)).toNat = x := by rw [BitVec.toNat_ofInt]; omega
  have hy' : (BitVec.ofInt 64 (y : Int)).toNat = y := by rw [BitVec.toNat_ofInt]; omega
  have e : (BitVec.ofInt 64 (x : Int) ||| BitVec.ofInt 64 (y : Int)).toNat = x ||| y := by rw [BitVec.toNat_or, hx', hy']
  have hlt : x ||| y < 2^64 := Nat.or_lt_two_pow hx hy
  show IntKind.u64.wrap ((BitVec.ofInt 64 (x : Int) ||| BitVec.ofInt 64 (y : Int)).toNat : Int) = _
  rw [e, wrap_u64_id _ (by omega) (by omega)]

theorem and127 : ∀ x : Fin 256, bits .and .u8 (x.val : Int) 127 = ((x.val % 128 : Nat) : Int) := by decide +kernel

/-- One group more. -/
theorem group_step (n i : Nat) (b : UInt8) (hi : i ≤ 9) (hn : n < 2^(7*i)) (h9 : i = 9 → b.toNat ≤ 1) :
    bits .or .u64 (n : Int) (shlI .u64 (IntKind.u64.wrap (bits .and .u8 (b.toNat : Int) 127)) (IntKind.i64.wrap (7 * (i : Int)))) = ((n + (b.toNat % 128) * 2^(7*i) : Nat) : Int) := by
  have e1 := and127 ⟨b.toNat, b.toNat_lt⟩
  simp only at e1
  have hb : b.toNat % 128 < 128 := Nat.mod_lt _ (by decide)
  have hlt : (b.toNat % 128) * 2^(7*i) < 2^64 := by
    rcases Nat.lt_or_ge i 9 with h' | h'
    · have : (b.toNat % 128) * 2^(7*i) < 128 * 2^(7*i) := Nat.mul_lt_mul_of_pos_right hb (Nat.pow_pos (by decide))
      have e : 2^(7*(i+1)) = 128 * 2^(7*i) := by rw [Nat.mul_add, Nat.pow_add, Nat.mul_comm]
      have : 2^(7*(i+1)) ≤ 2^64 := Nat.pow_le_pow_right (by decide) (by omega)
      omega
    · have : i = 9 := by omega
      subst this
      have := h9 rfl
      have : (b.toNat % 128) * 2^(7*9) ≤ 1 * 2^(7*9) := Nat.mul_le_mul_right _ (by omega)
      have e2 : (1:Nat) * 2^(7*9) < 2^64 := by decide
      exact Nat.lt_of_le_of_lt this e2
  rw [e1, wrap_u64_id _ (by omega) (by omega), wrap_i64_id _ (by omega) (by omega)]
  have e2 : shlI .u64 ((b.toNat % 128 : Nat) : Int) (7 * (i : Int)) = (((b.toNat % 128) * 2^(7*i) : Nat) : Int) := by
    rw [show (7 * (i : Int)) = ((7 * i : Nat) : Int) by omega, shlI_eq _ _ (by show 7 * i ≤ 64; omega)]
    rw [show ((b.toNat % 128 : Nat) : Int) * 2 ^ (7 * i) = (((b.toNat % 128) * 2^(7*i) : Nat) : Int) by simp]
    exact wrap_u64_id _ (by omega) (by omega)
  rw [e2, bits_or_u64 _ _ (Nat.lt_of_lt_of_le hn (Nat.pow_le_pow_right (by decide) (by omega))) hlt, Nat.or_comm, ← Nat.shiftLeft_eq, ← Nat.shiftLeft_add_eq_or_of_lt hn, Nat.add_comm]

/-- A Reader at a block. -/
def RdB (H : Heap) (b : Nat) (l : List UInt8) (at_ item err : Nat) (g : Option Nat) : Prop :=
  ∃ a c, Blk H b 193 [.slice a l.length c, .int .i64 at_, .int .i64 item, .int .i64 err] ∧ Own H 5 1 (.slice a l.length c) l.length (l.map bv) g ∧ at_ ≤ l.length ∧ item ≤ at_ ∧ l.length < 2^40
def Rd (H : Heap) (b : Nat) (l : List UInt8) (at_ err : Nat) (g : Option Nat) : Prop := ∃ item, RdB H b l at_ item err g

theorem RdB.upd {H H' : Heap} {b : Nat} {l : List UInt8} {at_ item err : Nat} {g : Option Nat} {a : Option Addr} {c : Nat} {x : List Value} (hb : Blk H b 193 x) (ho : Own H 5 1 (.slice a l.length c) l.length (l.map bv) g)
    (hb3 : Blk H' b 193 [.slice a l.length c, .int .i64 at_, .int .i64 item, .int .i64 err]) (hf : Fr [b] H H') (h1 : at_ ≤ l.length) (h2 : item ≤ at_) (h3 : l.length < 2^40) : RdB H' b l at_ item err g :=
  ⟨a, c, hb3, ho.fr hf (fun k hk hm => ho.ne hb (by decide) (by simp at hm; subst hm; simp [hk])), h1, h2, h3⟩

theorem Rd.fr {M : List Nat} {H H' : Heap} {b : Nat} {l : List UInt8} {at_ err : Nat} {g : Option Nat} (h : Rd H b l at_ err g) (hf : Fr M H H') (hb : b ∉ M) (hg : ∀ k, g = some k → k ∉ M) : Rd H' b l at_ err g := by
  obtain ⟨item, a, c, h1, h2, h3⟩ := h
  exact ⟨item, a, c, h1.fr hf hb, h2.fr hf hg, h3⟩
theorem Rd.lt {H : Heap} {b : Nat} {l : List UInt8} {at_ err : Nat} {g : Option Nat} (h : Rd H b l at_ err g) : b < H.size := by
  obtain ⟨item, a, c, h1, h2, h3⟩ := h
  exact h1.lt
theorem Rd.ltg {H : Heap} {b : Nat} {l : List UInt8} {at_ err : Nat} {g : Option Nat} (h : Rd H b l at_ err g) {k : Nat} (hk : g = some k) : k < H.size := by
  obtain ⟨item, a, c, h1, h2, h3⟩ := h
  exact h2.lt hk

theorem number_ok {H : Heap} {b : Nat} {l : List UInt8} {at_ item err : Nat} {g : Option Nat} (h : RdB H b l at_ item err g) :
    HCalls Tryz.prog 152 #[.pointer (some ⟨b, 0, none⟩)] H fun v H' => H' = H ∧ ∃ n next : Nat, ∃ ok, v = .tuple #[.int .u64 n, .int .i64 next, .bool ok] ∧
      (ok = (num (l.drop at_)).isSome) ∧ (∀ m k, num (l.drop at_) = some (m, k) → n = m ∧ next = at_ + k) := by
  obtain ⟨a, c, hb, ho, hat, hit, hl⟩ := h
  have hc := hb.cell
  refine calls_of_vc (args := [_]) Tryz.func152 c152ok (Nat.le_of_ble_eq_true rfl) ?_
  simp (implicitDefEqProofs := false) only [go_sem, c152]
  refine vc_loop (fun ((n, i) : Nat × Nat) H' => H' = H ∧ i ≤ 10 ∧ n < 2^(7*i) ∧ at_ + i ≤ l.length ∧ numG i n (l.drop (at_ + i)) = num (l.drop at_))
    (fun (n, i) => [(0, .pointer (some ⟨b, 0, none⟩)), (2, .int .u64 n), (7, .int .i64 i)]) (fun (_, i) => 10 - i) (0, 0) ?_ ?_ ?_
  · exact ⟨rfl, by decide, by decide, by omega, rfl⟩
  · simp (implicitDefEqProofs := false) only [go_sem]
    try exact ⟨rfl, rfl⟩
  · rintro ⟨n, i⟩ H' ⟨rfl, hi, hn, hai, hnum⟩
    rcases Nat.lt_or_ge i 10 with hlt | hge
    · have hlt' : (i : Int) < 10 := by omega
      have hw : IntKind.i64.wrap ((at_ : Int) + (i : Int)) = ((at_ + i : Nat) : Int) := by rw [wrap_i64_id _ (by omega) (by omega)]; omega
      have hw1 : IntKind.i64.wrap ((i : Int) + 1) = ((i + 1 : Nat) : Int) := by rw [wrap_i64_id _ (by omega) (by omega)]; omega
      have hw2 : IntKind.i64.wrap (((at_ + i : Nat) : Int) + 1) = ((at_ + (i + 1) : Nat) : Int) := by rw [wrap_i64_id _ (by omega) (by omega)]; omega
      rcases Nat.lt_or_ge (at_ + i) l.length with hin | hout
      · obtain ⟨b', o, rfl, hcl⟩ := ho.bsR.resolve_left (by rintro rfl; simp at hin)
        have hin' : ¬ (l.length : Int) ≤ ((at_ + i : Nat) : Int) := by omega
        have hcj := hcl (at_ + i) hin
        have hdrop : l.drop (at_ + i) = l[at_ + i] :: l.drop (at_ + (i + 1)) := by rw [List.drop_eq_getElem_cons hin]; rfl
        rw [hdrop, numG, if_neg (by omega)] at hnum
        generalize l[at_ + i] = x at *
        have h9q : ((bif decide ((i : Int) = 9) then decide (1 < (x.toNat : Int)) else false) = true) ↔ (i = 9 ∧ 1 < x.toNat) := by
          by_cases h : i = 9
          · subst h; simp; omega
          · have : ¬ ((i : Int) = 9) := by omega
            simp [h, this]
        simp (implicitDefEqProofs := false) only [go_sem, hc, hlt', hw, hw1, hw2, hin', hcj, bv]
        refine ⟨by omega, fun h => ?_, fun h => ⟨?_, fun hs => ?_, fun hs => ?_⟩⟩
        · rw [if_pos (h9q.mp h)] at hnum
          refine ⟨0, 0, _, rfl, by rw [← hnum]; rfl, by rw [← hnum]; intro _ _ h; cases h⟩
        · rw [wrap_i64_id _ (by omega) (by omega)]; omega
        · have hn9 : ¬ (i = 9 ∧ 1 < x.toNat) := fun q => by rw [h9q.mpr q] at h; cases h
          rw [if_neg hn9, if_pos (by omega)] at hnum
          rw [group_step n i x (by omega) hn (fun q => by rcases Nat.lt_or_ge 1 x.toNat with h | h; exact absurd ⟨q, h⟩ hn9; exact h)]
          refine ⟨_, _, _, rfl, ?_, ?_⟩
          · rw [← hnum]
            by_cases q : x.toNat ≠ 0 ∨ i = 0
            · rw [if_pos q]
              rcases Nat.eq_zero_or_pos x.toNat with hx | hx
              · have : i = 0 := by omega
                simp [hx, this]
              · simp; omega
            · rw [if_neg q]
              have h1 : x.toNat = 0 := by omega
              have h2 : ¬ i = 0 := by omega
              simp [h1, h2]
          · intro m k hm
            rw [← hnum] at hm
            split at hm
            · simp at hm; exact ⟨hm.1, by omega⟩
            · cases hm
        · have hn9 : ¬ (i = 9 ∧ 1 < x.toNat) := fun q => by rw [h9q.mpr q] at h; cases h
          rw [if_neg hn9, if_neg (by omega)] at hnum
          have h9' : i = 9 → x.toNat ≤ 1 := fun q => by rcases Nat.lt_or_ge 1 x.toNat with h | h; exact absurd ⟨q, h⟩ hn9; exact h
          rw [group_step n i x (by omega) hn h9']
          have hb' : x.toNat % 128 < 128 := Nat.mod_lt _ (by decide)
          have hpow : n + (x.toNat % 128) * 2^(7*i) < 2^(7*(i+1)) := by
            have e : 2^(7*(i+1)) = 128 * 2^(7*i) := by rw [Nat.mul_add, Nat.pow_add, Nat.mul_comm]
            rw [e]
            have : (x.toNat % 128) * 2^(7*i) ≤ 127 * 2^(7*i) := Nat.mul_le_mul_right _ (by omega)
            omega
          refine loopK_intro (n + (x.toNat % 128) * 2^(7*i), i + 1) ?_ ?_ ?_
          · show 10 - (i + 1) < 10 - i
            omega
          · simp (implicitDefEqProofs := false) only [go_sem]
          · exact ⟨rfl, by show i + 1 ≤ 10; omega, hpow, by show at_ + (i + 1) ≤ _; omega, hnum⟩
      · have hout' : (l.length : Int) ≤ ((at_ + i : Nat) : Int) := by omega
        rw [List.drop_eq_nil_of_le hout, numG] at hnum
        simp (implicitDefEqProofs := false) only [go_sem, hc, hlt', hw, hout']
        exact ⟨0, 0, _, rfl, by rw [← hnum]; rfl, by rw [← hnum]; intro _ _ h; cases h⟩
    · have hge' : ¬ (i : Int) < 10 := by omega
      have : i = 10 := by omega
      subst this
      have hnn : num (l.drop at_) = none := by
        rw [← hnum]; cases l.drop (at_ + 10) <;> simp [numG]
      simp (implicitDefEqProofs := false) only [go_sem, hc, hge', hnn]
      exact ⟨0, 0, false, rfl, rfl⟩

theorem begin_ok {H : Heap} {b : Nat} {l : List UInt8} {at_ item err : Nat} {g : Option Nat} (h : RdB H b l at_ item err g) :
    HCalls Tryz.prog 151 #[.pointer (some ⟨b, 0, none⟩)] H fun v H' => v = .bool (decide (err = 0)) ∧ RdB H' b l at_ (if err = 0 then at_ else item) err g ∧ Fr [b] H H' := by
  obtain ⟨a, c, hb, ho, hat, hit, hl⟩ := h
  have hc := hb.cell
  refine calls_of_vc (args := [_]) Tryz.func151 c151ok (Nat.le_of_ble_eq_true rfl) ?_
  by_cases he : err = 0
  · subst he
    have e0 : ((0 : Nat) : Int) = 0 := rfl
    simp (implicitDefEqProofs := false) only [go_sem, c151, hc, e0]
    refine Sto_one hb (by simp) rfl fun H3 hb3 hf3 hs3 => ?_
    simp (implicitDefEqProofs := false) only [go_sem]
    exact ⟨RdB.upd hb ho hb3 hf3 hat (Nat.le_refl _) hl, hf3⟩
  · have he' : ¬ (err : Int) = 0 := by omega
    simp (implicitDefEqProofs := false) only [go_sem, c151, hc, he', he]
    exact ⟨⟨a, c, hb, ho, hat, hit, hl⟩, Fr.refl _ _⟩

/-- What Uint does. -/
def uintR (l : List UInt8) (at_ err : Nat) : Nat × Nat × Nat :=
  if err = 0 then match num (l.drop at_) with
    | some (n, k) => (n, at_ + k, 0)
    | none => (0, at_, 2)
  else (0, at_, err)

theorem ruint_ok {H : Heap} {b : Nat} {l : List UInt8} {at_ err : Nat} {g : Option Nat} (h : Rd H b l at_ err g) :
    HCalls Tryz.prog 131 #[.pointer (some ⟨b, 0, none⟩)] H fun v H' => v = .int .u64 (uintR l at_ err).1 ∧ Rd H' b l (uintR l at_ err).2.1 (uintR l at_ err).2.2 g ∧ Fr [b] H H' := by
  obtain ⟨item, h⟩ := h
  refine calls_of_vc (args := [_]) Tryz.func131 c131ok (Nat.le_of_ble_eq_true rfl) ?_
  simp (implicitDefEqProofs := false) only [go_sem, c131]
  refine (begin_ok h).mono ?_
  rintro v H1 ⟨rfl, h1, hf1⟩
  by_cases he : err = 0
  · subst he
    simp (implicitDefEqProofs := false) only [go_sem]
    refine (number_ok h1).mono ?_
    rintro v H2 ⟨rfl, n, next, ok, rfl, hok, hn⟩
    rw [if_pos rfl] at h1
    obtain ⟨a, c, hb, ho, hat, hit, hl⟩ := h1
    have hc := hb.cell
    rcases hnum : num (l.drop at_) with _ | ⟨m, k⟩
    · rw [hnum] at hok
      cases hok
      simp (implicitDefEqProofs := false) only [go_sem, hc]
      refine Sto_one hb (by simp) rfl fun H3 hb3 hf3 hs3 => ?_
      simp (implicitDefEqProofs := false) only [go_sem, uintR, hnum]
      first | exact ⟨rfl, ⟨at_, RdB.upd hb ho hb3 hf3 hat (Nat.le_refl _) hl⟩, hf1.trans hf3⟩ | exact ⟨⟨at_, RdB.upd hb ho hb3 hf3 hat (Nat.le_refl _) hl⟩, hf1.trans hf3⟩
    · rw [hnum] at hok
      cases hok
      obtain ⟨rfl, rfl⟩ := hn _ _ hnum
      have hbd := num_bound hnum
      simp only [List.length_drop] at hbd
      simp (implicitDefEqProofs := false) only [go_sem, hc]
      refine Sto_one hb (by simp) rfl fun H3 hb3 hf3 hs3 => ?_
      simp (implicitDefEqProofs := false) only [go_sem, uintR, hnum]
      exact ⟨⟨at_, RdB.upd hb ho hb3 hf3 (by omega) (by omega) hl⟩, hf1.trans hf3⟩
  · rw [if_neg he] at h1
    simp (implicitDefEqProofs := false) only [go_sem, he, uintR]
    first | exact ⟨rfl, ⟨item, h1⟩, hf1⟩ | exact ⟨⟨item, h1⟩, hf1⟩

/-- Back from the zig and zag. -/
def zag (n : Nat) : Int := if n % 2 = 0 then (n / 2 : Nat) else -(n / 2 : Nat) - 1

theorem xor_zero_i64 (x : Int) (h : -9223372036854775808 ≤ x) (h' : x < 9223372036854775808) : bits .xor .i64 x 0 = x := by
  have e : (BitVec.ofInt 64 x ^^^ BitVec.ofInt 64 0).toNat = (x % 18446744073709551616).toNat := by
    rw [show BitVec.ofInt 64 0 = 0#64 from rfl, BitVec.xor_zero, BitVec.toNat_ofInt]
    rfl
  show IntKind.i64.wrap ((BitVec.ofInt 64 x ^^^ BitVec.ofInt 64 0).toNat : Int) = x
  rw [e, IntKind.wrap_i64]; omega
theorem xor_ones_i64 (x : Int) (h : 0 ≤ x) (h' : x < 9223372036854775808) : bits .xor .i64 x (-1) = -x - 1 := by
  have e : (BitVec.ofInt 64 x ^^^ BitVec.ofInt 64 (-1)).toNat = 18446744073709551615 - x.toNat := by
    rw [show BitVec.ofInt 64 (-1) = BitVec.allOnes 64 from rfl, BitVec.xor_allOnes, BitVec.toNat_not, BitVec.toNat_ofInt]
    have : (x % (2 ^ 64 : Nat)).toNat = x.toNat := by omega
    rw [this]
  show IntKind.i64.wrap ((BitVec.ofInt 64 x ^^^ BitVec.ofInt 64 (-1)).toNat : Int) = _
  rw [e, IntKind.wrap_i64]; omega
theorem and_one_u64 (n : Nat) (h : n < 2^64) : bits .and .u64 (n : Int) 1 = ((n % 2 : Nat) : Int) := by
  have e : (BitVec.ofInt 64 (n : Int) &&& BitVec.ofInt 64 1).toNat = n % 2 := by
    have hx' : (BitVec.ofInt 64 (n : Int)).toNat = n := by rw [BitVec.toNat_ofInt]; omega
    rw [BitVec.toNat_and, hx', show (BitVec.ofInt 64 1).toNat = 1 from rfl, Nat.and_one_is_mod]
  show IntKind.u64.wrap ((BitVec.ofInt 64 (n : Int) &&& BitVec.ofInt 64 1).toNat : Int) = _
  rw [e, wrap_u64_id _ (by omega) (by omega)]

theorem zag_bits (n : Nat) (h : n < 2^64) : bits .xor .i64 (IntKind.i64.wrap (shrI .u64 (n : Int) 1)) (IntKind.i64.wrap (0 - IntKind.i64.wrap (bits .and .u64 (n : Int) 1))) = zag n := by
  have e1 : shrI .u64 (n : Int) 1 = ((n / 2 : Nat) : Int) := shrI_nat n 1 (by decide)
  rw [e1, and_one_u64 n h, wrap_i64_id ((n / 2 : Nat) : Int) (by omega) (by omega), wrap_i64_id ((n % 2 : Nat) : Int) (by omega) (by omega), wrap_i64_id (0 - _) (by omega) (by omega)]
  unfold zag
  rcases Nat.mod_two_eq_zero_or_one n with hm | hm
  · rw [hm]
    exact xor_zero_i64 _ (by omega) (by omega)
  · rw [hm]
    have := xor_ones_i64 ((n / 2 : Nat) : Int) (by omega) (by omega)
    simpa using this

theorem uintR_lt (l : List UInt8) (at_ err : Nat) : (uintR l at_ err).1 < 2^64 := by
  unfold uintR
  split
  · split
    · rename_i h; exact (num_bound h).1
    · exact Nat.two_pow_pos 64
  · exact Nat.two_pow_pos 64

theorem rint_ok {H : Heap} {b : Nat} {l : List UInt8} {at_ err : Nat} {g : Option Nat} (h : Rd H b l at_ err g) :
    HCalls Tryz.prog 153 #[.pointer (some ⟨b, 0, none⟩)] H fun v H' => v = .int .i64 (zag (uintR l at_ err).1) ∧ Rd H' b l (uintR l at_ err).2.1 (uintR l at_ err).2.2 g ∧ Fr [b] H H' := by
  refine calls_of_vc (args := [_]) Tryz.func153 c153ok (Nat.le_of_ble_eq_true rfl) ?_
  simp (implicitDefEqProofs := false) only [go_sem, c153]
  refine (ruint_ok h).mono ?_
  rintro v H1 ⟨rfl, h1, hf1⟩
  simp (implicitDefEqProofs := false) only [go_sem]
  rw [zag_bits _ (uintR_lt _ _ _)]
  exact ⟨rfl, h1, hf1⟩

/-- What Bool does. -/
def boolR (l : List UInt8) (at_ err : Nat) : Bool × Nat × Nat :=
  if err = 0 then match l.drop at_ with
    | [] => (false, at_, 2)
    | x :: _ => if 1 < x.toNat then (false, at_, 2) else (x.toNat == 1, at_ + 1, 0)
  else (false, at_, err)

theorem rbool_ok {H : Heap} {b : Nat} {l : List UInt8} {at_ err : Nat} {g : Option Nat} (h : Rd H b l at_ err g) :
    HCalls Tryz.prog 161 #[.pointer (some ⟨b, 0, none⟩)] H fun v H' => v = .bool (boolR l at_ err).1 ∧ Rd H' b l (boolR l at_ err).2.1 (boolR l at_ err).2.2 g ∧ Fr [b] H H' := by
  obtain ⟨item, h⟩ := h
  refine calls_of_vc (args := [_]) Tryz.func161 c161ok (Nat.le_of_ble_eq_true rfl) ?_
  simp (implicitDefEqProofs := false) only [go_sem, c161]
  refine (begin_ok h).mono ?_
  rintro v H1 ⟨rfl, h1, hf1⟩
  by_cases he : err = 0
  · subst he
    rw [if_pos rfl] at h1
    obtain ⟨a, c, hb, ho, hat, hit, hl⟩ := h1
    have hc := hb.cell
    rcases Nat.lt_or_ge at_ l.length with hin | hout
    · obtain ⟨b', o, rfl, hcl⟩ := ho.bsR.resolve_left (by rintro rfl; simp at hin)
      have hcj := hcl at_ hin
      have hdrop : l.drop at_ = l[at_] :: l.drop (at_ + 1) := by rw [List.drop_eq_getElem_cons hin]
      obtain ⟨x, hxe⟩ : ∃ x, l[at_] = x := ⟨_, rfl⟩
      rw [hxe] at hcj hdrop
      have h0 : ¬ ((at_ : Int) = (l.length : Int)) := by omega
      have h1 : (0 : Int) ≤ (at_ : Int) := by omega
      have h2 : (at_ : Int) < (l.length : Int) := by omega
      have hw : IntKind.i64.wrap ((at_ : Int) + 1) = ((at_ + 1 : Nat) : Int) := by rw [wrap_i64_id _ (by omega) (by omega)]; omega
      by_cases hx : 1 < x.toNat
      · have hx' : 1 < (x.toNat : Int) := by omega
        simp (implicitDefEqProofs := false) only [go_sem, hc, h0, h1, h2, hcj, hx', bv]
        refine Sto_one hb (by simp) rfl fun H3 hb3 hf3 hs3 => ?_
        simp (implicitDefEqProofs := false) only [go_sem, boolR, hdrop, hx]
        exact ⟨⟨at_, RdB.upd hb ho hb3 hf3 hat (Nat.le_refl _) hl⟩, hf1.trans hf3⟩
      · have hx' : ¬ 1 < (x.toNat : Int) := by omega
        simp (implicitDefEqProofs := false) only [go_sem, hc, h0, h1, h2, hcj, hx', hw, bv]
        refine Sto_one hb (by simp) rfl fun H3 hb3 hf3 hs3 => ?_
        have hc3 := hb3.cell
        have hr3 := RdB.upd hb ho hb3 hf3 (by omega) (by omega) hl
        have hcj3 : cellB H3 b' (o + at_) = some (bv x) := by
          obtain ⟨a', c', hb', ho', _⟩ := hr3
          have e := (hb'.cell 0).symm.trans (hb3.cell 0)
          simp at e
          obtain ⟨rfl, _⟩ := e
          obtain ⟨b2, o2, e2, hcl2⟩ := ho'.bsR.resolve_left (by rintro rfl; simp at hin)
          cases e2
          rw [← hxe]; exact hcl2 at_ hin
        simp (implicitDefEqProofs := false) only [go_sem, hc3, h0, h1, h2, hcj3, bv, boolR, hdrop, hx]
        exact ⟨by congr 1; rw [Bool.eq_iff_iff]; simp; omega, ⟨_, hr3⟩, hf1.trans hf3⟩
    · have h0 : at_ = l.length := by omega
      subst h0
      simp (implicitDefEqProofs := false) only [go_sem, hc]
      refine Sto_one hb (by simp) rfl fun H3 hb3 hf3 hs3 => ?_
      have hdrop : l.drop l.length = [] := List.drop_eq_nil_of_le hout
      simp (implicitDefEqProofs := false) only [go_sem, boolR, hdrop]
      exact ⟨⟨l.length, RdB.upd hb ho hb3 hf3 hat (Nat.le_refl _) hl⟩, hf1.trans hf3⟩
  · rw [if_neg he] at h1
    simp (implicitDefEqProofs := false) only [go_sem, he, boolR]
    exact ⟨⟨item, h1⟩, hf1⟩

/-- What Bytes does. -/
def bytesR (l : List UInt8) (at_ err : Nat) : List UInt8 × Nat × Nat :=
  if err = 0 then match num (l.drop at_) with
    | some (n, k) => if at_ + k + n ≤ l.length then ((l.drop (at_ + k)).take n, at_ + k + n, 0) else ([], at_, 2)
    | none => ([], at_, 2)
  else ([], at_, err)

theorem count_num {n k at_ : Nat} {l : List UInt8} (hl : l.length < 2^40) (h1 : n < 2^64) (h2 : at_ + k ≤ l.length) :
    (IntKind.u64.wrap (IntKind.i64.wrap ((l.length : Int) - ((at_ + k : Nat) : Int))) < (n : Int)) ↔ ¬ at_ + k + n ≤ l.length := by
  rw [wrap_i64_id _ (by omega) (by omega), wrap_u64_id _ (by omega) (by omega)]; omega

theorem rbytes_ok {H : Heap} {b : Nat} {l : List UInt8} {at_ err : Nat} {g : Option Nat} (h : Rd H b l at_ err g) :
    HCalls Tryz.prog 156 #[.pointer (some ⟨b, 0, none⟩)] H fun v H' => ∃ a c g', v = .slice a (bytesR l at_ err).1.length c ∧ Own H' 5 1 v (bytesR l at_ err).1.length ((bytesR l at_ err).1.map bv) g' ∧ (∀ k, g' = some k → H.size ≤ k) ∧ Rd H' b l (bytesR l at_ err).2.1 (bytesR l at_ err).2.2 g ∧ Fr [b] H H' := by
  obtain ⟨item, h⟩ := h
  refine calls_of_vc (args := [_]) Tryz.func156 c156ok (Nat.le_of_ble_eq_true rfl) ?_
  simp (implicitDefEqProofs := false) only [go_sem, c156]
  refine (begin_ok h).mono ?_
  rintro v H1 ⟨rfl, h1, hf1⟩
  by_cases he : err = 0
  · subst he
    rw [if_pos rfl] at h1
    simp (implicitDefEqProofs := false) only [go_sem]
    refine (number_ok h1).mono ?_
    rintro v H2 ⟨rfl, n, next, ok, rfl, hok, hn⟩
    obtain ⟨a, c, hb, ho, hat, hit, hl⟩ := h1
    have hc := hb.cell
    rcases hnum : num (l.drop at_) with _ | ⟨m, k⟩
    · rw [hnum] at hok
      cases hok
      simp (implicitDefEqProofs := false) only [go_sem, hc]
      refine Sto_one hb (by simp) rfl fun H3 hb3 hf3 hs3 => ?_
      simp (implicitDefEqProofs := false) only [go_sem, bytesR, hnum]
      exact ⟨none, 0, none, rfl, Own.nil _ _ _, by simp, ⟨at_, RdB.upd hb ho hb3 hf3 hat (Nat.le_refl _) hl⟩, hf1.trans hf3⟩
    · rw [hnum] at hok
      cases hok
      obtain ⟨rfl, rfl⟩ := hn _ _ hnum
      have hbd := num_bound hnum
      simp only [List.length_drop] at hbd
      have hcn := count_num (n := n) (k := k) (at_ := at_) hl hbd.1 (by omega)
      by_cases hle : at_ + k + n ≤ l.length
      · have hcn' : ¬ (IntKind.u64.wrap (IntKind.i64.wrap ((l.length : Int) - ((at_ + k : Nat) : Int))) < (n : Int)) := by rw [hcn]; exact not_not_intro hle
        have hw : IntKind.i64.wrap (n : Int) = (n : Int) := wrap_i64_id _ (by omega) (by omega)
        have hw2 : IntKind.i64.wrap (((at_ + k : Nat) : Int) + (n : Int)) = ((at_ + k + n : Nat) : Int) := by rw [wrap_i64_id _ (by omega) (by omega)]; omega
        simp (implicitDefEqProofs := false) only [go_sem, hc, hcn', hw, hw2]
        refine Sto_one hb (by simp) rfl fun H3 hb3 hf3 hs3 => ?_
        have hr3 := RdB.upd hb ho hb3 hf3 hle (by omega) hl
        obtain ⟨a4, c4, hb4, ho4, _⟩ := hr3
        have hc4 := hb4.cell
        have hcap := ho4.cap_le
        simp (implicitDefEqProofs := false) only [go_sem, hc4]
        refine ⟨by omega, ?_⟩
        refine NewS_intro fun H5 hn5 hf5 hs5 => ?_
        have hb5 := hb4.ext hf5
        have hc5 := hb5.cell
        simp (implicitDefEqProofs := false) only [go_sem, hc5]
        have hlen : at_ + k + n - (at_ + k) = ((l.drop (at_ + k)).take n).length := by simp; omega
        have hsub : BsR H5 (if c4 = at_ + k then a4 else Option.map (fun x => x.add (at_ + k)) a4) ((l.drop (at_ + k)).take n) := by
          have := (ho4.bsR.ext hf5).sub c4 (lo := at_ + k) (hi := at_ + k + n) (by omega)
          rwa [show at_ + k + n - (at_ + k) = n by omega] at this
        rw [hlen]
        refine App_own EB (Own.of_blk hn5 (by simp) (by decide)) (hsub.src Tryz.underlying22) (by unfold maxLen; omega) (by omega) fun a2 c2 H6 g2 ho6 hf6 hg6 => ?_
        have hfr : Fr [] H3 H6 := hf5.trans' hf6 (by simp)
        simp (implicitDefEqProofs := false) only [go_sem, bytesR, hnum, hle]
        refine ⟨a2, c2, g2, by simp, by simpa using ho6, ?_, ?_, (hf1.trans hf3).trans (hfr.mono (by simp))⟩
        · intro j hj
          have h3 := hf1.size
          have h4 := hf3.size
          rcases hg6 j hj with h | h
          · simp at h; omega
          · have := hf5.size; omega
        · exact Rd.fr ⟨at_, a4, c4, hb4, ho4, hle, by omega, hl⟩ hfr (by simp) (by simp)
      · have hle' := hle
        rw [← hcn] at hle
        simp (implicitDefEqProofs := false) only [go_sem, hc, hle]
        refine Sto_one hb (by simp) rfl fun H3 hb3 hf3 hs3 => ?_
        simp (implicitDefEqProofs := false) only [go_sem, bytesR, hnum, hle']
        exact ⟨none, 0, none, rfl, Own.nil _ _ _, by simp, ⟨at_, RdB.upd hb ho hb3 hf3 hat (Nat.le_refl _) hl⟩, hf1.trans hf3⟩
  · rw [if_neg he] at h1
    simp (implicitDefEqProofs := false) only [go_sem, he, bytesR]
    exact ⟨none, 0, none, rfl, Own.nil _ _ _, by simp, ⟨item, h1⟩, hf1⟩

/-- What Text does. -/
theorem rtext_ok {H : Heap} {b : Nat} {l : List UInt8} {at_ err : Nat} {g : Option Nat} (h : Rd H b l at_ err g) :
    HCalls Tryz.prog 147 #[.pointer (some ⟨b, 0, none⟩)] H fun v H' => v = .string ⟨⟨(bytesR l at_ err).1⟩⟩ ∧ Rd H' b l (bytesR l at_ err).2.1 (bytesR l at_ err).2.2 g ∧ Fr [b] H H' := by
  refine calls_of_vc (args := [_]) Tryz.func147 c147ok (Nat.le_of_ble_eq_true rfl) ?_
  simp (implicitDefEqProofs := false) only [go_sem, c147]
  refine (rbytes_ok h).mono ?_
  rintro v H1 ⟨a, c, g', rfl, ho, hg, h1, hf1⟩
  simp (implicitDefEqProofs := false) only [go_sem, ho.bsR.b2s c]
  exact ⟨h1, hf1⟩

/-- What Count does. -/
def countR (l : List UInt8) (at_ err : Nat) : Nat × Nat × Nat :=
  if err = 0 then match num (l.drop at_) with
    | some (n, k) => if at_ + k + n ≤ l.length then (n, at_ + k, 0) else (0, at_, 2)
    | none => (0, at_, 2)
  else (0, at_, err)

theorem rcount_ok {H : Heap} {b : Nat} {l : List UInt8} {at_ err : Nat} {g : Option Nat} (h : Rd H b l at_ err g) :
    HCalls Tryz.prog 154 #[.pointer (some ⟨b, 0, none⟩)] H fun v H' => v = .int .i64 (countR l at_ err).1 ∧ Rd H' b l (countR l at_ err).2.1 (countR l at_ err).2.2 g ∧ Fr [b] H H' := by
  obtain ⟨item, h⟩ := h
  refine calls_of_vc (args := [_]) Tryz.func154 c154ok (Nat.le_of_ble_eq_true rfl) ?_
  simp (implicitDefEqProofs := false) only [go_sem, c154]
  refine (begin_ok h).mono ?_
  rintro v H1 ⟨rfl, h1, hf1⟩
  by_cases he : err = 0
  · subst he
    rw [if_pos rfl] at h1
    simp (implicitDefEqProofs := false) only [go_sem]
    refine (number_ok h1).mono ?_
    rintro v H2 ⟨rfl, n, next, ok, rfl, hok, hn⟩
    obtain ⟨a, c, hb, ho, hat, hit, hl⟩ := h1
    have hc := hb.cell
    rcases hnum : num (l.drop at_) with _ | ⟨m, k⟩
    · rw [hnum] at hok
      cases hok
      simp (implicitDefEqProofs := false) only [go_sem, hc]
      refine Sto_one hb (by simp) rfl fun H3 hb3 hf3 hs3 => ?_
      simp (implicitDefEqProofs := false) only [go_sem, countR, hnum]
      first | exact ⟨rfl, ⟨at_, RdB.upd hb ho hb3 hf3 hat (Nat.le_refl _) hl⟩, hf1.trans hf3⟩ | exact ⟨⟨at_, RdB.upd hb ho hb3 hf3 hat (Nat.le_refl _) hl⟩, hf1.trans hf3⟩
    · rw [hnum] at hok
      cases hok
      obtain ⟨rfl, rfl⟩ := hn _ _ hnum
      have hbd := num_bound hnum
      simp only [List.length_drop] at hbd
      have hcn := count_num (n := n) (k := k) (at_ := at_) hl hbd.1 (by omega)
      by_cases hle : at_ + k + n ≤ l.length
      · have hcn' : ¬ (IntKind.u64.wrap (IntKind.i64.wrap ((l.length : Int) - ((at_ + k : Nat) : Int))) < (n : Int)) := by rw [hcn]; exact not_not_intro hle
        have hw : IntKind.i64.wrap (n : Int) = (n : Int) := wrap_i64_id _ (by omega) (by omega)
        simp (implicitDefEqProofs := false) only [go_sem, hc, hcn', hw]
        refine Sto_one hb (by simp) rfl fun H3 hb3 hf3 hs3 => ?_
        simp (implicitDefEqProofs := false) only [go_sem, countR, hnum, hle]
        exact ⟨by rw [hw], ⟨_, RdB.upd hb ho hb3 hf3 (by omega) (by omega) hl⟩, hf1.trans hf3⟩
      · have hle' := hle
        rw [← hcn] at hle
        simp (implicitDefEqProofs := false) only [go_sem, hc, hle]
        refine Sto_one hb (by simp) rfl fun H3 hb3 hf3 hs3 => ?_
        simp (implicitDefEqProofs := false) only [go_sem, countR, hnum, hle']
        first | exact ⟨rfl, ⟨at_, RdB.upd hb ho hb3 hf3 hat (Nat.le_refl _) hl⟩, hf1.trans hf3⟩ | exact ⟨⟨at_, RdB.upd hb ho hb3 hf3 hat (Nat.le_refl _) hl⟩, hf1.trans hf3⟩
  · rw [if_neg he] at h1
    simp (implicitDefEqProofs := false) only [go_sem, he, countR]
    first | exact ⟨rfl, ⟨item, h1⟩, hf1⟩ | exact ⟨⟨item, h1⟩, hf1⟩

theorem rerr_ok {H : Heap} {b : Nat} {l : List UInt8} {at_ err : Nat} {g : Option Nat} (h : Rd H b l at_ err g) :
    HCalls Tryz.prog 163 #[.pointer (some ⟨b, 0, none⟩)] H fun v H' => v = .int .i64 err ∧ H' = H := by
  obtain ⟨item, a, c, hb, ho, hat, hit, hl⟩ := h
  have hc := hb.cell
  refine calls_of_vc (args := [_]) Tryz.func163 c163ok (Nat.le_of_ble_eq_true rfl) ?_
  simp (implicitDefEqProofs := false) only [go_sem, c163, hc]


theorem rleft_ok {H : Heap} {b : Nat} {l : List UInt8} {at_ err : Nat} {g : Option Nat} (h : Rd H b l at_ err g) :
    HCalls Tryz.prog 150 #[.pointer (some ⟨b, 0, none⟩)] H fun v H' => v = .int .i64 ((l.length - at_ : Nat) : Int) ∧ H' = H := by
  obtain ⟨item, a, c, hb, ho, hat, hit, hl⟩ := h
  have hc := hb.cell
  have hw : IntKind.i64.wrap ((l.length : Int) - (at_ : Int)) = ((l.length - at_ : Nat) : Int) := by rw [wrap_i64_id _ (by omega) (by omega)]; omega
  refine calls_of_vc (args := [_]) Tryz.func150 c150ok (Nat.le_of_ble_eq_true rfl) ?_
  simp (implicitDefEqProofs := false) only [go_sem, c150, hc, hw]

theorem rend_ok {H : Heap} {b : Nat} {l : List UInt8} {at_ err : Nat} {g : Option Nat} (h : Rd H b l at_ err g) :
    HCalls Tryz.prog 100 #[.pointer (some ⟨b, 0, none⟩)] H fun v H' => v = .int .i64 (if err = 0 ∧ at_ < l.length then 2 else err) ∧ H' = H := by
  refine calls_of_vc (args := [_]) Tryz.func100 c100ok (Nat.le_of_ble_eq_true rfl) ?_
  have h' := h
  obtain ⟨item, a, c, hb, ho, hat, hit, hl⟩ := h
  have hc := hb.cell
  by_cases he : err = 0
  · subst he
    have e0 : ((0 : Nat) : Int) = 0 := rfl
    simp (implicitDefEqProofs := false) only [go_sem, c100, hc, e0]
    refine (rleft_ok h').mono ?_
    rintro v H1 ⟨rfl, rfl⟩
    by_cases hlt : at_ < l.length
    · have h2 : (0 : Int) < ((l.length - at_ : Nat) : Int) := by omega
      simp (implicitDefEqProofs := false) only [go_sem, h2, hlt, hc]
    · have h2 : ¬ (0 : Int) < ((l.length - at_ : Nat) : Int) := by omega
      simp (implicitDefEqProofs := false) only [go_sem, h2, hlt, hc, and_false, e0]
  · have he' : ¬ (err : Int) = 0 := by omega
    simp (implicitDefEqProofs := false) only [go_sem, c100, hc, he', he, false_and]

theorem new_ok {H : Heap} {l : List UInt8} {a : Option Addr} {c : Nat} (hx : BsR H a l) (hl : l.length < 2^38) :
    HCalls Tryz.prog 98 #[.slice a l.length c] H fun v H' => ∃ b g, v = .pointer (some ⟨b, 0, none⟩) ∧ Rd H' b l 0 0 g ∧ Fr [] H H' ∧ H.size ≤ b ∧ (∀ k, g = some k → H.size ≤ k) := by
  refine calls_of_vc (args := [_]) Tryz.func98 c98ok (Nat.le_of_ble_eq_true rfl) ?_
  simp (implicitDefEqProofs := false) only [go_sem, c98]
  refine NewS_intro fun H1 hn1 hf1 hs1 => ?_
  simp (implicitDefEqProofs := false) only [go_sem]
  refine App_own EB (Own.of_blk hn1 (by simp) (by decide)) ((hx.ext hf1).src Tryz.underlying22) (by unfold maxLen; omega) (by omega) fun a2 c2 H2 g2 ho2 hf2 hg2 => ?_
  simp (implicitDefEqProofs := false) only [go_sem]
  refine NewP_intro fun H3 hb3 hf3 hs3 => ?_
  simp (implicitDefEqProofs := false) only [go_sem]
  have h3 := hf1.size
  have h4 := hf2.size
  have hg3 : ∀ k, g2 = some k → H.size ≤ k := by
    intro j hj
    rcases hg2 j hj with h | h
    · simp at h; omega
    · omega
  refine ⟨H2.size, g2, rfl, ⟨0, a2, c2, by simpa using hb3, by simpa using (ho2.fr hf3 (by simp)), by omega, by omega, by omega⟩, (hf1.trans' hf2 (by simp)).trans' hf3 (by simp), by omega, hg3⟩

end Go.Proofs.YtdhlibkdcldioaaGreat
