/- The laws of token lists: spellings, cuts, insertions, texts. -/
import Derived.Test.YtighpnijbnllaaaDoorXr
set_option linter.unusedSimpArgs false
set_option linter.unusedVariables false
set_option maxRecDepth 8000
namespace Go.Proofs.YtighpnijbnllaaaDoor
open Gx Go

/-! ### digits -/
theorem numF_snoc (c : UInt8) (v : Bs) : ∀ (a : Nat), numF a (v ++ [c]) = 10 * numF a v + (c.toNat - 48) := by
  induction v with
  | nil => intro a; rfl
  | cons d v ih =>
    intro a
    have e1 : numF a (d :: v ++ [c]) = numF (10 * a + (d.toNat - 48)) (v ++ [c]) := rfl
    have e2 : numF a (d :: v) = numF (10 * a + (d.toNat - 48)) v := rfl
    rw [e1, e2, ih]
theorem spT_int (n a : Int) : spT ⟨3, [], n, a⟩ = Lib.itoa n := rfl
theorem poB_sign (t : Bs) (a : Int) : poB ⟨5, t, 0, a⟩ = signB t := by simp [poB]
theorem digB_iff (c : UInt8) : digB c = true ↔ 48 ≤ c.toNat ∧ c.toNat ≤ 57 := by
  simp only [digB, Bool.and_eq_true, decide_eq_true_eq]; omega
theorem dig_byte {c : UInt8} (h : digB c = true) : UInt8.ofNat (48 + (c.toNat - 48)) = c := by
  rw [digB_iff] at h
  apply UInt8.toNat_inj.1
  rw [UInt8.toNat_ofNat']
  omega
theorem snoc_ind {P : Bs → Prop} (h0 : P []) (h1 : ∀ v c, P v → P (v ++ [c])) (w : Bs) : P w := by
  have : ∀ n (w : Bs), w.length = n → P w := by
    intro n
    induction n with
    | zero => intro w h; rw [List.eq_nil_of_length_eq_zero h]; exact h0
    | succ n ih =>
      intro w h
      have hne : w ≠ [] := fun e => by rw [e] at h; cases h
      rw [← List.dropLast_concat_getLast hne]
      exact h1 _ _ (ih _ (by rw [List.length_dropLast]; omega))
  exact this _ w rfl
/-- The numeral of a number's digits. -/
theorem dd_num (w : Bs) : w.all digB = true → w ≠ [] → w.getD 0 0 ≠ 48 → Lib.decDigits (numL w) = w ∧ 1 ≤ numL w := by
  refine snoc_ind (P := fun w => w.all digB = true → w ≠ [] → w.getD 0 0 ≠ 48 → Lib.decDigits (numL w) = w ∧ 1 ≤ numL w) (fun _ h => absurd rfl h) ?_ w
  intro v c ih hall _ hh
  rw [List.all_append, Bool.and_eq_true] at hall
  have hc : digB c = true := by simpa using hall.2
  have hc' := (digB_iff c).1 hc
  have hn : numL (v ++ [c]) = 10 * numL v + (c.toNat - 48) := numF_snoc c v 0
  cases v with
  | nil =>
    have hne : c ≠ 48 := hh
    have h48 : c.toNat ≠ 48 := fun e => hne (UInt8.toNat_inj.1 (by rw [e]; decide))
    have e0 : numL ([] : Bs) = 0 := rfl
    rw [hn, e0]
    refine ⟨?_, by omega⟩
    rw [show 10 * 0 + (c.toNat - 48) = c.toNat - 48 by omega, dd_small (by omega), dig_byte hc]; rfl
  | cons d v' =>
    obtain ⟨h1, h2⟩ := ih hall.1 (by simp) hh
    generalize numL (d :: v') = u at *
    rw [hn]
    refine ⟨?_, by omega⟩
    rw [dd_big (by omega), show (10 * u + (c.toNat - 48)) / 10 = u by omega, show (10 * u + (c.toNat - 48)) % 10 = c.toNat - 48 by omega, h1, dd_small (by omega), dig_byte hc]
/-- A number's numeral: digits, and its value. -/
theorem dd_dig (n : Nat) : (Lib.decDigits n).all digB = true ∧ numL (Lib.decDigits n) = n ∧ Lib.decDigits n ≠ [] ∧ (1 < (Lib.decDigits n).length → (Lib.decDigits n).getD 0 0 ≠ 48) := by
  induction n using Nat.strongRecOn with
  | _ n ih =>
    have hsm : ∀ k, k < 10 → digB (UInt8.ofNat (48 + k)) = true ∧ (UInt8.ofNat (48 + k)).toNat - 48 = k ∧ (1 ≤ k → UInt8.ofNat (48 + k) ≠ 48) := by decide
    by_cases h : n < 10
    · rw [dd_small h]
      obtain ⟨a, b, _⟩ := hsm n h
      refine ⟨by rw [List.all_cons, a]; rfl, ?_, by simp, by simp⟩
      show 10 * 0 + ((UInt8.ofNat (48 + n)).toNat - 48) = n
      omega
    · obtain ⟨i1, i2, i3, i4⟩ := ih (n / 10) (by omega)
      obtain ⟨a, b, _⟩ := hsm (n % 10) (by omega)
      rw [dd_big h, dd_small (n := n % 10) (by omega)]
      refine ⟨by rw [List.all_append, i1, List.all_cons, a]; rfl, ?_, by simp, fun _ => ?_⟩
      · show numF 0 _ = n
        rw [numF_snoc]
        have : numF 0 (Lib.decDigits (n / 10)) = n / 10 := i2
        rw [this, b]; omega
      · cases e : Lib.decDigits (n / 10) with
        | nil => exact absurd e i3
        | cons c v =>
          rw [e] at i2 i4
          show c ≠ 48
          cases v with
          | nil =>
            intro hc
            subst hc
            have : numL [48] = 0 := by decide
            omega
          | cons d v' => exact i4 (by simp)

/-! ### the spelling of a token that is read -/
theorem letB_part {c : UInt8} (h : letB c = true) : partB c = true := by simp [partB, h]
theorem takeWhile_all (p : UInt8 → Bool) (w : Bs) (h : w.all p = true) : w.takeWhile p = w := by
  induction w with
  | nil => rfl
  | cons c r ih =>
    rw [List.all_cons, Bool.and_eq_true] at h
    rw [List.takeWhile_cons, if_pos h.1, ih h.2]

theorem tokS_spell {s : Bs} {k n : Int} {t : Bs} {m : Nat} (h : tokS s = .ok k t n m) (h6 : k ≠ 6) (a : Int) :
    poB ⟨k, t, n, a⟩ = true ∧ m = (spT ⟨k, t, n, a⟩).length ∧ s.take m = spT ⟨k, t, n, a⟩ := by
  cases s with
  | nil => simp only [tokS, TR.ok.injEq] at h; exact absurd h.1.symm h6
  | cons c r =>
    simp only [tokS] at h
    split at h
    · rename_i hc
      have htw := take_twN partB (c :: r)
      unfold twN at htw
      have hall : ((c :: r).takeWhile partB).all partB = true := List.all_takeWhile
      have hhd : ((c :: r).takeWhile partB).getD 0 0 = c := by rw [List.takeWhile_cons, if_pos (letB_part hc)]; rfl
      have hpos : 0 < ((c :: r).takeWhile partB).length := by rw [List.takeWhile_cons, if_pos (letB_part hc)]; simp
      generalize (c :: r).takeWhile partB = w at *
      unfold tokW at h
      split at h
      · cases h
      · rename_i h16
        simp only [TR.ok.injEq] at h
        obtain ⟨h1, rfl, rfl, rfl⟩ := h
        have hv : validN w = true := by
          unfold validN
          rw [hall, hhd, hc]
          simp; omega
        cases ek : kwB w
        · rw [ek] at h1
          obtain rfl : (1 : Int) = k := h1
          exact ⟨by simp [poB, hv, ek], rfl, htw⟩
        · rw [ek] at h1
          obtain rfl : (2 : Int) = k := h1
          exact ⟨by simp [poB, ek], rfl, htw⟩
    · split at h
      · rename_i _ hc
        have htw := take_twN digB (c :: r)
        unfold twN at htw
        have hall : ((c :: r).takeWhile digB).all digB = true := List.all_takeWhile
        have hne : (c :: r).takeWhile digB ≠ [] := by rw [List.takeWhile_cons, if_pos hc]; simp
        generalize (c :: r).takeWhile digB = w at *
        unfold tokD at h
        split at h
        · cases h
        · rename_i hlead
          split at h
          · cases h
          · rename_i hmax
            simp only [TR.ok.injEq] at h
            obtain ⟨rfl, rfl, rfl, rfl⟩ := h
            have hdd : Lib.decDigits (numL w) = w := by
              by_cases h48 : w.getD 0 0 = 48
              · match w, hne, hlead, h48 with
                | [d], _, _, h48 =>
                  obtain rfl : d = 48 := h48
                  show Lib.decDigits 0 = _
                  rw [dd_small (by decide)]; rfl
                | d :: e :: v, _, hlead, h48 => exact absurd ⟨by simp, h48⟩ hlead
              · exact (dd_num w hall hne h48).1
            have hsp : spT ⟨3, [], (numL w : Int), a⟩ = w := by
              rw [spT_int, itoa_nat, hdd]
            rw [hsp]
            refine ⟨?_, rfl, htw⟩
            simp [poB]; omega
      · split at h
        · rename_i hq
          have htw := take_twN partB r
          have hdw := drop_twN partB r
          unfold twN at htw hdw
          unfold tokQ at h
          split at h
          · cases h
          · rename_i hne
            split at h
            · rename_i hv
              simp only [TR.ok.injEq] at h
              obtain ⟨rfl, rfl, rfl, rfl⟩ := h
              have hc39 : c = 39 := by
                apply UInt8.toNat_inj.1
                have : (UInt8.toNat 39) = 39 := by decide
                omega
              generalize hw : r.takeWhile partB = w at *
              cases hd : r.dropWhile partB with
              | nil => exact absurd (.inl hd) hne
              | cons d u =>
                have hd39 : d = 39 := by
                  by_cases hx : d = 39
                  · exact hx
                  · exact absurd (.inr (by rw [hd]; simpa using hx)) hne
                subst hd39 hc39
                have hr : r = w ++ 39 :: u := by
                  rw [← hd, ← hw]; exact List.takeWhile_append_dropWhile.symm
                refine ⟨by simp [poB, hv], by simp [spT], ?_⟩
                show (39 :: r).take (w.length + 2) = 39 :: (w ++ [39])
                rw [List.take_succ_cons, hr, show w ++ 39 :: u = (w ++ [39]) ++ u by simp, show w.length + 1 = (w ++ [39]).length by simp, List.take_left]
            · cases h
        · unfold tokG at h
          split at h
          · rename_i h2
            simp only [TR.ok.injEq] at h
            obtain ⟨rfl, rfl, rfl, rfl⟩ := h
            refine ⟨by rw [poB_sign]; exact h2.2, ?_, rfl⟩
            show 2 = ((c :: r).take 2).length
            rw [List.length_take]; omega
          · split at h
            · rename_i h1
              simp only [TR.ok.injEq] at h
              obtain ⟨rfl, rfl, rfl, rfl⟩ := h
              refine ⟨by rw [poB_sign]; exact h1, ?_, rfl⟩
              show 1 = ((c :: r).take 1).length
              simp
            · cases h
end Go.Proofs.YtighpnijbnllaaaDoor
