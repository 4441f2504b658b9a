/- The next token of the specification: contracts. -/
import Derived.Test.YtighpnijbnllaaaDoorXe
set_option linter.unusedSimpArgs false
set_option linter.unusedVariables false
set_option maxRecDepth 8000
namespace Go.Proofs.YtighpnijbnllaaaDoor
open Gx Go

/-- Where a function with an answer of a token, an offset and a fault begins. -/
structure Two (H : Heap) (x1 x2 : Nat) (H' : Heap) : Prop where
  tk : Blk H' x1 25 [.int .i64 0, .string ⟨⟨[]⟩⟩, .int .i64 0, .int .i64 0]
  ft : Blk H' x2 28 [.int .i64 0, .int .i64 0]
  fr : Fr [] H H'
  ne : x1 ≠ x2 ∧ H.size ≤ x1 ∧ H.size ≤ x2
theorem Two.ext {H H' H2 : Heap} {x1 x2 : Nat} (h : Two H x1 x2 H') (hf : Fr [] H' H2) : Two H x1 x2 H2 := ⟨h.tk.ext hf, h.ft.ext hf, h.fr.trans hf, h.ne⟩
/-- The two stores at the end. -/
theorem Two.sto {H H' : Heap} {x1 x2 : Nat} (h : Two H x1 x2 H') {t : Tk} {c a : Int} {vs us : List Value} (e1 : vs = tkC t) (e2 : us = [.int .i64 c, .int .i64 a]) {R : Heap → Prop}
    (hR : ∀ H4, (∀ o, cellB H4 x1 o = (tkC t)[o]?) → (∀ o, cellB H4 x2 o = [Value.int .i64 c, .int .i64 a][o]?) → Fr [] H H4 → R H4) :
    Sto H' ⟨x1, 0, none⟩ vs 0 fun H3 => Sto H3 ⟨x2, 0, none⟩ us 0 R := by
  obtain ⟨h1, h2, h3⟩ := h.ne
  subst e1 e2
  refine Sto_all h.tk rfl one4 fun H3 hb3 hf3 hs3 => ?_
  have hb23 := h.ft.fr hf3 (by simp [Ne.symm h1])
  refine Sto_all hb23 rfl (one2 rfl rfl) fun H4 hb4 hf4 hs4 => ?_
  exact hR H4 (hb3.fr hf4 (by simp [h1])).cell hb4.cell (fr_new (fr_new h.fr hf3 (by omega)) hf4 (by omega))

theorem rfault_ok (c a : Int) (H : Heap) : HCalls Tryd.prog 35 #[.int .i64 c, .int .i64 a] H fun r H' => r = (NR.mk zTk 0 c a).val ∧ Fr [] H H' := by
  refine calls_of_vc (args := [_, _]) Tryd.func35 c35ok (Nat.le_of_ble_eq_true rfl) ?_
  simp (implicitDefEqProofs := false) only [go_sem, c35]
  refine NewP_intro fun H1 hb1 hf1 hs1 => ?_
  simp (implicitDefEqProofs := false) only [go_sem]
  refine NewP_intro fun H2 hb2 hf2 hs2 => ?_
  have T : Two H H.size H1.size H2 := ⟨hb1.ext hf2, hb2, hf1.trans hf2, by omega, by omega, by omega⟩
  generalize H.size = x1 at *
  generalize H1.size = x2 at *
  simp (implicitDefEqProofs := false) only [go_sem]
  refine Sto_all T.tk rfl (one4 (t := [])) fun H3 hb3 hf3 hs3 => ?_
  have hb23 := T.ft.fr hf3 (by simp [Ne.symm T.ne.1])
  simp (implicitDefEqProofs := false) only [go_sem]
  refine Sto_all hb23 rfl (one2 rfl rfl) fun H4 hb4 hf4 hs4 => ?_
  have hc4 := hb4.cell
  have hc3 := (hb3.fr hf4 (by simp [T.ne.1])).cell
  simp (implicitDefEqProofs := false) only [go_sem, hc3, hc4]
  exact ⟨rfl, fr_new (fr_new T.fr hf3 T.ne.2.1) hf4 T.ne.2.2⟩

/-! ### integers -/
def numC (M : Nat) : Nat → Bs → Nat
  | a, [] => a
  | a, c :: r => numC M (if a ≤ M then 10 * a + (c.toNat - 48) else a) r
theorem numC_big (M : Nat) : ∀ (w : Bs) (a : Nat), M < a → numC M a w = a
  | [], a, _ => rfl
  | c :: r, a, h => by
    simp only [numC]; rw [if_neg (by omega)]; exact numC_big M r a h
theorem numC_eq (M : Nat) (w : Bs) : ∀ (a : Nat), (numF a w ≤ M → numC M a w = numF a w) ∧ (M < numF a w → M < numC M a w) := by
  induction w with
  | nil => intro a; exact ⟨fun _ => rfl, fun h => h⟩
  | cons c r ih =>
    intro a
    have hu := numF_up r (10 * a + (c.toNat - 48))
    have e1 : numF a (c :: r) = numF (10 * a + (c.toNat - 48)) r := rfl
    have e2 : numC M a (c :: r) = numC M (if a ≤ M then 10 * a + (c.toNat - 48) else a) r := rfl
    have ih := ih (10 * a + (c.toNat - 48))
    rw [e1, e2]
    by_cases h : a ≤ M
    · rw [if_pos h]; exact ih
    · rw [if_neg h, numC_big M r a (Nat.lt_of_not_le h)]
      clear ih e1 e2
      generalize numF (10 * a + (c.toNat - 48)) r = m at *
      generalize c.toNat - 48 = d at *
      exact ⟨fun h1 => by omega, fun _ => by omega⟩
theorem numC_lt {M N : Nat} (hMN : 10 * M + 9 ≤ N) : ∀ (w : Bs) (a : Nat), w.all digB = true → a ≤ N → numC M a w ≤ N
  | [], a, _, h => h
  | c :: r, a, hd, h => by
    rw [List.all_cons, Bool.and_eq_true] at hd
    have hc := hd.1
    simp only [digB, Bool.and_eq_true, decide_eq_true_eq] at hc
    simp only [numC]
    refine numC_lt hMN r _ hd.2 ?_
    split <;> omega

set_option maxHeartbeats 4000000 in
theorem rinteger_ok {l : Bs} (hl : l.length ≤ maxLen) {a : Nat} (ha : a < l.length) (hd : digB l[a] = true) (H : Heap) :
    HCalls Tryd.prog 57 #[sv l, .int .i64 a] H fun r H' => r = (ansT a (tokD ((l.drop a).takeWhile digB))).val ∧ Fr [] H H' := by
  refine calls_of_vc (args := [_, _]) Tryd.func57 c57ok (Nat.le_of_ble_eq_true rfl) ?_
  simp (implicitDefEqProofs := false) only [go_sem, c57]
  refine NewP_intro fun H1 hb1 hf1 hs1 => ?_
  simp (implicitDefEqProofs := false) only [go_sem]
  refine NewP_intro fun H2 hb2 hf2 hs2 => ?_
  have T : Two H H.size H1.size H2 := ⟨hb1.ext hf2, hb2, hf1.trans hf2, by omega, by omega, by omega⟩
  generalize H.size = x1 at *
  generalize H1.size = x2 at *
  simp (implicitDefEqProofs := false) only [go_sem]
  have hall : ((l.drop a).takeWhile digB).all digB = true := List.all_takeWhile
  have hga := getD_at l a ha
  have ha0 : (0 : Int) ≤ (a : Int) := by omega
  have ha1 : (a : Int) < (l.length : Int) := by omega
  refine vc_loop (fun (p : Nat × Nat) H' => (a ≤ p.1 ∧ p.1 ≤ l.length ∧ p.1 + twN digB (l.drop p.1) = a + twN digB (l.drop a)) ∧ (p.2 ≤ 20000000000000000 ∧ numC 1000000000000000 p.2 ((l.drop p.1).takeWhile digB) = numC 1000000000000000 0 ((l.drop a).takeWhile digB)) ∧ H' = H2)
    (fun p => [(0, sv l), (1, .int .i64 a), (4, .pointer (some ⟨x1, 0, none⟩)), (5, .int .i64 0), (6, .pointer (some ⟨x2, 0, none⟩)), (7, .int .i64 p.1), (8, .int .i64 p.2)]) (fun p => l.length - p.1) (a, 0) ?_ ?_ ?_
  · exact ⟨⟨Nat.le_refl _, by omega, rfl⟩, ⟨by simp, rfl⟩, rfl⟩
  · simp (implicitDefEqProofs := false) only [go_sem, z0]
  · rintro ⟨i, n⟩ H' ⟨⟨h1, h2, h3⟩, ⟨h4, h5⟩, rfl⟩
    dsimp only at h1 h2 h3 h4 h5
    have hi0 : (0 : Int) ≤ (i : Int) := by omega
    -- the end of the loop
    have done : twN digB (l.drop i) = 0 → i = a + ((l.drop a).takeWhile digB).length ∧ n = numC 1000000000000000 0 ((l.drop a).takeWhile digB) := by
      intro h0
      refine ⟨by unfold twN at h3 h0; omega, ?_⟩
      have : (l.drop i).takeWhile digB = [] := List.eq_nil_of_length_eq_zero h0
      rw [this] at h5
      exact h5
    have hfin : ∀ n : Nat, n = numC 1000000000000000 0 ((l.drop a).takeWhile digB) → (1000000000000000 < n ↔ 1000000000000000 < numL ((l.drop a).takeWhile digB)) ∧ (n ≤ 1000000000000000 → n = numL ((l.drop a).takeWhile digB)) := by
      intro n e
      have hq := numC_eq 1000000000000000 ((l.drop a).takeWhile digB) 0
      rw [← e] at hq
      unfold numL
      generalize numF 0 ((l.drop a).takeWhile digB) = N at *
      constructor
      · constructor
        · intro h; rcases Nat.lt_or_ge 1000000000000000 N with q | q
          · exact q
          · have := hq.1 q; omega
        · exact hq.2
      · intro h; rcases Nat.lt_or_ge 1000000000000000 N with q | q
        · have := hq.2 q; omega
        · exact hq.1 q
    by_cases hgo : ∃ hlt : i < l.length, digB l[i] = true
    · obtain ⟨hlt, hdi⟩ := hgo
      have hlt' : (i : Int) < (l.length : Int) := by omega
      have hgi := getD_at l i hlt
      have hti := twN_at digB l i hlt
      rw [if_pos hdi] at hti
      have hw := succ_i64 i l.length hlt hl
      have hcons : (l.drop i).takeWhile digB = l[i] :: (l.drop (i + 1)).takeWhile digB := by
        rw [List.drop_eq_getElem_cons hlt, List.takeWhile_cons, if_pos hdi]
      rw [hcons] at h5
      simp only [numC] at h5
      have hdi' := hdi
      simp only [digB, Bool.and_eq_true, decide_eq_true_eq] at hdi'
      simp (implicitDefEqProofs := false) only [go_sem, sv, ba_size, hlt', hi0, hgi]
      refine (rdigit_ok l[i] H').mono ?_
      rintro r H3 ⟨rfl, hEq⟩
      obtain rfl := hEq.symm
      rw [hdi]
      by_cases hn : n ≤ 1000000000000000
      · rw [if_pos hn] at h5
        have hn' : (n : Int) ≤ 1000000000000000 := by omega
        have w1 : IntKind.i64.wrap (10 * (n : Int)) = 10 * (n : Int) := by rw [wrap_i64_id _ (by omega) (by omega)]
        have w2 : IntKind.u8.wrap ((l[i].toNat : Int) - 48) = (l[i].toNat : Int) - 48 := by rw [wrap_u8_id _ (by omega) (by omega)]
        have w3 : IntKind.i64.wrap ((l[i].toNat : Int) - 48) = (l[i].toNat : Int) - 48 := by rw [wrap_i64_id _ (by omega) (by omega)]
        have w4 : IntKind.i64.wrap (10 * (n : Int) + ((l[i].toNat : Int) - 48)) = ((10 * n + (l[i].toNat - 48) : Nat) : Int) := by rw [wrap_i64_id _ (by omega) (by omega)]; omega
        simp (implicitDefEqProofs := false) only [go_sem, sv, ba_size, hlt', hi0, hgi, hn', w1, w2, w3, w4, hw]
        refine loopK_intro (i + 1, 10 * n + (l[i].toNat - 48)) (by show l.length - (i + 1) < l.length - i; omega) ?_ ⟨⟨by show a ≤ i + 1; omega, hlt, by show i + 1 + twN digB (l.drop (i + 1)) = _; omega⟩, ⟨by show 10 * n + (l[i].toNat - 48) ≤ _; omega, h5⟩, rfl⟩
        simp (implicitDefEqProofs := false) only [go_sem]
      · rw [if_neg hn] at h5
        have hn' : ¬ (n : Int) ≤ 1000000000000000 := by omega
        simp (implicitDefEqProofs := false) only [go_sem, sv, ba_size, hlt', hi0, hgi, hn', hw]
        refine loopK_intro (i + 1, n) (by show l.length - (i + 1) < l.length - i; omega) ?_ ⟨⟨by show a ≤ i + 1; omega, hlt, by show i + 1 + twN digB (l.drop (i + 1)) = _; omega⟩, ⟨h4, h5⟩, rfl⟩
        simp (implicitDefEqProofs := false) only [go_sem]
    · have h0 : twN digB (l.drop i) = 0 := by
        rcases Nat.lt_or_ge i l.length with hlt | hge
        · rw [twN_at digB l i hlt, if_neg fun h => hgo ⟨hlt, h⟩]
        · exact twN_end digB l i hge
      obtain ⟨d1, d2⟩ := done h0
      obtain ⟨f1, f2⟩ := hfin n d2
      have hg48 : ((l.drop a).takeWhile digB).getD 0 0 = l[a] := by
        rw [List.drop_eq_getElem_cons ha, List.takeWhile_cons, if_pos hd]; rfl
      have h48 : l[a] = 48 ↔ (l[a].toNat : Int) = 48 := by
        constructor
        · intro e; rw [e]; decide
        · intro e; apply UInt8.toNat_inj.1
          have : (UInt8.toNat 48) = 48 := by decide
          omega
      generalize hw : (l.drop a).takeWhile digB = w at *
      clear hfin done
      have hsub : IntKind.i64.wrap ((i : Int) - (a : Int)) = (w.length : Int) := by
        rw [wrap_i64_id _ (by unfold maxLen at hl; omega) (by unfold maxLen at hl; omega)]; omega
      have T' := T
      have hfr : Fr [] H H' := T.fr
      have ans1 : 1 < w.length ∧ w.getD 0 0 = 48 → ansT a (tokD w) = NR.mk zTk 0 2 a := fun q => by unfold tokD; rw [if_pos q]; rfl
      have ans2 : ¬ (1 < w.length ∧ w.getD 0 0 = 48) → 1000000000000000 < n → ansT a (tokD w) = NR.mk zTk 0 5 a := fun q q2 => by unfold tokD; rw [if_neg q, if_pos (f1.1 q2)]; rfl
      have ans3 : ¬ (1 < w.length ∧ w.getD 0 0 = 48) → ¬ 1000000000000000 < n → ansT a (tokD w) = NR.mk ⟨3, [], n, a⟩ i 0 0 := fun q q2 => by
        unfold tokD; rw [if_neg q, if_neg (fun q3 => q2 (f1.2 q3)), f2 (by omega), d1]; rfl
      rw [hg48] at ans1 ans2 ans3
      have key : ∀ {H3 : Heap}, H3 = H' → True := fun _ => trivial
      clear key
      rcases Nat.lt_or_ge i l.length with hlt | hge
      case' inl =>
        have hlt' : (i : Int) < (l.length : Int) := by omega
        have hgi := getD_at l i hlt
        have hdi : digB l[i] = false := by
          cases q : digB l[i]
          · rfl
          · exact absurd ⟨hlt, q⟩ hgo
        simp (implicitDefEqProofs := false) only [go_sem, sv, ba_size, hlt', hi0, hgi]
        refine (rdigit_ok l[i] H').mono ?_
        rintro r H3 ⟨rfl, hEq⟩
        obtain rfl := hEq.symm
        rw [hdi]
      case' inr =>
        have hlt' : ¬ (i : Int) < (l.length : Int) := by omega
      all_goals
        have hn48 : (l[a].toNat : Int) = 48 ∨ ¬ (l[a].toNat : Int) = 48 := by omega
        have hone : (1 : Int) < (w.length : Int) ∨ ¬ (1 : Int) < (w.length : Int) := by omega
        by_cases lead : (l[a].toNat : Int) = 48 ∧ (1 : Int) < (w.length : Int)
        · simp (implicitDefEqProofs := false) only [go_sem, sv, ba_size, hlt', ha0, ha1, hga, hsub, lead.1, lead.2]
          refine (rfault_ok 2 a H').mono ?_
          rintro r H4 ⟨rfl, hf4⟩
          have T4 := T.ext hf4
          simp (implicitDefEqProofs := false) only [go_sem, NR.val, tkV, ftV]
          refine Sto_all T4.tk rfl one4 fun H5 hb5 hf5 hs5 => ?_
          have hb25 := T4.ft.fr hf5 (by simp [Ne.symm T.ne.1])
          simp (implicitDefEqProofs := false) only [go_sem]
          refine Sto_all hb25 rfl (one2 rfl rfl) fun H6 hb6 hf6 hs6 => ?_
          have hc6 := hb6.cell
          have hc5 := (hb5.fr hf6 (by simp [T.ne.1])).cell
          simp (implicitDefEqProofs := false) only [go_sem, hc5, hc6]
          rw [ans1 ⟨by omega, h48.2 lead.1⟩]
          exact ⟨rfl, fr_new (fr_new T4.fr hf5 T.ne.2.1) hf6 T.ne.2.2⟩
        · have lead2 : (decide ((l[a].toNat : Int) = 48) = false) ∨ (decide ((l[a].toNat : Int) = 48) = true ∧ ¬ (1 : Int) < (w.length : Int)) := by
            by_cases q : (l[a].toNat : Int) = 48
            · exact .inr ⟨by simpa using q, fun q2 => lead ⟨q, q2⟩⟩
            · exact .inl (by simpa using q)
          have nol : ¬ (1 < w.length ∧ l[a] = 48) := fun q => lead ⟨h48.1 q.2, by omega⟩
          by_cases hn : 1000000000000000 < n
          · have hn' : (1000000000000000 : Int) < (n : Int) := by omega
            rcases lead2 with q | ⟨q, q2⟩
            case' inl => simp (implicitDefEqProofs := false) only [go_sem, sv, ba_size, hlt', ha0, ha1, hga, hsub, q, hn']
            case' inr => simp (implicitDefEqProofs := false) only [go_sem, sv, ba_size, hlt', ha0, ha1, hga, hsub, q, q2, hn']
            all_goals
              refine (rfault_ok 5 a H').mono ?_
              rintro r H4 ⟨rfl, hf4⟩
              have T4 := T.ext hf4
              simp (implicitDefEqProofs := false) only [go_sem, NR.val, tkV, ftV]
              refine Sto_all T4.tk rfl one4 fun H5 hb5 hf5 hs5 => ?_
              have hb25 := T4.ft.fr hf5 (by simp [Ne.symm T.ne.1])
              simp (implicitDefEqProofs := false) only [go_sem]
              refine Sto_all hb25 rfl (one2 rfl rfl) fun H6 hb6 hf6 hs6 => ?_
              have hc6 := hb6.cell
              have hc5 := (hb5.fr hf6 (by simp [T.ne.1])).cell
              simp (implicitDefEqProofs := false) only [go_sem, hc5, hc6]
              rw [ans2 nol hn]
              exact ⟨rfl, fr_new (fr_new T4.fr hf5 T.ne.2.1) hf6 T.ne.2.2⟩
          · have hn' : ¬ (1000000000000000 : Int) < (n : Int) := by omega
            rcases lead2 with q | ⟨q, q2⟩
            case' inl => simp (implicitDefEqProofs := false) only [go_sem, sv, ba_size, hlt', ha0, ha1, hga, hsub, q, hn']
            case' inr => simp (implicitDefEqProofs := false) only [go_sem, sv, ba_size, hlt', ha0, ha1, hga, hsub, q, q2, hn']
            all_goals
              refine Sto_all T.tk rfl (one4 (t := [])) fun H5 hb5 hf5 hs5 => ?_
              have hb25 := T.ft.fr hf5 (by simp [Ne.symm T.ne.1])
              simp (implicitDefEqProofs := false) only [go_sem]
              refine Sto_all hb25 rfl (one2 rfl rfl) fun H6 hb6 hf6 hs6 => ?_
              have hc6 := hb6.cell
              have hc5 := (hb5.fr hf6 (by simp [T.ne.1])).cell
              simp (implicitDefEqProofs := false) only [go_sem, hc5, hc6]
              rw [ans3 nol hn]
              exact ⟨rfl, fr_new (fr_new T.fr hf5 T.ne.2.1) hf6 T.ne.2.2⟩
end Go.Proofs.YtighpnijbnllaaaDoor
