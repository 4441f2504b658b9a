/- The next token of the specification: contracts, second part. -/
import Derived.Test.YtighpnijbnllaaaDoorXf
set_option linter.unusedSimpArgs false
set_option linter.unusedVariables false
set_option maxRecDepth 8000
namespace Go.Proofs.YtighpnijbnllaaaDoor
open Gx Go

/-- The first sign of a list that stands at the head. -/
def sgF (s : Bs) : List Bs → TR
  | [] => .bad 2
  | g :: r => if g.length ≤ s.length ∧ s.take g.length = g then .ok 5 g 0 g.length else sgF s r
theorem sgF_drop (s : Bs) (l : List Bs) (i : Nat) (h : i < l.length) : sgF s (l.drop i) = if l[i].length ≤ s.length ∧ s.take l[i].length = l[i] then .ok 5 l[i] 0 l[i].length else sgF s (l.drop (i + 1)) := by
  rw [List.drop_eq_getElem_cons h]; rfl
theorem sgF_one (c : UInt8) (t : Bs) : ∀ l : List Bs, (∀ g ∈ l, g.length = 1) → sgF (c :: t) l = if [c] ∈ l then .ok 5 [c] 0 1 else .bad 2
  | [], _ => by simp [sgF]
  | g :: r, h => by
    have hg := h g (by simp)
    match g, hg with
    | [d], _ =>
      simp only [sgF, List.length_cons, List.length_nil]
      rw [sgF_one c t r fun g hg => h g (by simp [hg])]
      by_cases e : c = d
      · subst e; simp
      · rw [if_neg (by simp [e])]
        have : ([c] ∈ [d] :: r) ↔ [c] ∈ r := by simp [e]
        simp only [this]
theorem sgF_tokG (c : UInt8) (t : Bs) : sgF (c :: t) signRef = tokG (c :: t) := by
  have e1 : sgF (c :: t) signRef = if 2 ≤ (c :: t).length ∧ (c :: t).take 2 = [60, 61] then .ok 5 [60, 61] 0 2 else if 2 ≤ (c :: t).length ∧ (c :: t).take 2 = [61, 61] then .ok 5 [61, 61] 0 2 else
      if 2 ≤ (c :: t).length ∧ (c :: t).take 2 = [61, 62] then .ok 5 [61, 62] 0 2 else sgF (c :: t) (signRef.drop 3) := rfl
  rw [e1, sgF_one c t (signRef.drop 3) (by decide)]
  have hone : ([c] ∈ signRef.drop 3) ↔ signB [c] = true := by
    unfold signB
    rw [decide_eq_true_eq]
    simp only [signRef, signList, List.drop_succ_cons, List.drop_zero, List.mem_cons, List.cons.injEq, and_true, List.not_mem_nil, or_false, reduceCtorEq, and_false]
  unfold tokG
  by_cases a1 : 2 ≤ (c :: t).length ∧ (c :: t).take 2 = [60, 61]
  · rw [if_pos a1, if_pos ⟨a1.1, by rw [a1.2]; decide⟩, a1.2]
  rw [if_neg a1]
  by_cases a2 : 2 ≤ (c :: t).length ∧ (c :: t).take 2 = [61, 61]
  · rw [if_pos a2, if_pos ⟨a2.1, by rw [a2.2]; decide⟩, a2.2]
  rw [if_neg a2]
  by_cases a3 : 2 ≤ (c :: t).length ∧ (c :: t).take 2 = [61, 62]
  · rw [if_pos a3, if_pos ⟨a3.1, by rw [a3.2]; decide⟩, a3.2]
  rw [if_neg a3]
  have hno : ¬ (2 ≤ (c :: t).length ∧ signB ((c :: t).take 2) = true) := by
    rintro ⟨h1, h2⟩
    cases t with
    | nil => simp at h1
    | cons d u =>
      have h2' : signB [c, d] = true := h2
      rcases signs_two c d h2' with q | q | q
      all_goals simp only [Prod.mk.injEq] at q
      · exact a1 ⟨h1, by simp [q]⟩
      · exact a2 ⟨h1, by simp [q]⟩
      · exact a3 ⟨h1, by simp [q]⟩
  rw [if_neg hno]
  by_cases hs : signB [c] = true
  · rw [if_pos (hone.2 hs)]
    show _ = if signB [c] = true then _ else _
    rw [if_pos hs]; rfl
  · rw [if_neg (fun h => hs (hone.1 h))]
    show _ = if signB [c] = true then _ else _
    rw [if_neg hs]

/-- A fault is handed on. -/
theorem ans_bad (k : Nat) (e : Int) : ansT k (.bad e) = NR.mk zTk 0 e k := rfl
theorem ans_ok (k m : Nat) (kd n : Int) (t : Bs) : ansT k (.ok kd t n m) = NR.mk ⟨kd, t, n, k⟩ (k + m : Nat) 0 0 := rfl

set_option maxHeartbeats 8000000 in
theorem rtoken_ok {l : Bs} (hl0 : l.length ≤ 65536) {a : Nat} (ha : a < l.length) (H : Heap) :
    HCalls Tryd.prog 37 #[sv l, .int .i64 a] H fun r H' => r = (ansT a (tokS (l.drop a))).val ∧ Fr [] H H' := by
  refine calls_of_vc (args := [_, _]) Tryd.func37 c37ok (Nat.le_of_ble_eq_true rfl) ?_
  have hl : l.length ≤ maxLen := by unfold maxLen; omega
  have hga := getD_at l a ha
  have ha0 : (0 : Int) ≤ (a : Int) := by omega
  have ha1 : (a : Int) < (l.length : Int) := by omega
  have hdr := List.drop_eq_getElem_cons ha
  have hwa := succ_i64 a l.length ha hl
  simp (implicitDefEqProofs := false) only [go_sem, c37]
  refine NewP_intro fun H1 hb1 hf1 hs1 => ?_
  simp (implicitDefEqProofs := false) only [go_sem]
  refine NewP_intro fun H2 hb2 hf2 hs2 => ?_
  have T : Two H H.size H1.size H2 := ⟨hb1.ext hf2, hb2, hf1.trans hf2, by omega, by omega, by omega⟩
  generalize H.size = x1 at *
  generalize H1.size = x2 at *
  simp (implicitDefEqProofs := false) only [go_sem, sv, ba_size, ha0, ha1, hga]
  refine (rletter_ok l[a] H2).mono ?_
  rintro r H3 ⟨rfl, hEq⟩
  obtain rfl := hEq.symm
  cases hlet : letB l[a]
  case true =>
    have htok : tokS (l.drop a) = tokW ((l.drop a).takeWhile partB) := by rw [hdr]; simp only [tokS, hlet, if_true]
    simp (implicitDefEqProofs := false) only [go_sem]
    refine (rword_ok (l := l) hl (Nat.le_of_lt ha)).mono ?_
    rintro r H3 ⟨rfl, hEq⟩
    obtain rfl := hEq.symm
    have hwle := twN_le partB (l.drop a)
    simp only [List.length_drop] at hwle
    have htw := take_twN partB (l.drop a)
    generalize hw : (l.drop a).takeWhile partB = w at *
    have hwl : twN partB (l.drop a) = w.length := by unfold twN; rw [hw]
    rw [hwl] at hwle htw ⊢
    have hsub : IntKind.i64.wrap (((a + w.length : Nat) : Int) - (a : Int)) = (w.length : Int) := by rw [wrap_i64_id _ (by omega) (by omega)]; omega
    by_cases h16 : 16 < w.length
    · have h16' : (16 : Int) < (w.length : Int) := by omega
      simp (implicitDefEqProofs := false) only [go_sem, hsub, h16']
      refine (rfault_ok 3 a H2).mono ?_
      rintro r H4 ⟨rfl, hf4⟩
      have T4 := T.ext hf4
      simp (implicitDefEqProofs := false) only [go_sem, NR.val, tkV, ftV]
      refine Sto_all T4.tk rfl one4 fun H5 hb5 hf5 hs5 => ?_
      have hb25 := T4.ft.fr hf5 (by simp [Ne.symm T.ne.1])
      simp (implicitDefEqProofs := false) only [go_sem]
      refine Sto_all hb25 rfl (one2 rfl rfl) fun H6 hb6 hf6 hs6 => ?_
      have hc6 := hb6.cell
      have hc5 := (hb5.fr hf6 (by simp [T.ne.1])).cell
      simp (implicitDefEqProofs := false) only [go_sem, hc5, hc6]
      rw [htok]; unfold tokW; rw [if_pos h16]
      exact ⟨rfl, fr_new (fr_new T4.fr hf5 T.ne.2.1) hf6 T.ne.2.2⟩
    · have h16' : ¬ (16 : Int) < (w.length : Int) := by omega
      have hex : (⟨⟨l⟩⟩ : ByteArray).extract a (a + w.length) = ⟨⟨w⟩⟩ := by rw [ba_ext, List.drop_take, Nat.add_sub_cancel_left, htw]
      have g1 : (0 : Int) ≤ ((a + w.length : Nat) : Int) := by omega
      have g2 : ((a + w.length : Nat) : Int) ≤ (l.length : Int) := by omega
      have g3 : (a : Int) ≤ ((a + w.length : Nat) : Int) := by omega
      simp (implicitDefEqProofs := false) only [go_sem, hsub, h16', ba_size, g1, g2, g3, ha0, hex]
      refine (rkeyword_ok w H2).mono ?_
      rintro r H3 ⟨rfl, hf3⟩
      have T3 := T.ext hf3
      cases ek : kwB w
      all_goals
        simp (implicitDefEqProofs := false) only [go_sem, ba_size, g1, g2, g3, ha0, hex]
        refine Sto_all T3.tk rfl one4 fun H5 hb5 hf5 hs5 => ?_
        have hb25 := T3.ft.fr hf5 (by simp [Ne.symm T.ne.1])
        simp (implicitDefEqProofs := false) only [go_sem]
        refine Sto_all hb25 rfl (one2 rfl rfl) fun H6 hb6 hf6 hs6 => ?_
        have hc6 := hb6.cell
        have hc5 := (hb5.fr hf6 (by simp [T.ne.1])).cell
        simp (implicitDefEqProofs := false) only [go_sem, hc5, hc6]
        rw [htok]; unfold tokW; rw [if_neg h16, ek]
        exact ⟨rfl, fr_new (fr_new T3.fr hf5 T.ne.2.1) hf6 T.ne.2.2⟩
  simp (implicitDefEqProofs := false) only [go_sem]
  refine (rdigit_ok l[a] H2).mono ?_
  rintro r H3 ⟨rfl, hEq⟩
  obtain rfl := hEq.symm
  cases hdig : digB l[a]
  case true =>
    have htok : tokS (l.drop a) = tokD ((l.drop a).takeWhile digB) := by rw [hdr]; simp only [tokS, hlet, hdig, Bool.false_eq_true, if_false, if_true]
    simp (implicitDefEqProofs := false) only [go_sem]
    refine (rinteger_ok (l := l) hl ha hdig H2).mono ?_
    rintro r H4 ⟨rfl, hf4⟩
    have T4 := T.ext hf4
    rw [htok]
    generalize ansT a (tokD ((l.drop a).takeWhile digB)) = N at *
    simp (implicitDefEqProofs := false) only [go_sem, NR.val, tkV, ftV]
    refine Sto_all T4.tk rfl one4 fun H5 hb5 hf5 hs5 => ?_
    have hb25 := T4.ft.fr hf5 (by simp [Ne.symm T.ne.1])
    simp (implicitDefEqProofs := false) only [go_sem]
    refine Sto_all hb25 rfl (one2 rfl rfl) fun H6 hb6 hf6 hs6 => ?_
    have hc6 := hb6.cell
    have hc5 := (hb5.fr hf6 (by simp [T.ne.1])).cell
    simp (implicitDefEqProofs := false) only [go_sem, hc5, hc6]
    exact fr_new (fr_new T4.fr hf5 T.ne.2.1) hf6 T.ne.2.2
  by_cases hq : (l[a].toNat : Int) = 39
  · have htok : tokS (l.drop a) = tokQ ((l.drop (a + 1)).takeWhile partB) ((l.drop (a + 1)).dropWhile partB) := by
      rw [hdr]; simp only [tokS, hlet, hdig, hq, Bool.false_eq_true, if_false, if_true]
    simp (implicitDefEqProofs := false) only [go_sem, hq, hwa]
    refine (rword_ok (l := l) hl (Nat.succ_le_of_lt ha)).mono ?_
    rintro r H3 ⟨rfl, hEq⟩
    obtain rfl := hEq.symm
    have hdw := drop_twN partB (l.drop (a + 1))
    rw [List.drop_drop] at hdw
    have hwle := twN_le partB (l.drop (a + 1))
    simp only [List.length_drop] at hwle
    have htw := take_twN partB (l.drop (a + 1))
    generalize hw : (l.drop (a + 1)).takeWhile partB = w at *
    have hwl : twN partB (l.drop (a + 1)) = w.length := by unfold twN; rw [hw]
    rw [hwl] at hdw hwle htw ⊢
    rw [← hdw] at htok
    have hex : (⟨⟨l⟩⟩ : ByteArray).extract (a + 1) (a + 1 + w.length) = ⟨⟨w⟩⟩ := by rw [ba_ext, List.drop_take, Nat.add_sub_cancel_left, htw]
    generalize hk : a + 1 + w.length = k at *
    have hk0 : (0 : Int) ≤ (k : Int) := by omega
    have g3 : ((a + 1 : Nat) : Int) ≤ (k : Int) := by omega
    have g4 : (0 : Int) ≤ ((a + 1 : Nat) : Int) := by omega
    rcases Nat.lt_or_ge k l.length with hkl | hkl
    · have hk1 : ¬ (k : Int) = (l.length : Int) := by omega
      have hk2 : (k : Int) < (l.length : Int) := by omega
      have hk3 : (k : Int) ≤ (l.length : Int) := by omega
      have hgk := getD_at l k hkl
      have hdk := List.drop_eq_getElem_cons hkl
      have hwk := succ_i64 k l.length hkl hl
      by_cases h39 : (l[k].toNat : Int) = 39
      · have htok2 : tokS (l.drop a) = if validN w then .ok 4 w 0 (w.length + 2) else .bad 3 := by
          rw [htok, hdk]; unfold tokQ
          have : l[k] = 39 := by
            apply UInt8.toNat_inj.1
            have : (UInt8.toNat 39) = 39 := by decide
            omega
          rw [if_neg (by simp [this])]
        simp (implicitDefEqProofs := false) only [go_sem, ba_size, hk0, hk1, hk2, hk3, hgk, h39, hwa, g3, g4, hex]
        refine (rvalid_ok w H2).mono ?_
        rintro r H3 ⟨rfl, hEq⟩
        obtain rfl := hEq.symm
        cases ev : validN w
        · simp (implicitDefEqProofs := false) only [go_sem]
          refine (rfault_ok 3 a H2).mono ?_
          rintro r H4 ⟨rfl, hf4⟩
          have T4 := T.ext hf4
          simp (implicitDefEqProofs := false) only [go_sem, NR.val, tkV, ftV]
          refine Sto_all T4.tk rfl one4 fun H5 hb5 hf5 hs5 => ?_
          have hb25 := T4.ft.fr hf5 (by simp [Ne.symm T.ne.1])
          simp (implicitDefEqProofs := false) only [go_sem]
          refine Sto_all hb25 rfl (one2 rfl rfl) fun H6 hb6 hf6 hs6 => ?_
          have hc6 := hb6.cell
          have hc5 := (hb5.fr hf6 (by simp [T.ne.1])).cell
          simp (implicitDefEqProofs := false) only [go_sem, hc5, hc6]
          rw [htok2, ev]
          exact ⟨rfl, fr_new (fr_new T4.fr hf5 T.ne.2.1) hf6 T.ne.2.2⟩
        · simp (implicitDefEqProofs := false) only [go_sem, ba_size, hk0, hk3, hwa, hwk, g3, g4, hex]
          refine Sto_all T.tk rfl one4 fun H5 hb5 hf5 hs5 => ?_
          have hb25 := T.ft.fr hf5 (by simp [Ne.symm T.ne.1])
          simp (implicitDefEqProofs := false) only [go_sem]
          refine Sto_all hb25 rfl (one2 rfl rfl) fun H6 hb6 hf6 hs6 => ?_
          have hc6 := hb6.cell
          have hc5 := (hb5.fr hf6 (by simp [T.ne.1])).cell
          simp (implicitDefEqProofs := false) only [go_sem, hc5, hc6]
          rw [htok2, ev, if_pos rfl, ans_ok, show a + (w.length + 2) = k + 1 by omega]
          exact ⟨rfl, fr_new (fr_new T.fr hf5 T.ne.2.1) hf6 T.ne.2.2⟩
      · have hbad : tokS (l.drop a) = .bad 2 := by
          rw [htok, hdk]; unfold tokQ
          have hne39 : (l[k] :: l.drop (k + 1)).getD 0 0 ≠ 39 := by
            intro e
            have e' : l[k] = 39 := e
            rw [e'] at h39
            exact h39 (by decide)
          rw [if_pos (.inr hne39)]
        simp (implicitDefEqProofs := false) only [go_sem, ba_size, hk0, hk1, hk2, hgk, h39]
        refine (rfault_ok 2 a H2).mono ?_
        rintro r H4 ⟨rfl, hf4⟩
        have T4 := T.ext hf4
        simp (implicitDefEqProofs := false) only [go_sem, NR.val, tkV, ftV]
        refine Sto_all T4.tk rfl one4 fun H5 hb5 hf5 hs5 => ?_
        have hb25 := T4.ft.fr hf5 (by simp [Ne.symm T.ne.1])
        simp (implicitDefEqProofs := false) only [go_sem]
        refine Sto_all hb25 rfl (one2 rfl rfl) fun H6 hb6 hf6 hs6 => ?_
        have hc6 := hb6.cell
        have hc5 := (hb5.fr hf6 (by simp [T.ne.1])).cell
        simp (implicitDefEqProofs := false) only [go_sem, hc5, hc6]
        rw [hbad]
        exact ⟨rfl, fr_new (fr_new T4.fr hf5 T.ne.2.1) hf6 T.ne.2.2⟩
    · have hk1 : ((k : Int) = (l.length : Int)) = True := by simp; omega
      have hbad : tokS (l.drop a) = .bad 2 := by rw [htok, List.drop_eq_nil_of_le hkl]; rfl
      simp (implicitDefEqProofs := false) only [go_sem, ba_size, hk0, hk1]
      refine (rfault_ok 2 a H2).mono ?_
      rintro r H4 ⟨rfl, hf4⟩
      have T4 := T.ext hf4
      simp (implicitDefEqProofs := false) only [go_sem, NR.val, tkV, ftV]
      refine Sto_all T4.tk rfl one4 fun H5 hb5 hf5 hs5 => ?_
      have hb25 := T4.ft.fr hf5 (by simp [Ne.symm T.ne.1])
      simp (implicitDefEqProofs := false) only [go_sem]
      refine Sto_all hb25 rfl (one2 rfl rfl) fun H6 hb6 hf6 hs6 => ?_
      have hc6 := hb6.cell
      have hc5 := (hb5.fr hf6 (by simp [T.ne.1])).cell
      simp (implicitDefEqProofs := false) only [go_sem, hc5, hc6]
      rw [hbad]
      exact ⟨rfl, fr_new (fr_new T4.fr hf5 T.ne.2.1) hf6 T.ne.2.2⟩
  have htok : tokS (l.drop a) = sgF (l.drop a) signRef := by
    rw [hdr, sgF_tokG]; simp only [tokS, hlet, hdig, hq, Bool.false_eq_true, if_false]
  simp (implicitDefEqProofs := false) only [go_sem, hq]
  refine (rsigns_ok H2).mono ?_
  rintro r H3 ⟨ad, rfl, hr, hf3⟩
  have T3 := T.ext hf3
  simp (implicitDefEqProofs := false) only [go_sem]
  refine vc_loop (fun (i : Nat) H' => i ≤ 17 ∧ sgF (l.drop a) (signRef.drop i) = sgF (l.drop a) signRef ∧ RowR strC H' ad signRef ∧ Two H x1 x2 H')
    (fun i => [(0, sv l), (1, .int .i64 a), (4, .pointer (some ⟨x1, 0, none⟩)), (5, .int .i64 0), (6, .pointer (some ⟨x2, 0, none⟩)), (11, .slice ad 17 17), (12, .int .i64 i)]) (fun i => 17 - i) 0 ?_ ?_ ?_
  · exact ⟨by decide, rfl, hr, T3⟩
  · simp (implicitDefEqProofs := false) only [go_sem, z0, sv, signRef]
  · rintro i H' ⟨hi, hs, hr', T'⟩
    have hlen : signRef.length = 17 := rfl
    rcases Nat.lt_or_ge i 17 with hlt | hge
    · have hlt' : (i : Int) < 17 := by omega
      have hi0 : (0 : Int) ≤ (i : Int) := by omega
      have hlt2 : i < signRef.length := hlt
      obtain ⟨b1, o1, rfl, h1⟩ := rowS_at hr' i hlt2
      have hgl : 1 ≤ signRef[i].length ∧ signRef[i].length ≤ 2 := by
        have : ∀ g ∈ signRef, 1 ≤ g.length ∧ g.length ≤ 2 := by decide
        exact this _ (List.getElem_mem _)
      have hwi := succ_i64 i 17 hlt (by decide)
      rw [sgF_drop _ _ _ hlt2] at hs
      generalize hg : signRef[i] = g at *
      have hsub : IntKind.i64.wrap ((l.length : Int) - (a : Int)) = ((l.length - a : Nat) : Int) := by rw [wrap_i64_id _ (by omega) (by omega)]; omega
      have hadd : IntKind.i64.wrap ((a : Int) + (g.length : Int)) = ((a + g.length : Nat) : Int) := by rw [wrap_i64_id _ (by omega) (by omega)]; omega
      by_cases hfit : g.length ≤ l.length - a
      · have hfit' : (g.length : Int) ≤ ((l.length - a : Nat) : Int) := by omega
        have hex : (⟨⟨l⟩⟩ : ByteArray).extract a (a + g.length) = ⟨⟨(l.drop a).take g.length⟩⟩ := by rw [ba_ext, List.drop_take, Nat.add_sub_cancel_left]
        have g1 : (0 : Int) ≤ ((a + g.length : Nat) : Int) := by omega
        have g2 : ((a + g.length : Nat) : Int) ≤ (l.length : Int) := by omega
        have g3 : (a : Int) ≤ ((a + g.length : Nat) : Int) := by omega
        by_cases he : (l.drop a).take g.length = g
        · rw [if_pos ⟨by simp only [List.length_drop]; exact hfit, he⟩] at hs
          simp (implicitDefEqProofs := false) only [go_sem, sv, ba_size, hlt', hi0, h1, hsub, hadd, hfit', hex, g1, g2, g3, ha0, ba_eq, he]
          refine Sto_all T'.tk rfl one4 fun H5 hb5 hf5 hs5 => ?_
          have hb25 := T'.ft.fr hf5 (by simp [Ne.symm T.ne.1])
          simp (implicitDefEqProofs := false) only [go_sem]
          refine Sto_all hb25 rfl (one2 rfl rfl) fun H6 hb6 hf6 hs6 => ?_
          have hc6 := hb6.cell
          have hc5 := (hb5.fr hf6 (by simp [T.ne.1])).cell
          simp (implicitDefEqProofs := false) only [go_sem, hc5, hc6]
          rw [htok, ← hs]
          exact ⟨rfl, fr_new (fr_new T'.fr hf5 T.ne.2.1) hf6 T.ne.2.2⟩
        · rw [if_neg fun h => he h.2] at hs
          simp (implicitDefEqProofs := false) only [go_sem, sv, ba_size, hlt', hi0, h1, hsub, hadd, hfit', hex, g1, g2, g3, ha0, ba_eq, he, hwi]
          refine loopK_intro (i + 1) (by show 17 - (i + 1) < 17 - i; omega) ?_ ⟨hlt, hs, hr', T'⟩
          simp (implicitDefEqProofs := false) only [go_sem]
      · have hfit' : ¬ (g.length : Int) ≤ ((l.length - a : Nat) : Int) := by omega
        rw [if_neg fun h => hfit (by simpa only [List.length_drop] using h.1)] at hs
        simp (implicitDefEqProofs := false) only [go_sem, sv, ba_size, hlt', hi0, h1, hsub, hadd, hfit', hwi]
        refine loopK_intro (i + 1) (by show 17 - (i + 1) < 17 - i; omega) ?_ ⟨hlt, hs, hr', T'⟩
        simp (implicitDefEqProofs := false) only [go_sem]
    · have hlt' : ¬ (i : Int) < 17 := by omega
      obtain rfl : i = 17 := by omega
      have hbad : tokS (l.drop a) = .bad 2 := by rw [htok, ← hs]; rfl
      simp (implicitDefEqProofs := false) only [go_sem, hlt']
      refine (rfault_ok 2 a H').mono ?_
      rintro r H4 ⟨rfl, hf4⟩
      have T4 := T'.ext hf4
      simp (implicitDefEqProofs := false) only [go_sem, NR.val, tkV, ftV]
      refine Sto_all T4.tk rfl one4 fun H5 hb5 hf5 hs5 => ?_
      have hb25 := T4.ft.fr hf5 (by simp [Ne.symm T.ne.1])
      simp (implicitDefEqProofs := false) only [go_sem]
      refine Sto_all hb25 rfl (one2 rfl rfl) fun H6 hb6 hf6 hs6 => ?_
      have hc6 := hb6.cell
      have hc5 := (hb5.fr hf6 (by simp [T.ne.1])).cell
      simp (implicitDefEqProofs := false) only [go_sem, hc5, hc6]
      rw [hbad]
      exact ⟨rfl, fr_new (fr_new T4.fr hf5 T.ne.2.1) hf6 T.ne.2.2⟩

set_option maxHeartbeats 4000000 in
theorem rnext_ok (l : Bs) (hl : l.length ≤ maxLen) (a : Int) (H : Heap) : HCalls Tryd.prog 20 #[sv l, .int .i64 a] H fun r H' => r = (nextT l a).val ∧ Fr [] H H' := by
  refine calls_of_vc (args := [_, _]) Tryd.func20 c20ok (Nat.le_of_ble_eq_true rfl) ?_
  simp (implicitDefEqProofs := false) only [go_sem, c20]
  refine NewP_intro fun H1 hb1 hf1 hs1 => ?_
  simp (implicitDefEqProofs := false) only [go_sem]
  refine NewP_intro fun H2 hb2 hf2 hs2 => ?_
  have T : Two H H.size H1.size H2 := ⟨hb1.ext hf2, hb2, hf1.trans hf2, by omega, by omega, by omega⟩
  generalize H.size = x1 at *
  generalize H1.size = x2 at *
  unfold nextT
  by_cases hmax : 65536 < l.length
  · have hmax' : (65536 : Int) < (l.length : Int) := by omega
    rw [if_pos hmax]
    simp (implicitDefEqProofs := false) only [go_sem, sv, ba_size, hmax']
    refine (rfault_ok 6 65536 H2).mono ?_
    rintro r H4 ⟨rfl, hf4⟩
    have T4 := T.ext hf4
    simp (implicitDefEqProofs := false) only [go_sem, NR.val, tkV, ftV]
    refine Sto_all T4.tk rfl one4 fun H5 hb5 hf5 hs5 => ?_
    have hb25 := T4.ft.fr hf5 (by simp [Ne.symm T.ne.1])
    simp (implicitDefEqProofs := false) only [go_sem]
    refine Sto_all hb25 rfl (one2 rfl rfl) fun H6 hb6 hf6 hs6 => ?_
    have hc6 := hb6.cell
    have hc5 := (hb5.fr hf6 (by simp [T.ne.1])).cell
    simp (implicitDefEqProofs := false) only [go_sem, hc5, hc6]
    exact fr_new (fr_new T4.fr hf5 T.ne.2.1) hf6 T.ne.2.2
  rw [if_neg hmax]
  have hmax' : ¬ (65536 : Int) < (l.length : Int) := by omega
  by_cases hr : a < 0 ∨ (l.length : Int) < a
  · rw [if_pos hr]
    have hr' : (decide (a < 0) = true) ∨ (decide (a < 0) = false ∧ (l.length : Int) < a) := by
      by_cases q : a < 0
      · exact .inl (by simpa using q)
      · exact .inr ⟨by simpa using q, by omega⟩
    rcases hr' with q | ⟨q, q2⟩
    case' inl => simp (implicitDefEqProofs := false) only [go_sem, sv, ba_size, hmax', q]
    case' inr => simp (implicitDefEqProofs := false) only [go_sem, sv, ba_size, hmax', q, q2]
    all_goals
      refine (rfault_ok 1 0 H2).mono ?_
      rintro r H4 ⟨rfl, hf4⟩
      have T4 := T.ext hf4
      simp (implicitDefEqProofs := false) only [go_sem, NR.val, tkV, ftV]
      refine Sto_all T4.tk rfl one4 fun H5 hb5 hf5 hs5 => ?_
      have hb25 := T4.ft.fr hf5 (by simp [Ne.symm T.ne.1])
      simp (implicitDefEqProofs := false) only [go_sem]
      refine Sto_all hb25 rfl (one2 rfl rfl) fun H6 hb6 hf6 hs6 => ?_
      have hc6 := hb6.cell
      have hc5 := (hb5.fr hf6 (by simp [T.ne.1])).cell
      simp (implicitDefEqProofs := false) only [go_sem, hc5, hc6]
      exact fr_new (fr_new T4.fr hf5 T.ne.2.1) hf6 T.ne.2.2
  rw [if_neg hr]
  obtain ⟨k, rfl⟩ : ∃ k : Nat, a = k := ⟨a.toNat, by omega⟩
  have hk : k ≤ l.length := by omega
  have q1 : decide ((k : Int) < 0) = false := by simp
  have q2 : ¬ (l.length : Int) < (k : Int) := by omega
  rw [Int.toNat_natCast]
  simp (implicitDefEqProofs := false) only [go_sem, sv, ba_size, hmax', q1, q2]
  refine (rskip_ok (l := l) hl hk).mono ?_
  rintro r H3 ⟨rfl, hEq⟩
  obtain rfl := hEq.symm
  have hsk : k + skB false (l.drop k) ≤ l.length := by
    have := skB_le false (l.drop k)
    simp only [List.length_drop] at this
    omega
  unfold nextN
  generalize hj : k + skB false (l.drop k) = j at *
  by_cases he : j = l.length
  · have he' : ((j : Int) = (l.length : Int)) = True := by simp [he]
    have ht : tokS (l.drop j) = .ok 6 [] 0 0 := by rw [List.drop_eq_nil_of_le (by omega)]; rfl
    simp (implicitDefEqProofs := false) only [go_sem, he']
    refine Sto_all T.tk rfl one4 fun H5 hb5 hf5 hs5 => ?_
    have hb25 := T.ft.fr hf5 (by simp [Ne.symm T.ne.1])
    simp (implicitDefEqProofs := false) only [go_sem]
    refine Sto_all hb25 rfl (one2 rfl rfl) fun H6 hb6 hf6 hs6 => ?_
    have hc6 := hb6.cell
    have hc5 := (hb5.fr hf6 (by simp [T.ne.1])).cell
    simp (implicitDefEqProofs := false) only [go_sem, hc5, hc6]
    rw [ht]
    exact ⟨rfl, fr_new (fr_new T.fr hf5 T.ne.2.1) hf6 T.ne.2.2⟩
  · have he' : ((j : Int) = (l.length : Int)) = False := by simp; omega
    simp (implicitDefEqProofs := false) only [go_sem, he']
    refine (rtoken_ok (l := l) (by omega) (by omega) H2).mono ?_
    rintro r H4 ⟨rfl, hf4⟩
    have T4 := T.ext hf4
    generalize ansT j (tokS (l.drop j)) = N at *
    simp (implicitDefEqProofs := false) only [go_sem, NR.val, tkV, ftV]
    refine Sto_all T4.tk rfl one4 fun H5 hb5 hf5 hs5 => ?_
    have hb25 := T4.ft.fr hf5 (by simp [Ne.symm T.ne.1])
    simp (implicitDefEqProofs := false) only [go_sem]
    refine Sto_all hb25 rfl (one2 rfl rfl) fun H6 hb6 hf6 hs6 => ?_
    have hc6 := hb6.cell
    have hc5 := (hb5.fr hf6 (by simp [T.ne.1])).cell
    simp (implicitDefEqProofs := false) only [go_sem, hc5, hc6]
    exact fr_new (fr_new T4.fr hf5 T.ne.2.1) hf6 T.ne.2.2
end Go.Proofs.YtighpnijbnllaaaDoor
