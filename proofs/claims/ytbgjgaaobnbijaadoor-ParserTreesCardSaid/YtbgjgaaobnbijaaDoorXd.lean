/- The token: contract. -/
import Derived.Test.YtbgjgaaobnbijaaDoorXc
set_option linter.unusedSimpArgs false
set_option linter.unusedVariables false
set_option maxRecDepth 8000
namespace Go.Proofs.YtbgjgaaobnbijaaDoor
open Gx Go

theorem body_part : hasBody Tryd.prog 62 = true := by kernel_rfl
theorem body_digit : hasBody Tryd.prog 63 = true := by kernel_rfl

/-- What a call of token brings. -/
def TokR (l : Bs) (at_ b : Nat) (H : Heap) (r : Value) (H' : Heap) : Prop :=
  match tokS (l.drop at_) with
  | .ok k t n m => r = .tuple #[.agg #[.int .i64 k, sv t, .int .i64 n, .int .i64 at_], .int .i64 0] ∧ Blk H' b 71 [sv l, .int .i64 (at_ + m : Nat)] ∧ Fr [b] H H'
  | .bad e => (∃ (k : Int) (t : Bs) (n a : Int), r = .tuple #[.agg #[.int .i64 k, sv t, .int .i64 n, .int .i64 a], .int .i64 e]) ∧ Fr [b] H H'

theorem one4 {k n a : Int} {t : Bs} : ∀ v ∈ [Value.int .i64 k, sv t, .int .i64 n, .int .i64 a], v.oneCell' = true := by
  intro v hv
  simp only [List.mem_cons, List.not_mem_nil, or_false] at hv
  rcases hv with rfl | rfl | rfl | rfl <;> rfl

theorem one2 {a b : Value} (h1 : a.oneCell' = true) (h2 : b.oneCell' = true) : ∀ v ∈ [a, b], v.oneCell' = true := by simp [h1, h2]
/-- Where the walk stands: the scanner, the token, the result. -/
structure St (H : Heap) (l : Bs) (b x1 x2 : Nat) (i k : Int) (t : Bs) (n a : Int) (H' : Heap) : Prop where
  sc : Blk H' b 71 [sv l, .int .i64 i]
  tk : Blk H' x2 39 [.int .i64 k, sv t, .int .i64 n, .int .i64 a]
  re : Blk H' x1 39 [.int .i64 0, sv [], .int .i64 0, .int .i64 0]
  fr : Fr [b] H H'
  ne : x1 ≠ x2 ∧ b ≠ x1 ∧ b ≠ x2 ∧ H.size ≤ x1 ∧ H.size ≤ x2

section
variable {H H' H2 : Heap} {l t t' : Bs} {b x1 x2 : Nat} {i k n a i' k' n' a' : Int}
theorem St.ext (h : St H l b x1 x2 i k t n a H') (hf : Fr [] H' H2) : St H l b x1 x2 i k t n a H2 :=
  ⟨h.sc.ext hf, h.tk.ext hf, h.re.ext hf, h.fr.trans' hf (by simp), h.ne⟩
theorem St.set (h : St H l b x1 x2 i k t n a H') (hb : Blk H2 x2 39 [.int .i64 k', sv t', .int .i64 n', .int .i64 a']) (hf : Fr [x2] H' H2) : St H l b x1 x2 i k' t' n' a' H2 := by
  obtain ⟨h1, h2, h3, h4, h5⟩ := h.ne
  exact ⟨h.sc.fr hf (by simp [h3]), hb, h.re.fr hf (by simp [h1]), h.fr.trans' hf (by simp; omega), h.ne⟩
theorem St.scan (h : St H l b x1 x2 i k t n a H') (hb : Blk H2 b 71 [sv l, .int .i64 i']) (hf : Fr [b] H' H2) : St H l b x1 x2 i' k t n a H2 := by
  obtain ⟨h1, h2, h3, h4, h5⟩ := h.ne
  exact ⟨hb, h.tk.fr hf (by simp [Ne.symm h3]), h.re.fr hf (by simp [Ne.symm h2]), h.fr.trans hf, h.ne⟩
theorem St.glob (h : St H l b x1 x2 i k t n a H') (hg : GlobH H) {u : Value} (hb : Blk H b 71 [sv l, u]) : GlobH H' := by
  obtain ⟨h1, h2⟩ := hg.ne hb
  exact hg.fr h.fr (by simp [h1]) (by simp [h2])
/-- The end of every way. -/
theorem St.fin (h : St H l b x1 x2 i k t n a H') (hf : Fr [x1] H' H2) : Blk H2 b 71 [sv l, .int .i64 i] ∧ Fr [b] H H2 := by
  obtain ⟨h1, h2, h3, h4, h5⟩ := h.ne
  exact ⟨h.sc.fr hf (by simp [h2]), h.fr.trans' hf (by simp; omega)⟩
end

set_option maxHeartbeats 4000000 in
theorem token_ok {l : Bs} (hl : l.length ≤ 65536) {H : Heap} {b at_ : Nat} (hat : at_ ≤ l.length) (h : Blk H b 71 [sv l, .int .i64 at_]) (hg : GlobH H) :
    HCalls Tryd.prog 41 #[.pointer (some ⟨b, 0, none⟩)] H fun r H' => TokR l at_ b H r H' := by
  have hlm : l.length ≤ maxLen := by unfold maxLen; omega
  refine calls_of_vc (args := [_]) Tryd.func41 c41ok (Nat.le_of_ble_eq_true rfl) ?_
  have hne := hg.ne h
  simp (implicitDefEqProofs := false) only [go_sem, c41]
  refine NewP_intro fun H1 hn1 hf1 hs1 => ?_
  have hb1 := h.ext hf1
  have hc1 := hb1.cell
  have hblt := h.lt
  simp (implicitDefEqProofs := false) only [go_sem, hc1]
  refine NewP_intro fun H2 hn2 hf2 hs2 => ?_
  have hn12 := hn1.ext hf2
  have hb2 := hb1.ext hf2
  have hF2 : Fr [] H H2 := hf1.trans hf2
  generalize hx1 : H.size = x1 at *
  generalize hx2 : H1.size = x2 at *
  have hx12 : x1 ≠ x2 := by omega
  have hbx1 : b ≠ x1 := by omega
  have hbx2 : b ≠ x2 := by omega
  simp (implicitDefEqProofs := false) only [go_sem]
  refine Sto_all hn2 rfl (one4 (t := [])) fun H3 hn3 hf3 hs3 => ?_
  have hn13 := hn12.fr hf3 (by simp [hx12])
  have hb3 := hb2.fr hf3 (by simp [hbx2])
  have hF3 : Fr [] H H3 := hF2.trans' hf3 (by simp; omega)
  have hg3 := hg.ext hF3
  clear hn1 hn2 hn12 hb1 hb2 hc1
  have S3 : St H l b x1 x2 at_ 0 [] 0 at_ H3 := ⟨hb3, hn3, hn13, hF3.mono (by simp), hx12, hbx1, hbx2, by omega, by omega⟩
  clear hn13 hn3 hb3 hf3 hf2 hf1 hF2
  have hc3 := S3.sc.cell
  -- how every way ends
  have fin : ∀ {k n : Int} {t : Bs} {m : Nat} {H4 H5 : Heap}, tokS (l.drop at_) = .ok k t n m → St H l b x1 x2 (at_ + m : Nat) k t n at_ H4 → Fr [x1] H4 H5 →
      TokR l at_ b H (.tuple #[.agg #[.int .i64 k, sv t, .int .i64 n, .int .i64 at_], .int .i64 0]) H5 := by
    intro k n t m H4 H5 e hs hf
    unfold TokR; rw [e]; exact ⟨rfl, hs.fin hf⟩
  have finB : ∀ {i k n a e : Int} {t : Bs} {H4 H5 : Heap}, tokS (l.drop at_) = .bad e → St H l b x1 x2 i k t n a H4 → Fr [x1] H4 H5 → TokR l at_ b H (.tuple #[.agg #[.int .i64 k, sv t, .int .i64 n, .int .i64 a], .int .i64 e]) H5 := by
    intro i k n a e t H4 H5 he hs hf
    unfold TokR; rw [he]; exact ⟨⟨_, _, _, _, rfl⟩, (hs.fin hf).2⟩
  rcases Nat.lt_or_ge at_ l.length with hlt | hge
  case inr =>
    have hal : at_ = l.length := by omega
    have hal' : ((at_ : Int) = (l.length : Int)) = True := by simp [hal]
    have ht : tokS (l.drop at_) = .ok 6 [] 0 0 := by rw [List.drop_eq_nil_of_le hge]; rfl
    simp (implicitDefEqProofs := false) only [go_sem, hc3, sv, ba_size, hal']
    refine Sto_one S3.tk (by simp) rfl fun H4 hn4 hf4 hs4 => ?_
    have S4 := S3.set (k' := 6) (t' := []) (n' := 0) (a' := at_) hn4 hf4
    have hc4 := S4.tk.cell
    simp (implicitDefEqProofs := false) only [go_sem, hc4]
    refine Sto_all S4.re rfl (one4 (t := [])) fun H5 hn5 hf5 hs5 => ?_
    have hc5 := hn5.cell
    simp (implicitDefEqProofs := false) only [go_sem, hc5]
    exact fin ht S4 hf5
  have hal' : ((at_ : Int) = (l.length : Int)) = False := by simp; omega
  have hlt' : (at_ : Int) < (l.length : Int) := by omega
  have ha0 : (0 : Int) ≤ (at_ : Int) := by omega
  have hgd := getD_at l at_ hlt
  have hdr := List.drop_eq_getElem_cons hlt
  simp (implicitDefEqProofs := false) only [go_sem, hc3, sv, ba_size, hal', hlt', ha0, hgd]
  refine (letter_ok l[at_] H3).mono ?_
  rintro r H4 ⟨rfl, hEq⟩
  obtain rfl := hEq.symm
  cases hlet : letB l[at_]
  case true =>
    have htok : tokS (l.drop at_) = tokW ((l.drop at_).takeWhile partB) := by rw [hdr]; simp only [tokS, hlet, if_true]
    simp (implicitDefEqProofs := false) only [go_sem]
    refine (run_ok body_part part_ok hlm hat S3.sc).mono ?_
    rintro r H5 ⟨rfl, hb5, hf5⟩
    generalize hw : (l.drop at_).takeWhile partB = w at *
    have hwl : twN partB (l.drop at_) = w.length := by unfold twN; rw [hw]
    rw [hwl] at hb5
    have S5 := S3.scan hb5 hf5
    simp (implicitDefEqProofs := false) only [go_sem, sv]
    refine Sto_one S5.tk (by simp) rfl fun H6 hn6 hf6 hs6 => ?_
    have S6 := S5.set (k' := 0) (t' := w) (n' := 0) (a' := at_) hn6 hf6
    simp (implicitDefEqProofs := false) only [go_sem]
    refine Sto_one S6.tk (by simp) rfl fun H7 hn7 hf7 hs7 => ?_
    have S7 := S6.set (k' := 1) (t' := w) (n' := 0) (a' := at_) hn7 hf7
    have hc7 := S7.tk.cell
    by_cases h16 : 16 < w.length
    · have h16' : (16 : Int) < (w.length : Int) := by omega
      simp (implicitDefEqProofs := false) only [go_sem, hc7, sv, ba_size, h16']
      refine Sto_all S7.re rfl one4 fun H8 hn8 hf8 hs8 => ?_
      have hc8 := hn8.cell
      simp (implicitDefEqProofs := false) only [go_sem, hc8]
      exact finB (by rw [htok]; unfold tokW; rw [if_pos h16]) S7 hf8
    · have h16' : ¬ (16 : Int) < (w.length : Int) := by omega
      simp (implicitDefEqProofs := false) only [go_sem, hc7, sv, ba_size, h16']
      refine (keyword_ok w H7).mono ?_
      rintro r H8 ⟨rfl, hf8⟩
      have S8 := S7.ext hf8
      have hc8 := S8.tk.cell
      cases ek : kwB w
      · simp (implicitDefEqProofs := false) only [go_sem, hc8]
        refine Sto_all S8.re rfl one4 fun H9 hn9 hf9 hs9 => ?_
        have hc9 := hn9.cell
        simp (implicitDefEqProofs := false) only [go_sem, hc9]
        exact fin (by rw [htok]; unfold tokW; rw [if_neg h16, ek]; rfl) S8 hf9
      · simp (implicitDefEqProofs := false) only [go_sem]
        refine Sto_one S8.tk (by simp) rfl fun H9 hn9 hf9 hs9 => ?_
        have S9 := S8.set (k' := 2) (t' := w) (n' := 0) (a' := at_) hn9 hf9
        have hc9 := S9.tk.cell
        simp (implicitDefEqProofs := false) only [go_sem, hc9]
        refine Sto_all S9.re rfl one4 fun H10 hn10 hf10 hs10 => ?_
        have hc10 := hn10.cell
        simp (implicitDefEqProofs := false) only [go_sem, hc10]
        exact fin (by rw [htok]; unfold tokW; rw [if_neg h16, ek]; rfl) S9 hf10
  simp (implicitDefEqProofs := false) only [go_sem]
  refine (digit_ok l[at_] H3).mono ?_
  rintro r H4 ⟨rfl, hEq⟩
  obtain rfl := hEq.symm
  cases hdig : digB l[at_]
  case true =>
    have htok : tokS (l.drop at_) = tokD ((l.drop at_).takeWhile digB) := by rw [hdr]; simp only [tokS, hlet, hdig, Bool.false_eq_true, if_false, if_true]
    simp (implicitDefEqProofs := false) only [go_sem]
    refine (run_ok body_digit digit_ok hlm hat S3.sc).mono ?_
    rintro r H5 ⟨rfl, hb5, hf5⟩
    have hall : ((l.drop at_).takeWhile digB).all digB = true := List.all_takeWhile
    have hne0 : (l.drop at_).takeWhile digB ≠ [] := by rw [hdr, List.takeWhile_cons, if_pos hdig]; simp
    have hwle : ((l.drop at_).takeWhile digB).length ≤ 65536 := by
      have := twN_le digB (l.drop at_)
      unfold twN at this
      simp only [List.length_drop] at this
      omega
    generalize hw : (l.drop at_).takeWhile digB = w at *
    have hwl : twN digB (l.drop at_) = w.length := by unfold twN; rw [hw]
    rw [hwl] at hb5
    have S5 := S3.scan hb5 hf5
    have hc5 := S5.tk.cell
    have hw0 : 0 < w.length := List.length_pos_iff.2 hne0
    have hw0' : (0 : Int) < (w.length : Int) := by omega
    by_cases hlead : 1 < w.length ∧ w.getD 0 0 = 48
    · have h1' : (1 : Int) < (w.length : Int) := by omega
      simp (implicitDefEqProofs := false) only [go_sem, hc5, sv, ba_size, h1', hw0', hlead.2]
      have h48 : ((UInt8.toNat 48 : Nat) : Int) = 48 := by decide
      simp (implicitDefEqProofs := false) only [go_sem, h48]
      refine Sto_all S5.re rfl (one4 (t := [])) fun H8 hn8 hf8 hs8 => ?_
      have hc8 := hn8.cell
      simp (implicitDefEqProofs := false) only [go_sem, hc8]
      exact finB (by rw [htok]; unfold tokD; rw [if_pos hlead]) S5 hf8
    · have htok2 : tokS (l.drop at_) = if 1000000000000000 < numL w then .bad 5 else .ok 3 [] (numL w) w.length := by rw [htok]; unfold tokD; rw [if_neg hlead]
      have hcase : ((1 : Int) < (w.length : Int) ∧ ¬ ((w.getD 0 0).toNat : Int) = 48) ∨ ¬ (1 : Int) < (w.length : Int) := by
        rcases Nat.lt_or_ge 1 w.length with q | q
        · refine .inl ⟨by omega, fun e => hlead ⟨q, ?_⟩⟩
          apply UInt8.toNat_inj.1
          have : (UInt8.toNat 48) = 48 := by decide
          omega
        · exact .inr (by omega)
      rcases hcase with ⟨h1', h48'⟩ | h1'
      case' inl => simp (implicitDefEqProofs := false) only [go_sem, hc5, sv, ba_size, h1', hw0', h48']
      case' inr => simp (implicitDefEqProofs := false) only [go_sem, hc5, sv, ba_size, h1']
      all_goals
        refine (parseInt_ok hall hne0 hwle (S5.glob hg h)).mono ?_
        rintro r H6 ⟨hr, hf6⟩
        have S6 := S5.ext hf6
        have hc6 := S6.tk.cell
        by_cases hbig : 9223372036854775808 ≤ numL w
        · rw [if_pos hbig] at hr
          obtain ⟨n', t', p', rfl⟩ := hr
          simp (implicitDefEqProofs := false) only [go_sem, hc6]
          refine Sto_all S6.re rfl (one4 (t := [])) fun H8 hn8 hf8 hs8 => ?_
          have hc8 := hn8.cell
          simp (implicitDefEqProofs := false) only [go_sem, hc8]
          exact finB (by rw [htok2, if_pos (by omega)]) S6 hf8
        · rw [if_neg hbig] at hr
          subst hr
          by_cases hmax : 1000000000000000 < numL w
          · have hmax' : (1000000000000000 : Int) < (numL w : Int) := by omega
            simp (implicitDefEqProofs := false) only [go_sem, hc6, hmax']
            refine Sto_all S6.re rfl (one4 (t := [])) fun H8 hn8 hf8 hs8 => ?_
            have hc8 := hn8.cell
            simp (implicitDefEqProofs := false) only [go_sem, hc8]
            exact finB (by rw [htok2, if_pos hmax]) S6 hf8
          · have hmax' : ¬ (1000000000000000 : Int) < (numL w : Int) := by omega
            simp (implicitDefEqProofs := false) only [go_sem, hc6, hmax']
            refine Sto_one S6.tk (by simp) rfl fun H7 hn7 hf7 hs7 => ?_
            have S7 := S6.set (k' := 3) (t' := []) (n' := 0) (a' := at_) hn7 hf7
            simp (implicitDefEqProofs := false) only [go_sem]
            refine Sto_one S7.tk (by simp) rfl fun H8 hn8 hf8 hs8 => ?_
            have S8 := S7.set (k' := 3) (t' := []) (n' := numL w) (a' := at_) hn8 hf8
            have hc8 := S8.tk.cell
            simp (implicitDefEqProofs := false) only [go_sem, hc8]
            refine Sto_all S8.re rfl (one4 (t := [])) fun H9 hn9 hf9 hs9 => ?_
            have hc9 := hn9.cell
            simp (implicitDefEqProofs := false) only [go_sem, hc9]
            exact fin (by rw [htok2, if_neg hmax]) S8 hf9
  case false =>
    have hw1 : IntKind.i64.wrap ((at_ : Int) + 1) = ((at_ + 1 : Nat) : Int) := by rw [wrap_i64_id _ (by omega) (by omega)]; omega
    by_cases hq : (l[at_].toNat : Int) = 39
    · have htok : tokS (l.drop at_) = tokQ ((l.drop (at_ + 1)).takeWhile partB) ((l.drop (at_ + 1)).dropWhile partB) := by
        rw [hdr]; simp only [tokS, hlet, hdig, hq, Bool.false_eq_true, if_false, if_true]
      simp (implicitDefEqProofs := false) only [go_sem, hq, hc3, hw1]
      refine Sto_one S3.sc (by simp) rfl fun H4 hn4 hf4 hs4 => ?_
      have S4 := S3.scan (i' := (at_ + 1 : Nat)) hn4 hf4
      simp (implicitDefEqProofs := false) only [go_sem]
      refine (run_ok body_part part_ok hlm (Nat.succ_le_of_lt hlt) S4.sc).mono ?_
      rintro r H5 ⟨rfl, hb5, hf5⟩
      have hdw := drop_twN partB (l.drop (at_ + 1))
      rw [List.drop_drop] at hdw
      have hwle := twN_le partB (l.drop (at_ + 1))
      simp only [List.length_drop] at hwle
      generalize hw : (l.drop (at_ + 1)).takeWhile partB = w at *
      have hwl : twN partB (l.drop (at_ + 1)) = w.length := by unfold twN; rw [hw]
      rw [hwl] at hb5 hdw hwle
      rw [← hdw] at htok
      have S5 := S4.scan hb5 hf5
      simp (implicitDefEqProofs := false) only [go_sem, sv]
      refine Sto_one S5.tk (by simp) rfl fun H6 hn6 hf6 hs6 => ?_
      have S6 := S5.set (k' := 0) (t' := w) (n' := 0) (a' := at_) hn6 hf6
      have hc6 := S6.sc.cell
      have hk6 := S6.tk.cell
      generalize hk : at_ + 1 + w.length = k at *
      have hk0 : (0 : Int) ≤ (k : Int) := by omega
      rcases Nat.lt_or_ge k l.length with hkl | hkl
      · have hk1 : ¬ (k : Int) = (l.length : Int) := by omega
        have hk2 : (k : Int) < (l.length : Int) := by omega
        have hgk := getD_at l k hkl
        have hdk := List.drop_eq_getElem_cons hkl
        by_cases h39 : (l[k].toNat : Int) = 39
        · have hwk : IntKind.i64.wrap ((k : Int) + 1) = ((k + 1 : Nat) : Int) := by rw [wrap_i64_id _ (by omega) (by omega)]; omega
          have htok2 : tokS (l.drop at_) = if validN w then .ok 4 w 0 (w.length + 2) else .bad 3 := by
            rw [htok, hdk]; unfold tokQ
            have : l[k] = 39 := by
              apply UInt8.toNat_inj.1
              have : (UInt8.toNat 39) = 39 := by decide
              omega
            rw [if_neg (by simp [this])]
          simp (implicitDefEqProofs := false) only [go_sem, hc6, hk6, sv, ba_size, hk0, hk1, hk2, hgk, h39, hwk]
          refine Sto_one S6.sc (by simp) rfl fun H7 hn7 hf7 hs7 => ?_
          have S7 := S6.scan (i' := (k + 1 : Nat)) hn7 hf7
          have hc7 := S7.tk.cell
          simp (implicitDefEqProofs := false) only [go_sem, hc7]
          refine (valid_ok w H7).mono ?_
          rintro r H8 ⟨rfl, hEq⟩
          obtain rfl := hEq.symm
          cases ev : validN w
          · simp (implicitDefEqProofs := false) only [go_sem, hc7]
            refine Sto_all S7.re rfl one4 fun H8 hn8 hf8 hs8 => ?_
            have hc8 := hn8.cell
            simp (implicitDefEqProofs := false) only [go_sem, hc8]
            exact finB (by rw [htok2, ev]; rfl) S7 hf8
          · simp (implicitDefEqProofs := false) only [go_sem]
            refine Sto_one S7.tk (by simp) rfl fun H8 hn8 hf8 hs8 => ?_
            have S8 := S7.set (k' := 4) (t' := w) (n' := 0) (a' := at_) hn8 hf8
            have hc8 := S8.tk.cell
            simp (implicitDefEqProofs := false) only [go_sem, hc8]
            refine Sto_all S8.re rfl one4 fun H9 hn9 hf9 hs9 => ?_
            have hc9 := hn9.cell
            simp (implicitDefEqProofs := false) only [go_sem, hc9]
            exact fin (m := w.length + 2) (by rw [htok2, ev]; rfl) (by rw [show at_ + (w.length + 2) = k + 1 by omega]; exact S8) hf9
        · simp (implicitDefEqProofs := false) only [go_sem, hc6, hk6, sv, ba_size, hk0, hk1, hk2, hgk, h39]
          refine Sto_all S6.re rfl one4 fun H8 hn8 hf8 hs8 => ?_
          have hc8 := hn8.cell
          simp (implicitDefEqProofs := false) only [go_sem, hc8]
          refine finB ?_ S6 hf8
          rw [htok, hdk]; unfold tokQ
          have hne39 : (l[k] :: l.drop (k + 1)).getD 0 0 ≠ 39 := by
            intro e
            have e' : l[k] = 39 := e
            rw [e'] at h39
            exact h39 (by decide)
          rw [if_pos (.inr hne39)]
      · have hk1 : ((k : Int) = (l.length : Int)) = True := by simp; omega
        simp (implicitDefEqProofs := false) only [go_sem, hc6, hk6, sv, ba_size, hk0, hk1]
        refine Sto_all S6.re rfl one4 fun H8 hn8 hf8 hs8 => ?_
        have hc8 := hn8.cell
        simp (implicitDefEqProofs := false) only [go_sem, hc8]
        refine finB ?_ S6 hf8
        rw [htok, List.drop_eq_nil_of_le hkl]; rfl
    · have htok : tokS (l.drop at_) = tokG (l.drop at_) := by
        rw [hdr]; simp only [tokS, hlet, hdig, hq, Bool.false_eq_true, if_false]
      have hw2 : IntKind.i64.wrap ((at_ : Int) + 2) = ((at_ + 2 : Nat) : Int) := by rw [wrap_i64_id _ (by omega) (by omega)]; omega
      have e1 : (⟨⟨l⟩⟩ : ByteArray).extract at_ (at_ + 1) = ⟨⟨(l.drop at_).take 1⟩⟩ := by rw [ba_ext, List.drop_take]; simp
      have e2 : (⟨⟨l⟩⟩ : ByteArray).extract at_ (at_ + 2) = ⟨⟨(l.drop at_).take 2⟩⟩ := by rw [ba_ext, List.drop_take]; simp
      have g1 : (at_ : Int) ≤ ((at_ + 1 : Nat) : Int) := by omega
      have g2 : ((at_ + 1 : Nat) : Int) ≤ (l.length : Int) := by omega
      have g3 : (0 : Int) ≤ ((at_ + 1 : Nat) : Int) := by omega
      have g5 : ((at_ + 2 : Nat) : Int) = (at_ : Int) + 2 := by omega
      have g6 : ((at_ + 1 : Nat) : Int) = (at_ : Int) + 1 := by omega
      have ls1 : signB ((l.drop at_).take 1) = true → ¬ (2 ≤ (l.drop at_).length ∧ signB ((l.drop at_).take 2) = true) → tokS (l.drop at_) = .ok 5 ((l.drop at_).take 1) 0 1 := fun h1 h2 => by
        rw [htok]; unfold tokG; rw [if_neg h2, if_pos h1]
      have ls0 : signB ((l.drop at_).take 1) = false → ¬ (2 ≤ (l.drop at_).length ∧ signB ((l.drop at_).take 2) = true) → tokS (l.drop at_) = .bad 2 := fun h1 h2 => by
        rw [htok]; unfold tokG; rw [if_neg h2, h1]; rfl
      by_cases hlen : at_ + 2 ≤ l.length
      · have hlen' : ¬ (l.length : Int) < ((at_ + 2 : Nat) : Int) := by omega
        have g4 : (at_ : Int) ≤ ((at_ + 2 : Nat) : Int) := by omega
        have g7 : ((at_ + 2 : Nat) : Int) ≤ (l.length : Int) := by omega
        have g8 : (0 : Int) ≤ ((at_ + 2 : Nat) : Int) := by omega
        simp (implicitDefEqProofs := false) only [go_sem, hq, hc3, sv, ba_size, hw2, hlen', g4, g7, g8, ha0, e2]
        refine (sign_ok ((l.drop at_).take 2) H3).mono ?_
        rintro r H4 ⟨rfl, hf4⟩
        have S4 := S3.ext hf4
        have hc4 := S4.sc.cell
        have hk4 := S4.tk.cell
        cases es : signB ((l.drop at_).take 2)
        · have hno : ¬ (2 ≤ (l.drop at_).length ∧ signB ((l.drop at_).take 2) = true) := by rw [es]; simp
          simp (implicitDefEqProofs := false) only [go_sem, hc4, sv, ba_size, hw1, hw2, hlen', g1, g2, g3, g4, g7, g8, ha0, e1, e2]
          refine Sto_one S4.tk (by simp) rfl fun H5 hn5 hf5 hs5 => ?_
          have S5 := S4.set (k' := 5) (t' := []) (n' := 0) (a' := at_) hn5 hf5
          have hc5 := S5.sc.cell
          have hk5 := S5.tk.cell
          simp (implicitDefEqProofs := false) only [go_sem, hc5, hk5, sv, ba_size, hw1, g1, g2, g3, ha0, e1]
          refine Sto_one S5.tk (by simp) rfl fun H6 hn6 hf6 hs6 => ?_
          have S6 := S5.set (k' := 5) (t' := (l.drop at_).take 1) (n' := 0) (a' := at_) hn6 hf6
          have hc6 := S6.sc.cell
          have hk6 := S6.tk.cell
          simp (implicitDefEqProofs := false) only [go_sem, hc6, hk6, sv, ba_size, hw1, g1, g2, g3, ha0, e1]
          refine (sign_ok ((l.drop at_).take 1) H6).mono ?_
          rintro r H7 ⟨rfl, hf7⟩
          have S7 := S6.ext hf7
          have hc7 := S7.sc.cell
          have hk7 := S7.tk.cell
          cases es1 : signB ((l.drop at_).take 1)
          · simp (implicitDefEqProofs := false) only [go_sem, hc7, hk7]
            refine Sto_all S7.re rfl one4 fun H8 hn8 hf8 hs8 => ?_
            have hc8 := hn8.cell
            simp (implicitDefEqProofs := false) only [go_sem, hc8]
            exact finB (ls0 es1 hno) S7 hf8
          · simp (implicitDefEqProofs := false) only [go_sem, hc7, hk7, hw1]
            refine Sto_one S7.sc (by simp) rfl fun H8 hn8 hf8 hs8 => ?_
            have S8 := S7.scan (i' := (at_ + 1 : Nat)) hn8 hf8
            have hk8 := S8.tk.cell
            simp (implicitDefEqProofs := false) only [go_sem, hk8]
            refine Sto_all S8.re rfl one4 fun H9 hn9 hf9 hs9 => ?_
            have hc9 := hn9.cell
            simp (implicitDefEqProofs := false) only [go_sem, hc9]
            exact fin (ls1 es1 hno) S8 hf9
        · have htok2 : tokS (l.drop at_) = .ok 5 ((l.drop at_).take 2) 0 2 := by
            rw [htok]; unfold tokG; rw [if_pos ⟨by simp only [List.length_drop]; omega, es⟩]
          simp (implicitDefEqProofs := false) only [go_sem, hc4, sv, ba_size, hw2, hlen', g4, g7, g8, ha0, e2]
          refine Sto_one S4.tk (by simp) rfl fun H5 hn5 hf5 hs5 => ?_
          have S5 := S4.set (k' := 5) (t' := []) (n' := 0) (a' := at_) hn5 hf5
          have hc5 := S5.sc.cell
          have hk5 := S5.tk.cell
          simp (implicitDefEqProofs := false) only [go_sem, hc5, hk5, sv, ba_size, hw2, hlen', g4, g7, g8, ha0, e2]
          refine Sto_one S5.tk (by simp) rfl fun H6 hn6 hf6 hs6 => ?_
          have S6 := S5.set (k' := 5) (t' := (l.drop at_).take 2) (n' := 0) (a' := at_) hn6 hf6
          have hc6 := S6.sc.cell
          have hk6 := S6.tk.cell
          simp (implicitDefEqProofs := false) only [go_sem, hc6, hk6, sv, ba_size, hw2, g4, g7, g8, ha0, e2]
          refine (sign_ok ((l.drop at_).take 2) H6).mono ?_
          rintro r H7 ⟨rfl, hf7⟩
          have S7 := S6.ext hf7
          have hc7 := S7.sc.cell
          have hk7 := S7.tk.cell
          rw [es]
          simp (implicitDefEqProofs := false) only [go_sem, hc7, hk7, hw2]
          refine Sto_one S7.sc (by simp) rfl fun H8 hn8 hf8 hs8 => ?_
          have S8 := S7.scan (i' := (at_ + 2 : Nat)) hn8 hf8
          have hk8 := S8.tk.cell
          simp (implicitDefEqProofs := false) only [go_sem, hk8]
          refine Sto_all S8.re rfl one4 fun H9 hn9 hf9 hs9 => ?_
          have hc9 := hn9.cell
          simp (implicitDefEqProofs := false) only [go_sem, hc9]
          exact fin htok2 S8 hf9
      · have hno : ¬ (2 ≤ (l.drop at_).length ∧ signB ((l.drop at_).take 2) = true) := by
          simp only [List.length_drop]; omega
        have hlen' : (l.length : Int) < ((at_ + 2 : Nat) : Int) := by omega
        have S4 := S3
        have hc4 := hc3
        have hk4 := S4.tk.cell
        simp (implicitDefEqProofs := false) only [go_sem, hq, hc4, sv, ba_size, hw1, hw2, hlen', g1, g2, g3, ha0, e1, e2]
        refine Sto_one S4.tk (by simp) rfl fun H5 hn5 hf5 hs5 => ?_
        have S5 := S4.set (k' := 5) (t' := []) (n' := 0) (a' := at_) hn5 hf5
        have hc5 := S5.sc.cell
        have hk5 := S5.tk.cell
        simp (implicitDefEqProofs := false) only [go_sem, hc5, hk5, sv, ba_size, hw1, g1, g2, g3, ha0, e1]
        refine Sto_one S5.tk (by simp) rfl fun H6 hn6 hf6 hs6 => ?_
        have S6 := S5.set (k' := 5) (t' := (l.drop at_).take 1) (n' := 0) (a' := at_) hn6 hf6
        have hc6 := S6.sc.cell
        have hk6 := S6.tk.cell
        simp (implicitDefEqProofs := false) only [go_sem, hc6, hk6, sv, ba_size, hw1, g1, g2, g3, ha0, e1]
        refine (sign_ok ((l.drop at_).take 1) H6).mono ?_
        rintro r H7 ⟨rfl, hf7⟩
        have S7 := S6.ext hf7
        have hc7 := S7.sc.cell
        have hk7 := S7.tk.cell
        cases es1 : signB ((l.drop at_).take 1)
        · simp (implicitDefEqProofs := false) only [go_sem, hc7, hk7]
          refine Sto_all S7.re rfl one4 fun H8 hn8 hf8 hs8 => ?_
          have hc8 := hn8.cell
          simp (implicitDefEqProofs := false) only [go_sem, hc8]
          exact finB (ls0 es1 hno) S7 hf8
        · simp (implicitDefEqProofs := false) only [go_sem, hc7, hk7, hw1]
          refine Sto_one S7.sc (by simp) rfl fun H8 hn8 hf8 hs8 => ?_
          have S8 := S7.scan (i' := (at_ + 1 : Nat)) hn8 hf8
          have hk8 := S8.tk.cell
          simp (implicitDefEqProofs := false) only [go_sem, hk8]
          refine Sto_all S8.re rfl one4 fun H9 hn9 hf9 hs9 => ?_
          have hc9 := hn9.cell
          simp (implicitDefEqProofs := false) only [go_sem, hc9]
          exact fin (ls1 es1 hno) S8 hf9
end Go.Proofs.YtbgjgaaobnbijaaDoor
