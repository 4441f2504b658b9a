/- The laws: faults, texts, again, comments. -/
import Derived.Test.YtighpnijbnllaaaDoorXv
set_option linter.unusedSimpArgs false
set_option linter.unusedVariables false
set_option maxRecDepth 8000
namespace Go.Proofs.YtighpnijbnllaaaDoor
open Gx Go

theorem lexT_F {l : Bs} (h : l.length ≤ 65536) : lexT l = lexF (l.length + 1) l 0 := by
  unfold lexT lexA
  rw [if_neg (by omega), List.drop_zero]
theorem poB_bd {t : Tk} (h : poB t = true) : (-9223372036854775808 ≤ t.n ∧ t.n ≤ 9223372036854775807) ∧ t.text.length ≤ 1000000000000 := by
  unfold poB at h
  simp only [Bool.and_eq_true, Bool.or_eq_true, decide_eq_true_eq] at h
  obtain ⟨hn, hp⟩ := h
  split at hp
  · rename_i k
    rw [Bool.and_eq_true] at hp
    have := valid_len hp.1
    exact ⟨by omega, by omega⟩
  · split at hp
    · have := kw_len hp
      exact ⟨by omega, by omega⟩
    · split at hp
      · simp only [Bool.and_eq_true, decide_eq_true_eq] at hp
        exact ⟨by omega, by rw [hp.1]; simp⟩
      · split at hp
        · have := valid_len hp
          exact ⟨by omega, by omega⟩
        · split at hp
          · have := sign_len hp
            exact ⟨by omega, by omega⟩
          · split at hp
            · simp only [decide_eq_true_eq] at hp
              exact ⟨by omega, by rw [hp]; simp⟩
            · cases hp
theorem lexT_ok {l : Bs} (hl : l.length ≤ 65536) {ts : List Tk} (h : lexT l = .ok ts) : okG ts = true ∧ ts ≠ [] ∧ ts.length ≤ l.length + 1 := by
  rw [lexT_F hl] at h
  have := lexF_chain _ _ _ _ (by omega) h
  exact chain_ok _ _ _ _ this
theorem textT_ok {ts : List Tk} (h1 : okG ts = true) (h2 : ts ≠ []) (h3 : ts.length ≤ 2001) : textT ts = (Lib.join (spells ts) [32], 0) ∧ (Lib.join (spells ts) [32]).length ≤ 40000 := by
  have hj := join_len' (okG_all h1)
  refine ⟨?_, by omega⟩
  unfold textT
  rw [if_neg (by rintro (q | q); exact h2 q; rw [h1] at q; cases q), if_neg (by omega)]

set_option maxHeartbeats 4000000 in
theorem faults_law (l : Bs) (hl : l.length ≤ maxLen) {H : Heap} (hg : GlobH H) : HCalls Tryd.prog 11 #[sv l] H fun r H' => r = .bool true ∧ Fr [] H H' := by
  refine calls_of_vc (args := [_]) Tryd.func11 c11ok (Nat.le_of_ble_eq_true rfl) ?_
  simp (implicitDefEqProofs := false) only [go_sem, c11]
  refine (awake_ok hg).mono ?_
  rintro r H1 ⟨rfl, hf1⟩
  by_cases h2 : 2000 < l.length
  · have h2' : (2000 : Int) < (l.length : Int) := by omega
    simp (implicitDefEqProofs := false) only [go_sem, sv, ba_size, h2']
    exact hf1
  have h2' : ¬ (2000 : Int) < (l.length : Int) := by omega
  simp (implicitDefEqProofs := false) only [go_sem, sv, ba_size, h2']
  refine (lex_ok l hl (hg.ext hf1)).mono ?_
  rintro r H2 ⟨hr, hf2⟩
  obtain ⟨ts, e, k, a, c, rfl, q1, q2, hrow, hR⟩ := hr.cases
  simp (implicitDefEqProofs := false) only [go_sem, ftV]
  refine NewP_intro fun H3 hb3 hf3 hs3 => ?_
  generalize hx3 : H2.size = x3 at *
  simp (implicitDefEqProofs := false) only [go_sem]
  refine Sto_all hb3 rfl (one2 rfl rfl) fun H4 hb4 hf4 hs4 => ?_
  have hF4 : Fr [] H H4 := (hf1.trans hf2).trans (fr_new hf3 hf4 (by omega))
  have k4 := hb4.cell
  rcases hR with ⟨_, rfl, rfl⟩ | ⟨j, rfl, r1, rfl⟩
  · simp (implicitDefEqProofs := false) only [go_sem, k4]
    exact hF4
  have hl6 : l.length ≤ 65536 := by omega
  rw [lexT_F hl6] at r1
  obtain ⟨b1, b2, b3⟩ := lexF_bad _ _ _ _ _ (by omega) r1
  rw [Nat.zero_add] at b3
  obtain ⟨us, u, c1, c2, c3⟩ := lexF_cut _ _ _ _ _ (by omega) r1
  rw [Nat.sub_zero] at c1
  have e0 : (e = 0) = False := by simp [b1]
  have j0 : ¬ ((j : Int) < 0) := by omega
  have j0' : (0 : Int) ≤ (j : Int) := by omega
  have j1 : ¬ ((l.length : Int) ≤ (j : Int)) := by omega
  have j2 : (j : Int) ≤ (l.length : Int) := by omega
  have hex : (⟨⟨l⟩⟩ : ByteArray).extract 0 j = ⟨⟨l.take j⟩⟩ := by rw [ba_ext]; rfl
  have htl : (l.take j).length ≤ 65536 := by rw [List.length_take]; omega
  simp (implicitDefEqProofs := false) only [go_sem, k4, e0, j0, j0', j1, j2, sv, ba_size, hex]
  refine (lex_ok (l.take j) (by unfold maxLen; omega) (hg.ext hF4)).mono ?_
  rintro r H5 ⟨hr', hf5⟩
  have hlt : lexT (l.take j) = .ok us := by
    rw [lexT_F htl, ← c1]
    exact lexF_fuel _ _ _ _ (by omega) (by rw [List.length_take]; omega)
  rw [hlt] at hr'
  obtain ⟨a', c', rfl, q1', q2', hrow'⟩ := hr'
  have hb5 := hb4.ext hf5
  have hlt5 := hb5.lt
  simp (implicitDefEqProofs := false) only [go_sem, ftV]
  refine NewP_intro fun H6 hb6 hf6 hs6 => ?_
  generalize hx6 : H5.size = x6 at *
  simp (implicitDefEqProofs := false) only [go_sem]
  refine Sto_all hb6 rfl (one2 rfl rfl) fun H7 hb7 hf7 hs7 => ?_
  have hF7 : Fr [] H5 H7 := fr_new hf6 hf7 (by omega)
  have k5 := (hb5.ext hF7).cell
  have k7 := hb7.cell
  have hpos : 0 < us.length := by
    cases us with
    | nil => simp at c2
    | cons _ _ => simp
  obtain ⟨b, o, rfl, p0, p1, p2, p3⟩ := rowT_at (hrow'.ext hF7) (us.length - 1) (by omega)
  have hlast : us[us.length - 1].at_ = (j : Int) := by
    rw [List.getLast?_eq_getElem?, List.getElem?_eq_getElem (by omega)] at c2
    rw [Option.some.inj c2]; exact c3
  rw [hlast] at p3
  have hul : us.length ≤ maxLen := by omega
  have hw : IntKind.i64.wrap ((us.length : Int) - 1) = ((us.length - 1 : Nat) : Int) := by
    unfold maxLen at hul
    rw [wrap_i64_id _ (by omega) (by omega)]; omega
  have g1 : (0 : Int) < (us.length : Int) := by omega
  have g2 : (0 : Int) ≤ ((us.length - 1 : Nat) : Int) := by omega
  have g3 : ((us.length - 1 : Nat) : Int) < (us.length : Int) := by omega
  simp (implicitDefEqProofs := false) only [go_sem, k5, k7, g1, g2, g3, hw, p3]
  exact hF4.trans (hf5.trans hF7)

set_option maxHeartbeats 4000000 in
theorem again_law (l : Bs) (hl : l.length ≤ maxLen) {H : Heap} (hg : GlobH H) : HCalls Tryd.prog 8 #[sv l] H fun r H' => r = .bool true ∧ Fr [] H H' := by
  refine calls_of_vc (args := [_]) Tryd.func8 c8ok (Nat.le_of_ble_eq_true rfl) ?_
  simp (implicitDefEqProofs := false) only [go_sem, c8]
  refine (awake_ok hg).mono ?_
  rintro r H1 ⟨rfl, hf1⟩
  by_cases h2 : 2000 < l.length
  · have h2' : (2000 : Int) < (l.length : Int) := by omega
    simp (implicitDefEqProofs := false) only [go_sem, sv, ba_size, h2']
    exact hf1
  have h2' : ¬ (2000 : Int) < (l.length : Int) := by omega
  simp (implicitDefEqProofs := false) only [go_sem, sv, ba_size, h2']
  refine (lex_ok l hl (hg.ext hf1)).mono ?_
  rintro r H2 ⟨hr, hf2⟩
  obtain ⟨ts, e, k, a, c, rfl, q1, q2, hrow, hR⟩ := hr.cases
  simp (implicitDefEqProofs := false) only [go_sem, ftV]
  refine NewP_intro fun H3 hb3 hf3 hs3 => ?_
  generalize hx3 : H2.size = x3 at *
  simp (implicitDefEqProofs := false) only [go_sem]
  refine Sto_all hb3 rfl (one2 rfl rfl) fun H4 hb4 hf4 hs4 => ?_
  have hF24 : Fr [] H2 H4 := fr_new hf3 hf4 (by omega)
  have hF4 : Fr [] H H4 := (hf1.trans hf2).trans hF24
  have k4 := hb4.cell
  rcases hR with ⟨hok, rfl, rfl⟩ | ⟨j, rfl, r1, rfl⟩
  case inr =>
    rw [lexT_F (by omega)] at r1
    have e0 : (e = 0) = False := by simp [(lexF_bad _ _ _ _ _ (by omega) r1).1]
    simp (implicitDefEqProofs := false) only [go_sem, k4, e0]
    exact hF4
  obtain ⟨o1, o2, o3⟩ := lexT_ok (by omega) hok
  obtain ⟨t1, t2⟩ := textT_ok o1 o2 (by omega)
  generalize hS : Lib.join (spells ts) [32] = S at *
  obtain ⟨us, u1, u2⟩ := text_lex t1
  have t3 := textT_eq u2
  rw [t1] at t3
  simp (implicitDefEqProofs := false) only [go_sem, k4]
  refine (text_ok (hrow.ext hF24) (by omega) (fun t ht => poB_bd (okG_all o1 t ht)) (hg.ext hF4)).mono ?_
  rintro r H5 ⟨rfl, hf5⟩
  rw [t1]
  simp (implicitDefEqProofs := false) only [go_sem]
  refine (lex_ok S (by unfold maxLen; omega) (hg.ext (hF4.trans hf5))).mono ?_
  rintro r H6 ⟨hr', hf6⟩
  rw [u1] at hr'
  obtain ⟨a', c', rfl, q1', q2', hrow'⟩ := hr'
  simp (implicitDefEqProofs := false) only [go_sem, ftV]
  refine NewP_intro fun H7 hb7 hf7 hs7 => ?_
  generalize hx7 : H6.size = x7 at *
  simp (implicitDefEqProofs := false) only [go_sem]
  refine Sto_all hb7 rfl (one2 rfl rfl) fun H8 hb8 hf8 hs8 => ?_
  have hF8 : Fr [] H6 H8 := fr_new hf7 hf8 (by omega)
  have hFa : Fr [] H4 H8 := (hf5.trans hf6).trans hF8
  have ho : okG us = true := by rw [(textT_same u2).1]; exact o1
  have hul : us.length = ts.length := sameT_len u2
  simp (implicitDefEqProofs := false) only [go_sem]
  refine (text_ok (hrow'.ext hF8) (by omega) (fun t ht => poB_bd (okG_all ho t ht)) (hg.ext (hF4.trans hFa))).mono ?_
  rintro r H9 ⟨rfl, hf9⟩
  rw [t3]
  have k8 := (hb8.ext hf9).cell
  simp (implicitDefEqProofs := false) only [go_sem, k8, sv]
  refine (same_ok false (hrow.ext ((hF24.trans hFa).trans hf9)) (hrow'.ext (hF8.trans hf9)) (by unfold maxLen; omega)).mono ?_
  rintro r H10 ⟨rfl, hEq⟩
  obtain rfl := hEq.symm
  rw [sameT_symm u2]
  simp (implicitDefEqProofs := false) only [go_sem]
  exact hF4.trans (hFa.trans hf9)

set_option maxHeartbeats 4000000 in
theorem texts_law {ts : List Tk} {a : Option Addr} {c : Nat} {H : Heap} (hg : GlobH H) (hrow : RowR tkC H a ts) (hc : ts.length ≤ c) (hcm : c ≤ maxLen) (hn : ∀ t ∈ ts, -9223372036854775808 ≤ t.n ∧ t.n ≤ 9223372036854775807) :
    HCalls Tryd.prog 7 #[.slice a ts.length c] H fun r H' => r = .bool true ∧ Fr [] H H' := by
  refine calls_of_vc (args := [_]) Tryd.func7 c7ok (Nat.le_of_ble_eq_true rfl) ?_
  simp (implicitDefEqProofs := false) only [go_sem, c7]
  refine (awake_ok hg).mono ?_
  rintro r H1 ⟨rfl, hf1⟩
  by_cases h2 : 200 < ts.length
  · have h2' : (200 : Int) < (ts.length : Int) := by omega
    simp (implicitDefEqProofs := false) only [go_sem, h2']
    exact hf1
  have h2' : ¬ (200 : Int) < (ts.length : Int) := by omega
  simp (implicitDefEqProofs := false) only [go_sem, h2']
  have hrow1 := hrow.ext hf1
  refine vc_loop (fun (i : Nat) H' => (i ≤ ts.length ∧ ∀ (j : Nat) (hj : j < i) (hl : j < ts.length), ts[j].text.length ≤ 100) ∧ H' = H1)
    (fun i => [(0, .slice a ts.length c), (3, .int .i64 i)]) (fun i => ts.length - i) 0 ?_ ?_ ?_
  · exact ⟨⟨Nat.zero_le _, fun j hj => by omega⟩, rfl⟩
  · simp (implicitDefEqProofs := false) only [go_sem, z0]
  · rintro i H' ⟨⟨hi, hall⟩, rfl⟩
    rcases Nat.lt_or_ge i ts.length with hlt | hge
    · have hlt' : (i : Int) < (ts.length : Int) := by omega
      have hi0 : (0 : Int) ≤ (i : Int) := by omega
      have hw := succ_i64 i ts.length hlt (by omega)
      obtain ⟨b, o, rfl, p0, p1, p2, p3⟩ := rowT_at hrow1 i hlt
      unfold sv at p1
      by_cases h100 : 100 < ts[i].text.length
      · have h100' : (100 : Int) < (ts[i].text.length : Int) := by omega
        simp (implicitDefEqProofs := false) only [go_sem, hlt', hi0, p1, ba_size, h100']
        exact hf1
      · have h100' : ¬ (100 : Int) < (ts[i].text.length : Int) := by omega
        simp (implicitDefEqProofs := false) only [go_sem, hlt', hi0, p1, ba_size, h100', hw]
        refine loopK_intro (i + 1) (by show ts.length - (i + 1) < ts.length - i; omega) ?_ ⟨⟨hlt, fun j hj hl => ?_⟩, rfl⟩
        · simp (implicitDefEqProofs := false) only [go_sem]
        · rcases Nat.lt_or_ge j i with q | q
          · exact hall j q hl
          · obtain rfl : j = i := by omega
            omega
    · have hlt' : ¬ (i : Int) < (ts.length : Int) := by omega
      have hbd : ∀ t ∈ ts, t.text.length ≤ 100 := by
        intro t ht
        obtain ⟨j, hj, rfl⟩ := List.getElem_of_mem ht
        exact hall j (by omega) hj
      simp (implicitDefEqProofs := false) only [go_sem, hlt']
      refine (text_ok hrow1 (by omega) (fun t ht => ⟨hn t ht, by have := hbd t ht; omega⟩) (hg.ext hf1)).mono ?_
      rintro r H2 ⟨rfl, hf2⟩
      have hrt : ∀ H', Fr [] H' H' → RowR tkC H' a ts → HCalls Tryd.prog 25 #[.slice a ts.length c] H' fun r H'' => r = .tuple #[sv (textT ts).1, .int .i64 (textT ts).2] ∧ Fr [] H' H'' := fun H' _ hr => rtext_ok hr (by omega) (fun t ht => by have := hbd t ht; omega)
      cases hT : textT ts with
      | mk S e =>
        rw [hT] at hrt
        simp (implicitDefEqProofs := false) only [go_sem]
        refine (hrt H2 (Fr.refl _ _) (hrow1.ext hf2)).mono ?_
        rintro r H3 ⟨rfl, hf3⟩
        by_cases he : e = 0
        · subst he
          obtain ⟨us, u1, u2⟩ := text_lex hT
          have hSl : S.length ≤ 65536 := by
            unfold textT at hT
            split at hT
            · simp at hT
            · split at hT
              · simp at hT
              · rename_i h3
                simp only [Prod.mk.injEq, and_true] at hT
                rw [← hT]; omega
          simp (implicitDefEqProofs := false) only [go_sem, sv, ba_eq]
          refine (lex_ok S (by unfold maxLen; omega) (hg.ext ((hf1.trans hf2).trans hf3))).mono ?_
          rintro r H4 ⟨hr', hf4⟩
          rw [u1] at hr'
          obtain ⟨a', c', rfl, q1', q2', hrow'⟩ := hr'
          simp (implicitDefEqProofs := false) only [go_sem, ftV]
          refine NewP_intro fun H5 hb5 hf5 hs5 => ?_
          generalize hx5 : H4.size = x5 at *
          simp (implicitDefEqProofs := false) only [go_sem]
          refine Sto_all hb5 rfl (one2 rfl rfl) fun H6 hb6 hf6 hs6 => ?_
          have hF6 : Fr [] H4 H6 := fr_new hf5 hf6 (by omega)
          have k6 := hb6.cell
          have hul : us.length = ts.length := sameT_len u2
          simp (implicitDefEqProofs := false) only [go_sem, k6]
          refine (same_ok false (hrow'.ext hF6) (hrow1.ext (((hf2.trans hf3).trans hf4).trans hF6)) (by omega)).mono ?_
          rintro r H7 ⟨rfl, hEq⟩
          obtain rfl := hEq.symm
          rw [u2]
          simp (implicitDefEqProofs := false) only [go_sem]
          exact hf1.trans (((hf2.trans hf3).trans hf4).trans hF6)
        · have he' : (e = 0) = False := by simp [he]
          simp (implicitDefEqProofs := false) only [go_sem, sv, ba_eq, he']
          exact (hf1.trans hf2).trans hf3

set_option maxHeartbeats 4000000 in
theorem blanks_law (l com : Bs) (hl : l.length ≤ maxLen) (hcl : com.length ≤ maxLen) (w : Int) {H : Heap} (hg : GlobH H) : HCalls Tryd.prog 9 #[sv l, sv com, .int .i64 w] H fun r H' => r = .bool true ∧ Fr [] H H' := by
  refine calls_of_vc (args := [_, _, _]) Tryd.func9 c9ok (Nat.le_of_ble_eq_true rfl) ?_
  simp (implicitDefEqProofs := false) only [go_sem, c9]
  refine (awake_ok hg).mono ?_
  rintro r H1 ⟨rfl, hf1⟩
  by_cases h2 : 2000 < l.length
  · have h2' : decide ((2000 : Int) < (l.length : Int)) = true := by simp; omega
    simp (implicitDefEqProofs := false) only [go_sem, sv, ba_size, h2']
    exact hf1
  have h2' : decide ((2000 : Int) < (l.length : Int)) = false := by simp; omega
  by_cases h3 : 2000 < com.length
  · have h3' : (2000 : Int) < (com.length : Int) := by omega
    simp (implicitDefEqProofs := false) only [go_sem, sv, ba_size, h2', h3']
    exact hf1
  have h3' : ¬ (2000 : Int) < (com.length : Int) := by omega
  simp (implicitDefEqProofs := false) only [go_sem, sv, ba_size, h2', h3']
  refine vc_loop (fun (i : Nat) H' => (i ≤ com.length ∧ (com.take i).all lineB = true) ∧ H' = H1)
    (fun i => [(0, sv l), (1, sv com), (2, .int .i64 w), (7, .int .i64 i)]) (fun i => com.length - i) 0 ?_ ?_ ?_
  · exact ⟨⟨Nat.zero_le _, rfl⟩, rfl⟩
  · simp (implicitDefEqProofs := false) only [go_sem, z0, sv]
  · rintro i H' ⟨⟨hi, hall⟩, rfl⟩
    rcases Nat.lt_or_ge i com.length with hlt | hge
    · have hlt' : (i : Int) < (com.length : Int) := by omega
      have hi0 : (0 : Int) ≤ (i : Int) := by omega
      have hw := succ_i64 i com.length hlt hcl
      have hgd := getD_at com i hlt
      by_cases h10 : (com[i].toNat : Int) = 10
      · simp (implicitDefEqProofs := false) only [go_sem, hlt', hi0, sv, ba_size, hgd, h10]
        exact hf1
      · simp (implicitDefEqProofs := false) only [go_sem, hlt', hi0, sv, ba_size, hgd, h10, hw]
        refine loopK_intro (i + 1) (by show com.length - (i + 1) < com.length - i; omega) ?_ ⟨⟨hlt, ?_⟩, rfl⟩
        · simp (implicitDefEqProofs := false) only [go_sem]
        · rw [List.take_succ_eq_append_getElem hlt, List.all_append, hall]
          simp [lineB, h10]
    · have hlt' : ¬ (i : Int) < (com.length : Int) := by omega
      rw [List.take_of_length_le hge] at hall
      simp (implicitDefEqProofs := false) only [go_sem, hlt', sv, ba_size]
      refine (lex_ok l hl (hg.ext hf1)).mono ?_
      rintro r H2 ⟨hr, hf2⟩
      obtain ⟨ts, e, k, a, c, rfl, q1, q2, hrow, hR⟩ := hr.cases
      simp (implicitDefEqProofs := false) only [go_sem, ftV]
      refine NewP_intro fun H3 hb3 hf3 hs3 => ?_
      generalize hx3 : H2.size = x3 at *
      simp (implicitDefEqProofs := false) only [go_sem]
      refine Sto_all hb3 rfl (one2 rfl rfl) fun H4 hb4 hf4 hs4 => ?_
      have hF24 : Fr [] H2 H4 := fr_new hf3 hf4 (by omega)
      have hF4 : Fr [] H H4 := (hf1.trans hf2).trans hF24
      have k4 := hb4.cell
      rcases hR with ⟨hok, rfl, rfl⟩ | ⟨j, rfl, r1, rfl⟩
      case inr =>
        rw [lexT_F (by omega)] at r1
        have e0 : (e = 0) = False := by simp [(lexF_bad _ _ _ _ _ (by omega) r1).1]
        simp (implicitDefEqProofs := false) only [go_sem, k4, e0]
        exact hF4
      by_cases w0 : w < 0
      · have w0' : decide (w < 0) = true := by simpa using w0
        simp (implicitDefEqProofs := false) only [go_sem, k4, w0']
        exact hF4
      have w0' : decide (w < 0) = false := by simpa using w0
      by_cases w1 : (ts.length : Int) ≤ w
      · simp (implicitDefEqProofs := false) only [go_sem, k4, w0', w1]
        exact hF4
      obtain ⟨i', rfl⟩ : ∃ i' : Nat, w = i' := ⟨w.toNat, by omega⟩
      have hi' : i' < ts.length := by omega
      have g0 : (0 : Int) ≤ (i' : Int) := by omega
      have g1 : (i' : Int) < (ts.length : Int) := by omega
      obtain ⟨b, o, rfl, p0, p1, p2, p3⟩ := rowT_at (hrow.ext hF24) i' hi'
      rw [lexT_F (by omega)] at hok
      obtain ⟨p, hp1, _, hp2⟩ := lexF_at _ _ _ _ (by omega) hok ts[i'] (List.getElem_mem _)
      rw [Nat.zero_add] at hp2
      rw [hp1] at p3
      have z1 : decide ((p : Int) < 0) = false := by simp
      have z2 : ¬ (l.length : Int) < (p : Int) := by omega
      have z3 : (0 : Int) ≤ (p : Int) := by omega
      have z4 : (p : Int) ≤ (l.length : Int) := by omega
      have hex : (⟨⟨l⟩⟩ : ByteArray).extract 0 p = ⟨⟨l.take p⟩⟩ := by rw [ba_ext]; rfl
      have hex2 : (⟨⟨l⟩⟩ : ByteArray).extract p l.length = ⟨⟨l.drop p⟩⟩ := by rw [ba_ext, List.take_of_length_le (Nat.le_refl _)]
      have tl : (l.take p).length = p := by rw [List.length_take]; omega
      have dl : (l.drop p).length = l.length - p := List.length_drop
      have s1 : p + 3 ≤ 9223372036854775807 := by omega
      have s2 : p + 3 + com.length ≤ 9223372036854775807 := by omega
      have s3 : p + 3 + com.length + 2 ≤ 9223372036854775807 := by omega
      have s4 : p + 3 + com.length + 2 + (l.length - p) ≤ 9223372036854775807 := by omega
      simp (implicitDefEqProofs := false) only [go_sem, k4, w0', w1, g0, g1, p3, z1, z2, z3, z4, ba_size, hex, hex2, ba_app, List.length_append, tl, dl]
      have hSeq : l.take p ++ [32, 9, 35] ++ com ++ [13, 10] ++ l.drop p = l.take p ++ insB com ++ l.drop p := by simp [insB]
      have hSlen : (l.take p ++ insB com ++ l.drop p).length ≤ 5000 := by
        simp only [List.length_append, tl, dl, insB, List.length_cons, List.length_nil]; omega
      have hlexS : ∃ vs, lexT (l.take p ++ insB com ++ l.drop p) = .ok vs ∧ sameT false ts vs = true := by
        have e1 : l.length < (l.take p ++ insB com ++ l.drop p).length + 1 := by
          simp only [List.length_append, tl, dl, insB, List.length_cons, List.length_nil]; omega
        obtain ⟨us, u1, u2⟩ := lexF_ins com hall ((l.take p ++ insB com ++ l.drop p).length + 1) l 0 0 ts i' hi' p e1 ((lexF_fuel _ _ _ _ e1 (by omega)).trans hok) (by rw [hp1, Nat.zero_add])
        exact ⟨us, by rw [lexT_F (by omega)]; exact u1, u2⟩
      obtain ⟨vs, v1, v2⟩ := hlexS
      have hvl : vs.length = ts.length := (sameT_len v2).symm
      refine ⟨by omega, by omega, by omega, by omega, ?_, ?_⟩
      · refine (lex_ok _ (by rw [hSeq]; unfold maxLen; omega) (hg.ext hF4)).mono ?_
        rintro r H5 ⟨hr', hf5⟩
        rw [hSeq, v1] at hr'
        obtain ⟨a', c', rfl, q1', q2', hrow'⟩ := hr'
        simp (implicitDefEqProofs := false) only [go_sem, ftV]
        refine NewP_intro fun H6 hb6 hf6 hs6 => ?_
        generalize hx6 : H5.size = x6 at *
        simp (implicitDefEqProofs := false) only [go_sem]
        refine Sto_all hb6 rfl (one2 rfl rfl) fun H7 hb7 hf7 hs7 => ?_
        have hF7 : Fr [] H5 H7 := fr_new hf6 hf7 (by omega)
        have k7 := hb7.cell
        simp (implicitDefEqProofs := false) only [go_sem, k7]
        refine (same_ok false (hrow.ext (hF24.trans (hf5.trans hF7))) (hrow'.ext hF7) (by omega)).mono ?_
        rintro r H8 ⟨rfl, hEq⟩
        obtain rfl := hEq.symm
        rw [v2]
        simp (implicitDefEqProofs := false) only [go_sem]
        exact hF4.trans (hf5.trans hF7)
      · refine NewP_intro fun H5 hb5 hf5 hs5 => ?_
        generalize hx5 : H4.size = x5 at *
        simp (implicitDefEqProofs := false) only [go_sem]
        refine (lex_ok _ (by rw [hSeq]; unfold maxLen; omega) (hg.ext (hF4.trans hf5))).mono ?_
        rintro r H6 ⟨hr', hf6⟩
        rw [hSeq, v1] at hr'
        obtain ⟨a', c', rfl, q1', q2', hrow'⟩ := hr'
        have hb6 := hb5.ext hf6
        simp (implicitDefEqProofs := false) only [go_sem, ftV]
        refine Sto_all hb6 rfl (one2 rfl rfl) fun H7 hb7 hf7 hs7 => ?_
        have hF7 : Fr [] H4 H7 := fr_new (hf5.trans hf6) hf7 (by omega)
        have k7 := hb7.cell
        have hrow7 : RowR tkC H7 a' vs := by
          refine hrow'.fr hf7 fun b2 o2 hb2 hm => ?_
          obtain ⟨b3, o3, e3, p0, p1, p2, p3⟩ := rowT_at hrow' 0 (by omega)
          rw [hb2] at e3
          simp only [Option.some.injEq, Addr.mk.injEq, and_true] at e3
          obtain ⟨rfl, rfl⟩ := e3
          obtain rfl : b2 = x5 := by simpa using hm
          rw [hb6.cell] at p1
          cases o2 with
          | zero => simp [sv] at p1
          | succ o2 => simp at p1
        simp (implicitDefEqProofs := false) only [go_sem, k7]
        refine (same_ok false (hrow.ext (hF24.trans hF7)) hrow7 (by omega)).mono ?_
        rintro r H8 ⟨rfl, hEq⟩
        obtain rfl := hEq.symm
        rw [v2]
        simp (implicitDefEqProofs := false) only [go_sem]
        exact hF4.trans hF7
end Go.Proofs.YtighpnijbnllaaaDoor
