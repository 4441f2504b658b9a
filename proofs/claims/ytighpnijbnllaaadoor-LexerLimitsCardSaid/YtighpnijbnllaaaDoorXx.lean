/- The laws: steps, spellings. -/
import Derived.Test.YtighpnijbnllaaaDoorXw
set_option linter.unusedSimpArgs false
set_option linter.unusedVariables false
set_option maxRecDepth 8000
namespace Go.Proofs.YtighpnijbnllaaaDoor
open Gx Go

theorem lexN_end (l : Bs) (o : Nat) (ho : o ≤ l.length) (h : (nextT l o).code = 0) (h6 : (nextT l o).tok.kind = 6) : (nextT l o).fin = l.length ∧ (nextT l o).tok.at_ = l.length := by
  unfold nextT at h h6 ⊢
  by_cases hb : 65536 < l.length
  · rw [if_pos hb] at h; simp at h
  rw [if_neg hb, if_neg (by omega), Int.toNat_natCast] at h h6 ⊢
  unfold nextN at h h6 ⊢
  have hsk := skB_le false (l.drop o)
  simp only [List.length_drop] at hsk
  generalize hj : o + skB false (l.drop o) = j at *
  cases e : tokS (l.drop j) with
  | bad c => rw [e] at h; exact absurd h (bad_code e)
  | ok kd t n m =>
    rw [e] at h6
    have hnil := (end_nil e).1 h6
    have hle : l.length ≤ j := by
      have := congrArg List.length hnil
      simp only [List.length_drop, List.length_nil] at this
      omega
    rw [hnil] at e
    obtain ⟨_, _, _, rfl⟩ := end_val e
    simp only [ansT]
    omega

set_option maxHeartbeats 4000000 in
theorem steps_law (l : Bs) (hl : l.length ≤ maxLen) {H : Heap} (hg : GlobH H) : HCalls Tryd.prog 6 #[sv l] H fun r H' => r = .bool true ∧ Fr [] H H' := by
  refine calls_of_vc (args := [_]) Tryd.func6 c6ok (Nat.le_of_ble_eq_true rfl) ?_
  simp (implicitDefEqProofs := false) only [go_sem, c6]
  refine (awake_ok hg).mono ?_
  rintro r H1 ⟨rfl, hf1⟩
  by_cases h2 : 2000 < l.length
  · have h2' : (2000 : Int) < (l.length : Int) := by omega
    simp (implicitDefEqProofs := false) only [go_sem, sv, ba_size, h2']
    exact hf1
  have h2' : ¬ (2000 : Int) < (l.length : Int) := by omega
  simp (implicitDefEqProofs := false) only [go_sem, sv, ba_size, h2']
  refine (lex_ok l hl (hg.ext hf1)).mono ?_
  rintro r H2 ⟨hr, hf2⟩
  obtain ⟨ts, e, k, a, c, rfl, q1, q2, hrow, hR⟩ := hr.cases
  simp (implicitDefEqProofs := false) only [go_sem, ftV]
  refine NewP_intro fun H3 hb3 hf3 hs3 => ?_
  generalize hx3 : H2.size = x3 at *
  simp (implicitDefEqProofs := false) only [go_sem]
  refine Sto_all hb3 rfl (one2 rfl rfl) fun H4 hb4 hf4 hs4 => ?_
  have hF24 : Fr [] H2 H4 := fr_new hf3 hf4 (by omega)
  have hF4 : Fr [] H H4 := (hf1.trans hf2).trans hF24
  have hrow4 := hrow.ext hF24
  have hR' : (lexT l = .ok ts ∧ e = 0 ∧ k = 0) ∨ (e ≠ 0 ∧ ∃ k' : Nat, k = k' ∧ lexT l = .bad e k' ∧ ts = []) := by
    rcases hR with q | ⟨j, q3, r1, q4⟩
    · exact .inl q
    · refine .inr ⟨?_, j, q3, r1, q4⟩
      rw [lexT_F (by omega)] at r1
      exact (lexF_bad _ _ _ _ _ (by omega) r1).1
  clear hR
  simp (implicitDefEqProofs := false) only [go_sem]
  refine vc_loop (fun (p : List Tk × Nat) H' => (p.2 ≤ l.length ∧ p.1.length ≤ p.2 ∧ lexT l = LR.app p.1 (lexN l p.2)) ∧ Fr [] H4 H')
    (fun p => [(0, .string ⟨⟨l⟩⟩), (3, .slice a ts.length c), (4, .pointer (some ⟨x3, 0, none⟩)), (5, .int .i64 p.2), (6, .int .i64 p.1.length)]) (fun p => l.length + 1 - p.2) ([], 0) ?_ ?_ ?_
  · exact ⟨⟨Nat.zero_le _, Nat.le_refl _, by rw [lexN_zero, LR.app_nil]⟩, Fr.refl _ _⟩
  · simp (implicitDefEqProofs := false) only [go_sem, z0]
  · rintro ⟨pre, o⟩ H' ⟨⟨h1, h3, h4⟩, hfr⟩
    dsimp only at h1 h3 h4
    have hil : (pre.length : Int) ≤ (l.length : Int) := by omega
    simp (implicitDefEqProofs := false) only [go_sem, ba_size, hil]
    refine (next_ok l hl o (hg.ext (hF4.trans hfr))).mono ?_
    rintro r H5 ⟨rfl, hf5⟩
    obtain ⟨st1, st2, st3⟩ := lexN_step l o h1
    have st4 := lexN_end l o h1
    generalize nextT l o = N at *
    have hF5 := hfr.trans hf5
    have hb5 := hb4.ext hF5
    have hlt5 := hb5.lt
    simp (implicitDefEqProofs := false) only [go_sem, NR.val, tkV, ftV]
    refine NewP_intro fun H6 hb6 hf6 hs6 => ?_
    generalize hx6 : H5.size = x6 at *
    simp (implicitDefEqProofs := false) only [go_sem]
    refine NewP_intro fun H7 hb7 hf7 hs7 => ?_
    generalize hx7 : H6.size = x7 at *
    have hb67 := hb6.ext hf7
    simp (implicitDefEqProofs := false) only [go_sem, sv]
    refine Sto_all hb67 rfl one4 fun H8 hb8 hf8 hs8 => ?_
    have hb78 := hb7.fr hf8 (by simp; omega)
    simp (implicitDefEqProofs := false) only [go_sem]
    refine Sto_all hb78 rfl (one2 rfl rfl) fun H9 hb9 hf9 hs9 => ?_
    have hb89 := hb8.fr hf9 (by simp; omega)
    have hF59 : Fr [] H5 H9 := fr_new (fr_new (hf6.trans hf7) hf8 (by omega)) hf9 (by omega)
    have hF9 := hF5.trans hF59
    have k4 := (hb5.ext hF59).cell
    have k8 := hb89.cell
    have k9 := hb9.cell
    by_cases hcode : N.code = 0
    case neg =>
      obtain ⟨k', hk1, hk2⟩ := st1 hcode
      have hcode' : (N.code = 0) = False := by simp [hcode]
      rw [hk1] at h4
      rcases hR' with ⟨r1, _, _⟩ | ⟨_, j, rfl, r1, rfl⟩
      · rw [r1] at h4; cases h4
      · rw [r1] at h4
        have h4' : LR.bad e j = LR.bad N.code k' := h4
        cases h4'
        simp (implicitDefEqProofs := false) only [go_sem, k4, k9, hcode', hk2]
        exact hF4.trans hF9
    have hcode' : (N.code = 0) = True := by simp [hcode]
    by_cases h6 : N.tok.kind = 6
    · obtain ⟨_, hN⟩ := st2 hcode h6
      obtain ⟨e1, e2⟩ := st4 hcode h6
      rw [hN] at h4
      rcases hR' with ⟨r1, rfl, rfl⟩ | ⟨_, j, rfl, r1, rfl⟩
      case inr => rw [r1] at h4; cases h4
      rw [r1] at h4
      have h4' : LR.ok ts = LR.ok (pre ++ [N.tok]) := h4
      cases h4'
      obtain ⟨b, o', rfl, p0, p1, p2, p3⟩ := rowT_at (hrow4.ext hF9) pre.length (by simp)
      have hget : (pre ++ [N.tok])[pre.length]'(by simp) = N.tok := by simp
      rw [hget] at p0 p1 p2 p3
      unfold sv at p1
      have hlen1 : (pre ++ [N.tok]).length = pre.length + 1 := by simp
      have g1' : decide ((((pre ++ [N.tok]).length : Nat) : Int) ≤ (pre.length : Int)) = false := by rw [hlen1, decide_eq_false_iff_not]; omega
      have g2 : (0 : Int) ≤ (pre.length : Int) := by omega
      have g3 : (pre.length : Int) < (((pre ++ [N.tok]).length : Nat) : Int) := by rw [hlen1]; omega
      have g4 : ¬ ((l.length : Int) < (o : Int)) := by omega
      have g5 : ¬ ((l.length : Int) < (l.length : Int)) := by omega
      have g6 : IntKind.i64.wrap ((pre.length : Int) + 1) = (((pre ++ [N.tok]).length : Nat) : Int) := by
        rw [wrap_i64_id _ (by omega) (by omega)]; simp
      simp (implicitDefEqProofs := false) only [go_sem, k4, k8, k9, hcode', ba_size, g1', g2, g3, p0, p1, p2, p3, e1, e2, g4, g5, h6, g6, ba_eq, Bool.not_true, Bool.not_false]
      exact hF4.trans hF9
    · obtain ⟨_, e', hN, e1, e2, e3⟩ := st3 hcode h6
      have h6' : (N.tok.kind = 6) = False := by simp [h6]
      have g4 : ¬ ((e' : Int) < (o : Int)) := by omega
      have g4' : decide ((e' : Int) < (o : Int)) = false := by simpa using g4
      have g5 : ¬ ((l.length : Int) < (e' : Int)) := by omega
      have g6 : IntKind.i64.wrap ((pre.length : Int) + 1) = (((pre ++ [N.tok]).length : Nat) : Int) := by
        rw [wrap_i64_id _ (by omega) (by omega)]; simp
      rw [hN] at h4
      have hnext : lexT l = LR.app (pre ++ [N.tok]) (lexN l e') := by rw [h4, LR.app_cons]
      rcases hR' with ⟨r1, rfl, rfl⟩ | ⟨he0, j, rfl, r1, rfl⟩
      · have hts : ∃ rest, ts = pre ++ N.tok :: rest := by
          rw [r1] at hnext
          cases q : lexN l e' with
          | bad _ _ => rw [q] at hnext; cases hnext
          | ok rest =>
            rw [q] at hnext
            have h' : LR.ok ts = LR.ok ((pre ++ [N.tok]) ++ rest) := hnext
            cases h'
            exact ⟨rest, by simp⟩
        obtain ⟨rest, rfl⟩ := hts
        obtain ⟨b, o', rfl, p0, p1, p2, p3⟩ := rowT_at (hrow4.ext hF9) pre.length (by simp)
        have hget : (pre ++ N.tok :: rest)[pre.length]'(by simp) = N.tok := by simp
        rw [hget] at p0 p1 p2 p3
        unfold sv at p1
        have g1' : decide ((((pre ++ N.tok :: rest).length : Nat) : Int) ≤ (pre.length : Int)) = false := by simp; omega
        have g2 : (0 : Int) ≤ (pre.length : Int) := by omega
        have g3 : (pre.length : Int) < (((pre ++ N.tok :: rest).length : Nat) : Int) := by simp; omega
        simp (implicitDefEqProofs := false) only [go_sem, k4, k8, k9, hcode', ba_size, g1', g2, g3, p0, p1, p2, p3, e1, g4', g5, h6', g6, ba_eq, Bool.not_true, Bool.not_false]
        refine loopK_intro (pre ++ [N.tok], e') (by show l.length + 1 - e' < l.length + 1 - o; omega) ?_ ⟨⟨e3, by simp; omega, hnext⟩, hF9⟩
        simp (implicitDefEqProofs := false) only [go_sem, g6, e1]
      · have he0' : (e = 0) = False := by simp [he0]
        simp (implicitDefEqProofs := false) only [go_sem, k4, k8, k9, hcode', he0', ba_size, e1, g4', g5, h6', g6]
        refine loopK_intro (pre ++ [N.tok], e') (by show l.length + 1 - e' < l.length + 1 - o; omega) ?_ ⟨⟨e3, by simp; omega, hnext⟩, hF9⟩
        simp (implicitDefEqProofs := false) only [go_sem, g6, e1]

set_option maxHeartbeats 4000000 in
theorem spells_law (l : Bs) (hl : l.length ≤ maxLen) {H : Heap} (hg : GlobH H) : HCalls Tryd.prog 10 #[sv l] H fun r H' => r = .bool true ∧ Fr [] H H' := by
  refine calls_of_vc (args := [_]) Tryd.func10 c10ok (Nat.le_of_ble_eq_true rfl) ?_
  simp (implicitDefEqProofs := false) only [go_sem, c10]
  refine (awake_ok hg).mono ?_
  rintro r H1 ⟨rfl, hf1⟩
  by_cases h2 : 2000 < l.length
  · have h2' : (2000 : Int) < (l.length : Int) := by omega
    simp (implicitDefEqProofs := false) only [go_sem, sv, ba_size, h2']
    exact hf1
  have h2' : ¬ (2000 : Int) < (l.length : Int) := by omega
  simp (implicitDefEqProofs := false) only [go_sem, sv, ba_size, h2']
  refine (lex_ok l hl (hg.ext hf1)).mono ?_
  rintro r H2 ⟨hr, hf2⟩
  obtain ⟨ts, e, k, a, c, rfl, q1, q2, hrow, hR⟩ := hr.cases
  simp (implicitDefEqProofs := false) only [go_sem, ftV]
  refine NewP_intro fun H3 hb3 hf3 hs3 => ?_
  generalize hx3 : H2.size = x3 at *
  simp (implicitDefEqProofs := false) only [go_sem]
  refine Sto_all hb3 rfl (one2 rfl rfl) fun H4 hb4 hf4 hs4 => ?_
  have hF24 : Fr [] H2 H4 := fr_new hf3 hf4 (by omega)
  have hF4 : Fr [] H H4 := (hf1.trans hf2).trans hF24
  have hrow4 := hrow.ext hF24
  have k4 := hb4.cell
  rcases hR with ⟨hok, rfl, rfl⟩ | ⟨j, rfl, r1, rfl⟩
  case inr =>
    rw [lexT_F (by omega)] at r1
    obtain ⟨b1, b2, b3⟩ := lexF_bad _ _ _ _ _ (by omega) r1
    rw [Nat.zero_add] at b3
    have e0 : (e = 0) = False := by simp [b1]
    have j0' : (0 : Int) ≤ (j : Int) := by omega
    have j2 : (j : Int) ≤ (l.length : Int) := by omega
    simp (implicitDefEqProofs := false) only [go_sem, k4, e0, j0', j2, ba_size, z0]
    exact hF4
  obtain ⟨o1, o2, o3⟩ := lexT_ok (by omega) hok
  rw [lexT_F (by omega)] at hok
  have hch := lexF_chain _ _ _ _ (by omega) hok
  rw [Nat.zero_add] at hch
  have hpos : 0 < ts.length := List.length_pos_iff.2 o2
  have hw1 : IntKind.i64.wrap ((ts.length : Int) - 1) = ((ts.length - 1 : Nat) : Int) := by
    rw [wrap_i64_id _ (by omega) (by omega)]; omega
  simp (implicitDefEqProofs := false) only [go_sem, k4]
  refine vc_loop (fun (p : Nat × Nat) H' => (p.1 ≤ ts.length - 1 ∧ p.2 ≤ l.length ∧ chainT l.length (l.drop p.2) p.2 (ts.drop p.1)) ∧ Fr [] H4 H')
    (fun p => [(0, .string ⟨⟨l⟩⟩), (3, .slice a ts.length c), (5, .int .i64 p.2), (6, .int .i64 p.1)]) (fun p => ts.length - p.1) (0, 0) ?_ ?_ ?_
  · exact ⟨⟨Nat.zero_le _, Nat.zero_le _, hch⟩, Fr.refl _ _⟩
  · simp (implicitDefEqProofs := false) only [go_sem, z0]
  · rintro ⟨i, o⟩ H' ⟨⟨h1, h3, h4⟩, hfr⟩
    dsimp only at h1 h3 h4
    have hilt : i < ts.length := by omega
    have hi0 : (0 : Int) ≤ (i : Int) := by omega
    have hi1 : (i : Int) < (ts.length : Int) := by omega
    rw [List.drop_eq_getElem_cons hilt] at h4
    obtain ⟨b1, o1, rfl, p0, p1, p2, p3⟩ := rowT_at (hrow4.ext hfr) i hilt
    unfold sv at p1
    rcases Nat.lt_or_ge i (ts.length - 1) with hlt | hge
    · have hlt' : (i : Int) < ((ts.length - 1 : Nat) : Int) := by omega
      have hwi := succ_i64 i ts.length hilt (by omega)
      rcases h4 with ⟨hnil, _, _⟩ | ⟨c1, c2, q, c3, c4, c5, c6, c7⟩
      · have := congrArg List.length hnil
        simp only [List.length_drop, List.length_nil] at this
        omega
      have hbd := poB_bd c1
      have hsl := spT_len c1
      have hrow5 : ∀ H5, Fr [] H' H5 → ∃ b o, (some ⟨b1, o1, none⟩ : Option Addr) = some ⟨b, o, none⟩ ∧ cellB H5 b (o + i * 4) = some (.int .i64 ts[i].kind) ∧ cellB H5 b (o + i * 4 + 1) = some (sv ts[i].text) ∧ cellB H5 b (o + i * 4 + 2) = some (.int .i64 ts[i].n) ∧ cellB H5 b (o + i * 4 + 3) = some (.int .i64 ts[i].at_) := fun H5 h5 => rowT_at (hrow4.ext (hfr.trans h5)) i hilt
      generalize ts[i] = x at *
      rw [List.drop_drop] at c6 c7
      simp only [List.length_drop] at c3
      simp (implicitDefEqProofs := false) only [go_sem, hw1, hlt', hi0, hi1, p0, p1, p2, p3]
      refine (rspelling_ok x hbd.2 H').mono ?_
      rintro r H5 ⟨⟨s, rfl, hs⟩, hf5⟩
      have hk6 : (poB x && !decide (x.kind = 6)) = true := by simp [c1, c2]
      have hs := hs hk6
      subst hs
      rw [hk6]
      obtain ⟨b', o'', e', p0', p1', p2', p3'⟩ := hrow5 H5 hf5
      simp only [Option.some.injEq, Addr.mk.injEq, and_true] at e'
      obtain ⟨rfl, rfl⟩ := e'
      rw [c4] at p3'
      generalize hlen : (spT x).length = m at *
      have g1 : ((o + q : Nat) : Int) < (o : Int) ↔ False := ⟨fun h => (by omega), False.elim⟩
      have g2 : IntKind.i64.wrap ((l.length : Int) - (m : Int)) = ((l.length - m : Nat) : Int) := by rw [wrap_i64_id _ (by omega) (by omega)]; omega
      have g3 : ((l.length - m : Nat) : Int) < ((o + q : Nat) : Int) ↔ False := ⟨fun h => (by omega), False.elim⟩
      have g4 : IntKind.i64.wrap (((o + q : Nat) : Int) + (m : Int)) = ((o + q + m : Nat) : Int) := by rw [wrap_i64_id _ (by omega) (by omega)]; omega
      have g5 : (0 : Int) ≤ ((o + q + m : Nat) : Int) := by omega
      have g6 : ((o + q + m : Nat) : Int) ≤ (l.length : Int) := by omega
      have g7 : (0 : Int) ≤ ((o + q : Nat) : Int) := by omega
      have g8 : ((o + q : Nat) : Int) ≤ ((o + q + m : Nat) : Int) := by omega
      have hex : (⟨⟨l⟩⟩ : ByteArray).extract (o + q) (o + q + m) = ⟨⟨spT x⟩⟩ := by rw [ba_ext, List.drop_take, Nat.add_sub_cancel_left, c6]
      simp (implicitDefEqProofs := false) only [go_sem, hi0, hi1, p3', g1, g2, g3, g4, g5, g6, g7, g8, sv, ba_size, hlen, hex, ba_eq, hwi]
      refine loopK_intro (i + 1, o + q + m) (by show ts.length - (i + 1) < ts.length - i; omega) ?_ ⟨⟨by show i + 1 ≤ ts.length - 1; omega, by show o + q + m ≤ l.length; omega, by show chainT l.length (l.drop (o + q + m)) (o + q + m) (ts.drop (i + 1)); rw [show o + q + m = o + (q + m) by omega]; rw [show o + q + m = o + (q + m) by omega] at c7; exact c7⟩, hfr.trans hf5⟩
      simp (implicitDefEqProofs := false) only [go_sem]
    · have hlt' : ¬ (i : Int) < ((ts.length - 1 : Nat) : Int) := by omega
      obtain rfl : i = ts.length - 1 := by omega
      have hnil : ts.drop (ts.length - 1 + 1) = [] := List.drop_eq_nil_of_le (by omega)
      rw [hnil] at h4
      rcases h4 with ⟨_, hx, _⟩ | ⟨_, _, _, _, _, _, _, c7⟩
      case inr => exact c7.elim
      rw [hx] at p0 p1 p2 p3
      have g1 : (0 : Int) < (ts.length : Int) := by omega
      have g2 : (o : Int) ≤ (l.length : Int) := by omega
      simp (implicitDefEqProofs := false) only [go_sem, hw1, hlt', g1, hi0, hi1, p0, p1, p2, p3, ba_size, ba_eq, g2]
      exact hF4.trans hfr
end Go.Proofs.YtighpnijbnllaaaDoor
