/- The law of the limits. -/
import Derived.Test.YtighpnijbnllaaaDoorXx
set_option linter.unusedSimpArgs false
set_option linter.unusedVariables false
set_option maxRecDepth 8000
namespace Go.Proofs.YtighpnijbnllaaaDoor
open Gx Go

theorem lexF_pad (n f : Nat) (s : Bs) (o : Nat) : lexF (f + 1) (List.replicate n 32 ++ s) o = lexF (f + 1) s (o + n) := by
  induction n generalizing o with
  | zero => rfl
  | succ n ih =>
    rw [List.replicate_succ, List.cons_append, lexF_blank, ih]
    rw [show o + 1 + n = o + (n + 1) by omega]
theorem fill_step (n i : Nat) (h : i < n) (x y : Value) : (List.replicate i x ++ List.replicate (n - i) y).set i x = List.replicate (i + 1) x ++ List.replicate (n - (i + 1)) y := by
  rw [show n - i = (n - (i + 1)) + 1 by omega, List.replicate_succ, List.set_append_right _ _ (by simp)]
  simp only [List.length_replicate, Nat.sub_self, List.set_cons_zero]
  rw [List.replicate_succ', List.append_assoc]; rfl

theorem made1 (v : Value) (hv : v.cells = #[v]) (n : Nat) : madeCells v.cells n = (List.replicate n v).toArray := by
  rw [hv]
  unfold madeCells
  apply Array.toList_inj.1
  apply List.ext_getElem
  · simp
  · intro i h1 h2
    simp [Nat.mod_one]
theorem Mk_intro {H : Heap} {t bytes : Nat} {v : Value} (hv : v.cells = #[v]) {n : Nat} (h1 : n ≤ maxLen) (h2 : bytes * n ≤ 281474976710656) {R : Value → Heap → Prop}
    (h : ∀ H', Own H' t 1 (.slice (some ⟨H.size, 0, none⟩) n n) n (List.replicate n v) (some H.size) → Fr [] H H' → H'.size = H.size + 1 → R (.slice (some ⟨H.size, 0, none⟩) n n) H') : Mk H t 1 v n n bytes R := by
  unfold maxLen at h1
  refine ⟨by omega, by omega, by omega, ?_, ?_⟩
  · have : ((bytes * n : Nat) : Int) = (bytes : Int) * (n : Int) := Int.natCast_mul _ _
    omega
  · rw [Int.toNat_natCast, Nat.mul_one, made1 v hv]
    exact h _ (Own.of_blk (by unfold Blk; simp) (by simp) h1) (fr_push _ _ _) (by simp)

theorem lexF_first {f : Nat} {s : Bs} {o : Nat} {ts : List Tk} (h : lexF (f + 1) s o = .ok ts) : ∃ k t n m, tokS (s.drop (skB false s)) = .ok k t n m ∧ ∃ r, ts = ⟨k, t, n, (o + skB false s : Nat)⟩ :: r := by
  rw [lexF_step] at h
  cases e : tokS (s.drop (skB false s)) with
  | bad c => rw [e] at h; cases h
  | ok k t n m =>
    rw [e] at h
    simp only at h
    refine ⟨k, t, n, m, rfl, ?_⟩
    split at h
    · cases h; exact ⟨[], rfl⟩
    · cases er : lexF f (s.drop (skB false s + m)) (o + skB false s + m) with
      | bad c q => rw [er] at h; cases h
      | ok r =>
        rw [er] at h
        have h' : LR.ok (⟨k, t, n, (o + skB false s : Nat)⟩ :: r) = LR.ok ts := h
        cases h'
        exact ⟨r, rfl⟩

set_option maxHeartbeats 4000000 in
theorem limits_law (l : Bs) (hl : l.length ≤ maxLen) (w : Int) {H : Heap} (hg : GlobH H) : HCalls Tryd.prog 12 #[sv l, .int .i64 w] H fun r H' => r = .bool true ∧ Fr [] H H' := by
  refine calls_of_vc (args := [_, _]) Tryd.func12 c12ok (Nat.le_of_ble_eq_true rfl) ?_
  simp (implicitDefEqProofs := false) only [go_sem, c12]
  refine (awake_ok hg).mono ?_
  rintro r H1 ⟨rfl, hf1⟩
  by_cases h2 : 100 < l.length
  · have h2' : decide ((100 : Int) < (l.length : Int)) = true := by simp; omega
    simp (implicitDefEqProofs := false) only [go_sem, sv, ba_size, h2']
    exact hf1
  have h2' : decide ((100 : Int) < (l.length : Int)) = false := by simp; omega
  by_cases h3 : w < -2
  · have h3' : decide (w < -2) = true := by simpa using h3
    simp (implicitDefEqProofs := false) only [go_sem, sv, ba_size, h2', h3']
    exact hf1
  have h3' : decide (w < -2) = false := by simpa using h3
  by_cases h4 : 2 < w
  · simp (implicitDefEqProofs := false) only [go_sem, sv, ba_size, h2', h3', h4]
    exact hf1
  obtain ⟨N, hN⟩ : ∃ N : Nat, (65536 : Int) - (l.length : Int) + w = N := ⟨(65536 - (l.length : Int) + w).toNat, by omega⟩
  have hw1 : IntKind.i64.wrap ((65536 : Int) - (l.length : Int)) = (65536 : Int) - (l.length : Int) := by rw [wrap_i64_id _ (by omega) (by omega)]
  have hw2 : IntKind.i64.wrap ((65536 : Int) - (l.length : Int) + w) = (N : Int) := by rw [hN, wrap_i64_id _ (by omega) (by omega)]
  simp (implicitDefEqProofs := false) only [go_sem, sv, ba_size, h2', h3', h4, hw1, hw2]
  refine Mk_intro rfl (by unfold maxLen; omega) (by omega) fun H2 hown2 hf2 hs2 => ?_
  generalize hx2 : H1.size = x2 at *
  have hF2 := hf1.trans hf2
  simp (implicitDefEqProofs := false) only [go_sem]
  refine vc_loop (fun (i : Nat) H' => i ≤ N ∧ Own H' 5 1 (.slice (some ⟨x2, 0, none⟩) N N) N (List.replicate i (.int .u8 32) ++ List.replicate (N - i) (.int .u8 0)) (some x2) ∧ Fr [] H1 H')
    (fun i => [(0, .string ⟨⟨l⟩⟩), (1, .int .i64 w), (5, .slice (some ⟨x2, 0, none⟩) N N), (6, .int .i64 i)]) (fun i => N - i) 0 ?_ ?_ ?_
  · exact ⟨Nat.zero_le _, hown2, hf2⟩
  · simp (implicitDefEqProofs := false) only [go_sem, z0]
  · rintro i H' ⟨hi, hown, hfr⟩
    rcases Nat.lt_or_ge i N with hlt | hge
    · have hlt' : (i : Int) < (N : Int) := by omega
      have hi0 : (0 : Int) ≤ (i : Int) := by omega
      have hw := succ_i64 i N hlt (by unfold maxLen; omega)
      simp (implicitDefEqProofs := false) only [go_sem, hlt', hi0]
      refine Sto_own hown (by simp; omega) rfl fun H3 hown3 hf3 hs3 => ?_
      rw [fill_step N i hlt] at hown3
      simp (implicitDefEqProofs := false) only [go_sem, hw]
      refine loopK_intro (i + 1) (by show N - (i + 1) < N - i; omega) ?_ ⟨hlt, hown3, fr_new hfr hf3 (by omega)⟩
      simp (implicitDefEqProofs := false) only [go_sem]
    · have hlt' : ¬ (i : Int) < (N : Int) := by omega
      obtain rfl : i = N := by omega
      have hbs : BsR H' (some ⟨x2, 0, none⟩) (List.replicate i 32) := by
        refine Own.bsR (c := i) (e := 5) (g := some x2) ?_
        have e1 : (List.replicate i (32 : UInt8)).map bv = List.replicate i (Value.int .u8 32) ++ List.replicate (i - i) (Value.int .u8 0) := by
          simp [bv]
        rw [e1, List.length_replicate]; exact hown
      have hb2 := hbs.b2s i
      rw [List.length_replicate] at hb2
      have hsz : i + l.length ≤ 9223372036854775807 := by omega
      have hF := hf1.trans hfr
      simp (implicitDefEqProofs := false) only [go_sem, hlt', hb2, ba_size, List.length_replicate, hsz, ba_app]
      generalize hS : List.replicate i 32 ++ l = S at *
      have hSl : S.length = i + l.length := by rw [← hS]; simp
      refine (lex_ok S (by unfold maxLen; omega) (hg.ext hF)).mono ?_
      rintro r H3 ⟨hr, hf3⟩
      obtain ⟨ts, e, k, a, c, rfl, q1, q2, hrow, hR⟩ := hr.cases
      simp (implicitDefEqProofs := false) only [go_sem, ftV]
      refine NewP_intro fun H4 hb4 hf4 hs4 => ?_
      generalize hx4 : H3.size = x4 at *
      simp (implicitDefEqProofs := false) only [go_sem]
      refine Sto_all hb4 rfl (one2 rfl rfl) fun H5 hb5 hf5 hs5 => ?_
      have hF35 : Fr [] H3 H5 := fr_new hf4 hf5 (by omega)
      have hF5 := (hF.trans hf3).trans hF35
      simp (implicitDefEqProofs := false) only [go_sem]
      refine (next_ok S (by unfold maxLen; omega) i (hg.ext hF5)).mono ?_
      rintro r H6 ⟨rfl, hf6⟩
      have hb6 := hb5.ext hf6
      have hlt6 := hb6.lt
      have hnx : nextT S i = if 65536 < S.length then ⟨zTk, 0, 6, 65536⟩ else ansT (i + skB false l) (tokS (l.drop (skB false l))) := by
        unfold nextT
        by_cases hb : 65536 < S.length
        · rw [if_pos hb, if_pos hb]
        · rw [if_neg hb, if_neg hb, if_neg (by omega), Int.toNat_natCast]
          unfold nextN
          have hd : S.drop i = l := by
            rw [← hS]
            have := List.drop_left (l₁ := List.replicate i (32 : UInt8)) (l₂ := l)
            rwa [List.length_replicate] at this
          rw [← List.drop_drop, hd]
      generalize nextT S i = M at *
      simp (implicitDefEqProofs := false) only [go_sem, NR.val, tkV, ftV]
      refine NewP_intro fun H7 hb7 hf7 hs7 => ?_
      generalize hx7 : H6.size = x7 at *
      simp (implicitDefEqProofs := false) only [go_sem]
      refine NewP_intro fun H8 hb8 hf8 hs8 => ?_
      generalize hx8 : H7.size = x8 at *
      have hb78 := hb7.ext hf8
      simp (implicitDefEqProofs := false) only [go_sem, sv]
      refine Sto_all hb78 rfl one4 fun H9 hb9 hf9 hs9 => ?_
      have hb89 := hb8.fr hf9 (by simp; omega)
      simp (implicitDefEqProofs := false) only [go_sem]
      refine Sto_all hb89 rfl (one2 rfl rfl) fun H10 hb10 hf10 hs10 => ?_
      have hb910 := hb9.fr hf10 (by simp; omega)
      have hF610 : Fr [] H6 H10 := fr_new (fr_new (hf7.trans hf8) hf9 (by omega)) hf10 (by omega)
      have hFa : Fr [] H H10 := hF5.trans (hf6.trans hF610)
      have k6 := (hb6.ext hF610).cell
      have k9 := hb910.cell
      have k10 := hb10.cell
      by_cases hw0 : 0 < w
      · have hbig : 65536 < S.length := by omega
        rw [if_pos hbig] at hnx
        have hlex : lexT S = .bad 6 65536 := by unfold lexT; rw [if_pos hbig]
        rcases hR with ⟨r1, _, _⟩ | ⟨j, rfl, r1, rfl⟩
        · rw [hlex] at r1; cases r1
        rw [hlex] at r1
        cases r1
        rw [hnx] at k9 k10
        simp (implicitDefEqProofs := false) only [go_sem, hw0, k6, k9, k10, zTk, ba_eq, hnx]
        exact hFa
      · have hbig : ¬ 65536 < S.length := by omega
        rw [if_neg hbig] at hnx
        have hlS : lexT S = lexF (S.length + 1) l i := by
          rw [lexT_F (by omega), ← hS, lexF_pad]
          simp
        have hll : lexT l = lexF (S.length + 1) l 0 := by
          rw [lexT_F (by omega)]
          exact lexF_fuel _ _ _ _ (by omega) (by omega)
        have hsh := lexF_shift (S.length + 1) l 0 i
        rw [Nat.zero_add, ← hlS, ← hll] at hsh
        simp (implicitDefEqProofs := false) only [go_sem, hw0]
        refine (rlex_ok l hl (hg.ext hFa)).mono ?_
        rintro r H11 ⟨hr', hf11⟩
        obtain ⟨us, e', k', a', c', rfl, q1', q2', hrow', hR'⟩ := hr'.cases
        have hb611 := (hb6.ext hF610).ext hf11
        have hb911 := hb910.ext hf11
        have hb1011 := hb10.ext hf11
        have hlt11 := hb1011.lt
        simp (implicitDefEqProofs := false) only [go_sem, ftV]
        refine NewP_intro fun H12 hb12 hf12 hs12 => ?_
        generalize hx12 : H11.size = x12 at *
        simp (implicitDefEqProofs := false) only [go_sem]
        refine Sto_all hb12 rfl (one2 rfl rfl) fun H13 hb13 hf13 hs13 => ?_
        have hF13 : Fr [] H11 H13 := fr_new hf12 hf13 (by omega)
        have m6 := (hb611.ext hF13).cell
        have m9 := (hb911.ext hF13).cell
        have m10 := (hb1011.ext hF13).cell
        have m13 := hb13.cell
        have hFb := hFa.trans (hf11.trans hF13)
        rcases hR' with ⟨s1, rfl, rfl⟩ | ⟨j', rfl, s1, rfl⟩
        · obtain ⟨ts', t1, t2, t3⟩ := hsh.2 us s1
          rcases hR with ⟨r1, rfl, rfl⟩ | ⟨j, rfl, r1, rfl⟩
          case inr => rw [t1] at r1; cases r1
          rw [t1] at r1
          cases r1
          obtain ⟨kd, tx, nn, mm, f1, r0, f2⟩ := lexF_first (hll ▸ s1)
          obtain ⟨r1, f3⟩ := t3 _ _ f2
          rw [f1] at hnx
          subst f2 f3
          have hM : M = ⟨⟨kd, tx, nn, (i + skB false l : Nat)⟩, (i + skB false l + mm : Nat), 0, 0⟩ := hnx
          subst hM
          have hrow13 := hrow.ext (((hF35.trans hf6).trans hF610).trans (hf11.trans hF13))
          obtain ⟨b, o, rfl, p0, p1, p2, p3⟩ := rowT_at hrow13 0 (by simp)
          have hp3 : cellB H13 b (o + 3) = some (.int .i64 (((0 + skB false l : Nat) : Int) + (i : Int))) := by simpa using p3
          have heq : (((skB false l : Nat) : Int) + (i : Int) = ((i + skB false l : Nat) : Int)) = True := by apply eq_true; omega
          have hl1 : (1 : Nat) ≤ maxLen := by unfold maxLen; omega
          simp (implicitDefEqProofs := false) only [go_sem, m6, m9, m10, m13]
          refine (same_ok false hrow13 (hrow'.ext hF13) (by omega)).mono ?_
          rintro r H14 ⟨rfl, hEq⟩
          obtain rfl := hEq.symm
          rw [sameT_symm t2]
          have g0 : (0 : Int) < (((r1.length + 1 : Nat)) : Int) := by omega
          simp (implicitDefEqProofs := false) only [go_sem, hp3, m6, m9, m10, m13, g0, List.length_cons, heq]
          exact hFb
        · have hb := hsh.1 e' j' s1 (by omega) (by omega)
          rcases hR with ⟨r1, rfl, rfl⟩ | ⟨j, rfl, r1, rfl⟩
          · rw [hb] at r1; cases r1
          rw [hb] at r1
          cases r1
          rw [hll] at s1
          obtain ⟨b1, b2, b3⟩ := lexF_bad _ _ _ _ _ (by omega) s1
          have e0 : (e = 0) = False := by simp [b1]
          have hwj : IntKind.i64.wrap ((j' : Int) + (i : Int)) = ((j' + i : Nat) : Int) := by rw [wrap_i64_id _ (by omega) (by omega)]; omega
          simp (implicitDefEqProofs := false) only [go_sem, m6, m9, m10, m13, e0, hwj]
          exact hFb
end Go.Proofs.YtighpnijbnllaaaDoor
