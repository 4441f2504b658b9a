/- Equality of descriptions, as the specification says it: contracts. -/
import Derived.Test.YtcilkhjadljaaaaLq
set_option linter.unusedSimpArgs false
set_option linter.unusedVariables false
set_option maxRecDepth 8000
namespace Go.Proofs.Ytcilkhjadljaaaa
open Gx Go

theorem fnames_ok {H : Heap} {la lb : List Bs} {v u : Value} (ha : StrsA H [] la v) (hb : StrsA H [] lb u) :
    HCalls Try.prog 35 #[v, u] H fun r H' => r = .bool (decide (la = lb)) ∧ Fr [] H H' := by
  obtain ⟨a, ca, rfl, _, hca⟩ := ha.slice
  obtain ⟨b, cb, rfl, _, hcb⟩ := hb.slice
  refine calls_of_vc (args := [_, _]) Try.func35 c35ok (Nat.le_of_ble_eq_true rfl) ?_
  have hz : ((la.length : Int) = (lb.length : Int)) = (la.length = lb.length) := by apply propext; omega
  rw [← all2_eq]
  by_cases hlen : la.length = lb.length
  case neg =>
    simp (implicitDefEqProofs := false) only [go_sem, c35, hz, hlen]
    exact ⟨by rw [all2_ne hlen], Fr.refl _ _⟩
  simp (implicitDefEqProofs := false) only [go_sem, c35, hz, hlen]
  refine vc_loop (fun (i : Nat) H' => i ≤ la.length ∧ all2 (fun x y => decide (x = y)) (la.drop i) (lb.drop i) = all2 (fun x y => decide (x = y)) la lb ∧ H' = H)
    (fun i => [(0, .slice a la.length ca), (1, .slice b lb.length cb), (5, .int .i64 i)]) (fun i => la.length - i) 0 ?_ ?_ ?_
  · exact ⟨Nat.zero_le _, rfl, rfl⟩
  · simp (implicitDefEqProofs := false) only [go_sem, hlen]
  · rintro i H' ⟨hi, hv, rfl⟩
    rcases Nat.lt_or_ge i la.length with hlt | hge
    · have hltb : i < lb.length := by omega
      have hlt' : (i : Int) < (la.length : Int) := by omega
      have hltb' : (i : Int) < (lb.length : Int) := by omega
      have h0 : (0 : Int) ≤ (i : Int) := by omega
      obtain ⟨b1, o1, c1, e1, h1⟩ := StrsA.at ha i hlt
      obtain ⟨b2, o2, c2, e2, h2⟩ := StrsA.at hb i hltb
      cases e1; cases e2
      have hla := ha.slice
      have hw := succ_i64 i la.length hlt (by obtain ⟨_, _, e, _, _⟩ := hla; cases e; omega)
      rw [all2_drop hlt hltb] at hv
      by_cases e : la[i] = lb[i]
      · have hd : decide (la[i] = lb[i]) = true := decide_eq_true e
        simp (implicitDefEqProofs := false) only [go_sem, hlt', hltb', h0, h1, h2, ba_eq, e]
        refine loopK_intro (i + 1) (by show la.length - (i + 1) < la.length - i; omega) ?_ ⟨hlt, ?_, rfl⟩
        · simp (implicitDefEqProofs := false) only [go_sem, hw]
        · rw [← hv, hd, Bool.true_and]
      · have hd : decide (la[i] = lb[i]) = false := decide_eq_false e
        simp (implicitDefEqProofs := false) only [go_sem, hlt', hltb', h0, h1, h2, ba_eq, e]
        exact ⟨by rw [← hv, hd, Bool.false_and], Fr.refl _ _⟩
    · have hlt' : ¬ (i : Int) < (la.length : Int) := by omega
      simp (implicitDefEqProofs := false) only [go_sem, hlt']
      rw [List.drop_eq_nil_of_le hge, List.drop_eq_nil_of_le (by omega)] at hv
      exact ⟨by rw [← hv]; rfl, Fr.refl _ _⟩

theorem rl_eq (x y : Rl) : decide (x = y) = (decide (x.thn = y.thn) && decide (x.ifs = y.ifs)) := by
  rw [Bool.eq_iff_iff]
  simp only [decide_eq_true_eq, Bool.and_eq_true]
  constructor
  · rintro rfl; exact ⟨rfl, rfl⟩
  · rintro ⟨h1, h2⟩; cases x; cases y; simp_all

theorem fequal_ok : ∀ (n : Nat) (a b : Lt), a.sz ≤ n → ∀ {H : Heap} {cs cs' : List Value}, LtA H [] a cs → LtA H [] b cs' →
    HCalls Try.prog 15 #[.agg cs.toArray, .agg cs'.toArray] H fun r H' => r = .bool (eqT a b) ∧ Fr [] H H' := by
  intro n
  induction n with
  | zero =>
    intro a b hn
    exfalso
    obtain ⟨k, lo, hi, ns, ps, rs⟩ := a
    simp only [Lt.sz] at hn; omega
  | succ n ih =>
    intro a b hn H cs cs' ha hb
    obtain ⟨vn, vp, vr, rfl, h3, h4, h5⟩ := LtA.open ha
    obtain ⟨un, up, ur, rfl, g3, g4, g5⟩ := LtA.open hb
    obtain ⟨pa, pc, rfl, _, hpc⟩ := PartsA.slice h4
    obtain ⟨qa, qc, rfl, _, hqc⟩ := PartsA.slice g4
    obtain ⟨ra, rc, rfl, _, hrc⟩ := RulesA.slice h5
    obtain ⟨sa, sc, rfl, _, hsc⟩ := RulesA.slice g5
    refine calls_of_vc (args := [_, _]) Try.func15 c15ok (Nat.le_of_ble_eq_true rfl) ?_
    rw [eqT_open]
    simp (implicitDefEqProofs := false) only [go_sem, c15]
    refine NewP_intro fun H1 hn1 hf1 hs1 => ?_
    simp (implicitDefEqProofs := false) only [go_sem]
    refine NewP_intro fun H2 hn2 hf2 hs2 => ?_
    have hb1 := hn1.ext hf2
    have hc1 := hb1.cell
    have hc2 := hn2.cell
    have hf := hf1.trans hf2
    by_cases e1 : a.kind = b.kind
    case neg =>
      simp (implicitDefEqProofs := false) only [go_sem, hc1, hc2, e1, Bool.false_and]
      exact hf
    by_cases e2 : a.lo = b.lo
    case neg =>
      simp (implicitDefEqProofs := false) only [go_sem, hc1, hc2, e1, e2, Bool.false_and, Bool.true_and]
      exact hf
    by_cases e3 : a.hi = b.hi
    case neg =>
      simp (implicitDefEqProofs := false) only [go_sem, hc1, hc2, e1, e2, e3, Bool.false_and, Bool.true_and]
      exact hf
    simp (implicitDefEqProofs := false) only [go_sem, hc1, hc2, e1, e2, e3, Bool.false_and, Bool.true_and]
    refine (fnames_ok (h3.ext hf) (g3.ext hf)).mono ?_
    rintro r H3 ⟨rfl, hf3⟩
    replace hf := hf.trans hf3
    have hb1 := hb1.ext hf3
    have hb2 := hn2.ext hf3
    have hd1 := hb1.cell
    have hd2 := hb2.cell
    by_cases e4 : a.names = b.names
    case neg =>
      simp (implicitDefEqProofs := false) only [go_sem, e4, hd1, hd2, Bool.false_and]
      exact hf
    have hzp : ((a.parts.length : Int) = (b.parts.length : Int)) = (a.parts.length = b.parts.length) := by apply propext; omega
    have hzr : ((a.rules.length : Int) = (b.rules.length : Int)) = (a.rules.length = b.rules.length) := by apply propext; omega
    by_cases e5 : a.parts.length = b.parts.length
    case neg =>
      simp (implicitDefEqProofs := false) only [go_sem, e4, hd1, hd2, hzp, e5, Bool.true_and]
      exact ⟨by rw [all2_ne e5, Bool.and_false], hf⟩
    by_cases e6 : a.rules.length = b.rules.length
    case neg =>
      simp (implicitDefEqProofs := false) only [go_sem, e4, hd1, hd2, hzp, e5, hzr, e6, Bool.true_and]
      have : ¬ a.rules = b.rules := fun h => e6 (by rw [h])
      exact ⟨by rw [decide_eq_false this, Bool.false_and], hf⟩
    simp (implicitDefEqProofs := false) only [go_sem, e4, hd1, hd2, hzp, e5, hzr, e6, Bool.true_and]
    rw [← all2_eq a.rules]
    refine vc_loop (fun (i : Nat) H' => i ≤ a.rules.length ∧ all2 (fun x y => decide (x = y)) (a.rules.drop i) (b.rules.drop i) = all2 (fun x y => decide (x = y)) a.rules b.rules ∧ Fr [] H H' ∧ Fr [] H3 H')
      (fun i => [(2, .pointer (some ⟨H.size, 0, none⟩)), (3, .pointer (some ⟨H1.size, 0, none⟩)), (5, .int .i64 i)]) (fun i => a.rules.length - i) 0 ?_ ?_ ?_
    · exact ⟨Nat.zero_le _, rfl, hf, Fr.refl _ _⟩
    · simp (implicitDefEqProofs := false) only [go_sem]
    · rintro i H' ⟨hi, hv, hf', hf3'⟩
      have hx1 := (hb1.ext hf3').cell
      have hx2 := (hb2.ext hf3').cell
      rcases Nat.lt_or_ge i a.rules.length with hlt | hge
      · have hltb : i < b.rules.length := by omega
        have hlt' : (i : Int) < (a.rules.length : Int) := by omega
        have hltb' : (i : Int) < (b.rules.length : Int) := by omega
        have h0 : (0 : Int) ≤ (i : Int) := by omega
        obtain ⟨b1, o1, c1, vi, w1, x1, x2, x3⟩ := RulesA.at (h5.ext hf') i hlt
        obtain ⟨b2, o2, c2, ui, w2, y1, y2, y3⟩ := RulesA.at (g5.ext hf') i hltb
        cases w1; cases w2
        have hw := succ_i64 i a.rules.length hlt (by omega)
        rw [all2_drop hlt hltb, rl_eq] at hv
        by_cases t1 : a.rules[i].thn = b.rules[i].thn
        · simp (implicitDefEqProofs := false) only [go_sem, hlt', hltb', h0, hx1, hx2, x1, x2, y1, y2, sv, ba_eq, t1]
          refine (fnames_ok x3 y3).mono ?_
          rintro r H4 ⟨rfl, hf4⟩
          by_cases t2 : a.rules[i].ifs = b.rules[i].ifs
          · simp (implicitDefEqProofs := false) only [go_sem, t2]
            refine loopK_intro (i + 1) (by show a.rules.length - (i + 1) < a.rules.length - i; omega) ?_ ⟨hlt, ?_, hf'.trans hf4, hf3'.trans hf4⟩
            · simp (implicitDefEqProofs := false) only [go_sem, hw]
            · rw [← hv, decide_eq_true t1, decide_eq_true t2, Bool.true_and, Bool.true_and]
          · simp (implicitDefEqProofs := false) only [go_sem, t2]
            exact ⟨by rw [← hv, decide_eq_false t2, Bool.and_false, Bool.false_and, Bool.false_and], hf'.trans hf4⟩
        · simp (implicitDefEqProofs := false) only [go_sem, hlt', hltb', h0, hx1, hx2, x1, x2, y1, y2, sv, ba_eq, t1]
          exact ⟨by rw [← hv, decide_eq_false t1, Bool.false_and, Bool.false_and, Bool.false_and], hf'⟩
      · have hlt' : ¬ (i : Int) < (a.rules.length : Int) := by omega
        simp (implicitDefEqProofs := false) only [go_sem, hlt', hx1]
        rw [List.drop_eq_nil_of_le hge, List.drop_eq_nil_of_le (by omega)] at hv
        rw [← hv]
        simp only [all2, Bool.true_and]
        refine vc_loop (fun (i : Nat) H'' => i ≤ a.parts.length ∧ all2 eqT (a.parts.drop i) (b.parts.drop i) = all2 eqT a.parts b.parts ∧ Fr [] H H'' ∧ Fr [] H3 H'')
          (fun i => [(2, .pointer (some ⟨H.size, 0, none⟩)), (3, .pointer (some ⟨H1.size, 0, none⟩)), (6, .int .i64 i)]) (fun i => a.parts.length - i) 0 ?_ ?_ ?_
        · exact ⟨Nat.zero_le _, rfl, hf', hf3'⟩
        · simp (implicitDefEqProofs := false) only [go_sem]
        · rintro i H' ⟨hi, hv, hf', hf3'⟩
          have hx1 := (hb1.ext hf3').cell
          have hx2 := (hb2.ext hf3').cell
          rcases Nat.lt_or_ge i a.parts.length with hlt | hge
          · have hltb : i < b.parts.length := by omega
            have hlt' : (i : Int) < (a.parts.length : Int) := by omega
            have hltb' : (i : Int) < (b.parts.length : Int) := by omega
            have h0 : (0 : Int) ≤ (i : Int) := by omega
            obtain ⟨b1, o1, c1, wn, wp, wr, w1, p0, p1, p2, p3, p4, p5, hp⟩ := PartsA.at (h4.ext hf') i hlt
            obtain ⟨b2, o2, c2, xn, xp, xr, w2, q0, q1, q2, q3, q4, q5, hq⟩ := PartsA.at (g4.ext hf') i hltb
            cases w1; cases w2
            have hw := succ_i64 i a.parts.length hlt (by omega)
            rw [all2_drop hlt hltb] at hv
            simp (implicitDefEqProofs := false) only [go_sem, hlt', hltb', h0, hx1, hx2, p0, p1, p2, p3, p4, p5, q0, q1, q2, q3, q4, q5]
            refine (ih a.parts[i] b.parts[i] (by have := Lt.sz_part a i hlt; omega) hp hq).mono ?_
            rintro r H5 ⟨rfl, hf5⟩
            cases e : eqT a.parts[i] b.parts[i]
            · simp (implicitDefEqProofs := false) only [go_sem]
              exact ⟨by rw [← hv, e, Bool.false_and], hf'.trans hf5⟩
            · simp (implicitDefEqProofs := false) only [go_sem]
              refine loopK_intro (i + 1) (by show a.parts.length - (i + 1) < a.parts.length - i; omega) ?_ ⟨hlt, ?_, hf'.trans hf5, hf3'.trans hf5⟩
              · simp (implicitDefEqProofs := false) only [go_sem, hw]
              · rw [← hv, e, Bool.true_and]
          · have hlt' : ¬ (i : Int) < (a.parts.length : Int) := by omega
            simp (implicitDefEqProofs := false) only [go_sem, hlt', hx1]
            rw [List.drop_eq_nil_of_le hge, List.drop_eq_nil_of_le (by omega)] at hv
            exact ⟨by rw [← hv]; rfl, hf'⟩
end Go.Proofs.Ytcilkhjadljaaaa
