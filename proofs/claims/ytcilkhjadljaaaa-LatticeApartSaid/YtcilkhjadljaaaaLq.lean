/- Equality of descriptions: contracts. -/
import Derived.Test.YtcilkhjadljaaaaLt
set_option linter.unusedSimpArgs false
set_option linter.unusedVariables false
set_option maxRecDepth 8000
namespace Go.Proofs.Ytcilkhjadljaaaa
open Gx Go

theorem seq_ok {H : Heap} {la lb : List Bs} {v u : Value} (ha : StrsA H [] la v) (hb : StrsA H [] lb u) :
    HCalls Try.prog 31 #[v, u] H fun r H' => r = .bool (decide (la = lb)) ∧ Fr [] H H' := by
  obtain ⟨a, ca, rfl, _, hca⟩ := ha.slice
  obtain ⟨b, cb, rfl, _, hcb⟩ := hb.slice
  refine calls_of_vc (args := [_, _]) Try.func31 c31ok (Nat.le_of_ble_eq_true rfl) ?_
  have hz : ((la.length : Int) = (lb.length : Int)) = (la.length = lb.length) := by apply propext; omega
  rw [← all2_eq]
  by_cases hlen : la.length = lb.length
  case neg =>
    simp (implicitDefEqProofs := false) only [go_sem, c31, hz, hlen]
    exact ⟨by rw [all2_ne hlen], Fr.refl _ _⟩
  simp (implicitDefEqProofs := false) only [go_sem, c31, hz, hlen]
  refine vc_loop (fun (i : Nat) H' => i ≤ la.length ∧ all2 (fun x y => decide (x = y)) (la.drop i) (lb.drop i) = all2 (fun x y => decide (x = y)) la lb ∧ H' = H)
    (fun i => [(0, .slice a la.length ca), (1, .slice b lb.length cb), (12, .int .i64 la.length), (13, .int .i64 i)]) (fun i => la.length - i) 0 ?_ ?_ ?_
  · exact ⟨Nat.zero_le _, rfl, rfl⟩
  · simp (implicitDefEqProofs := false) only [go_sem, hlen]
  · rintro i H' ⟨hi, hv, rfl⟩
    rcases Nat.lt_or_ge i la.length with hlt | hge
    · have hltb : i < lb.length := by omega
      have hlt' : (i : Int) < (la.length : Int) := by omega
      have hltb' : (i : Int) < (lb.length : Int) := by omega
      have h0 : (0 : Int) ≤ (i : Int) := by omega
      obtain ⟨b1, o1, c1, e1, h1⟩ := ha.at i hlt
      obtain ⟨b2, o2, c2, e2, h2⟩ := hb.at i hltb
      cases e1; cases e2
      have hw := succ_i64 i la.length hlt (by have := ha.slice; obtain ⟨_, _, e, _, _⟩ := this; cases e; omega)
      rw [all2_drop hlt hltb] at hv
      by_cases e : la[i] = lb[i]
      · have hd : decide (la[i] = lb[i]) = true := decide_eq_true e
        simp (implicitDefEqProofs := false) only [go_sem, hlt', hltb', h0, h1, h2, ba_eq, e]
        refine loopK_intro (i + 1) (by show la.length - (i + 1) < la.length - i; omega) ?_ ⟨hlt, ?_, rfl⟩
        · simp (implicitDefEqProofs := false) only [go_sem, hw]
        · rw [← hv, hd, Bool.true_and]
      · have hd : decide (la[i] = lb[i]) = false := decide_eq_false e
        simp (implicitDefEqProofs := false) only [go_sem, hlt', hltb', h0, h1, h2, ba_eq, e]
        exact ⟨by rw [← hv, hd, Bool.false_and], Fr.refl _ _⟩
    · have hlt' : ¬ (i : Int) < (la.length : Int) := by omega
      simp (implicitDefEqProofs := false) only [go_sem, hlt']
      rw [List.drop_eq_nil_of_le hge, List.drop_eq_nil_of_le (by omega)] at hv
      exact ⟨by rw [← hv]; rfl, Fr.refl _ _⟩

theorem samerule_ok {H : Heap} {x y : Rl} {vi ui : Value} (hx : StrsA H [] x.ifs vi) (hy : StrsA H [] y.ifs ui) :
    HCalls Try.prog 33 #[.agg #[vi, sv x.thn], .agg #[ui, sv y.thn]] H fun r H' => r = .bool (decide (x = y)) ∧ Fr [] H H' := by
  refine calls_of_vc (args := [_, _]) Try.func33 c33ok (Nat.le_of_ble_eq_true rfl) ?_
  simp (implicitDefEqProofs := false) only [go_sem, c33]
  refine NewP_intro fun H1 hn1 hf1 hs1 => ?_
  simp (implicitDefEqProofs := false) only [go_sem]
  refine NewP_intro fun H2 hn2 hf2 hs2 => ?_
  have hc1 := (hn1.ext hf2).cell
  have hc2 := hn2.cell
  have hf := hf1.trans hf2
  have hd : decide (x = y) = (decide (x.thn = y.thn) && decide (x.ifs = y.ifs)) := by
    rw [Bool.eq_iff_iff]
    simp only [decide_eq_true_eq, Bool.and_eq_true]
    constructor
    · rintro rfl; exact ⟨rfl, rfl⟩
    · rintro ⟨h1, h2⟩; cases x; cases y; simp_all
  rw [hd]
  by_cases e : x.thn = y.thn
  · simp (implicitDefEqProofs := false) only [go_sem, hc1, hc2, sv, ba_eq, e]
    refine (seq_ok (hx.ext hf) (hy.ext hf)).mono ?_
    rintro r H3 ⟨rfl, hf3⟩
    simp (implicitDefEqProofs := false) only [go_sem, Bool.true_and]
    exact hf.trans hf3
  · simp (implicitDefEqProofs := false) only [go_sem, hc1, hc2, sv, ba_eq, e, Bool.false_and]
    exact hf

theorem req_ok {H : Heap} {la lb : List Rl} {v u : Value} (ha : RulesA H [] la v) (hb : RulesA H [] lb u) :
    HCalls Try.prog 32 #[v, u, .func (.func 33) #[] #[]] H fun r H' => r = .bool (decide (la = lb)) ∧ Fr [] H H' := by
  obtain ⟨a, ca, rfl, hla, hca⟩ := ha.slice
  obtain ⟨b, cb, rfl, _, hcb⟩ := hb.slice
  refine calls_of_vc (args := [_, _, _]) Try.func32 c32ok (Nat.le_of_ble_eq_true rfl) ?_
  have hz : ((la.length : Int) = (lb.length : Int)) = (la.length = lb.length) := by apply propext; omega
  rw [← all2_eq]
  by_cases hlen : la.length = lb.length
  case neg =>
    simp (implicitDefEqProofs := false) only [go_sem, c32, hz, hlen]
    exact ⟨by rw [all2_ne hlen], Fr.refl _ _⟩
  simp (implicitDefEqProofs := false) only [go_sem, c32, hz, hlen]
  refine vc_loop (fun (i : Nat) H' => i ≤ la.length ∧ all2 (fun x y => decide (x = y)) (la.drop i) (lb.drop i) = all2 (fun x y => decide (x = y)) la lb ∧ Fr [] H H')
    (fun i => [(1, .slice b lb.length cb), (2, .func (.func 33) #[] #[]), (15, .slice a la.length ca), (16, .int .i64 la.length), (17, .int .i64 i)]) (fun i => la.length - i) 0 ?_ ?_ ?_
  · exact ⟨Nat.zero_le _, rfl, Fr.refl _ _⟩
  · simp (implicitDefEqProofs := false) only [go_sem, hlen]
  · rintro i H' ⟨hi, hv, hf⟩
    rcases Nat.lt_or_ge i la.length with hlt | hge
    · have hltb : i < lb.length := by omega
      have hlt' : (i : Int) < (la.length : Int) := by omega
      have hltb' : (i : Int) < (lb.length : Int) := by omega
      have h0 : (0 : Int) ≤ (i : Int) := by omega
      obtain ⟨b1, o1, c1, vi, e1, h1, h2, h3⟩ := RulesA.at (ha.ext hf) i hlt
      obtain ⟨b2, o2, c2, ui, e2, h4, h5, h6⟩ := RulesA.at (hb.ext hf) i hltb
      cases e1; cases e2
      have hw := succ_i64 i la.length hlt (by omega)
      rw [all2_drop hlt hltb] at hv
      simp (implicitDefEqProofs := false) only [go_sem, hlt', hltb', h0, h1, h2]
      refine NewP_intro fun H1 hn1 hf1 hs1 => ?_
      simp (implicitDefEqProofs := false) only [go_sem]
      refine Sto_all hn1 rfl (one2 (Rep.one1 h3) rfl) fun H2 hn2 hf2 hs2 => ?_
      have hf02 := hf.trans (new_fr hf1 hf2)
      have h4' := cellB_fr h4 (new_fr hf1 hf2) (by simp)
      have h5' := cellB_fr h5 (new_fr hf1 hf2) (by simp)
      simp (implicitDefEqProofs := false) only [go_sem, hlt', hltb', h0, h4', h5']
      refine NewP_intro fun H3 hn3 hf3 hs3 => ?_
      simp (implicitDefEqProofs := false) only [go_sem]
      refine Sto_all hn3 rfl (one2 (Rep.one1 h6) rfl) fun H4 hn4 hf4 hs4 => ?_
      have hf24 := new_fr hf3 hf4
      have hc2 := (hn2.ext hf24).cell
      have hc4 := hn4.cell
      have hf04 := hf02.trans hf24
      have h34 := (h3.ext (new_fr hf1 hf2)).ext hf24
      have h64 := (h6.ext (new_fr hf1 hf2)).ext hf24
      simp (implicitDefEqProofs := false) only [go_sem, hc2, hc4]
      refine ⟨by kernel_rfl, ?_⟩
      refine (samerule_ok h34 h64).mono ?_
      rintro r H5 ⟨rfl, hf5⟩
      by_cases e : la[i] = lb[i]
      · simp (implicitDefEqProofs := false) only [go_sem, e]
        refine loopK_intro (i + 1) (by show la.length - (i + 1) < la.length - i; omega) ?_ ⟨hlt, ?_, hf04.trans hf5⟩
        · simp (implicitDefEqProofs := false) only [go_sem, hw]
        · rw [← hv, decide_eq_true e, Bool.true_and]
      · simp (implicitDefEqProofs := false) only [go_sem, e]
        exact ⟨by rw [← hv, decide_eq_false e, Bool.false_and], hf04.trans hf5⟩
    · have hlt' : ¬ (i : Int) < (la.length : Int) := by omega
      simp (implicitDefEqProofs := false) only [go_sem, hlt']
      rw [List.drop_eq_nil_of_le hge, List.drop_eq_nil_of_le (by omega)] at hv
      exact ⟨by rw [← hv]; rfl, hf⟩

/-- EqualFunc on parts, with a function that says E. -/
theorem peq_ok {f : Nat} {E : Lt → Lt → Bool} (hbody : hasBody Try.prog f = true) {H : Heap} {la lb : List Lt} {v u : Value} (ha : PartsA H [] la v) (hb : PartsA H [] lb u)
    (hE : ∀ (j : Nat) (h1 : j < la.length) (h2 : j < lb.length) (H' : Heap) (cs cs' : List Value), LtA H' [] la[j] cs → LtA H' [] lb[j] cs' → HCalls Try.prog f #[.agg cs.toArray, .agg cs'.toArray] H' fun r H'' => r = .bool (E la[j] lb[j]) ∧ Fr [] H' H'') :
    HCalls Try.prog 34 #[v, u, .func (.func f) #[] #[]] H fun r H' => r = .bool (all2 E la lb) ∧ Fr [] H H' := by
  obtain ⟨a, ca, rfl, hla, hca⟩ := ha.slice
  obtain ⟨b, cb, rfl, _, hcb⟩ := hb.slice
  refine calls_of_vc (args := [_, _, _]) Try.func34 c34ok (Nat.le_of_ble_eq_true rfl) ?_
  have hz : ((la.length : Int) = (lb.length : Int)) = (la.length = lb.length) := by apply propext; omega
  by_cases hlen : la.length = lb.length
  case neg =>
    simp (implicitDefEqProofs := false) only [go_sem, c34, hz, hlen]
    exact ⟨by rw [all2_ne hlen], Fr.refl _ _⟩
  simp (implicitDefEqProofs := false) only [go_sem, c34, hz, hlen]
  refine vc_loop (fun (i : Nat) H' => i ≤ la.length ∧ all2 E (la.drop i) (lb.drop i) = all2 E la lb ∧ Fr [] H H')
    (fun i => [(1, .slice b lb.length cb), (2, .func (.func f) #[] #[]), (15, .slice a la.length ca), (16, .int .i64 la.length), (17, .int .i64 i)]) (fun i => la.length - i) 0 ?_ ?_ ?_
  · exact ⟨Nat.zero_le _, rfl, Fr.refl _ _⟩
  · simp (implicitDefEqProofs := false) only [go_sem, hlen]
  · rintro i H' ⟨hi, hv, hf⟩
    rcases Nat.lt_or_ge i la.length with hlt | hge
    · have hltb : i < lb.length := by omega
      have hlt' : (i : Int) < (la.length : Int) := by omega
      have hltb' : (i : Int) < (lb.length : Int) := by omega
      have h0 : (0 : Int) ≤ (i : Int) := by omega
      obtain ⟨b1, o1, c1, vn, vp, vr, e1, p0, p1, p2, p3, p4, p5, hp⟩ := PartsA.at (ha.ext hf) i hlt
      obtain ⟨b2, o2, c2, un, up, ur, e2, q0, q1, q2, q3, q4, q5, hq⟩ := PartsA.at (hb.ext hf) i hltb
      cases e1; cases e2
      have hw := succ_i64 i la.length hlt (by omega)
      rw [all2_drop hlt hltb] at hv
      simp (implicitDefEqProofs := false) only [go_sem, hlt', hltb', h0, p0, p1, p2, p3, p4, p5]
      refine NewP_intro fun H1 hn1 hf1 hs1 => ?_
      simp (implicitDefEqProofs := false) only [go_sem]
      refine Sto_all hn1 rfl (LtA.one6 hp) fun H2 hn2 hf2 hs2 => ?_
      have hfn := new_fr hf1 hf2
      have hf02 := hf.trans hfn
      have q0' := cellB_fr q0 hfn (by simp)
      have q1' := cellB_fr q1 hfn (by simp)
      have q2' := cellB_fr q2 hfn (by simp)
      have q3' := cellB_fr q3 hfn (by simp)
      have q4' := cellB_fr q4 hfn (by simp)
      have q5' := cellB_fr q5 hfn (by simp)
      simp (implicitDefEqProofs := false) only [go_sem, hlt', hltb', h0, q0', q1', q2', q3', q4', q5']
      refine NewP_intro fun H3 hn3 hf3 hs3 => ?_
      simp (implicitDefEqProofs := false) only [go_sem]
      refine Sto_all hn3 rfl (LtA.one6 hq) fun H4 hn4 hf4 hs4 => ?_
      have hf24 := new_fr hf3 hf4
      have hc2 := (hn2.ext hf24).cell
      have hc4 := hn4.cell
      have hf04 := hf02.trans hf24
      simp (implicitDefEqProofs := false) only [go_sem, hc2, hc4]
      refine ⟨hbody, ?_⟩
      refine (hE i hlt hltb H4 _ _ ((Rep.ext hp hfn).ext hf24) ((Rep.ext hq hfn).ext hf24)).mono ?_
      rintro r H5 ⟨rfl, hf5⟩
      cases e : E la[i] lb[i]
      · simp (implicitDefEqProofs := false) only [go_sem]
        exact ⟨by rw [← hv, e, Bool.false_and], hf04.trans hf5⟩
      · simp (implicitDefEqProofs := false) only [go_sem]
        refine loopK_intro (i + 1) (by show la.length - (i + 1) < la.length - i; omega) ?_ ⟨hlt, ?_, hf04.trans hf5⟩
        · simp (implicitDefEqProofs := false) only [go_sem, hw]
        · rw [← hv, e, Bool.true_and]
    · have hlt' : ¬ (i : Int) < (la.length : Int) := by omega
      simp (implicitDefEqProofs := false) only [go_sem, hlt']
      rw [List.drop_eq_nil_of_le hge, List.drop_eq_nil_of_le (by omega)] at hv
      exact ⟨by rw [← hv]; rfl, hf⟩

theorem equal_ok : ∀ (n : Nat) (a b : Lt), a.sz ≤ n → ∀ {H : Heap} {cs cs' : List Value}, LtA H [] a cs → LtA H [] b cs' →
    HCalls Try.prog 14 #[.agg cs.toArray, .agg cs'.toArray] H fun r H' => r = .bool (eqT a b) ∧ Fr [] H H' := by
  intro n
  induction n with
  | zero =>
    intro a b hn
    exfalso
    obtain ⟨k, lo, hi, ns, ps, rs⟩ := a
    simp only [Lt.sz] at hn; omega
  | succ n ih =>
    intro a b hn H cs cs' ha hb
    obtain ⟨vn, vp, vr, rfl, h3, h4, h5⟩ := LtA.open ha
    obtain ⟨un, up, ur, rfl, g3, g4, g5⟩ := LtA.open hb
    refine calls_of_vc (args := [_, _]) Try.func14 c14ok (Nat.le_of_ble_eq_true rfl) ?_
    rw [eqT_open]
    simp (implicitDefEqProofs := false) only [go_sem, c14]
    refine NewP_intro fun H1 hn1 hf1 hs1 => ?_
    simp (implicitDefEqProofs := false) only [go_sem]
    refine NewP_intro fun H2 hn2 hf2 hs2 => ?_
    have hc1 := (hn1.ext hf2).cell
    have hc2 := hn2.cell
    have hf := hf1.trans hf2
    by_cases e1 : a.kind = b.kind
    case neg =>
      simp (implicitDefEqProofs := false) only [go_sem, hc1, hc2, e1, Bool.false_and]
      exact hf
    by_cases e2 : a.lo = b.lo
    case neg =>
      simp (implicitDefEqProofs := false) only [go_sem, hc1, hc2, e1, e2, Bool.false_and, Bool.true_and]
      exact hf
    by_cases e3 : a.hi = b.hi
    case neg =>
      simp (implicitDefEqProofs := false) only [go_sem, hc1, hc2, e1, e2, e3, Bool.false_and, Bool.true_and]
      exact hf
    simp (implicitDefEqProofs := false) only [go_sem, hc1, hc2, e1, e2, e3, Bool.false_and, Bool.true_and]
    refine (seq_ok (h3.ext hf) (g3.ext hf)).mono ?_
    rintro r H3 ⟨rfl, hf3⟩
    replace hf := hf.trans hf3
    by_cases e4 : a.names = b.names
    case neg =>
      simp (implicitDefEqProofs := false) only [go_sem, e4, Bool.false_and]
      exact hf
    have hd1 := ((hn1.ext hf2).ext hf3).cell
    have hd2 := (hn2.ext hf3).cell
    simp (implicitDefEqProofs := false) only [go_sem, e4, hd1, hd2, Bool.true_and]
    refine (req_ok (h5.ext hf) (g5.ext hf)).mono ?_
    rintro r H4 ⟨rfl, hf4⟩
    replace hf := hf.trans hf4
    by_cases e5 : a.rules = b.rules
    case neg =>
      simp (implicitDefEqProofs := false) only [go_sem, e5, Bool.false_and]
      exact hf
    have hd1 := (((hn1.ext hf2).ext hf3).ext hf4).cell
    have hd2 := ((hn2.ext hf3).ext hf4).cell
    simp (implicitDefEqProofs := false) only [go_sem, e5, hd1, hd2, Bool.true_and]
    refine (peq_ok (E := eqT) (by kernel_rfl) (h4.ext hf) (g4.ext hf) fun j h1 h2 H' cs cs' q1 q2 => ih a.parts[j] b.parts[j] (by have := Lt.sz_part a j h1; omega) q1 q2).mono ?_
    rintro r H5 ⟨rfl, hf5⟩
    simp (implicitDefEqProofs := false) only [go_sem]
    exact hf.trans hf5
end Go.Proofs.Ytcilkhjadljaaaa
