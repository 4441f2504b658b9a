import Derived.Test.YtcilkhjadljaaaaB4
section
/- Equality of descriptions: contracts. -/
set_option linter.unusedSimpArgs false
set_option linter.unusedVariables false
set_option maxRecDepth 8000
namespace Go.Proofs.Ytcilkhjadljaaaa
open Gx Go

theorem seq_ok {H : Heap} {la lb : List Bs} {v u : Value} (ha : StrsA H [] la v) (hb : StrsA H [] lb u) :
    HCalls Try.prog 31 #[v, u] H fun r H' => r = .bool (decide (la = lb)) ∧ Fr [] H H' := by
  obtain ⟨a, ca, rfl, _, hca⟩ := ha.slice
  obtain ⟨b, cb, rfl, _, hcb⟩ := hb.slice
  refine calls_of_vc (args := [_, _]) Try.func31 c31ok (Nat.le_of_ble_eq_true rfl) ?_
  have hz : ((la.length : Int) = (lb.length : Int)) = (la.length = lb.length) := by apply propext; omega
  rw [← all2_eq]
  by_cases hlen : la.length = lb.length
  case neg =>
    simp (implicitDefEqProofs := false) only [go_sem, c31, hz, hlen]
    exact ⟨by rw [all2_ne hlen], Fr.refl _ _⟩
  simp (implicitDefEqProofs := false) only [go_sem, c31, hz, hlen]
  refine vc_loop (fun (i : Nat) H' => i ≤ la.length ∧ all2 (fun x y => decide (x = y)) (la.drop i) (lb.drop i) = all2 (fun x y => decide (x = y)) la lb ∧ H' = H)
    (fun i => [(0, .slice a la.length ca), (1, .slice b lb.length cb), (12, .int .i64 la.length), (13, .int .i64 i)]) (fun i => la.length - i) 0 ?_ ?_ ?_
  · exact ⟨Nat.zero_le _, rfl, rfl⟩
  · simp (implicitDefEqProofs := false) only [go_sem, hlen]
  · rintro i H' ⟨hi, hv, rfl⟩
    rcases Nat.lt_or_ge i la.length with hlt | hge
    · have hltb : i < lb.length := by omega
      have hlt' : (i : Int) < (la.length : Int) := by omega
      have hltb' : (i : Int) < (lb.length : Int) := by omega
      have h0 : (0 : Int) ≤ (i : Int) := by omega
      obtain ⟨b1, o1, c1, e1, h1⟩ := ha.at i hlt
      obtain ⟨b2, o2, c2, e2, h2⟩ := hb.at i hltb
      cases e1; cases e2
      have hw := succ_i64 i la.length hlt (by have := ha.slice; obtain ⟨_, _, e, _, _⟩ := this; cases e; omega)
      rw [all2_drop hlt hltb] at hv
      by_cases e : la[i] = lb[i]
      · have hd : decide (la[i] = lb[i]) = true := decide_eq_true e
        simp (implicitDefEqProofs := false) only [go_sem, hlt', hltb', h0, h1, h2, ba_eq, e]
        refine loopK_intro (i + 1) (by show la.length - (i + 1) < la.length - i; omega) ?_ ⟨hlt, ?_, rfl⟩
        · simp (implicitDefEqProofs := false) only [go_sem, hw]
        · rw [← hv, hd, Bool.true_and]
      · have hd : decide (la[i] = lb[i]) = false := decide_eq_false e
        simp (implicitDefEqProofs := false) only [go_sem, hlt', hltb', h0, h1, h2, ba_eq, e]
        exact ⟨by rw [← hv, hd, Bool.false_and], Fr.refl _ _⟩
    · have hlt' : ¬ (i : Int) < (la.length : Int) := by omega
      simp (implicitDefEqProofs := false) only [go_sem, hlt']
      rw [List.drop_eq_nil_of_le hge, List.drop_eq_nil_of_le (by omega)] at hv
      exact ⟨by rw [← hv]; rfl, Fr.refl _ _⟩

theorem samerule_ok {H : Heap} {x y : Rl} {vi ui : Value} (hx : StrsA H [] x.ifs vi) (hy : StrsA H [] y.ifs ui) :
    HCalls Try.prog 33 #[.agg #[vi, sv x.thn], .agg #[ui, sv y.thn]] H fun r H' => r = .bool (decide (x = y)) ∧ Fr [] H H' := by
  refine calls_of_vc (args := [_, _]) Try.func33 c33ok (Nat.le_of_ble_eq_true rfl) ?_
  simp (implicitDefEqProofs := false) only [go_sem, c33]
  refine NewP_intro fun H1 hn1 hf1 hs1 => ?_
  simp (implicitDefEqProofs := false) only [go_sem]
  refine NewP_intro fun H2 hn2 hf2 hs2 => ?_
  have hc1 := (hn1.ext hf2).cell
  have hc2 := hn2.cell
  have hf := hf1.trans hf2
  have hd : decide (x = y) = (decide (x.thn = y.thn) && decide (x.ifs = y.ifs)) := by
    rw [Bool.eq_iff_iff]
    simp only [decide_eq_true_eq, Bool.and_eq_true]
    constructor
    · rintro rfl; exact ⟨rfl, rfl⟩
    · rintro ⟨h1, h2⟩; cases x; cases y; simp_all
  rw [hd]
  by_cases e : x.thn = y.thn
  · simp (implicitDefEqProofs := false) only [go_sem, hc1, hc2, sv, ba_eq, e]
    refine (seq_ok (hx.ext hf) (hy.ext hf)).mono ?_
    rintro r H3 ⟨rfl, hf3⟩
    simp (implicitDefEqProofs := false) only [go_sem, Bool.true_and]
    exact hf.trans hf3
  · simp (implicitDefEqProofs := false) only [go_sem, hc1, hc2, sv, ba_eq, e, Bool.false_and]
    exact hf

theorem req_ok {H : Heap} {la lb : List Rl} {v u : Value} (ha : RulesA H [] la v) (hb : RulesA H [] lb u) :
    HCalls Try.prog 32 #[v, u, .func (.func 33) #[] #[]] H fun r H' => r = .bool (decide (la = lb)) ∧ Fr [] H H' := by
  obtain ⟨a, ca, rfl, hla, hca⟩ := ha.slice
  obtain ⟨b, cb, rfl, _, hcb⟩ := hb.slice
  refine calls_of_vc (args := [_, _, _]) Try.func32 c32ok (Nat.le_of_ble_eq_true rfl) ?_
  have hz : ((la.length : Int) = (lb.length : Int)) = (la.length = lb.length) := by apply propext; omega
  rw [← all2_eq]
  by_cases hlen : la.length = lb.length
  case neg =>
    simp (implicitDefEqProofs := false) only [go_sem, c32, hz, hlen]
    exact ⟨by rw [all2_ne hlen], Fr.refl _ _⟩
  simp (implicitDefEqProofs := false) only [go_sem, c32, hz, hlen]
  refine vc_loop (fun (i : Nat) H' => i ≤ la.length ∧ all2 (fun x y => decide (x = y)) (la.drop i) (lb.drop i) = all2 (fun x y => decide (x = y)) la lb ∧ Fr [] H H')
    (fun i => [(1, .slice b lb.length cb), (2, .func (.func 33) #[] #[]), (15, .slice a la.length ca), (16, .int .i64 la.length), (17, .int .i64 i)]) (fun i => la.length - i) 0 ?_ ?_ ?_
  · exact ⟨Nat.zero_le _, rfl, Fr.refl _ _⟩
  · simp (implicitDefEqProofs := false) only [go_sem, hlen]
  · rintro i H' ⟨hi, hv, hf⟩
    rcases Nat.lt_or_ge i la.length with hlt | hge
    · have hltb : i < lb.length := by omega
      have hlt' : (i : Int) < (la.length : Int) := by omega
      have hltb' : (i : Int) < (lb.length : Int) := by omega
      have h0 : (0 : Int) ≤ (i : Int) := by omega
      obtain ⟨b1, o1, c1, vi, e1, h1, h2, h3⟩ := RulesA.at (ha.ext hf) i hlt
      obtain ⟨b2, o2, c2, ui, e2, h4, h5, h6⟩ := RulesA.at (hb.ext hf) i hltb
      cases e1; cases e2
      have hw := succ_i64 i la.length hlt (by omega)
      rw [all2_drop hlt hltb] at hv
      simp (implicitDefEqProofs := false) only [go_sem, hlt', hltb', h0, h1, h2]
      refine NewP_intro fun H1 hn1 hf1 hs1 => ?_
      simp (implicitDefEqProofs := false) only [go_sem]
      refine Sto_all hn1 rfl (one2 (Rep.one1 h3) rfl) fun H2 hn2 hf2 hs2 => ?_
      have hf02 := hf.trans (new_fr hf1 hf2)
      have h4' := cellB_fr h4 (new_fr hf1 hf2) (by simp)
      have h5' := cellB_fr h5 (new_fr hf1 hf2) (by simp)
      simp (implicitDefEqProofs := false) only [go_sem, hlt', hltb', h0, h4', h5']
      refine NewP_intro fun H3 hn3 hf3 hs3 => ?_
      simp (implicitDefEqProofs := false) only [go_sem]
      refine Sto_all hn3 rfl (one2 (Rep.one1 h6) rfl) fun H4 hn4 hf4 hs4 => ?_
      have hf24 := new_fr hf3 hf4
      have hc2 := (hn2.ext hf24).cell
      have hc4 := hn4.cell
      have hf04 := hf02.trans hf24
      have h34 := (h3.ext (new_fr hf1 hf2)).ext hf24
      have h64 := (h6.ext (new_fr hf1 hf2)).ext hf24
      simp (implicitDefEqProofs := false) only [go_sem, hc2, hc4]
      refine ⟨by kernel_rfl, ?_⟩
      refine (samerule_ok h34 h64).mono ?_
      rintro r H5 ⟨rfl, hf5⟩
      by_cases e : la[i] = lb[i]
      · simp (implicitDefEqProofs := false) only [go_sem, e]
        refine loopK_intro (i + 1) (by show la.length - (i + 1) < la.length - i; omega) ?_ ⟨hlt, ?_, hf04.trans hf5⟩
        · simp (implicitDefEqProofs := false) only [go_sem, hw]
        · rw [← hv, decide_eq_true e, Bool.true_and]
      · simp (implicitDefEqProofs := false) only [go_sem, e]
        exact ⟨by rw [← hv, decide_eq_false e, Bool.false_and], hf04.trans hf5⟩
    · have hlt' : ¬ (i : Int) < (la.length : Int) := by omega
      simp (implicitDefEqProofs := false) only [go_sem, hlt']
      rw [List.drop_eq_nil_of_le hge, List.drop_eq_nil_of_le (by omega)] at hv
      exact ⟨by rw [← hv]; rfl, hf⟩

/-- EqualFunc on parts, with a function that says E. -/
theorem peq_ok {f : Nat} {E : Lt → Lt → Bool} (hbody : hasBody Try.prog f = true) {H : Heap} {la lb : List Lt} {v u : Value} (ha : PartsA H [] la v) (hb : PartsA H [] lb u)
    (hE : ∀ (j : Nat) (h1 : j < la.length) (h2 : j < lb.length) (H' : Heap) (cs cs' : List Value), LtA H' [] la[j] cs → LtA H' [] lb[j] cs' → HCalls Try.prog f #[.agg cs.toArray, .agg cs'.toArray] H' fun r H'' => r = .bool (E la[j] lb[j]) ∧ Fr [] H' H'') :
    HCalls Try.prog 34 #[v, u, .func (.func f) #[] #[]] H fun r H' => r = .bool (all2 E la lb) ∧ Fr [] H H' := by
  obtain ⟨a, ca, rfl, hla, hca⟩ := ha.slice
  obtain ⟨b, cb, rfl, _, hcb⟩ := hb.slice
  refine calls_of_vc (args := [_, _, _]) Try.func34 c34ok (Nat.le_of_ble_eq_true rfl) ?_
  have hz : ((la.length : Int) = (lb.length : Int)) = (la.length = lb.length) := by apply propext; omega
  by_cases hlen : la.length = lb.length
  case neg =>
    simp (implicitDefEqProofs := false) only [go_sem, c34, hz, hlen]
    exact ⟨by rw [all2_ne hlen], Fr.refl _ _⟩
  simp (implicitDefEqProofs := false) only [go_sem, c34, hz, hlen]
  refine vc_loop (fun (i : Nat) H' => i ≤ la.length ∧ all2 E (la.drop i) (lb.drop i) = all2 E la lb ∧ Fr [] H H')
    (fun i => [(1, .slice b lb.length cb), (2, .func (.func f) #[] #[]), (15, .slice a la.length ca), (16, .int .i64 la.length), (17, .int .i64 i)]) (fun i => la.length - i) 0 ?_ ?_ ?_
  · exact ⟨Nat.zero_le _, rfl, Fr.refl _ _⟩
  · simp (implicitDefEqProofs := false) only [go_sem, hlen]
  · rintro i H' ⟨hi, hv, hf⟩
    rcases Nat.lt_or_ge i la.length with hlt | hge
    · have hltb : i < lb.length := by omega
      have hlt' : (i : Int) < (la.length : Int) := by omega
      have hltb' : (i : Int) < (lb.length : Int) := by omega
      have h0 : (0 : Int) ≤ (i : Int) := by omega
      obtain ⟨b1, o1, c1, vn, vp, vr, e1, p0, p1, p2, p3, p4, p5, hp⟩ := PartsA.at (ha.ext hf) i hlt
      obtain ⟨b2, o2, c2, un, up, ur, e2, q0, q1, q2, q3, q4, q5, hq⟩ := PartsA.at (hb.ext hf) i hltb
      cases e1; cases e2
      have hw := succ_i64 i la.length hlt (by omega)
      rw [all2_drop hlt hltb] at hv
      simp (implicitDefEqProofs := false) only [go_sem, hlt', hltb', h0, p0, p1, p2, p3, p4, p5]
      refine NewP_intro fun H1 hn1 hf1 hs1 => ?_
      simp (implicitDefEqProofs := false) only [go_sem]
      refine Sto_all hn1 rfl (LtA.one6 hp) fun H2 hn2 hf2 hs2 => ?_
      have hfn := new_fr hf1 hf2
      have hf02 := hf.trans hfn
      have q0' := cellB_fr q0 hfn (by simp)
      have q1' := cellB_fr q1 hfn (by simp)
      have q2' := cellB_fr q2 hfn (by simp)
      have q3' := cellB_fr q3 hfn (by simp)
      have q4' := cellB_fr q4 hfn (by simp)
      have q5' := cellB_fr q5 hfn (by simp)
      simp (implicitDefEqProofs := false) only [go_sem, hlt', hltb', h0, q0', q1', q2', q3', q4', q5']
      refine NewP_intro fun H3 hn3 hf3 hs3 => ?_
      simp (implicitDefEqProofs := false) only [go_sem]
      refine Sto_all hn3 rfl (LtA.one6 hq) fun H4 hn4 hf4 hs4 => ?_
      have hf24 := new_fr hf3 hf4
      have hc2 := (hn2.ext hf24).cell
      have hc4 := hn4.cell
      have hf04 := hf02.trans hf24
      simp (implicitDefEqProofs := false) only [go_sem, hc2, hc4]
      refine ⟨hbody, ?_⟩
      refine (hE i hlt hltb H4 _ _ ((Rep.ext hp hfn).ext hf24) ((Rep.ext hq hfn).ext hf24)).mono ?_
      rintro r H5 ⟨rfl, hf5⟩
      cases e : E la[i] lb[i]
      · simp (implicitDefEqProofs := false) only [go_sem]
        exact ⟨by rw [← hv, e, Bool.false_and], hf04.trans hf5⟩
      · simp (implicitDefEqProofs := false) only [go_sem]
        refine loopK_intro (i + 1) (by show la.length - (i + 1) < la.length - i; omega) ?_ ⟨hlt, ?_, hf04.trans hf5⟩
        · simp (implicitDefEqProofs := false) only [go_sem, hw]
        · rw [← hv, e, Bool.true_and]
    · have hlt' : ¬ (i : Int) < (la.length : Int) := by omega
      simp (implicitDefEqProofs := false) only [go_sem, hlt']
      rw [List.drop_eq_nil_of_le hge, List.drop_eq_nil_of_le (by omega)] at hv
      exact ⟨by rw [← hv]; rfl, hf⟩

theorem equal_ok : ∀ (n : Nat) (a b : Lt), a.sz ≤ n → ∀ {H : Heap} {cs cs' : List Value}, LtA H [] a cs → LtA H [] b cs' →
    HCalls Try.prog 14 #[.agg cs.toArray, .agg cs'.toArray] H fun r H' => r = .bool (eqT a b) ∧ Fr [] H H' := by
  intro n
  induction n with
  | zero =>
    intro a b hn
    exfalso
    obtain ⟨k, lo, hi, ns, ps, rs⟩ := a
    simp only [Lt.sz] at hn; omega
  | succ n ih =>
    intro a b hn H cs cs' ha hb
    obtain ⟨vn, vp, vr, rfl, h3, h4, h5⟩ := LtA.open ha
    obtain ⟨un, up, ur, rfl, g3, g4, g5⟩ := LtA.open hb
    refine calls_of_vc (args := [_, _]) Try.func14 c14ok (Nat.le_of_ble_eq_true rfl) ?_
    rw [eqT_open]
    simp (implicitDefEqProofs := false) only [go_sem, c14]
    refine NewP_intro fun H1 hn1 hf1 hs1 => ?_
    simp (implicitDefEqProofs := false) only [go_sem]
    refine NewP_intro fun H2 hn2 hf2 hs2 => ?_
    have hc1 := (hn1.ext hf2).cell
    have hc2 := hn2.cell
    have hf := hf1.trans hf2
    by_cases e1 : a.kind = b.kind
    case neg =>
      simp (implicitDefEqProofs := false) only [go_sem, hc1, hc2, e1, Bool.false_and]
      exact hf
    by_cases e2 : a.lo = b.lo
    case neg =>
      simp (implicitDefEqProofs := false) only [go_sem, hc1, hc2, e1, e2, Bool.false_and, Bool.true_and]
      exact hf
    by_cases e3 : a.hi = b.hi
    case neg =>
      simp (implicitDefEqProofs := false) only [go_sem, hc1, hc2, e1, e2, e3, Bool.false_and, Bool.true_and]
      exact hf
    simp (implicitDefEqProofs := false) only [go_sem, hc1, hc2, e1, e2, e3, Bool.false_and, Bool.true_and]
    refine (seq_ok (h3.ext hf) (g3.ext hf)).mono ?_
    rintro r H3 ⟨rfl, hf3⟩
    replace hf := hf.trans hf3
    by_cases e4 : a.names = b.names
    case neg =>
      simp (implicitDefEqProofs := false) only [go_sem, e4, Bool.false_and]
      exact hf
    have hd1 := ((hn1.ext hf2).ext hf3).cell
    have hd2 := (hn2.ext hf3).cell
    simp (implicitDefEqProofs := false) only [go_sem, e4, hd1, hd2, Bool.true_and]
    refine (req_ok (h5.ext hf) (g5.ext hf)).mono ?_
    rintro r H4 ⟨rfl, hf4⟩
    replace hf := hf.trans hf4
    by_cases e5 : a.rules = b.rules
    case neg =>
      simp (implicitDefEqProofs := false) only [go_sem, e5, Bool.false_and]
      exact hf
    have hd1 := (((hn1.ext hf2).ext hf3).ext hf4).cell
    have hd2 := ((hn2.ext hf3).ext hf4).cell
    simp (implicitDefEqProofs := false) only [go_sem, e5, hd1, hd2, Bool.true_and]
    refine (peq_ok (E := eqT) (by kernel_rfl) (h4.ext hf) (g4.ext hf) fun j h1 h2 H' cs cs' q1 q2 => ih a.parts[j] b.parts[j] (by have := Lt.sz_part a j h1; omega) q1 q2).mono ?_
    rintro r H5 ⟨rfl, hf5⟩
    simp (implicitDefEqProofs := false) only [go_sem]
    exact hf.trans hf5
end Go.Proofs.Ytcilkhjadljaaaa
end
section
/- Equality of descriptions, as the specification says it: contracts. -/
set_option linter.unusedSimpArgs false
set_option linter.unusedVariables false
set_option maxRecDepth 8000
namespace Go.Proofs.Ytcilkhjadljaaaa
open Gx Go

theorem fnames_ok {H : Heap} {la lb : List Bs} {v u : Value} (ha : StrsA H [] la v) (hb : StrsA H [] lb u) :
    HCalls Try.prog 35 #[v, u] H fun r H' => r = .bool (decide (la = lb)) ∧ Fr [] H H' := by
  obtain ⟨a, ca, rfl, _, hca⟩ := ha.slice
  obtain ⟨b, cb, rfl, _, hcb⟩ := hb.slice
  refine calls_of_vc (args := [_, _]) Try.func35 c35ok (Nat.le_of_ble_eq_true rfl) ?_
  have hz : ((la.length : Int) = (lb.length : Int)) = (la.length = lb.length) := by apply propext; omega
  rw [← all2_eq]
  by_cases hlen : la.length = lb.length
  case neg =>
    simp (implicitDefEqProofs := false) only [go_sem, c35, hz, hlen]
    exact ⟨by rw [all2_ne hlen], Fr.refl _ _⟩
  simp (implicitDefEqProofs := false) only [go_sem, c35, hz, hlen]
  refine vc_loop (fun (i : Nat) H' => i ≤ la.length ∧ all2 (fun x y => decide (x = y)) (la.drop i) (lb.drop i) = all2 (fun x y => decide (x = y)) la lb ∧ H' = H)
    (fun i => [(0, .slice a la.length ca), (1, .slice b lb.length cb), (5, .int .i64 i)]) (fun i => la.length - i) 0 ?_ ?_ ?_
  · exact ⟨Nat.zero_le _, rfl, rfl⟩
  · simp (implicitDefEqProofs := false) only [go_sem, hlen]
  · rintro i H' ⟨hi, hv, rfl⟩
    rcases Nat.lt_or_ge i la.length with hlt | hge
    · have hltb : i < lb.length := by omega
      have hlt' : (i : Int) < (la.length : Int) := by omega
      have hltb' : (i : Int) < (lb.length : Int) := by omega
      have h0 : (0 : Int) ≤ (i : Int) := by omega
      obtain ⟨b1, o1, c1, e1, h1⟩ := StrsA.at ha i hlt
      obtain ⟨b2, o2, c2, e2, h2⟩ := StrsA.at hb i hltb
      cases e1; cases e2
      have hla := ha.slice
      have hw := succ_i64 i la.length hlt (by obtain ⟨_, _, e, _, _⟩ := hla; cases e; omega)
      rw [all2_drop hlt hltb] at hv
      by_cases e : la[i] = lb[i]
      · have hd : decide (la[i] = lb[i]) = true := decide_eq_true e
        simp (implicitDefEqProofs := false) only [go_sem, hlt', hltb', h0, h1, h2, ba_eq, e]
        refine loopK_intro (i + 1) (by show la.length - (i + 1) < la.length - i; omega) ?_ ⟨hlt, ?_, rfl⟩
        · simp (implicitDefEqProofs := false) only [go_sem, hw]
        · rw [← hv, hd, Bool.true_and]
      · have hd : decide (la[i] = lb[i]) = false := decide_eq_false e
        simp (implicitDefEqProofs := false) only [go_sem, hlt', hltb', h0, h1, h2, ba_eq, e]
        exact ⟨by rw [← hv, hd, Bool.false_and], Fr.refl _ _⟩
    · have hlt' : ¬ (i : Int) < (la.length : Int) := by omega
      simp (implicitDefEqProofs := false) only [go_sem, hlt']
      rw [List.drop_eq_nil_of_le hge, List.drop_eq_nil_of_le (by omega)] at hv
      exact ⟨by rw [← hv]; rfl, Fr.refl _ _⟩

theorem rl_eq (x y : Rl) : decide (x = y) = (decide (x.thn = y.thn) && decide (x.ifs = y.ifs)) := by
  rw [Bool.eq_iff_iff]
  simp only [decide_eq_true_eq, Bool.and_eq_true]
  constructor
  · rintro rfl; exact ⟨rfl, rfl⟩
  · rintro ⟨h1, h2⟩; cases x; cases y; simp_all

theorem fequal_ok : ∀ (n : Nat) (a b : Lt), a.sz ≤ n → ∀ {H : Heap} {cs cs' : List Value}, LtA H [] a cs → LtA H [] b cs' →
    HCalls Try.prog 15 #[.agg cs.toArray, .agg cs'.toArray] H fun r H' => r = .bool (eqT a b) ∧ Fr [] H H' := by
  intro n
  induction n with
  | zero =>
    intro a b hn
    exfalso
    obtain ⟨k, lo, hi, ns, ps, rs⟩ := a
    simp only [Lt.sz] at hn; omega
  | succ n ih =>
    intro a b hn H cs cs' ha hb
    obtain ⟨vn, vp, vr, rfl, h3, h4, h5⟩ := LtA.open ha
    obtain ⟨un, up, ur, rfl, g3, g4, g5⟩ := LtA.open hb
    obtain ⟨pa, pc, rfl, _, hpc⟩ := PartsA.slice h4
    obtain ⟨qa, qc, rfl, _, hqc⟩ := PartsA.slice g4
    obtain ⟨ra, rc, rfl, _, hrc⟩ := RulesA.slice h5
    obtain ⟨sa, sc, rfl, _, hsc⟩ := RulesA.slice g5
    refine calls_of_vc (args := [_, _]) Try.func15 c15ok (Nat.le_of_ble_eq_true rfl) ?_
    rw [eqT_open]
    simp (implicitDefEqProofs := false) only [go_sem, c15]
    refine NewP_intro fun H1 hn1 hf1 hs1 => ?_
    simp (implicitDefEqProofs := false) only [go_sem]
    refine NewP_intro fun H2 hn2 hf2 hs2 => ?_
    have hb1 := hn1.ext hf2
    have hc1 := hb1.cell
    have hc2 := hn2.cell
    have hf := hf1.trans hf2
    by_cases e1 : a.kind = b.kind
    case neg =>
      simp (implicitDefEqProofs := false) only [go_sem, hc1, hc2, e1, Bool.false_and]
      exact hf
    by_cases e2 : a.lo = b.lo
    case neg =>
      simp (implicitDefEqProofs := false) only [go_sem, hc1, hc2, e1, e2, Bool.false_and, Bool.true_and]
      exact hf
    by_cases e3 : a.hi = b.hi
    case neg =>
      simp (implicitDefEqProofs := false) only [go_sem, hc1, hc2, e1, e2, e3, Bool.false_and, Bool.true_and]
      exact hf
    simp (implicitDefEqProofs := false) only [go_sem, hc1, hc2, e1, e2, e3, Bool.false_and, Bool.true_and]
    refine (fnames_ok (h3.ext hf) (g3.ext hf)).mono ?_
    rintro r H3 ⟨rfl, hf3⟩
    replace hf := hf.trans hf3
    have hb1 := hb1.ext hf3
    have hb2 := hn2.ext hf3
    have hd1 := hb1.cell
    have hd2 := hb2.cell
    by_cases e4 : a.names = b.names
    case neg =>
      simp (implicitDefEqProofs := false) only [go_sem, e4, hd1, hd2, Bool.false_and]
      exact hf
    have hzp : ((a.parts.length : Int) = (b.parts.length : Int)) = (a.parts.length = b.parts.length) := by apply propext; omega
    have hzr : ((a.rules.length : Int) = (b.rules.length : Int)) = (a.rules.length = b.rules.length) := by apply propext; omega
    by_cases e5 : a.parts.length = b.parts.length
    case neg =>
      simp (implicitDefEqProofs := false) only [go_sem, e4, hd1, hd2, hzp, e5, Bool.true_and]
      exact ⟨by rw [all2_ne e5, Bool.and_false], hf⟩
    by_cases e6 : a.rules.length = b.rules.length
    case neg =>
      simp (implicitDefEqProofs := false) only [go_sem, e4, hd1, hd2, hzp, e5, hzr, e6, Bool.true_and]
      have : ¬ a.rules = b.rules := fun h => e6 (by rw [h])
      exact ⟨by rw [decide_eq_false this, Bool.false_and], hf⟩
    simp (implicitDefEqProofs := false) only [go_sem, e4, hd1, hd2, hzp, e5, hzr, e6, Bool.true_and]
    rw [← all2_eq a.rules]
    refine vc_loop (fun (i : Nat) H' => i ≤ a.rules.length ∧ all2 (fun x y => decide (x = y)) (a.rules.drop i) (b.rules.drop i) = all2 (fun x y => decide (x = y)) a.rules b.rules ∧ Fr [] H H' ∧ Fr [] H3 H')
      (fun i => [(2, .pointer (some ⟨H.size, 0, none⟩)), (3, .pointer (some ⟨H1.size, 0, none⟩)), (5, .int .i64 i)]) (fun i => a.rules.length - i) 0 ?_ ?_ ?_
    · exact ⟨Nat.zero_le _, rfl, hf, Fr.refl _ _⟩
    · simp (implicitDefEqProofs := false) only [go_sem]
    · rintro i H' ⟨hi, hv, hf', hf3'⟩
      have hx1 := (hb1.ext hf3').cell
      have hx2 := (hb2.ext hf3').cell
      rcases Nat.lt_or_ge i a.rules.length with hlt | hge
      · have hltb : i < b.rules.length := by omega
        have hlt' : (i : Int) < (a.rules.length : Int) := by omega
        have hltb' : (i : Int) < (b.rules.length : Int) := by omega
        have h0 : (0 : Int) ≤ (i : Int) := by omega
        obtain ⟨b1, o1, c1, vi, w1, x1, x2, x3⟩ := RulesA.at (h5.ext hf') i hlt
        obtain ⟨b2, o2, c2, ui, w2, y1, y2, y3⟩ := RulesA.at (g5.ext hf') i hltb
        cases w1; cases w2
        have hw := succ_i64 i a.rules.length hlt (by omega)
        rw [all2_drop hlt hltb, rl_eq] at hv
        by_cases t1 : a.rules[i].thn = b.rules[i].thn
        · simp (implicitDefEqProofs := false) only [go_sem, hlt', hltb', h0, hx1, hx2, x1, x2, y1, y2, sv, ba_eq, t1]
          refine (fnames_ok x3 y3).mono ?_
          rintro r H4 ⟨rfl, hf4⟩
          by_cases t2 : a.rules[i].ifs = b.rules[i].ifs
          · simp (implicitDefEqProofs := false) only [go_sem, t2]
            refine loopK_intro (i + 1) (by show a.rules.length - (i + 1) < a.rules.length - i; omega) ?_ ⟨hlt, ?_, hf'.trans hf4, hf3'.trans hf4⟩
            · simp (implicitDefEqProofs := false) only [go_sem, hw]
            · rw [← hv, decide_eq_true t1, decide_eq_true t2, Bool.true_and, Bool.true_and]
          · simp (implicitDefEqProofs := false) only [go_sem, t2]
            exact ⟨by rw [← hv, decide_eq_false t2, Bool.and_false, Bool.false_and, Bool.false_and], hf'.trans hf4⟩
        · simp (implicitDefEqProofs := false) only [go_sem, hlt', hltb', h0, hx1, hx2, x1, x2, y1, y2, sv, ba_eq, t1]
          exact ⟨by rw [← hv, decide_eq_false t1, Bool.false_and, Bool.false_and, Bool.false_and], hf'⟩
      · have hlt' : ¬ (i : Int) < (a.rules.length : Int) := by omega
        simp (implicitDefEqProofs := false) only [go_sem, hlt', hx1]
        rw [List.drop_eq_nil_of_le hge, List.drop_eq_nil_of_le (by omega)] at hv
        rw [← hv]
        simp only [all2, Bool.true_and]
        refine vc_loop (fun (i : Nat) H'' => i ≤ a.parts.length ∧ all2 eqT (a.parts.drop i) (b.parts.drop i) = all2 eqT a.parts b.parts ∧ Fr [] H H'' ∧ Fr [] H3 H'')
          (fun i => [(2, .pointer (some ⟨H.size, 0, none⟩)), (3, .pointer (some ⟨H1.size, 0, none⟩)), (6, .int .i64 i)]) (fun i => a.parts.length - i) 0 ?_ ?_ ?_
        · exact ⟨Nat.zero_le _, rfl, hf', hf3'⟩
        · simp (implicitDefEqProofs := false) only [go_sem]
        · rintro i H' ⟨hi, hv, hf', hf3'⟩
          have hx1 := (hb1.ext hf3').cell
          have hx2 := (hb2.ext hf3').cell
          rcases Nat.lt_or_ge i a.parts.length with hlt | hge
          · have hltb : i < b.parts.length := by omega
            have hlt' : (i : Int) < (a.parts.length : Int) := by omega
            have hltb' : (i : Int) < (b.parts.length : Int) := by omega
            have h0 : (0 : Int) ≤ (i : Int) := by omega
            obtain ⟨b1, o1, c1, wn, wp, wr, w1, p0, p1, p2, p3, p4, p5, hp⟩ := PartsA.at (h4.ext hf') i hlt
            obtain ⟨b2, o2, c2, xn, xp, xr, w2, q0, q1, q2, q3, q4, q5, hq⟩ := PartsA.at (g4.ext hf') i hltb
            cases w1; cases w2
            have hw := succ_i64 i a.parts.length hlt (by omega)
            rw [all2_drop hlt hltb] at hv
            simp (implicitDefEqProofs := false) only [go_sem, hlt', hltb', h0, hx1, hx2, p0, p1, p2, p3, p4, p5, q0, q1, q2, q3, q4, q5]
            refine (ih a.parts[i] b.parts[i] (by have := Lt.sz_part a i hlt; omega) hp hq).mono ?_
            rintro r H5 ⟨rfl, hf5⟩
            cases e : eqT a.parts[i] b.parts[i]
            · simp (implicitDefEqProofs := false) only [go_sem]
              exact ⟨by rw [← hv, e, Bool.false_and], hf'.trans hf5⟩
            · simp (implicitDefEqProofs := false) only [go_sem]
              refine loopK_intro (i + 1) (by show a.parts.length - (i + 1) < a.parts.length - i; omega) ?_ ⟨hlt, ?_, hf'.trans hf5, hf3'.trans hf5⟩
              · simp (implicitDefEqProofs := false) only [go_sem, hw]
              · rw [← hv, e, Bool.true_and]
          · have hlt' : ¬ (i : Int) < (a.parts.length : Int) := by omega
            simp (implicitDefEqProofs := false) only [go_sem, hlt', hx1]
            rw [List.drop_eq_nil_of_le hge, List.drop_eq_nil_of_le (by omega)] at hv
            exact ⟨by rw [← hv]; rfl, hf'⟩
end Go.Proofs.Ytcilkhjadljaaaa
end
section
/- The kinds of descriptions: contracts. -/
set_option linter.unusedSimpArgs false
set_option linter.unusedVariables false
set_option maxRecDepth 8000
namespace Go.Proofs.Ytcilkhjadljaaaa
open Gx Go

theorem ltInd {P : Lt → Prop} (h : ∀ l : Lt, (∀ (j : Nat) (hj : j < l.parts.length), P l.parts[j]) → P l) (l : Lt) : P l := by
  have key : ∀ (n : Nat) (l : Lt), l.sz ≤ n → P l := by
    intro n
    induction n with
    | zero =>
      intro a hn
      exfalso
      obtain ⟨k, lo, hi, ns, ps, rs⟩ := a
      simp only [Lt.sz] at hn; omega
    | succ n ih => exact fun l hn => h l fun j hj => ih _ (by have := Lt.sz_part l j hj; omega)
  exact key l.sz l (Nat.le_refl _)

mutual
def chainT : Lt → Bool
  | .mk k _ _ _ ps _ => if k = 1 ∨ k = 2 ∨ k = 3 then true else if k = 7 then decide (ps.length = 2) && chainTs ps else false
def chainTs : List Lt → Bool
  | [] => true
  | p :: ps => chainT p && chainTs ps
end
mutual
def finT : Lt → Bool
  | .mk k _ _ ns ps _ => if k = 9 ∨ (k = 4 ∨ k = 8 ∨ k = 5) ∧ ns.length = 0 then false else finTs ps
def finTs : List Lt → Bool
  | [] => true
  | p :: ps => finT p && finTs ps
end
mutual
def disT : Lt → Bool
  | .mk k _ _ _ ps _ => if k = 8 ∨ k = 10 then false else disTs ps
def disTs : List Lt → Bool
  | [] => true
  | p :: ps => disT p && disTs ps
end
mutual
def depT : Lt → Nat
  | .mk _ _ _ _ ps _ => depTs ps + 1
def depTs : List Lt → Nat
  | [] => 0
  | p :: ps => max (depT p) (depTs ps)
end
theorem chainTs_eq : ∀ l, chainTs l = l.all chainT | [] => rfl | p :: l => by simp [chainTs, chainTs_eq l]
theorem finTs_eq : ∀ l, finTs l = l.all finT | [] => rfl | p :: l => by simp [finTs, finTs_eq l]
theorem disTs_eq : ∀ l, disTs l = l.all disT | [] => rfl | p :: l => by simp [disTs, disTs_eq l]
theorem chainT_open (l : Lt) : chainT l = if l.kind = 1 ∨ l.kind = 2 ∨ l.kind = 3 then true else if l.kind = 7 then decide (l.parts.length = 2) && l.parts.all chainT else false := by
  obtain ⟨k, lo, hi, ns, ps, rs⟩ := l
  simp only [chainT, chainTs_eq]; rfl
theorem finT_open (l : Lt) : finT l = if l.kind = 9 ∨ (l.kind = 4 ∨ l.kind = 8 ∨ l.kind = 5) ∧ l.names.length = 0 then false else l.parts.all finT := by
  obtain ⟨k, lo, hi, ns, ps, rs⟩ := l
  simp only [finT, finTs_eq]; rfl
theorem disT_open (l : Lt) : disT l = if l.kind = 8 ∨ l.kind = 10 then false else l.parts.all disT := by
  obtain ⟨k, lo, hi, ns, ps, rs⟩ := l
  simp only [disT, disTs_eq]; rfl
theorem depT_open (l : Lt) : depT l = depTs l.parts + 1 := by
  obtain ⟨k, lo, hi, ns, ps, rs⟩ := l
  rfl
theorem two_all (p : Lt → Bool) : ∀ (l : List Lt) (h : l.length = 2), l.all p = (p (l[0]'(by omega)) && p (l[1]'(by omega)))
  | [a, b], _ => by simp
theorem all_drop {p : Lt → Bool} {l : List Lt} {i : Nat} (h : i < l.length) : (l.drop i).all p = (p l[i] && (l.drop (i + 1)).all p) := by
  rw [List.drop_eq_getElem_cons h]; rfl
theorem depTs_take : ∀ (l : List Lt) (i : Nat) (h : i < l.length), depTs (l.take (i + 1)) = max (depTs (l.take i)) (depT l[i])
  | p :: l, 0, _ => by simp [depTs]
  | p :: l, i + 1, h => by
    have := depTs_take l i (by simpa using h)
    simp only [List.take_succ_cons, depTs, List.getElem_cons_succ]
    rw [this]; omega
theorem depTs_get : ∀ (l : List Lt) (i : Nat) (h : i < l.length), depT l[i] ≤ depTs l
  | p :: l, 0, _ => by simp [depTs]; omega
  | p :: l, i + 1, h => by
    have := depTs_get l i (by simpa using h)
    simp [depTs]; omega
theorem depTs_take_le : ∀ (l : List Lt) (i : Nat), depTs (l.take i) ≤ depTs l
  | [], i => by simp [depTs]
  | p :: l, 0 => by simp [depTs]
  | p :: l, i + 1 => by
    have := depTs_take_le l i
    simp [depTs]; omega

theorem chain_ok (l : Lt) : ∀ {H : Heap} {cs : List Value}, LtA H [] l cs → HCalls Try.prog 16 #[.agg cs.toArray] H fun r H' => r = .bool (chainT l) ∧ Fr [] H H' := by
  refine ltInd (P := fun l => ∀ {H : Heap} {cs : List Value}, LtA H [] l cs → HCalls Try.prog 16 #[.agg cs.toArray] H fun r H' => r = .bool (chainT l) ∧ Fr [] H H') ?_ l
  intro l ih H cs ha
  obtain ⟨vn, vp, vr, rfl, h3, h4, h5⟩ := LtA.open ha
  obtain ⟨pa, pc, rfl, hpl, hpc⟩ := PartsA.slice h4
  refine calls_of_vc (args := [_]) Try.func16 c16ok (Nat.le_of_ble_eq_true rfl) ?_
  rw [chainT_open]
  simp (implicitDefEqProofs := false) only [go_sem, c16]
  refine NewP_intro fun H1 hn1 hf1 hs1 => ?_
  have hc1 := hn1.cell
  by_cases k1 : l.kind = 1
  · simp (implicitDefEqProofs := false) only [go_sem, hc1, k1, true_or]
    exact hf1
  by_cases k2 : l.kind = 2
  · simp (implicitDefEqProofs := false) only [go_sem, hc1, k2, true_or, or_true]
    exact hf1
  by_cases k3 : l.kind = 3
  · simp (implicitDefEqProofs := false) only [go_sem, hc1, k3, true_or, or_true]
    exact hf1
  by_cases k7 : l.kind = 7
  case neg =>
    simp (implicitDefEqProofs := false) only [go_sem, hc1, k1, k2, k3, k7, or_self]
    exact hf1
  by_cases hlen : l.parts.length = 2
  case neg =>
    have hz : ¬ (l.parts.length : Int) = 2 := by omega
    simp (implicitDefEqProofs := false) only [go_sem, hc1, k7, hz, hlen, or_self, Bool.false_and]
    exact hf1
  obtain ⟨b0, o0, c0, wn, wp, wr, e0, p0, p1, p2, p3, p4, p5, hp⟩ := PartsA.at (h4.ext hf1) 0 (by omega)
  obtain ⟨b1, o1, c1, xn, xp, xr, e1, q0, q1, q2, q3, q4, q5, hq⟩ := PartsA.at (h4.ext hf1) 1 (by omega)
  have e01 := e0
  rw [e1] at e01
  simp only [Value.slice.injEq, Option.some.injEq, Addr.mk.injEq, true_and, and_true] at e01 e0
  obtain ⟨⟨rfl, rfl⟩, rfl⟩ := e01
  cases e1
  simp only [Nat.zero_mul, Nat.add_zero] at p0 p1 p2 p3 p4 p5
  have hz : (l.parts.length : Int) = 2 := by omega
  have hall := two_all chainT l.parts hlen
  rw [hall]
  simp (implicitDefEqProofs := false) only [go_sem, hc1, k7, n2, hlen, or_self, p0, p1, p2, p3, p4, p5, Bool.true_and]
  refine (ih 0 (by omega) hp).mono ?_
  rintro r H2 ⟨rfl, hf2⟩
  cases hv : chainT l.parts[0]
  · simp (implicitDefEqProofs := false) only [go_sem, Bool.false_and]
    exact hf1.trans hf2
  have hc2 := (hn1.ext hf2).cell
  have q0' := cellB_fr q0 hf2 (by simp)
  have q1' := cellB_fr q1 hf2 (by simp)
  have q2' := cellB_fr q2 hf2 (by simp)
  have q3' := cellB_fr q3 hf2 (by simp)
  have q4' := cellB_fr q4 hf2 (by simp)
  have q5' := cellB_fr q5 hf2 (by simp)
  simp only [Nat.one_mul] at q0' q1' q2' q3' q4' q5'
  simp (implicitDefEqProofs := false) only [go_sem, hc2, n2, hlen, q0', q1', q2', q3', q4', q5', Bool.true_and]
  refine (ih 1 (by omega) (Rep.ext hq hf2)).mono ?_
  rintro r H3 ⟨rfl, hf3⟩
  simp (implicitDefEqProofs := false) only [go_sem]
  exact (hf1.trans hf2).trans hf3

theorem fchain_ok (l : Lt) : ∀ {H : Heap} {cs : List Value}, LtA H [] l cs → HCalls Try.prog 17 #[.agg cs.toArray] H fun r H' => r = .bool (chainT l) ∧ Fr [] H H' := by
  refine ltInd (P := fun l => ∀ {H : Heap} {cs : List Value}, LtA H [] l cs → HCalls Try.prog 17 #[.agg cs.toArray] H fun r H' => r = .bool (chainT l) ∧ Fr [] H H') ?_ l
  intro l ih H cs ha
  obtain ⟨vn, vp, vr, rfl, h3, h4, h5⟩ := LtA.open ha
  obtain ⟨pa, pc, rfl, hpl, hpc⟩ := PartsA.slice h4
  refine calls_of_vc (args := [_]) Try.func17 c17ok (Nat.le_of_ble_eq_true rfl) ?_
  rw [chainT_open]
  simp (implicitDefEqProofs := false) only [go_sem, c17]
  refine NewP_intro fun H1 hn1 hf1 hs1 => ?_
  have hc1 := hn1.cell
  by_cases k1 : l.kind = 1
  · simp (implicitDefEqProofs := false) only [go_sem, hc1, k1, true_or]
    exact hf1
  by_cases k2 : l.kind = 2
  · simp (implicitDefEqProofs := false) only [go_sem, hc1, k2, true_or, or_true]
    exact hf1
  by_cases k3 : l.kind = 3
  · simp (implicitDefEqProofs := false) only [go_sem, hc1, k3, true_or, or_true]
    exact hf1
  by_cases k7 : l.kind = 7
  case neg =>
    simp (implicitDefEqProofs := false) only [go_sem, hc1, k1, k2, k3, k7, or_self]
    exact hf1
  by_cases hlen : l.parts.length = 2
  case neg =>
    have hz : ¬ (l.parts.length : Int) = 2 := by omega
    simp (implicitDefEqProofs := false) only [go_sem, hc1, k7, hz, hlen, or_self, Bool.false_and]
    exact hf1
  obtain ⟨b0, o0, c0, wn, wp, wr, e0, p0, p1, p2, p3, p4, p5, hp⟩ := PartsA.at (h4.ext hf1) 0 (by omega)
  obtain ⟨b1, o1, c1, xn, xp, xr, e1, q0, q1, q2, q3, q4, q5, hq⟩ := PartsA.at (h4.ext hf1) 1 (by omega)
  have e01 := e0
  rw [e1] at e01
  simp only [Value.slice.injEq, Option.some.injEq, Addr.mk.injEq, true_and, and_true] at e01 e0
  obtain ⟨⟨rfl, rfl⟩, rfl⟩ := e01
  cases e1
  simp only [Nat.zero_mul, Nat.add_zero] at p0 p1 p2 p3 p4 p5
  have hz : (l.parts.length : Int) = 2 := by omega
  have hall := two_all chainT l.parts hlen
  rw [hall]
  simp (implicitDefEqProofs := false) only [go_sem, hc1, k7, n2, hlen, or_self, p0, p1, p2, p3, p4, p5, Bool.true_and]
  refine (ih 0 (by omega) hp).mono ?_
  rintro r H2 ⟨rfl, hf2⟩
  cases hv : chainT l.parts[0]
  · simp (implicitDefEqProofs := false) only [go_sem, Bool.false_and]
    exact hf1.trans hf2
  have hc2 := (hn1.ext hf2).cell
  have q0' := cellB_fr q0 hf2 (by simp)
  have q1' := cellB_fr q1 hf2 (by simp)
  have q2' := cellB_fr q2 hf2 (by simp)
  have q3' := cellB_fr q3 hf2 (by simp)
  have q4' := cellB_fr q4 hf2 (by simp)
  have q5' := cellB_fr q5 hf2 (by simp)
  simp only [Nat.one_mul] at q0' q1' q2' q3' q4' q5'
  simp (implicitDefEqProofs := false) only [go_sem, hc2, n2, hlen, q0', q1', q2', q3', q4', q5', Bool.true_and]
  refine (ih 1 (by omega) (Rep.ext hq hf2)).mono ?_
  rintro r H3 ⟨rfl, hf3⟩
  simp (implicitDefEqProofs := false) only [go_sem]
  exact (hf1.trans hf2).trans hf3

theorem fin_ok (l : Lt) : ∀ {H : Heap} {cs : List Value}, LtA H [] l cs → HCalls Try.prog 18 #[.agg cs.toArray] H fun r H' => r = .bool (finT l) ∧ Fr [] H H' := by
  refine ltInd (P := fun l => ∀ {H : Heap} {cs : List Value}, LtA H [] l cs → HCalls Try.prog 18 #[.agg cs.toArray] H fun r H' => r = .bool (finT l) ∧ Fr [] H H') ?_ l
  intro l ih H cs ha
  obtain ⟨vn, vp, vr, rfl, h3, h4, h5⟩ := LtA.open ha
  obtain ⟨na, nc, rfl, hnl, hnc⟩ := StrsA.slice h3
  obtain ⟨pa, pc, rfl, hpl, hpc⟩ := PartsA.slice h4
  refine calls_of_vc (args := [_]) Try.func18 c18ok (Nat.le_of_ble_eq_true rfl) ?_
  rw [finT_open]
  simp (implicitDefEqProofs := false) only [go_sem, c18]
  refine NewP_intro fun H1 hn1 hf1 hs1 => ?_
  have hc1 := hn1.cell
  have hz : ((l.names.length : Int) = 0) = (l.names.length = 0) := by apply propext; omega
  have d1 : ¬ (9 : Int) = 4 := by decide
  by_cases k9 : l.kind = 9
  · simp (implicitDefEqProofs := false) only [go_sem, hc1, hz, k9]
    exact hf1
  by_cases k4 : l.kind = 4 ∧ l.names.length = 0
  · simp (implicitDefEqProofs := false) only [go_sem, hc1, hz, k4.1, k4.2]
    exact hf1
  by_cases k8 : l.kind = 8 ∧ l.names.length = 0
  · simp (implicitDefEqProofs := false) only [go_sem, hc1, hz, k8.1, k8.2]
    exact hf1
  by_cases k5 : l.kind = 5 ∧ l.names.length = 0
  · simp (implicitDefEqProofs := false) only [go_sem, hc1, hz, k5.1, k5.2]
    exact hf1
  rw [if_neg (by omega)]
  by_cases e : l.names.length = 0
  · have a4 : ¬ l.kind = 4 := fun h => k4 ⟨h, e⟩
    have a8 : ¬ l.kind = 8 := fun h => k8 ⟨h, e⟩
    have a5 : ¬ l.kind = 5 := fun h => k5 ⟨h, e⟩
    simp (implicitDefEqProofs := false) only [go_sem, hc1, hz, k9, e, a4, a8, a5]
    refine vc_loop (fun (i : Nat) H' => i ≤ l.parts.length ∧ (l.parts.drop i).all finT = l.parts.all finT ∧ Fr [] H H')
      (fun i => [(18, .slice pa l.parts.length pc), (19, .int .i64 l.parts.length), (20, .int .i64 i)]) (fun i => l.parts.length - i) 0 ?_ ?_ ?_
    · exact ⟨Nat.zero_le _, rfl, hf1⟩
    · simp (implicitDefEqProofs := false) only [go_sem]
    · rintro i H' ⟨hi, hv, hf⟩
      rcases Nat.lt_or_ge i l.parts.length with hlt | hge
      · have hlt' : (i : Int) < (l.parts.length : Int) := by omega
        have h0 : (0 : Int) ≤ (i : Int) := by omega
        obtain ⟨b, o, c, wn, wp, wr, e1, p0, p1, p2, p3, p4, p5, hp⟩ := PartsA.at (h4.ext hf) i hlt
        cases e1
        have hw := succ_i64 i l.parts.length hlt (by omega)
        rw [all_drop hlt] at hv
        simp (implicitDefEqProofs := false) only [go_sem, hlt', h0, p0, p1, p2, p3, p4, p5]
        refine NewP_intro fun H2 hn2 hf2 hs2 => ?_
        simp (implicitDefEqProofs := false) only [go_sem]
        refine Sto_all hn2 rfl (LtA.one6 hp) fun H3 hn3 hf3 hs3 => ?_
        have hfn := new_fr hf2 hf3
        have hc3 := hn3.cell
        simp (implicitDefEqProofs := false) only [go_sem, hc3]
        refine (ih i hlt (Rep.ext hp hfn)).mono ?_
        rintro r H4 ⟨rfl, hf4⟩
        cases e : finT l.parts[i]
        · simp (implicitDefEqProofs := false) only [go_sem]
          exact ⟨by rw [← hv, e, Bool.false_and], (hf.trans hfn).trans hf4⟩
        · simp (implicitDefEqProofs := false) only [go_sem]
          refine loopK_intro (i + 1) (by show l.parts.length - (i + 1) < l.parts.length - i; omega) ?_ ⟨hlt, ?_, (hf.trans hfn).trans hf4⟩
          · simp (implicitDefEqProofs := false) only [go_sem, hw]
          · rw [← hv, e, Bool.true_and]
      · have hlt' : ¬ (i : Int) < (l.parts.length : Int) := by omega
        simp (implicitDefEqProofs := false) only [go_sem, hlt']
        rw [List.drop_eq_nil_of_le hge] at hv
        exact ⟨by rw [← hv]; rfl, hf⟩
  by_cases a4 : l.kind = 4
  · simp (implicitDefEqProofs := false) only [go_sem, hc1, hz, e, a4]
    refine vc_loop (fun (i : Nat) H' => i ≤ l.parts.length ∧ (l.parts.drop i).all finT = l.parts.all finT ∧ Fr [] H H')
      (fun i => [(18, .slice pa l.parts.length pc), (19, .int .i64 l.parts.length), (20, .int .i64 i)]) (fun i => l.parts.length - i) 0 ?_ ?_ ?_
    · exact ⟨Nat.zero_le _, rfl, hf1⟩
    · simp (implicitDefEqProofs := false) only [go_sem]
    · rintro i H' ⟨hi, hv, hf⟩
      rcases Nat.lt_or_ge i l.parts.length with hlt | hge
      · have hlt' : (i : Int) < (l.parts.length : Int) := by omega
        have h0 : (0 : Int) ≤ (i : Int) := by omega
        obtain ⟨b, o, c, wn, wp, wr, e1, p0, p1, p2, p3, p4, p5, hp⟩ := PartsA.at (h4.ext hf) i hlt
        cases e1
        have hw := succ_i64 i l.parts.length hlt (by omega)
        rw [all_drop hlt] at hv
        simp (implicitDefEqProofs := false) only [go_sem, hlt', h0, p0, p1, p2, p3, p4, p5]
        refine NewP_intro fun H2 hn2 hf2 hs2 => ?_
        simp (implicitDefEqProofs := false) only [go_sem]
        refine Sto_all hn2 rfl (LtA.one6 hp) fun H3 hn3 hf3 hs3 => ?_
        have hfn := new_fr hf2 hf3
        have hc3 := hn3.cell
        simp (implicitDefEqProofs := false) only [go_sem, hc3]
        refine (ih i hlt (Rep.ext hp hfn)).mono ?_
        rintro r H4 ⟨rfl, hf4⟩
        cases e : finT l.parts[i]
        · simp (implicitDefEqProofs := false) only [go_sem]
          exact ⟨by rw [← hv, e, Bool.false_and], (hf.trans hfn).trans hf4⟩
        · simp (implicitDefEqProofs := false) only [go_sem]
          refine loopK_intro (i + 1) (by show l.parts.length - (i + 1) < l.parts.length - i; omega) ?_ ⟨hlt, ?_, (hf.trans hfn).trans hf4⟩
          · simp (implicitDefEqProofs := false) only [go_sem, hw]
          · rw [← hv, e, Bool.true_and]
      · have hlt' : ¬ (i : Int) < (l.parts.length : Int) := by omega
        simp (implicitDefEqProofs := false) only [go_sem, hlt']
        rw [List.drop_eq_nil_of_le hge] at hv
        exact ⟨by rw [← hv]; rfl, hf⟩
  by_cases a8 : l.kind = 8
  · simp (implicitDefEqProofs := false) only [go_sem, hc1, hz, e, a8]
    refine vc_loop (fun (i : Nat) H' => i ≤ l.parts.length ∧ (l.parts.drop i).all finT = l.parts.all finT ∧ Fr [] H H')
      (fun i => [(18, .slice pa l.parts.length pc), (19, .int .i64 l.parts.length), (20, .int .i64 i)]) (fun i => l.parts.length - i) 0 ?_ ?_ ?_
    · exact ⟨Nat.zero_le _, rfl, hf1⟩
    · simp (implicitDefEqProofs := false) only [go_sem]
    · rintro i H' ⟨hi, hv, hf⟩
      rcases Nat.lt_or_ge i l.parts.length with hlt | hge
      · have hlt' : (i : Int) < (l.parts.length : Int) := by omega
        have h0 : (0 : Int) ≤ (i : Int) := by omega
        obtain ⟨b, o, c, wn, wp, wr, e1, p0, p1, p2, p3, p4, p5, hp⟩ := PartsA.at (h4.ext hf) i hlt
        cases e1
        have hw := succ_i64 i l.parts.length hlt (by omega)
        rw [all_drop hlt] at hv
        simp (implicitDefEqProofs := false) only [go_sem, hlt', h0, p0, p1, p2, p3, p4, p5]
        refine NewP_intro fun H2 hn2 hf2 hs2 => ?_
        simp (implicitDefEqProofs := false) only [go_sem]
        refine Sto_all hn2 rfl (LtA.one6 hp) fun H3 hn3 hf3 hs3 => ?_
        have hfn := new_fr hf2 hf3
        have hc3 := hn3.cell
        simp (implicitDefEqProofs := false) only [go_sem, hc3]
        refine (ih i hlt (Rep.ext hp hfn)).mono ?_
        rintro r H4 ⟨rfl, hf4⟩
        cases e : finT l.parts[i]
        · simp (implicitDefEqProofs := false) only [go_sem]
          exact ⟨by rw [← hv, e, Bool.false_and], (hf.trans hfn).trans hf4⟩
        · simp (implicitDefEqProofs := false) only [go_sem]
          refine loopK_intro (i + 1) (by show l.parts.length - (i + 1) < l.parts.length - i; omega) ?_ ⟨hlt, ?_, (hf.trans hfn).trans hf4⟩
          · simp (implicitDefEqProofs := false) only [go_sem, hw]
          · rw [← hv, e, Bool.true_and]
      · have hlt' : ¬ (i : Int) < (l.parts.length : Int) := by omega
        simp (implicitDefEqProofs := false) only [go_sem, hlt']
        rw [List.drop_eq_nil_of_le hge] at hv
        exact ⟨by rw [← hv]; rfl, hf⟩
  by_cases a5 : l.kind = 5
  · simp (implicitDefEqProofs := false) only [go_sem, hc1, hz, e, a5]
    refine vc_loop (fun (i : Nat) H' => i ≤ l.parts.length ∧ (l.parts.drop i).all finT = l.parts.all finT ∧ Fr [] H H')
      (fun i => [(18, .slice pa l.parts.length pc), (19, .int .i64 l.parts.length), (20, .int .i64 i)]) (fun i => l.parts.length - i) 0 ?_ ?_ ?_
    · exact ⟨Nat.zero_le _, rfl, hf1⟩
    · simp (implicitDefEqProofs := false) only [go_sem]
    · rintro i H' ⟨hi, hv, hf⟩
      rcases Nat.lt_or_ge i l.parts.length with hlt | hge
      · have hlt' : (i : Int) < (l.parts.length : Int) := by omega
        have h0 : (0 : Int) ≤ (i : Int) := by omega
        obtain ⟨b, o, c, wn, wp, wr, e1, p0, p1, p2, p3, p4, p5, hp⟩ := PartsA.at (h4.ext hf) i hlt
        cases e1
        have hw := succ_i64 i l.parts.length hlt (by omega)
        rw [all_drop hlt] at hv
        simp (implicitDefEqProofs := false) only [go_sem, hlt', h0, p0, p1, p2, p3, p4, p5]
        refine NewP_intro fun H2 hn2 hf2 hs2 => ?_
        simp (implicitDefEqProofs := false) only [go_sem]
        refine Sto_all hn2 rfl (LtA.one6 hp) fun H3 hn3 hf3 hs3 => ?_
        have hfn := new_fr hf2 hf3
        have hc3 := hn3.cell
        simp (implicitDefEqProofs := false) only [go_sem, hc3]
        refine (ih i hlt (Rep.ext hp hfn)).mono ?_
        rintro r H4 ⟨rfl, hf4⟩
        cases e : finT l.parts[i]
        · simp (implicitDefEqProofs := false) only [go_sem]
          exact ⟨by rw [← hv, e, Bool.false_and], (hf.trans hfn).trans hf4⟩
        · simp (implicitDefEqProofs := false) only [go_sem]
          refine loopK_intro (i + 1) (by show l.parts.length - (i + 1) < l.parts.length - i; omega) ?_ ⟨hlt, ?_, (hf.trans hfn).trans hf4⟩
          · simp (implicitDefEqProofs := false) only [go_sem, hw]
          · rw [← hv, e, Bool.true_and]
      · have hlt' : ¬ (i : Int) < (l.parts.length : Int) := by omega
        simp (implicitDefEqProofs := false) only [go_sem, hlt']
        rw [List.drop_eq_nil_of_le hge] at hv
        exact ⟨by rw [← hv]; rfl, hf⟩
  simp (implicitDefEqProofs := false) only [go_sem, hc1, hz, k9, e, a4, a8, a5]
  refine vc_loop (fun (i : Nat) H' => i ≤ l.parts.length ∧ (l.parts.drop i).all finT = l.parts.all finT ∧ Fr [] H H')
    (fun i => [(18, .slice pa l.parts.length pc), (19, .int .i64 l.parts.length), (20, .int .i64 i)]) (fun i => l.parts.length - i) 0 ?_ ?_ ?_
  · exact ⟨Nat.zero_le _, rfl, hf1⟩
  · simp (implicitDefEqProofs := false) only [go_sem]
  · rintro i H' ⟨hi, hv, hf⟩
    rcases Nat.lt_or_ge i l.parts.length with hlt | hge
    · have hlt' : (i : Int) < (l.parts.length : Int) := by omega
      have h0 : (0 : Int) ≤ (i : Int) := by omega
      obtain ⟨b, o, c, wn, wp, wr, e1, p0, p1, p2, p3, p4, p5, hp⟩ := PartsA.at (h4.ext hf) i hlt
      cases e1
      have hw := succ_i64 i l.parts.length hlt (by omega)
      rw [all_drop hlt] at hv
      simp (implicitDefEqProofs := false) only [go_sem, hlt', h0, p0, p1, p2, p3, p4, p5]
      refine NewP_intro fun H2 hn2 hf2 hs2 => ?_
      simp (implicitDefEqProofs := false) only [go_sem]
      refine Sto_all hn2 rfl (LtA.one6 hp) fun H3 hn3 hf3 hs3 => ?_
      have hfn := new_fr hf2 hf3
      have hc3 := hn3.cell
      simp (implicitDefEqProofs := false) only [go_sem, hc3]
      refine (ih i hlt (Rep.ext hp hfn)).mono ?_
      rintro r H4 ⟨rfl, hf4⟩
      cases e : finT l.parts[i]
      · simp (implicitDefEqProofs := false) only [go_sem]
        exact ⟨by rw [← hv, e, Bool.false_and], (hf.trans hfn).trans hf4⟩
      · simp (implicitDefEqProofs := false) only [go_sem]
        refine loopK_intro (i + 1) (by show l.parts.length - (i + 1) < l.parts.length - i; omega) ?_ ⟨hlt, ?_, (hf.trans hfn).trans hf4⟩
        · simp (implicitDefEqProofs := false) only [go_sem, hw]
        · rw [← hv, e, Bool.true_and]
    · have hlt' : ¬ (i : Int) < (l.parts.length : Int) := by omega
      simp (implicitDefEqProofs := false) only [go_sem, hlt']
      rw [List.drop_eq_nil_of_le hge] at hv
      exact ⟨by rw [← hv]; rfl, hf⟩

theorem ffin_ok (l : Lt) : ∀ {H : Heap} {cs : List Value}, LtA H [] l cs → HCalls Try.prog 19 #[.agg cs.toArray] H fun r H' => r = .bool (finT l) ∧ Fr [] H H' := by
  refine ltInd (P := fun l => ∀ {H : Heap} {cs : List Value}, LtA H [] l cs → HCalls Try.prog 19 #[.agg cs.toArray] H fun r H' => r = .bool (finT l) ∧ Fr [] H H') ?_ l
  intro l ih H cs ha
  obtain ⟨vn, vp, vr, rfl, h3, h4, h5⟩ := LtA.open ha
  obtain ⟨na, nc, rfl, hnl, hnc⟩ := StrsA.slice h3
  obtain ⟨pa, pc, rfl, hpl, hpc⟩ := PartsA.slice h4
  refine calls_of_vc (args := [_]) Try.func19 c19ok (Nat.le_of_ble_eq_true rfl) ?_
  rw [finT_open]
  simp (implicitDefEqProofs := false) only [go_sem, c19]
  refine NewP_intro fun H1 hn1 hf1 hs1 => ?_
  have hc1 := hn1.cell
  have hz : ((l.names.length : Int) = 0) = (l.names.length = 0) := by apply propext; omega
  have d1 : ¬ (9 : Int) = 4 := by decide
  by_cases k9 : l.kind = 9
  · simp (implicitDefEqProofs := false) only [go_sem, hc1, hz, k9]
    exact hf1
  by_cases k4 : l.kind = 4 ∧ l.names.length = 0
  · simp (implicitDefEqProofs := false) only [go_sem, hc1, hz, k4.1, k4.2]
    exact hf1
  by_cases k8 : l.kind = 8 ∧ l.names.length = 0
  · simp (implicitDefEqProofs := false) only [go_sem, hc1, hz, k8.1, k8.2]
    exact hf1
  by_cases k5 : l.kind = 5 ∧ l.names.length = 0
  · simp (implicitDefEqProofs := false) only [go_sem, hc1, hz, k5.1, k5.2]
    exact hf1
  rw [if_neg (by omega)]
  by_cases e : l.names.length = 0
  · have a4 : ¬ l.kind = 4 := fun h => k4 ⟨h, e⟩
    have a8 : ¬ l.kind = 8 := fun h => k8 ⟨h, e⟩
    have a5 : ¬ l.kind = 5 := fun h => k5 ⟨h, e⟩
    simp (implicitDefEqProofs := false) only [go_sem, hc1, hz, k9, e, a4, a8, a5]
    refine vc_loop (fun (i : Nat) H' => i ≤ l.parts.length ∧ (l.parts.drop i).all finT = l.parts.all finT ∧ Fr [] H H' ∧ Fr [] H1 H')
      (fun i => [(1, .pointer (some ⟨H.size, 0, none⟩)), (3, .int .i64 i)]) (fun i => l.parts.length - i) 0 ?_ ?_ ?_
    · exact ⟨Nat.zero_le _, rfl, hf1, Fr.refl _ _⟩
    · simp (implicitDefEqProofs := false) only [go_sem]
    · rintro i H' ⟨hi, hv, hf, hf1'⟩
      have hx := (hn1.ext hf1').cell
      rcases Nat.lt_or_ge i l.parts.length with hlt | hge
      · have hlt' : (i : Int) < (l.parts.length : Int) := by omega
        have h0 : (0 : Int) ≤ (i : Int) := by omega
        obtain ⟨b, o, c, wn, wp, wr, e1, p0, p1, p2, p3, p4, p5, hp⟩ := PartsA.at (h4.ext hf) i hlt
        cases e1
        have hw := succ_i64 i l.parts.length hlt (by omega)
        rw [all_drop hlt] at hv
        simp (implicitDefEqProofs := false) only [go_sem, hlt', h0, hx, p0, p1, p2, p3, p4, p5]
        refine (ih i hlt hp).mono ?_
        rintro r H4 ⟨rfl, hf4⟩
        cases e : finT l.parts[i]
        · simp (implicitDefEqProofs := false) only [go_sem]
          exact ⟨by rw [← hv, e, Bool.false_and], hf.trans hf4⟩
        · simp (implicitDefEqProofs := false) only [go_sem]
          refine loopK_intro (i + 1) (by show l.parts.length - (i + 1) < l.parts.length - i; omega) ?_ ⟨hlt, ?_, hf.trans hf4, hf1'.trans hf4⟩
          · simp (implicitDefEqProofs := false) only [go_sem, hw]
          · rw [← hv, e, Bool.true_and]
      · have hlt' : ¬ (i : Int) < (l.parts.length : Int) := by omega
        simp (implicitDefEqProofs := false) only [go_sem, hlt', hx]
        rw [List.drop_eq_nil_of_le hge] at hv
        exact ⟨by rw [← hv]; rfl, hf⟩
  simp (implicitDefEqProofs := false) only [go_sem, hc1, hz, k9, e]
  refine vc_loop (fun (i : Nat) H' => i ≤ l.parts.length ∧ (l.parts.drop i).all finT = l.parts.all finT ∧ Fr [] H H' ∧ Fr [] H1 H')
    (fun i => [(1, .pointer (some ⟨H.size, 0, none⟩)), (3, .int .i64 i)]) (fun i => l.parts.length - i) 0 ?_ ?_ ?_
  · exact ⟨Nat.zero_le _, rfl, hf1, Fr.refl _ _⟩
  · simp (implicitDefEqProofs := false) only [go_sem]
  · rintro i H' ⟨hi, hv, hf, hf1'⟩
    have hx := (hn1.ext hf1').cell
    rcases Nat.lt_or_ge i l.parts.length with hlt | hge
    · have hlt' : (i : Int) < (l.parts.length : Int) := by omega
      have h0 : (0 : Int) ≤ (i : Int) := by omega
      obtain ⟨b, o, c, wn, wp, wr, e1, p0, p1, p2, p3, p4, p5, hp⟩ := PartsA.at (h4.ext hf) i hlt
      cases e1
      have hw := succ_i64 i l.parts.length hlt (by omega)
      rw [all_drop hlt] at hv
      simp (implicitDefEqProofs := false) only [go_sem, hlt', h0, hx, p0, p1, p2, p3, p4, p5]
      refine (ih i hlt hp).mono ?_
      rintro r H4 ⟨rfl, hf4⟩
      cases e : finT l.parts[i]
      · simp (implicitDefEqProofs := false) only [go_sem]
        exact ⟨by rw [← hv, e, Bool.false_and], hf.trans hf4⟩
      · simp (implicitDefEqProofs := false) only [go_sem]
        refine loopK_intro (i + 1) (by show l.parts.length - (i + 1) < l.parts.length - i; omega) ?_ ⟨hlt, ?_, hf.trans hf4, hf1'.trans hf4⟩
        · simp (implicitDefEqProofs := false) only [go_sem, hw]
        · rw [← hv, e, Bool.true_and]
    · have hlt' : ¬ (i : Int) < (l.parts.length : Int) := by omega
      simp (implicitDefEqProofs := false) only [go_sem, hlt', hx]
      rw [List.drop_eq_nil_of_le hge] at hv
      exact ⟨by rw [← hv]; rfl, hf⟩

theorem fdis_ok (l : Lt) : ∀ {H : Heap} {cs : List Value}, LtA H [] l cs → HCalls Try.prog 21 #[.agg cs.toArray] H fun r H' => r = .bool (disT l) ∧ Fr [] H H' := by
  refine ltInd (P := fun l => ∀ {H : Heap} {cs : List Value}, LtA H [] l cs → HCalls Try.prog 21 #[.agg cs.toArray] H fun r H' => r = .bool (disT l) ∧ Fr [] H H') ?_ l
  intro l ih H cs ha
  obtain ⟨vn, vp, vr, rfl, h3, h4, h5⟩ := LtA.open ha
  obtain ⟨na, nc, rfl, hnl, hnc⟩ := StrsA.slice h3
  obtain ⟨pa, pc, rfl, hpl, hpc⟩ := PartsA.slice h4
  refine calls_of_vc (args := [_]) Try.func21 c21ok (Nat.le_of_ble_eq_true rfl) ?_
  rw [disT_open]
  simp (implicitDefEqProofs := false) only [go_sem, c21]
  refine NewP_intro fun H1 hn1 hf1 hs1 => ?_
  have hc1 := hn1.cell
  by_cases k8 : l.kind = 8
  · simp (implicitDefEqProofs := false) only [go_sem, hc1, k8]
    exact hf1
  by_cases k10 : l.kind = 10
  · simp (implicitDefEqProofs := false) only [go_sem, hc1, k10]
    exact hf1
  simp (implicitDefEqProofs := false) only [go_sem, hc1, k8, k10]
  refine vc_loop (fun (i : Nat) H' => i ≤ l.parts.length ∧ (l.parts.drop i).all disT = l.parts.all disT ∧ Fr [] H H' ∧ Fr [] H1 H')
    (fun i => [(1, .pointer (some ⟨H.size, 0, none⟩)), (3, .int .i64 i)]) (fun i => l.parts.length - i) 0 ?_ ?_ ?_
  · exact ⟨Nat.zero_le _, rfl, hf1, Fr.refl _ _⟩
  · simp (implicitDefEqProofs := false) only [go_sem]
  · rintro i H' ⟨hi, hv, hf, hf1'⟩
    have hx := (hn1.ext hf1').cell
    rcases Nat.lt_or_ge i l.parts.length with hlt | hge
    · have hlt' : (i : Int) < (l.parts.length : Int) := by omega
      have h0 : (0 : Int) ≤ (i : Int) := by omega
      obtain ⟨b, o, c, wn, wp, wr, e1, p0, p1, p2, p3, p4, p5, hp⟩ := PartsA.at (h4.ext hf) i hlt
      cases e1
      have hw := succ_i64 i l.parts.length hlt (by omega)
      rw [all_drop hlt] at hv
      simp (implicitDefEqProofs := false) only [go_sem, hlt', h0, hx, p0, p1, p2, p3, p4, p5]
      refine (ih i hlt hp).mono ?_
      rintro r H4 ⟨rfl, hf4⟩
      cases e : disT l.parts[i]
      · simp (implicitDefEqProofs := false) only [go_sem]
        exact ⟨by rw [← hv, e, Bool.false_and], hf.trans hf4⟩
      · simp (implicitDefEqProofs := false) only [go_sem]
        refine loopK_intro (i + 1) (by show l.parts.length - (i + 1) < l.parts.length - i; omega) ?_ ⟨hlt, ?_, hf.trans hf4, hf1'.trans hf4⟩
        · simp (implicitDefEqProofs := false) only [go_sem, hw]
        · rw [← hv, e, Bool.true_and]
    · have hlt' : ¬ (i : Int) < (l.parts.length : Int) := by omega
      simp (implicitDefEqProofs := false) only [go_sem, hlt', hx]
      rw [List.drop_eq_nil_of_le hge] at hv
      exact ⟨by rw [← hv]; rfl, hf⟩

/-- IndexFunc on parts, with a function that says E. -/
theorem idxf_ok {f : Nat} {E : Lt → Bool} (hbody : hasBody Try.prog f = true) {H : Heap} {la : List Lt} {v : Value} (ha : PartsA H [] la v)
    (hE : ∀ (j : Nat) (h1 : j < la.length) (H' : Heap) (cs : List Value), LtA H' [] la[j] cs → HCalls Try.prog f #[.agg cs.toArray] H' fun r H'' => r = .bool (E la[j]) ∧ Fr [] H' H'') :
    HCalls Try.prog 57 #[v, .func (.func f) #[] #[]] H fun r H' => ∃ k : Int, r = .int .i64 k ∧ (0 ≤ k ↔ la.any E = true) ∧ Fr [] H H' := by
  obtain ⟨a, ca, rfl, hla, hca⟩ := ha.slice
  refine calls_of_vc (args := [_, _]) Try.func57 c57ok (Nat.le_of_ble_eq_true rfl) ?_
  simp (implicitDefEqProofs := false) only [go_sem, c57]
  refine vc_loop (fun (i : Nat) H' => i ≤ la.length ∧ (la.drop i).any E = la.any E ∧ Fr [] H H')
    (fun i => [(0, .slice a la.length ca), (1, .func (.func f) #[] #[]), (7, .int .i64 la.length), (8, .int .i64 i)]) (fun i => la.length - i) 0 ?_ ?_ ?_
  · exact ⟨Nat.zero_le _, rfl, Fr.refl _ _⟩
  · simp (implicitDefEqProofs := false) only [go_sem]
  · rintro i H' ⟨hi, hv, hf⟩
    rcases Nat.lt_or_ge i la.length with hlt | hge
    · have hlt' : (i : Int) < (la.length : Int) := by omega
      have h0 : (0 : Int) ≤ (i : Int) := by omega
      obtain ⟨b, o, c, wn, wp, wr, e1, p0, p1, p2, p3, p4, p5, hp⟩ := PartsA.at (ha.ext hf) i hlt
      cases e1
      have hw := succ_i64 i la.length hlt (by omega)
      rw [List.drop_eq_getElem_cons hlt, List.any_cons] at hv
      simp (implicitDefEqProofs := false) only [go_sem, hlt', h0, p0, p1, p2, p3, p4, p5]
      refine ⟨hbody, ?_⟩
      refine (hE i hlt H' _ hp).mono ?_
      rintro r H4 ⟨rfl, hf4⟩
      cases e : E la[i]
      · simp (implicitDefEqProofs := false) only [go_sem]
        refine loopK_intro (i + 1) (by show la.length - (i + 1) < la.length - i; omega) ?_ ⟨hlt, ?_, hf.trans hf4⟩
        · simp (implicitDefEqProofs := false) only [go_sem, hw]
        · rw [← hv, e, Bool.false_or]
      · simp (implicitDefEqProofs := false) only [go_sem]
        exact ⟨_, rfl, ⟨fun _ => by rw [← hv, e, Bool.true_or], fun _ => h0⟩, hf.trans hf4⟩
    · have hlt' : ¬ (i : Int) < (la.length : Int) := by omega
      simp (implicitDefEqProofs := false) only [go_sem, hlt']
      rw [List.drop_eq_nil_of_le hge] at hv
      exact ⟨_, rfl, ⟨fun h => absurd h (by decide), fun h => by rw [← hv] at h; cases h⟩, hf⟩
theorem conf_ok {f : Nat} {E : Lt → Bool} (hbody : hasBody Try.prog f = true) {H : Heap} {la : List Lt} {v : Value} (ha : PartsA H [] la v)
    (hE : ∀ (j : Nat) (h1 : j < la.length) (H' : Heap) (cs : List Value), LtA H' [] la[j] cs → HCalls Try.prog f #[.agg cs.toArray] H' fun r H'' => r = .bool (E la[j]) ∧ Fr [] H' H'') :
    HCalls Try.prog 36 #[v, .func (.func f) #[] #[]] H fun r H' => r = .bool (la.any E) ∧ Fr [] H H' := by
  refine calls_of_vc (args := [_, _]) Try.func36 c36ok (Nat.le_of_ble_eq_true rfl) ?_
  simp (implicitDefEqProofs := false) only [go_sem, c36]
  refine (idxf_ok hbody ha hE).mono ?_
  rintro r H1 ⟨k, rfl, hk, hf⟩
  simp (implicitDefEqProofs := false) only [go_sem]
  refine ⟨?_, hf⟩
  congr 1
  rw [Bool.eq_iff_iff, decide_eq_true_eq]
  exact hk

theorem dis_ok (l : Lt) : ∀ {H : Heap} {cs : List Value}, LtA H [] l cs → HCalls Try.prog 20 #[.agg cs.toArray] H fun r H' => r = .bool (disT l) ∧ Fr [] H H' := by
  refine ltInd (P := fun l => ∀ {H : Heap} {cs : List Value}, LtA H [] l cs → HCalls Try.prog 20 #[.agg cs.toArray] H fun r H' => r = .bool (disT l) ∧ Fr [] H H') ?_ l
  intro l ih H cs ha
  obtain ⟨vn, vp, vr, rfl, h3, h4, h5⟩ := LtA.open ha
  obtain ⟨na, nc, rfl, hnl, hnc⟩ := StrsA.slice h3
  obtain ⟨pa, pc, rfl, hpl, hpc⟩ := PartsA.slice h4
  refine calls_of_vc (args := [_]) Try.func20 c20ok (Nat.le_of_ble_eq_true rfl) ?_
  rw [disT_open]
  simp (implicitDefEqProofs := false) only [go_sem, c20]
  refine NewP_intro fun H1 hn1 hf1 hs1 => ?_
  have hc1 := hn1.cell
  by_cases k8 : l.kind = 8
  · simp (implicitDefEqProofs := false) only [go_sem, hc1, k8]
    exact hf1
  by_cases k10 : l.kind = 10
  · simp (implicitDefEqProofs := false) only [go_sem, hc1, k10]
    exact hf1
  simp (implicitDefEqProofs := false) only [go_sem, hc1, k8, k10]
  have h37 : ∀ (j : Nat) (h1 : j < l.parts.length) (H' : Heap) (cs : List Value), LtA H' [] l.parts[j] cs → HCalls Try.prog 37 #[.agg cs.toArray] H' fun r H'' => r = .bool (!disT l.parts[j]) ∧ Fr [] H' H'' := by
    intro j h1 H' cs hp
    obtain ⟨wn, wp, wr, rfl, q3, q4, q5⟩ := LtA.open hp
    refine calls_of_vc (args := [_]) Try.func37 c37ok (Nat.le_of_ble_eq_true rfl) ?_
    simp (implicitDefEqProofs := false) only [go_sem, c37]
    refine NewP_intro fun H1 hn1 hf1 hs1 => ?_
    have hc1 := hn1.cell
    simp (implicitDefEqProofs := false) only [go_sem, hc1]
    refine (ih j h1 (Rep.ext hp hf1)).mono ?_
    rintro r H2 ⟨rfl, hf2⟩
    simp (implicitDefEqProofs := false) only [go_sem]
    exact hf1.trans hf2
  refine (conf_ok (E := fun p => !disT p) (by kernel_rfl) (h4.ext hf1) h37).mono ?_
  rintro r H2 ⟨rfl, hf2⟩
  simp (implicitDefEqProofs := false) only [go_sem]
  refine ⟨?_, hf1.trans hf2⟩
  congr 1
  rw [List.any_eq_not_all_not]
  simp

theorem dep_ok (l : Lt) : ∀ {H : Heap} {cs : List Value}, LtA H [] l cs → depT l < 2^60 → HCalls Try.prog 22 #[.agg cs.toArray] H fun r H' => r = .int .i64 (depT l) ∧ Fr [] H H' := by
  refine ltInd (P := fun l => ∀ {H : Heap} {cs : List Value}, LtA H [] l cs → depT l < 2^60 → HCalls Try.prog 22 #[.agg cs.toArray] H fun r H' => r = .int .i64 (depT l) ∧ Fr [] H H') ?_ l
  intro l ih H cs ha hd
  obtain ⟨vn, vp, vr, rfl, h3, h4, h5⟩ := LtA.open ha
  obtain ⟨pa, pc, rfl, hpl, hpc⟩ := PartsA.slice h4
  refine calls_of_vc (args := [_]) Try.func22 c22ok (Nat.le_of_ble_eq_true rfl) ?_
  rw [depT_open] at hd ⊢
  simp (implicitDefEqProofs := false) only [go_sem, c22]
  refine NewP_intro fun H1 hn1 hf1 hs1 => ?_
  have hc1 := hn1.cell
  have hwd : IntKind.i64.wrap ((depTs l.parts : Int) + 1) = ((depTs l.parts + 1 : Nat) : Int) := by rw [wrap_i64_id _ (by omega) (by omega)]; omega
  have hmx : ∀ a b : Nat, (if (a : Int) < (b : Int) then (b : Int) else (a : Int)) = ((max a b : Nat) : Int) := fun a b => by split <;> omega
  simp (implicitDefEqProofs := false) only [go_sem, hc1]
  refine vc_loop (fun (i : Nat) H' => i ≤ l.parts.length ∧ Fr [] H H')
    (fun i => [(3, .int .i64 (depTs (l.parts.take i))), (7, .slice pa l.parts.length pc), (8, .int .i64 l.parts.length), (9, .int .i64 i)]) (fun i => l.parts.length - i) 0 ?_ ?_ ?_
  · exact ⟨Nat.zero_le _, hf1⟩
  · simp (implicitDefEqProofs := false) only [go_sem, depTs]
  · rintro i H' ⟨hi, hf⟩
    rcases Nat.lt_or_ge i l.parts.length with hlt | hge
    · have hlt' : (i : Int) < (l.parts.length : Int) := by omega
      have h0 : (0 : Int) ≤ (i : Int) := by omega
      obtain ⟨b, o, c, wn, wp, wr, e1, p0, p1, p2, p3, p4, p5, hp⟩ := PartsA.at (h4.ext hf) i hlt
      cases e1
      have hw := succ_i64 i l.parts.length hlt (by omega)
      simp (implicitDefEqProofs := false) only [go_sem, hlt', h0, p0, p1, p2, p3, p4, p5]
      refine NewP_intro fun H2 hn2 hf2 hs2 => ?_
      simp (implicitDefEqProofs := false) only [go_sem]
      refine Sto_all hn2 rfl (LtA.one6 hp) fun H3 hn3 hf3 hs3 => ?_
      have hfn := new_fr hf2 hf3
      have hc3 := hn3.cell
      simp (implicitDefEqProofs := false) only [go_sem, hc3]
      refine (ih i hlt (Rep.ext hp hfn) (by have := depTs_get l.parts i hlt; omega)).mono ?_
      rintro r H4 ⟨rfl, hf4⟩
      simp (implicitDefEqProofs := false) only [go_sem, hmx]
      refine loopK_intro (i + 1) (by show l.parts.length - (i + 1) < l.parts.length - i; omega) ?_ ⟨hlt, (hf.trans hfn).trans hf4⟩
      simp (implicitDefEqProofs := false) only [go_sem, hw, depTs_take l.parts i hlt]
    · have hlt' : ¬ (i : Int) < (l.parts.length : Int) := by omega
      have e : l.parts.take i = l.parts := List.take_of_length_le hge
      simp (implicitDefEqProofs := false) only [go_sem, hlt', e, hwd]
      exact hf

theorem fdep_ok (l : Lt) : ∀ {H : Heap} {cs : List Value}, LtA H [] l cs → depT l < 2^60 → HCalls Try.prog 23 #[.agg cs.toArray] H fun r H' => r = .int .i64 (depT l) ∧ Fr [] H H' := by
  refine ltInd (P := fun l => ∀ {H : Heap} {cs : List Value}, LtA H [] l cs → depT l < 2^60 → HCalls Try.prog 23 #[.agg cs.toArray] H fun r H' => r = .int .i64 (depT l) ∧ Fr [] H H') ?_ l
  intro l ih H cs ha hd
  obtain ⟨vn, vp, vr, rfl, h3, h4, h5⟩ := LtA.open ha
  obtain ⟨pa, pc, rfl, hpl, hpc⟩ := PartsA.slice h4
  refine calls_of_vc (args := [_]) Try.func23 c23ok (Nat.le_of_ble_eq_true rfl) ?_
  rw [depT_open] at hd ⊢
  simp (implicitDefEqProofs := false) only [go_sem, c23]
  refine NewP_intro fun H1 hn1 hf1 hs1 => ?_
  have hc1 := hn1.cell
  have hwd : IntKind.i64.wrap ((depTs l.parts : Int) + 1) = ((depTs l.parts + 1 : Nat) : Int) := by rw [wrap_i64_id _ (by omega) (by omega)]; omega
  have hmx : ∀ a b : Nat, (if (a : Int) < (b : Int) then (b : Int) else (a : Int)) = ((max a b : Nat) : Int) := fun a b => by split <;> omega
  simp (implicitDefEqProofs := false) only [go_sem, hc1]
  refine vc_loop (fun (i : Nat) H' => i ≤ l.parts.length ∧ Fr [] H H' ∧ Fr [] H1 H')
    (fun i => [(1, .pointer (some ⟨H.size, 0, none⟩)), (3, .int .i64 (depTs (l.parts.take i))), (4, .int .i64 i)]) (fun i => l.parts.length - i) 0 ?_ ?_ ?_
  · exact ⟨Nat.zero_le _, hf1, Fr.refl _ _⟩
  · simp (implicitDefEqProofs := false) only [go_sem, depTs]
  · rintro i H' ⟨hi, hf, hf1'⟩
    have hx := (hn1.ext hf1').cell
    rcases Nat.lt_or_ge i l.parts.length with hlt | hge
    · have hlt' : (i : Int) < (l.parts.length : Int) := by omega
      have h0 : (0 : Int) ≤ (i : Int) := by omega
      obtain ⟨b, o, c, wn, wp, wr, e1, p0, p1, p2, p3, p4, p5, hp⟩ := PartsA.at (h4.ext hf) i hlt
      cases e1
      have hw := succ_i64 i l.parts.length hlt (by omega)
      simp (implicitDefEqProofs := false) only [go_sem, hlt', h0, hx, p0, p1, p2, p3, p4, p5]
      refine (ih i hlt hp (by have := depTs_get l.parts i hlt; omega)).mono ?_
      rintro r H4 ⟨rfl, hf4⟩
      simp (implicitDefEqProofs := false) only [go_sem, hmx]
      refine loopK_intro (i + 1) (by show l.parts.length - (i + 1) < l.parts.length - i; omega) ?_ ⟨hlt, hf.trans hf4, hf1'.trans hf4⟩
      simp (implicitDefEqProofs := false) only [go_sem, hw, depTs_take l.parts i hlt]
    · have hlt' : ¬ (i : Int) < (l.parts.length : Int) := by omega
      have e : l.parts.take i = l.parts := List.take_of_length_le hge
      simp (implicitDefEqProofs := false) only [go_sem, hlt', hx, e, hwd]
      exact hf
end Go.Proofs.Ytcilkhjadljaaaa
end
section
/- Names and lists of names: contracts. -/
set_option linter.unusedSimpArgs false
set_option linter.unusedVariables false
set_option maxRecDepth 8000
namespace Go.Proofs.Ytcilkhjadljaaaa
open Gx Go

def loB (c : UInt8) : Bool := decide (97 ≤ c.toNat) && decide (c.toNat ≤ 122)
def wordB (c : UInt8) : Bool := (loB c || (decide (48 ≤ c.toNat) && decide (c.toNat ≤ 57))) || decide (c.toNat = 45)
def nameT (s : Bs) : Bool := decide (0 < s.length) && (decide (s.length ≤ 16) && (loB (s.getD 0 0) && s.all wordB))

theorem word_ok (c : UInt8) (H : Heap) : HCalls Try.prog 89 #[.int .u8 c.toNat] H fun r H' => r = .bool (wordB c) ∧ H' = H := by
  refine calls_of_vc (args := [_]) Try.func89 c89ok (Nat.le_of_ble_eq_true rfl) ?_
  have i1 : ((97 : Int) ≤ (c.toNat : Int)) = (97 ≤ c.toNat) := by apply propext; omega
  have i2 : ((c.toNat : Int) ≤ 122) = (c.toNat ≤ 122) := by apply propext; omega
  have i3 : ((48 : Int) ≤ (c.toNat : Int)) = (48 ≤ c.toNat) := by apply propext; omega
  have i4 : ((c.toNat : Int) ≤ 57) = (c.toNat ≤ 57) := by apply propext; omega
  have i5 : ((c.toNat : Int) = 45) = (c.toNat = 45) := by apply propext; omega
  have j1 : (122 : Int) < (c.toNat : Int) ↔ ¬ c.toNat ≤ 122 := by omega
  have j2 : (57 : Int) < (c.toNat : Int) ↔ ¬ c.toNat ≤ 57 := by omega
  by_cases h1 : 97 ≤ c.toNat <;> by_cases h2 : c.toNat ≤ 122 <;> by_cases h3 : 48 ≤ c.toNat <;> by_cases h4 : c.toNat ≤ 57 <;> by_cases h5 : c.toNat = 45
  all_goals first
    | (exfalso; omega)
    | (simp (implicitDefEqProofs := false) only [go_sem, c89, i1, i2, i3, i4, i5, h1, h2, h3, h4, h5, wordB, loB]; done)
    | (simp (implicitDefEqProofs := false) only [go_sem, c89, i1, i2, i3, i4, i5, h1, h2, h3, h4, h5, wordB, loB]; simp [h1, h2, h3, h4, h5])

theorem valid_ok (s : Bs) (H : Heap) : HCalls Try.prog 77 #[sv s] H fun r H' => r = .bool (nameT s) ∧ H' = H := by
  refine calls_of_vc (args := [_]) Try.func77 c77ok (Nat.le_of_ble_eq_true rfl) ?_
  unfold sv
  have hz : ((s.length : Int) = 0) = (s.length = 0) := by apply propext; omega
  by_cases h0 : s.length = 0
  · simp (implicitDefEqProofs := false) only [go_sem, c77, ba_size, hz, h0]
    simp [nameT, h0]
  by_cases h16 : 16 < s.length
  · have h16' : (16 : Int) < (s.length : Int) := by omega
    simp (implicitDefEqProofs := false) only [go_sem, c77, ba_size, hz, h0, h16']
    simp [nameT, show ¬ s.length ≤ 16 by omega]
  have h16' : ¬ (16 : Int) < (s.length : Int) := by omega
  have hp : (0 : Int) < (s.length : Int) := by omega
  have hn1 : decide (0 < s.length) = true := decide_eq_true (by omega)
  have hn2 : decide (s.length ≤ 16) = true := decide_eq_true (by omega)
  unfold nameT
  rw [hn1, hn2]
  generalize hc : s.getD 0 0 = c
  by_cases l1 : (c.toNat : Int) < 97
  · simp (implicitDefEqProofs := false) only [go_sem, c77, ba_size, hz, h0, h16', hp, hc, l1]
    simp [loB, show ¬ 97 ≤ c.toNat by omega]
  by_cases l2 : (122 : Int) < (c.toNat : Int)
  · simp (implicitDefEqProofs := false) only [go_sem, c77, ba_size, hz, h0, h16', hp, hc, l1, l2]
    simp [loB, show ¬ c.toNat ≤ 122 by omega]
  have hl : loB c = true := by simp [loB]; omega
  rw [hl]
  simp (implicitDefEqProofs := false) only [go_sem, c77, ba_size, hz, h0, h16', hp, hc, l1, l2]
  refine vc_loop (fun (i : Nat) H' => i ≤ s.length ∧ (s.drop i).all wordB = s.all wordB ∧ H' = H)
    (fun i => [(0, .string ⟨⟨s⟩⟩), (23, .int .i64 s.length), (24, .int .i64 i)]) (fun i => s.length - i) 0 ?_ ?_ ?_
  · exact ⟨Nat.zero_le _, rfl, rfl⟩
  · simp (implicitDefEqProofs := false) only [go_sem]
  · rintro i H' ⟨hi, hv, rfl⟩
    rcases Nat.lt_or_ge i s.length with hlt | hge
    · have hlt' : (i : Int) < (s.length : Int) := by omega
      have hi0 : (0 : Int) ≤ (i : Int) := by omega
      have hw := succ_i64 i s.length hlt (by unfold maxLen; omega)
      have hg : s.getD i 0 = s[i] := by simp [hlt]
      rw [List.drop_eq_getElem_cons hlt, List.all_cons] at hv
      simp (implicitDefEqProofs := false) only [go_sem, hlt', hi0, ba_size, hg]
      refine (word_ok s[i] H').mono ?_
      rintro r H2 ⟨rfl, rfl⟩
      cases e : wordB s[i]
      · simp (implicitDefEqProofs := false) only [go_sem]
        rw [← hv, e, Bool.false_and]
      · simp (implicitDefEqProofs := false) only [go_sem]
        refine loopK_intro (i + 1) (by show s.length - (i + 1) < s.length - i; omega) ?_ ⟨hlt, ?_, rfl⟩
        · simp (implicitDefEqProofs := false) only [go_sem, hw]
        · rw [← hv, e, Bool.true_and]
    · have hlt' : ¬ (i : Int) < (s.length : Int) := by omega
      simp (implicitDefEqProofs := false) only [go_sem, hlt']
      rw [List.drop_eq_nil_of_le hge] at hv
      rw [← hv]; rfl

theorem fname_ok (s : Bs) (H : Heap) : HCalls Try.prog 90 #[sv s] H fun r H' => r = .bool (nameT s) ∧ H' = H := by
  refine calls_of_vc (args := [_]) Try.func90 c90ok (Nat.le_of_ble_eq_true rfl) ?_
  unfold sv
  by_cases h0 : s.length = 0
  · have hz : (s.length : Int) < 1 := by omega
    simp (implicitDefEqProofs := false) only [go_sem, c90, ba_size, hz]
    simp [nameT, h0]
  have hz : ¬ (s.length : Int) < 1 := by omega
  by_cases h16 : 16 < s.length
  · have h16' : (16 : Int) < (s.length : Int) := by omega
    simp (implicitDefEqProofs := false) only [go_sem, c90, ba_size, hz, h16']
    simp [nameT, show ¬ s.length ≤ 16 by omega]
  have h16' : ¬ (16 : Int) < (s.length : Int) := by omega
  have hp : (0 : Int) < (s.length : Int) := by omega
  have hn1 : decide (0 < s.length) = true := decide_eq_true (by omega)
  have hn2 : decide (s.length ≤ 16) = true := decide_eq_true (by omega)
  unfold nameT
  rw [hn1, hn2]
  generalize hc : s.getD 0 0 = c
  by_cases l1 : (c.toNat : Int) < 97
  · simp (implicitDefEqProofs := false) only [go_sem, c90, ba_size, hz, h16', hp, hc, l1]
    simp [loB, show ¬ 97 ≤ c.toNat by omega]
  by_cases l2 : (122 : Int) < (c.toNat : Int)
  · simp (implicitDefEqProofs := false) only [go_sem, c90, ba_size, hz, h16', hp, hc, l1, l2]
    simp [loB, show ¬ c.toNat ≤ 122 by omega]
  have hl : loB c = true := by simp [loB]; omega
  rw [hl]
  simp (implicitDefEqProofs := false) only [go_sem, c90, ba_size, hz, h16', hp, hc, l1, l2]
  refine vc_loop (fun (i : Nat) H' => i ≤ s.length ∧ (s.drop i).all wordB = s.all wordB ∧ H' = H)
    (fun i => [(0, .string ⟨⟨s⟩⟩), (3, .int .i64 i)]) (fun i => s.length - i) 0 ?_ ?_ ?_
  · exact ⟨Nat.zero_le _, rfl, rfl⟩
  · simp (implicitDefEqProofs := false) only [go_sem]
  · rintro i H' ⟨hi, hv, rfl⟩
    rcases Nat.lt_or_ge i s.length with hlt | hge
    · have hlt' : (i : Int) < (s.length : Int) := by omega
      have hi0 : (0 : Int) ≤ (i : Int) := by omega
      have hw := succ_i64 i s.length hlt (by unfold maxLen; omega)
      have hg : s.getD i 0 = s[i] := by simp [hlt]
      rw [List.drop_eq_getElem_cons hlt, List.all_cons] at hv
      generalize s[i] = x at *
      have good : wordB x = true → i + 1 ≤ s.length ∧ (s.drop (i + 1)).all wordB = s.all wordB ∧ H' = H' := fun e => ⟨hlt, by rw [← hv, e, Bool.true_and], rfl⟩
      have bad : wordB x = false → s.all wordB = false := fun e => by rw [← hv, e, Bool.false_and]
      by_cases a1 : (x.toNat : Int) < 97
      · by_cases a2 : (x.toNat : Int) < 48
        · by_cases a3 : x.toNat = 45
          · have a3' : (x.toNat : Int) = 45 := by omega
            simp (implicitDefEqProofs := false) only [go_sem, hlt', hi0, ba_size, hg, a1, a2, a3']
            refine loopK_intro (i + 1) (by show s.length - (i + 1) < s.length - i; omega) ?_ (good (by simp [wordB, a3]))
            simp (implicitDefEqProofs := false) only [go_sem, hw]
          · have a3' : ¬ (x.toNat : Int) = 45 := by omega
            simp (implicitDefEqProofs := false) only [go_sem, hlt', hi0, ba_size, hg, a1, a2, a3']
            rw [bad (by simp [wordB, loB]; omega)]
        · by_cases a4 : (57 : Int) < (x.toNat : Int)
          · have a3' : ¬ (x.toNat : Int) = 45 := by omega
            simp (implicitDefEqProofs := false) only [go_sem, hlt', hi0, ba_size, hg, a1, a2, a3', a4]
            rw [bad (by simp [wordB, loB]; omega)]
          · simp (implicitDefEqProofs := false) only [go_sem, hlt', hi0, ba_size, hg, a1, a2, a4]
            refine loopK_intro (i + 1) (by show s.length - (i + 1) < s.length - i; omega) ?_ (good (by simp [wordB, loB]; omega))
            simp (implicitDefEqProofs := false) only [go_sem, hw]
      · by_cases a5 : (122 : Int) < (x.toNat : Int)
        · have a2 : ¬ (x.toNat : Int) < 48 := by omega
          have a4 : (57 : Int) < (x.toNat : Int) := by omega
          have a3' : ¬ (x.toNat : Int) = 45 := by omega
          simp (implicitDefEqProofs := false) only [go_sem, hlt', hi0, ba_size, hg, a1, a2, a3', a4, a5]
          rw [bad (by simp [wordB, loB]; omega)]
        · simp (implicitDefEqProofs := false) only [go_sem, hlt', hi0, ba_size, hg, a1, a5]
          refine loopK_intro (i + 1) (by show s.length - (i + 1) < s.length - i; omega) ?_ (good (by simp [wordB, loB]; omega))
          simp (implicitDefEqProofs := false) only [go_sem, hw]
    · have hlt' : ¬ (i : Int) < (s.length : Int) := by omega
      simp (implicitDefEqProofs := false) only [go_sem, hlt', ba_size]
      rw [List.drop_eq_nil_of_le hge] at hv
      rw [← hv]; rfl
end Go.Proofs.Ytcilkhjadljaaaa
end
section
/- Lists of names: contracts. -/
set_option linter.unusedSimpArgs false
set_option linter.unusedVariables false
set_option maxRecDepth 8000
namespace Go.Proofs.Ytcilkhjadljaaaa
open Gx Go

def ltB (a b : Bs) : Bool := Op.bytesLess a b
def sortedT : List Bs → Bool
  | [] => true
  | [_] => true
  | a :: b :: r => ltB a b && sortedT (b :: r)
def risF : Option Bs → List Bs → Bool
  | _, [] => true
  | none, x :: r => nameT x && risF (some x) r
  | some p, x :: r => nameT x && (ltB p x && risF (some x) r)
theorem risF_some : ∀ (p : Bs) (l : List Bs), risF (some p) l = (l.all nameT && sortedT (p :: l))
  | p, [] => rfl
  | p, x :: r => by
    simp only [risF, risF_some x r, List.all_cons, sortedT]
    cases nameT x <;> cases ltB p x <;> cases r.all nameT <;> rfl
theorem risF_none : ∀ (l : List Bs), risF none l = (l.all nameT && sortedT l)
  | [] => rfl
  | x :: r => by
    simp only [risF, risF_some x r, List.all_cons]
    cases nameT x <;> cases r.all nameT <;> simp [sortedT]

theorem risF_bad {q : Option Bs} {x : Bs} {r : List Bs} (h : nameT x = false) : risF q (x :: r) = false := by cases q <;> simp [risF, h]

theorem index_ok {H : Heap} {l : List Bs} {v : Value} (s : Bs) (h : StrsA H [] l v) :
    HCalls Try.prog 38 #[v, sv s] H fun r H' => ∃ k : Int, r = .int .i64 k ∧ ((k < 0 ∧ s ∉ l) ∨ ∃ j : Nat, k = j ∧ ∃ hj : j < l.length, l[j] = s ∧ ∀ (i : Nat) (hi : i < j), l[i] ≠ s) ∧ H' = H := by
  obtain ⟨a, c, rfl, hlc, hc⟩ := StrsA.slice h
  refine calls_of_vc (args := [_, _]) Try.func38 c38ok (Nat.le_of_ble_eq_true rfl) ?_
  simp (implicitDefEqProofs := false) only [go_sem, c38]
  refine vc_loop (fun (i : Nat) H' => i ≤ l.length ∧ (∀ (k : Nat) (hk : k < i) (hl : k < l.length), l[k] ≠ s) ∧ H' = H)
    (fun i => [(0, .slice a l.length c), (1, sv s), (7, .int .i64 l.length), (8, .int .i64 i)]) (fun i => l.length - i) 0 ?_ ?_ ?_
  · exact ⟨Nat.zero_le _, fun k hk => by omega, rfl⟩
  · simp (implicitDefEqProofs := false) only [go_sem]
  · rintro i H' ⟨hi, hall, rfl⟩
    rcases Nat.lt_or_ge i l.length with hlt | hge
    · have hlt' : (i : Int) < (l.length : Int) := by omega
      have h0 : (0 : Int) ≤ (i : Int) := by omega
      obtain ⟨b1, o1, c1, e1, h1⟩ := StrsA.at h i hlt
      cases e1
      have hw := succ_i64 i l.length hlt (by omega)
      by_cases e : s = l[i]
      · simp (implicitDefEqProofs := false) only [go_sem, hlt', h0, h1, sv, ba_eq, e]
        exact ⟨_, rfl, .inr ⟨i, rfl, hlt, rfl, fun k hk => by rw [← e]; exact hall k hk (by omega)⟩⟩
      · simp (implicitDefEqProofs := false) only [go_sem, hlt', h0, h1, sv, ba_eq, e]
        refine loopK_intro (i + 1) (by show l.length - (i + 1) < l.length - i; omega) ?_ ⟨hlt, fun k hk hl => ?_, rfl⟩
        · simp (implicitDefEqProofs := false) only [go_sem, hw, sv]
        · rcases Nat.lt_or_ge k i with q | q
          · exact hall k q hl
          · obtain rfl : k = i := by omega
            exact Ne.symm e
    · have hlt' : ¬ (i : Int) < (l.length : Int) := by omega
      simp (implicitDefEqProofs := false) only [go_sem, hlt']
      refine ⟨_, rfl, .inl ⟨by decide, fun hm => ?_⟩⟩
      obtain ⟨k, hk, e⟩ := List.getElem_of_mem hm
      exact hall k (by omega) hk e

theorem contains_ok {H : Heap} {l : List Bs} {v : Value} (s : Bs) (h : StrsA H [] l v) : HCalls Try.prog 78 #[v, sv s] H fun r H' => r = .bool (decide (s ∈ l)) ∧ H' = H := by
  refine calls_of_vc (args := [_, _]) Try.func78 c78ok (Nat.le_of_ble_eq_true rfl) ?_
  simp (implicitDefEqProofs := false) only [go_sem, c78]
  refine (index_ok s h).mono ?_
  rintro r H1 ⟨k, rfl, hk, rfl⟩
  simp (implicitDefEqProofs := false) only [go_sem]
  congr 1
  rw [Bool.eq_iff_iff, decide_eq_true_eq, decide_eq_true_eq]
  rcases hk with ⟨h1, h2⟩ | ⟨j, rfl, hj, e, _⟩
  · exact ⟨fun h => by omega, fun h => absurd h h2⟩
  · exact ⟨fun _ => by rw [← e]; exact List.getElem_mem _, fun _ => by omega⟩
theorem has_ok {H : Heap} {l : List Bs} {v : Value} (s : Bs) (h : StrsA H [] l v) : HCalls Try.prog 81 #[v, sv s] H fun r H' => r = .bool (decide (s ∈ l)) ∧ H' = H := by
  refine calls_of_vc (args := [_, _]) Try.func81 c81ok (Nat.le_of_ble_eq_true rfl) ?_
  simp (implicitDefEqProofs := false) only [go_sem, c81]
  refine (contains_ok s h).mono ?_
  rintro r H1 ⟨rfl, rfl⟩
  simp (implicitDefEqProofs := false) only [go_sem]

theorem subset_ok {H : Heap} {l m : List Bs} {v u : Value} (h : StrsA H [] l v) (hm : StrsA H [] m u) : HCalls Try.prog 80 #[v, u] H fun r H' => r = .bool (l.all fun s => decide (s ∈ m)) ∧ H' = H := by
  obtain ⟨a, c, rfl, hlc, hc⟩ := StrsA.slice h
  refine calls_of_vc (args := [_, _]) Try.func80 c80ok (Nat.le_of_ble_eq_true rfl) ?_
  simp (implicitDefEqProofs := false) only [go_sem, c80]
  refine vc_loop (fun (i : Nat) H' => i ≤ l.length ∧ ((l.drop i).all fun s => decide (s ∈ m)) = (l.all fun s => decide (s ∈ m)) ∧ H' = H)
    (fun i => [(1, u), (7, .slice a l.length c), (8, .int .i64 l.length), (9, .int .i64 i)]) (fun i => l.length - i) 0 ?_ ?_ ?_
  · exact ⟨Nat.zero_le _, rfl, rfl⟩
  · simp (implicitDefEqProofs := false) only [go_sem]
  · rintro i H' ⟨hi, hv, rfl⟩
    rcases Nat.lt_or_ge i l.length with hlt | hge
    · have hlt' : (i : Int) < (l.length : Int) := by omega
      have h0 : (0 : Int) ≤ (i : Int) := by omega
      obtain ⟨b1, o1, c1, e1, h1⟩ := StrsA.at h i hlt
      cases e1
      have hw := succ_i64 i l.length hlt (by omega)
      rw [List.drop_eq_getElem_cons hlt, List.all_cons] at hv
      simp (implicitDefEqProofs := false) only [go_sem, hlt', h0, h1]
      refine (has_ok l[i] hm).mono ?_
      rintro r H2 ⟨rfl, rfl⟩
      by_cases e : l[i] ∈ m
      · simp (implicitDefEqProofs := false) only [go_sem, e]
        refine loopK_intro (i + 1) (by show l.length - (i + 1) < l.length - i; omega) ?_ ⟨hlt, ?_, rfl⟩
        · simp (implicitDefEqProofs := false) only [go_sem, hw]
        · rw [← hv, decide_eq_true e, Bool.true_and]
      · simp (implicitDefEqProofs := false) only [go_sem, e]
        rw [← hv, decide_eq_false e, Bool.false_and]
    · have hlt' : ¬ (i : Int) < (l.length : Int) := by omega
      simp (implicitDefEqProofs := false) only [go_sem, hlt']
      rw [List.drop_eq_nil_of_le hge] at hv
      rw [← hv]; rfl

theorem sorted_ok {H : Heap} {l : List Bs} {v : Value} (h : StrsA H [] l v) : HCalls Try.prog 79 #[v] H fun r H' => r = .bool (sortedT l) ∧ H' = H := by
  obtain ⟨a, c, rfl, hlc, hc⟩ := StrsA.slice h
  refine calls_of_vc (args := [_]) Try.func79 c79ok (Nat.le_of_ble_eq_true rfl) ?_
  simp (implicitDefEqProofs := false) only [go_sem, c79]
  refine vc_loop (fun (i : Nat) H' => 1 ≤ i ∧ (i = 1 ∨ i ≤ l.length) ∧ sortedT (l.drop (i - 1)) = sortedT l ∧ H' = H)
    (fun i => [(0, .slice a l.length c), (3, .int .i64 i)]) (fun i => l.length - i) 1 ?_ ?_ ?_
  · exact ⟨Nat.le_refl _, .inl rfl, rfl, rfl⟩
  · simp (implicitDefEqProofs := false) only [go_sem]
  · rintro i H' ⟨hi, hi2, hv, rfl⟩
    rcases Nat.lt_or_ge i l.length with hlt | hge
    · have hlt' : (i : Int) < (l.length : Int) := by omega
      have h0 : (0 : Int) ≤ (i : Int) := by omega
      have hlp : i - 1 < l.length := by omega
      obtain ⟨b1, o1, c1, e1, h1⟩ := StrsA.at h i hlt
      obtain ⟨b2, o2, c2, e2, h2⟩ := StrsA.at h (i - 1) hlp
      cases e1
      cases e2
      have hw := succ_i64 i l.length hlt (by omega)
      have hm1 : IntKind.i64.wrap ((i : Int) - 1) = ((i - 1 : Nat) : Int) := by
        unfold maxLen at hc
        rw [wrap_i64_id _ (by omega) (by omega)]; omega
      have h3 : ((i - 1 : Nat) : Int) < (l.length : Int) := by omega
      have h4 : (0 : Int) ≤ ((i - 1 : Nat) : Int) := by omega
      have hd : sortedT (l.drop (i - 1)) = (ltB l[i - 1] l[i] && sortedT (l.drop i)) := by
        rw [List.drop_eq_getElem_cons hlp]
        have e : i - 1 + 1 = i := by omega
        simp only [e]
        rw [List.drop_eq_getElem_cons hlt]; rfl
      rw [hd] at hv
      cases e : ltB l[i - 1] l[i]
      · have e' : Op.bytesLess l[i - 1] l[i] = false := e
        simp (implicitDefEqProofs := false) only [go_sem, hlt', h0, h1, h2, h3, h4, hm1, e']
        rw [← hv, e, Bool.false_and]
      · have e' : Op.bytesLess l[i - 1] l[i] = true := e
        simp (implicitDefEqProofs := false) only [go_sem, hlt', h0, h1, h2, h3, h4, hm1, e']
        refine loopK_intro (i + 1) (by show l.length - (i + 1) < l.length - i; omega) ?_ ⟨by omega, by omega, ?_, rfl⟩
        · simp (implicitDefEqProofs := false) only [go_sem, hw]
        · rw [← hv, e, Bool.true_and]; rfl
    · have hlt' : ¬ (i : Int) < (l.length : Int) := by omega
      simp (implicitDefEqProofs := false) only [go_sem, hlt']
      rw [← hv]
      have : (l.drop (i - 1)).length ≤ 1 := by rw [List.length_drop]; omega
      match hx : l.drop (i - 1), this with
      | [], _ => rfl
      | [x], _ => rfl

theorem fin_ok' {H : Heap} {l : List Bs} {v : Value} (s : Bs) (h : StrsA H [] l v) : HCalls Try.prog 91 #[v, sv s] H fun r H' => r = .bool (decide (s ∈ l)) ∧ H' = H := by
  obtain ⟨a, c, rfl, hlc, hc⟩ := StrsA.slice h
  refine calls_of_vc (args := [_, _]) Try.func91 c91ok (Nat.le_of_ble_eq_true rfl) ?_
  simp (implicitDefEqProofs := false) only [go_sem, c91]
  refine vc_loop (fun (i : Nat) H' => i ≤ l.length ∧ (∀ (k : Nat) (hk : k < i) (hl : k < l.length), l[k] ≠ s) ∧ H' = H)
    (fun i => [(0, .slice a l.length c), (1, sv s), (5, .int .i64 i)]) (fun i => l.length - i) 0 ?_ ?_ ?_
  · exact ⟨Nat.zero_le _, fun k hk => by omega, rfl⟩
  · simp (implicitDefEqProofs := false) only [go_sem]
  · rintro i H' ⟨hi, hall, rfl⟩
    rcases Nat.lt_or_ge i l.length with hlt | hge
    · have hlt' : (i : Int) < (l.length : Int) := by omega
      have h0 : (0 : Int) ≤ (i : Int) := by omega
      obtain ⟨b1, o1, c1, e1, h1⟩ := StrsA.at h i hlt
      cases e1
      have hw := succ_i64 i l.length hlt (by omega)
      by_cases e : l[i] = s
      · simp (implicitDefEqProofs := false) only [go_sem, hlt', h0, h1, sv, ba_eq, e]
        rw [decide_eq_true (by rw [← e]; exact List.getElem_mem _)]
      · simp (implicitDefEqProofs := false) only [go_sem, hlt', h0, h1, sv, ba_eq, e]
        refine loopK_intro (i + 1) (by show l.length - (i + 1) < l.length - i; omega) ?_ ⟨hlt, fun k hk hl => ?_, rfl⟩
        · simp (implicitDefEqProofs := false) only [go_sem, hw, sv]
        · rcases Nat.lt_or_ge k i with q | q
          · exact hall k q hl
          · obtain rfl : k = i := by omega
            exact e
    · have hlt' : ¬ (i : Int) < (l.length : Int) := by omega
      simp (implicitDefEqProofs := false) only [go_sem, hlt']
      rw [decide_eq_false fun hm => by
        obtain ⟨k, hk, e⟩ := List.getElem_of_mem hm
        exact hall k (by omega) hk e]

theorem rising_ok {H : Heap} {l : List Bs} {v : Value} (h : StrsA H [] l v) : HCalls Try.prog 92 #[v] H fun r H' => r = .bool (l.all nameT && sortedT l) ∧ H' = H := by
  obtain ⟨a, c, rfl, hlc, hc⟩ := StrsA.slice h
  refine calls_of_vc (args := [_]) Try.func92 c92ok (Nat.le_of_ble_eq_true rfl) ?_
  rw [← risF_none]
  simp (implicitDefEqProofs := false) only [go_sem, c92]
  refine vc_loop (fun (i : Nat) H' => i ≤ l.length ∧ risF (if i = 0 then none else l[i - 1]?) (l.drop i) = risF none l ∧ H' = H)
    (fun i => [(0, .slice a l.length c), (3, .int .i64 i)]) (fun i => l.length - i) 0 ?_ ?_ ?_
  · exact ⟨Nat.zero_le _, rfl, rfl⟩
  · simp (implicitDefEqProofs := false) only [go_sem]
  · rintro i H' ⟨hi, hv, rfl⟩
    rcases Nat.lt_or_ge i l.length with hlt | hge
    · have hlt' : (i : Int) < (l.length : Int) := by omega
      have h0 : (0 : Int) ≤ (i : Int) := by omega
      obtain ⟨b1, o1, c1, e1, h1⟩ := StrsA.at h i hlt
      cases e1
      have hw := succ_i64 i l.length hlt (by omega)
      rw [List.drop_eq_getElem_cons hlt] at hv
      have hnx : ∀ q, risF (some l[i]) (l.drop (i + 1)) = q → risF (if i + 1 = 0 then none else l[i + 1 - 1]?) (l.drop (i + 1)) = q := fun q hq => by
        rw [if_neg (by omega), show i + 1 - 1 = i by omega, List.getElem?_eq_getElem hlt]; exact hq
      simp (implicitDefEqProofs := false) only [go_sem, hlt', h0, h1]
      refine (fname_ok l[i] H').mono ?_
      rintro r H2 ⟨rfl, rfl⟩
      cases e : nameT l[i]
      · simp (implicitDefEqProofs := false) only [go_sem]
        rw [risF_bad e] at hv
        rw [← hv]
      by_cases hi0 : i = 0
      · subst hi0
        simp only [if_true, risF, e, Bool.true_and] at hv
        simp (implicitDefEqProofs := false) only [go_sem]
        refine loopK_intro (0 + 1) (by show l.length - (0 + 1) < l.length - 0; omega) ?_ ⟨by omega, hnx _ hv, rfl⟩
        simp (implicitDefEqProofs := false) only [go_sem, hw]
        rfl
      · have hlp : i - 1 < l.length := by omega
        obtain ⟨b2, o2, c2, e2, h2⟩ := StrsA.at h (i - 1) hlp
        cases e2
        have hm1 : IntKind.i64.wrap ((i : Int) - 1) = ((i - 1 : Nat) : Int) := by
          unfold maxLen at hc
          rw [wrap_i64_id _ (by omega) (by omega)]; omega
        have h3 : ((i - 1 : Nat) : Int) < (l.length : Int) := by omega
        have h4 : (0 : Int) ≤ ((i - 1 : Nat) : Int) := by omega
        have h5 : (0 : Int) < (i : Int) := by omega
        rw [if_neg hi0, List.getElem?_eq_getElem hlp] at hv
        simp only [risF, e, Bool.true_and] at hv
        cases e3 : ltB l[i - 1] l[i]
        · have e' : Op.bytesLess l[i - 1] l[i] = false := e3
          simp (implicitDefEqProofs := false) only [go_sem, hlt', h0, h1, h2, h3, h4, h5, hm1, e']
          rw [← hv, e3, Bool.false_and]
        · have e' : Op.bytesLess l[i - 1] l[i] = true := e3
          rw [e3, Bool.true_and] at hv
          simp (implicitDefEqProofs := false) only [go_sem, hlt', h0, h1, h2, h3, h4, h5, hm1, e']
          refine loopK_intro (i + 1) (by show l.length - (i + 1) < l.length - i; omega) ?_ ⟨by omega, hnx _ hv, rfl⟩
          simp (implicitDefEqProofs := false) only [go_sem, hw]
    · have hlt' : ¬ (i : Int) < (l.length : Int) := by omega
      simp (implicitDefEqProofs := false) only [go_sem, hlt']
      rw [List.drop_eq_nil_of_le hge] at hv
      rw [← hv]
      split <;> simp [risF]
end Go.Proofs.Ytcilkhjadljaaaa
end
section
/- The shape of a node: contracts. -/
set_option linter.unusedSimpArgs false
set_option linter.unusedVariables false
set_option maxRecDepth 8000
namespace Go.Proofs.Ytcilkhjadljaaaa
open Gx Go

def shapeT (l : Lt) : Bool :=
  if l.kind = 1 ∨ l.kind = 9 then decide (l.parts.length = 0 ∧ l.names.length = 0 ∧ l.rules.length = 0 ∧ l.lo = 0 ∧ l.hi = 0)
  else if l.kind = 2 ∨ l.kind = 3 then decide (l.parts.length = 0 ∧ l.names.length = 0 ∧ l.rules.length = 0)
  else if l.kind = 4 ∨ l.kind = 8 then decide (l.parts.length = 0 ∧ l.rules.length = 0 ∧ l.lo = 0 ∧ l.hi = 0)
  else if l.kind = 5 then decide (l.parts.length = 1 ∧ l.rules.length = 0 ∧ l.lo = 0 ∧ l.hi = 0)
  else if l.kind = 7 then decide (l.parts.length = 2 ∧ l.names.length = 0 ∧ l.rules.length = 0 ∧ l.lo = 0 ∧ l.hi = 0)
  else if l.kind = 6 then decide (l.parts.length = l.names.length ∧ 0 < l.names.length ∧ l.rules.length = 0 ∧ l.lo = 0 ∧ l.hi = 0)
  else if l.kind = 10 then decide (l.parts.length = 0 ∧ 0 < l.names.length ∧ l.lo = 0 ∧ l.hi = 0)
  else false

def limT (l : Lt) : Bool := decide ((if l.kind = 6 then 8 else if l.kind = 10 then 12 else 32) < l.names.length ∨ 32 < l.rules.length)
def rngT (l : Lt) : Bool := decide (l.hi < l.lo ∨ l.lo < -1000000000 ∨ 1000000000 < l.lo ∨ l.hi < -1000000000 ∨ 1000000000 < l.hi)
def headC (l : Lt) : Bool := match l.parts with | p :: _ => chainT p | [] => true
def chnT (l : Lt) : Bool := decide (l.kind = 7) && !headC l

theorem when_ok (b : Bool) (e : Int) (H : Heap) : HCalls Try.prog 76 #[.bool b, .int .i64 e] H fun r H' => r = .int .i64 (if b then e else 0) ∧ H' = H := by
  refine calls_of_vc (args := [_, _]) Try.func76 c76ok (Nat.le_of_ble_eq_true rfl) ?_
  cases b
  all_goals simp (implicitDefEqProofs := false) only [go_sem, c76]

set_option maxHeartbeats 4000000 in
theorem shape_ok {l : Lt} {H : Heap} {cs : List Value} (ha : LtA H [] l cs) : HCalls Try.prog 50 #[.agg cs.toArray] H fun r H' => r = .int .i64 (if shapeT l then 0 else 1) ∧ Fr [] H H' := by
  obtain ⟨vn, vp, vr, rfl, h3, h4, h5⟩ := LtA.open ha
  obtain ⟨na, nc, rfl, hnl, hnc⟩ := StrsA.slice h3
  obtain ⟨pa, pc, rfl, hpl, hpc⟩ := PartsA.slice h4
  obtain ⟨ra, rc, rfl, hrl, hrc⟩ := RulesA.slice h5
  have fin : ∀ (b : Bool) (H1 : Heap), Fr [] H H1 → (b = !shapeT l) → HCalls Try.prog 76 #[.bool b, .int .i64 1] H1 fun r H' => r = .int .i64 (if shapeT l then 0 else 1) ∧ Fr [] H H' := by
    intro b H1 hf hb
    refine (when_ok b 1 H1).mono ?_
    rintro r H2 ⟨rfl, rfl⟩
    refine ⟨?_, hf⟩
    rw [hb]
    cases shapeT l <;> rfl
  refine calls_of_vc (args := [_]) Try.func50 c50ok (Nat.le_of_ble_eq_true rfl) ?_
  simp (implicitDefEqProofs := false) only [go_sem, c50]
  refine NewP_intro fun H1 hn1 hf1 hs1 => ?_
  have hc1 := hn1.cell
  by_cases k1 : l.kind = 1
  · simp (implicitDefEqProofs := false) only [go_sem, hc1, k1, Bool.cond_true_left, Bool.cond_false_right]
    refine (fin _ H1 hf1 ?_).mono ?_
    · rw [Bool.eq_iff_iff]
      simp [shapeT, k1, -List.length_eq_zero_iff]
      try omega
    · rintro r H2 ⟨rfl, hf2⟩
      simp (implicitDefEqProofs := false) only [go_sem]
      exact hf2
  by_cases k9 : l.kind = 9
  · simp (implicitDefEqProofs := false) only [go_sem, hc1, k9, Bool.cond_true_left, Bool.cond_false_right]
    refine (fin _ H1 hf1 ?_).mono ?_
    · rw [Bool.eq_iff_iff]
      simp [shapeT, k9, -List.length_eq_zero_iff]
      try omega
    · rintro r H2 ⟨rfl, hf2⟩
      simp (implicitDefEqProofs := false) only [go_sem]
      exact hf2
  by_cases k2 : l.kind = 2
  · simp (implicitDefEqProofs := false) only [go_sem, hc1, k2, Bool.cond_true_left, Bool.cond_false_right]
    refine (fin _ H1 hf1 ?_).mono ?_
    · rw [Bool.eq_iff_iff]
      simp [shapeT, k2, -List.length_eq_zero_iff]
      try omega
    · rintro r H2 ⟨rfl, hf2⟩
      simp (implicitDefEqProofs := false) only [go_sem]
      exact hf2
  by_cases k3 : l.kind = 3
  · simp (implicitDefEqProofs := false) only [go_sem, hc1, k3, Bool.cond_true_left, Bool.cond_false_right]
    refine (fin _ H1 hf1 ?_).mono ?_
    · rw [Bool.eq_iff_iff]
      simp [shapeT, k3, -List.length_eq_zero_iff]
      try omega
    · rintro r H2 ⟨rfl, hf2⟩
      simp (implicitDefEqProofs := false) only [go_sem]
      exact hf2
  by_cases k4 : l.kind = 4
  · simp (implicitDefEqProofs := false) only [go_sem, hc1, k4, Bool.cond_true_left, Bool.cond_false_right]
    refine (fin _ H1 hf1 ?_).mono ?_
    · rw [Bool.eq_iff_iff]
      simp [shapeT, k4, -List.length_eq_zero_iff]
      try omega
    · rintro r H2 ⟨rfl, hf2⟩
      simp (implicitDefEqProofs := false) only [go_sem]
      exact hf2
  by_cases k8 : l.kind = 8
  · simp (implicitDefEqProofs := false) only [go_sem, hc1, k8, Bool.cond_true_left, Bool.cond_false_right]
    refine (fin _ H1 hf1 ?_).mono ?_
    · rw [Bool.eq_iff_iff]
      simp [shapeT, k8, -List.length_eq_zero_iff]
      try omega
    · rintro r H2 ⟨rfl, hf2⟩
      simp (implicitDefEqProofs := false) only [go_sem]
      exact hf2
  by_cases k5 : l.kind = 5
  · simp (implicitDefEqProofs := false) only [go_sem, hc1, k5, Bool.cond_true_left, Bool.cond_false_right]
    refine (fin _ H1 hf1 ?_).mono ?_
    · rw [Bool.eq_iff_iff]
      simp [shapeT, k5, -List.length_eq_zero_iff]
      try omega
    · rintro r H2 ⟨rfl, hf2⟩
      simp (implicitDefEqProofs := false) only [go_sem]
      exact hf2
  by_cases k7 : l.kind = 7
  · simp (implicitDefEqProofs := false) only [go_sem, hc1, k7, Bool.cond_true_left, Bool.cond_false_right]
    refine (fin _ H1 hf1 ?_).mono ?_
    · rw [Bool.eq_iff_iff]
      simp [shapeT, k7, -List.length_eq_zero_iff]
      try omega
    · rintro r H2 ⟨rfl, hf2⟩
      simp (implicitDefEqProofs := false) only [go_sem]
      exact hf2
  by_cases k6 : l.kind = 6
  · simp (implicitDefEqProofs := false) only [go_sem, hc1, k6, Bool.cond_true_left, Bool.cond_false_right]
    refine (fin _ H1 hf1 ?_).mono ?_
    · rw [Bool.eq_iff_iff]
      simp [shapeT, k6, -List.length_eq_zero_iff]
      try omega
    · rintro r H2 ⟨rfl, hf2⟩
      simp (implicitDefEqProofs := false) only [go_sem]
      exact hf2
  by_cases k10 : l.kind = 10
  · simp (implicitDefEqProofs := false) only [go_sem, hc1, k10, Bool.cond_true_left, Bool.cond_false_right]
    refine (fin _ H1 hf1 ?_).mono ?_
    · rw [Bool.eq_iff_iff]
      simp [shapeT, k10, -List.length_eq_zero_iff]
      try omega
    · rintro r H2 ⟨rfl, hf2⟩
      simp (implicitDefEqProofs := false) only [go_sem]
      exact hf2
  simp (implicitDefEqProofs := false) only [go_sem, hc1, k1, k9, k2, k3, k4, k8, k5, k7, k6, k10]
  refine ⟨?_, hf1⟩
  simp [shapeT, k1, k9, k2, k3, k4, k8, k5, k7, k6, k10]

end Go.Proofs.Ytcilkhjadljaaaa
end
section
/- The check of a node: contracts. -/
set_option linter.unusedSimpArgs false
set_option linter.unusedVariables false
set_option maxRecDepth 8000
namespace Go.Proofs.Ytcilkhjadljaaaa
open Gx Go

theorem limits_ok {l : Lt} {H : Heap} {cs : List Value} (ha : LtA H [] l cs) : HCalls Try.prog 52 #[.agg cs.toArray] H fun r H' => r = .int .i64 (if limT l then 6 else 0) ∧ Fr [] H H' := by
  obtain ⟨vn, vp, vr, rfl, h3, h4, h5⟩ := LtA.open ha
  obtain ⟨na, nc, rfl, hnl, hnc⟩ := StrsA.slice h3
  obtain ⟨ra, rc, rfl, hrl, hrc⟩ := RulesA.slice h5
  refine calls_of_vc (args := [_]) Try.func52 c52ok (Nat.le_of_ble_eq_true rfl) ?_
  simp (implicitDefEqProofs := false) only [go_sem, c52]
  refine NewP_intro fun H1 hn1 hf1 hs1 => ?_
  have hc1 := hn1.cell
  have fin : ∀ (b : Bool) {R : Value → Heap → Prop}, b = limT l → (R (.int .i64 (if limT l then 6 else 0)) H1) → HCalls Try.prog 76 #[.bool b, .int .i64 6] H1 R := fun b R hb hR => (when_ok b 6 H1).mono fun r H' h => by
    obtain ⟨rfl, rfl⟩ := h
    rw [hb]; exact hR
  by_cases k6 : l.kind = 6
  · simp (implicitDefEqProofs := false) only [go_sem, hc1, k6, Bool.cond_true_left, Bool.cond_false_right]
    refine fin _ ?_ ?_
    · rw [Bool.eq_iff_iff]; simp [limT, k6]; omega
    · simp (implicitDefEqProofs := false) only [go_sem]
      exact hf1
  by_cases k10 : l.kind = 10
  · simp (implicitDefEqProofs := false) only [go_sem, hc1, k10, Bool.cond_true_left, Bool.cond_false_right]
    refine fin _ ?_ ?_
    · rw [Bool.eq_iff_iff]; simp [limT, k10]; omega
    · simp (implicitDefEqProofs := false) only [go_sem]
      exact hf1
  simp (implicitDefEqProofs := false) only [go_sem, hc1, k6, k10, Bool.cond_true_left, Bool.cond_false_right]
  refine fin _ ?_ ?_
  · rw [Bool.eq_iff_iff]; simp [limT, k6, k10]; omega
  · simp (implicitDefEqProofs := false) only [go_sem]
    exact hf1

theorem ranges_ok {l : Lt} {H : Heap} {cs : List Value} (ha : LtA H [] l cs) : HCalls Try.prog 54 #[.agg cs.toArray] H fun r H' => r = .int .i64 (if rngT l then 5 else 0) ∧ Fr [] H H' := by
  obtain ⟨vn, vp, vr, rfl, h3, h4, h5⟩ := LtA.open ha
  refine calls_of_vc (args := [_]) Try.func54 c54ok (Nat.le_of_ble_eq_true rfl) ?_
  simp (implicitDefEqProofs := false) only [go_sem, c54]
  refine NewP_intro fun H1 hn1 hf1 hs1 => ?_
  have hc1 := hn1.cell
  simp (implicitDefEqProofs := false) only [go_sem, hc1, Bool.cond_true_left, Bool.cond_false_right]
  refine (when_ok _ 5 H1).mono fun r H' h => ?_
  obtain ⟨rfl, rfl⟩ := h
  simp (implicitDefEqProofs := false) only [go_sem]
  refine ⟨?_, hf1⟩
  congr 2
  rw [Bool.eq_iff_iff]; simp [rngT]; omega

theorem chains_ok {l : Lt} {H : Heap} {cs : List Value} (ha : LtA H [] l cs) (hp : l.kind = 7 → 0 < l.parts.length) : HCalls Try.prog 55 #[.agg cs.toArray] H fun r H' => r = .int .i64 (if chnT l then 4 else 0) ∧ Fr [] H H' := by
  obtain ⟨vn, vp, vr, rfl, h3, h4, h5⟩ := LtA.open ha
  refine calls_of_vc (args := [_]) Try.func55 c55ok (Nat.le_of_ble_eq_true rfl) ?_
  by_cases k7 : l.kind = 7
  · simp (implicitDefEqProofs := false) only [go_sem, c55, k7]
    refine NewP_intro fun H1 hn1 hf1 hs1 => ?_
    have hc1 := hn1.cell
    obtain ⟨b, o, c, wn, wp, wr, rfl, p0, p1, p2, p3, p4, p5, hq⟩ := PartsA.at (h4.ext hf1) 0 (hp k7)
    simp only [Nat.zero_mul, Nat.add_zero] at p0 p1 p2 p3 p4 p5
    have h0 : (0 : Int) < (l.parts.length : Int) := by have := hp k7; omega
    have hh : headC l = chainT (l.parts[0]'(hp k7)) := by
      unfold headC
      have := hp k7
      split
      · rename_i e; simp only [e]; rfl
      · rename_i e; rw [e] at this; simp at this
    simp (implicitDefEqProofs := false) only [go_sem, hc1, h0, p0, p1, p2, p3, p4, p5]
    refine (chain_ok _ hq).mono ?_
    rintro r H2 ⟨rfl, hf2⟩
    simp (implicitDefEqProofs := false) only [go_sem]
    refine (when_ok _ 4 H2).mono fun r H' h => ?_
    obtain ⟨rfl, rfl⟩ := h
    simp (implicitDefEqProofs := false) only [go_sem]
    refine ⟨?_, hf1.trans hf2⟩
    simp [chnT, k7, hh]
  · simp (implicitDefEqProofs := false) only [go_sem, c55, k7]
    refine NewP_intro fun H1 hn1 hf1 hs1 => ?_
    have hc1 := hn1.cell
    simp (implicitDefEqProofs := false) only [go_sem, hc1, k7]
    refine (when_ok _ 4 H1).mono fun r H' h => ?_
    obtain ⟨rfl, rfl⟩ := h
    simp (implicitDefEqProofs := false) only [go_sem]
    refine ⟨?_, hf1⟩
    simp [chnT, k7]

/-- The first of four numbers that is not zero. -/
def or4 (a b c d : Int) : Int := if a ≠ 0 then a else if b ≠ 0 then b else if c ≠ 0 then c else d
def orI (x y z w : Int) (i : Nat) : Prop := (0 < i → x = 0) ∧ (1 < i → y = 0) ∧ (2 < i → z = 0) ∧ (3 < i → w = 0)
theorem or_ok {H : Heap} {b : Nat} {x y z w : Int} (h : Blk H b 28 [.int .i64 x, .int .i64 y, .int .i64 z, .int .i64 w]) :
    HCalls Try.prog 51 #[.slice (some ⟨b, 0, none⟩) 4 4] H fun r H' => r = .int .i64 (or4 x y z w) ∧ H' = H := by
  have hc := h.cell
  refine calls_of_vc (args := [_]) Try.func51 c51ok (Nat.le_of_ble_eq_true rfl) ?_
  simp (implicitDefEqProofs := false) only [go_sem, c51]
  refine vc_loop (fun (i : Nat) H' => i ≤ 4 ∧ orI x y z w i ∧ H' = H)
    (fun i => [(3, .int .i64 0), (6, .slice (some ⟨b, 0, none⟩) 4 4), (7, .int .i64 4), (8, .int .i64 i)]) (fun i => 4 - i) 0 ?_ ?_ ?_
  · exact ⟨by decide, ⟨by omega, by omega, by omega, by omega⟩, rfl⟩
  · simp (implicitDefEqProofs := false) only [go_sem]
  · rintro i H' ⟨hi, ⟨i0, i1, i2, i3⟩, rfl⟩
    match i, hi with
    | 0, _ =>
      by_cases e : x = 0
      · simp (implicitDefEqProofs := false) only [go_sem, hc, e]
        refine loopK_intro 1 (by decide) ?_ ⟨by decide, ⟨by omega, by omega, by omega, by omega⟩, rfl⟩
        simp (implicitDefEqProofs := false) only [go_sem]
        rfl
      · simp (implicitDefEqProofs := false) only [go_sem, hc, e]
        simp [or4, e]
    | 1, _ =>
      by_cases e : y = 0
      · simp (implicitDefEqProofs := false) only [go_sem, hc, e]
        refine loopK_intro 2 (by decide) ?_ ⟨by decide, ⟨by omega, by omega, by omega, by omega⟩, rfl⟩
        simp (implicitDefEqProofs := false) only [go_sem]
        rfl
      · simp (implicitDefEqProofs := false) only [go_sem, hc, e]
        simp [or4, e, i0]
    | 2, _ =>
      by_cases e : z = 0
      · simp (implicitDefEqProofs := false) only [go_sem, hc, e]
        refine loopK_intro 3 (by decide) ?_ ⟨by decide, ⟨by omega, by omega, by omega, by omega⟩, rfl⟩
        simp (implicitDefEqProofs := false) only [go_sem]
        rfl
      · simp (implicitDefEqProofs := false) only [go_sem, hc, e]
        simp [or4, e, i0, i1]
    | 3, _ =>
      by_cases e : w = 0
      · simp (implicitDefEqProofs := false) only [go_sem, hc, e]
        refine loopK_intro 4 (by decide) ?_ ⟨by decide, ⟨by omega, by omega, by omega, by omega⟩, rfl⟩
        simp (implicitDefEqProofs := false) only [go_sem]
        rfl
      · simp (implicitDefEqProofs := false) only [go_sem, hc, e]
        simp [or4, e, i0, i1, i2]
    | 4, _ =>
      simp (implicitDefEqProofs := false) only [go_sem]
      simp [or4, i0, i1, i2, i3]
end Go.Proofs.Ytcilkhjadljaaaa
end
section
/- The spelling of a node: contracts. -/
set_option linter.unusedSimpArgs false
set_option linter.unusedVariables false
set_option maxRecDepth 8000
namespace Go.Proofs.Ytcilkhjadljaaaa
open Gx Go

def nmF (k6 : Bool) : List Bs → List Bs → Bool
  | _, [] => true
  | s, x :: r => nameT x && (!(k6 && decide (x ∈ s)) && nmF k6 (s ++ [x]) r)
def ruleT (names : List Bs) (r : Rl) : Bool := decide (0 < r.ifs.length) && (sortedT r.ifs && ((r.ifs.all fun s => decide (s ∈ names)) && decide (r.thn ∈ names)))
def spellT (l : Lt) : Bool := nmF (decide (l.kind = 6)) [] l.names && ((decide (l.kind = 6) || sortedT l.names) && l.rules.all (ruleT l.names))
theorem nmF_drop (k6 : Bool) {l : List Bs} {i : Nat} (h : i < l.length) : nmF k6 (l.take i) (l.drop i) = (nameT l[i] && (!(k6 && decide (l[i] ∈ l.take i)) && nmF k6 (l.take (i + 1)) (l.drop (i + 1)))) := by
  rw [List.drop_eq_getElem_cons h, List.take_succ_eq_append_getElem h]; rfl

theorem all_drop2 {α : Type} {p : α → Bool} {l : List α} {i : Nat} (h : i < l.length) : (l.drop i).all p = (p l[i] && (l.drop (i + 1)).all p) := by
  rw [List.drop_eq_getElem_cons h]; rfl
theorem StrsA.takeL {H : Heap} {M : List Nat} {l : List Bs} {a : Option Addr} {n c k : Nat} (h : StrsA H M l (.slice a n c)) (hk : k ≤ l.length) : StrsA H M (l.take k) (.slice a k c) := by
  have := Rep.takeL h (k := k) (by rw [List.length_map]; exact hk)
  rw [← List.map_take] at this
  exact this

set_option maxHeartbeats 4000000 in
theorem spelling_ok {l : Lt} {H : Heap} {cs : List Value} (ha : LtA H [] l cs) : HCalls Try.prog 53 #[.agg cs.toArray] H fun r H' => r = .int .i64 (if spellT l then 0 else 3) ∧ Fr [] H H' := by
  obtain ⟨vn, vp, vr, rfl, h3, h4, h5⟩ := LtA.open ha
  obtain ⟨na, nc, rfl, hnl, hnc⟩ := StrsA.slice h3
  obtain ⟨ra, rc, rfl, hrl, hrc⟩ := RulesA.slice h5
  refine calls_of_vc (args := [_]) Try.func53 c53ok (Nat.le_of_ble_eq_true rfl) ?_
  simp (implicitDefEqProofs := false) only [go_sem, c53]
  refine NewP_intro fun H1 hn1 hf1 hs1 => ?_
  have hc1 := hn1.cell
  simp (implicitDefEqProofs := false) only [go_sem, hc1]
  obtain ⟨k, hk⟩ : ∃ k, k = decide (l.kind = 6) := ⟨_, rfl⟩
  have hS : spellT l = (nmF k [] l.names && ((k || sortedT l.names) && l.rules.all (ruleT l.names))) := by rw [hk]; rfl
  refine vc_loop (fun (i : Nat) H' => i ≤ l.names.length ∧ nmF k (l.names.take i) (l.names.drop i) = nmF k [] l.names ∧ H1 = H')
    (fun i => [(1, .pointer (some ⟨H.size, 0, none⟩)), (8, .slice na l.names.length nc), (9, .int .i64 l.names.length), (10, .int .i64 i)]) (fun i => l.names.length - i) 0 ?_ ?_ ?_
  · exact ⟨Nat.zero_le _, rfl, rfl⟩
  · simp (implicitDefEqProofs := false) only [go_sem]
  · rintro i H' ⟨hi, hv, rfl⟩
    rcases Nat.lt_or_ge i l.names.length with hlt | hge
    · have hlt' : (i : Int) < (l.names.length : Int) := by omega
      have h0 : (0 : Int) ≤ (i : Int) := by omega
      have hle' : (i : Int) ≤ (nc : Int) := by omega
      obtain ⟨b1, o1, c1, e1, h1⟩ := StrsA.at (h3.ext hf1) i hlt
      cases e1
      have hw := succ_i64 i l.names.length hlt (by omega)
      rw [nmF_drop _ hlt] at hv
      simp (implicitDefEqProofs := false) only [go_sem, hlt', h0, h1]
      refine (valid_ok l.names[i] H1).mono ?_
      rintro r H2 ⟨rfl, rfl⟩
      cases en : nameT l.names[i]
      · simp (implicitDefEqProofs := false) only [go_sem, hc1]
        exact ⟨by rw [hS, ← hv, en]; rfl, hf1⟩
      rw [en, Bool.true_and] at hv
      by_cases k6 : l.kind = 6
      · simp (implicitDefEqProofs := false) only [go_sem, hc1, k6, h0, hle']
        refine (contains_ok l.names[i] (StrsA.takeL (h3.ext hf1) hi)).mono ?_
        rintro r H2 ⟨rfl, rfl⟩
        have hk' : k = true := by rw [hk, decide_eq_true k6]
        by_cases ec : l.names[i] ∈ l.names.take i
        · simp (implicitDefEqProofs := false) only [go_sem, ec]
          exact ⟨by rw [hS, ← hv, hk', decide_eq_true ec]; rfl, hf1⟩
        · simp (implicitDefEqProofs := false) only [go_sem, ec]
          refine loopK_intro (i + 1) (by show l.names.length - (i + 1) < l.names.length - i; omega) ?_ ⟨hlt, ?_, rfl⟩
          · simp (implicitDefEqProofs := false) only [go_sem, hw]
          · rw [← hv, decide_eq_false ec, Bool.and_false]; rfl
      · simp (implicitDefEqProofs := false) only [go_sem, hc1, k6]
        refine loopK_intro (i + 1) (by show l.names.length - (i + 1) < l.names.length - i; omega) ?_ ⟨hlt, ?_, rfl⟩
        · simp (implicitDefEqProofs := false) only [go_sem, hw]
        · rw [← hv, hk, decide_eq_false k6]; rfl
    · have hge' : ¬ (i : Int) < (l.names.length : Int) := by omega
      rw [List.drop_eq_nil_of_le hge] at hv
      have hv' : nmF k [] l.names = true := by rw [← hv]; rfl
      by_cases k6 : l.kind = 6
      · have hsp : spellT l = l.rules.all (ruleT l.names) := by rw [hS, hv', hk, decide_eq_true k6, Bool.true_and, Bool.true_or, Bool.true_and]
        simp (implicitDefEqProofs := false) only [go_sem, hge', hc1, k6]
        refine vc_loop (fun (j : Nat) H' => j ≤ l.rules.length ∧ ((l.rules.drop j).all (ruleT l.names)) = (l.rules.all (ruleT l.names)) ∧ Fr [] H H' ∧ Fr [] H1 H')
          (fun j => [(1, .pointer (some ⟨H.size, 0, none⟩)), (42, .slice ra l.rules.length rc), (43, .int .i64 l.rules.length), (44, .int .i64 j)]) (fun j => l.rules.length - j) 0 ?_ ?_ ?_
        · exact ⟨Nat.zero_le _, rfl, hf1, Fr.refl _ _⟩
        · simp (implicitDefEqProofs := false) only [go_sem]
        · rintro j H' ⟨hj, hv2, hf, hfn⟩
          have hx := (hn1.ext hfn).cell
          rcases Nat.lt_or_ge j l.rules.length with hlt2 | hge2
          · have hlt2' : (j : Int) < (l.rules.length : Int) := by omega
            have h02 : (0 : Int) ≤ (j : Int) := by omega
            have hw2 := succ_i64 j l.rules.length hlt2 (by omega)
            obtain ⟨b, o, c, vi, e1, p0, p1, hq⟩ := RulesA.at (h5.ext hf) j hlt2
            cases e1
            obtain ⟨ia, ic, rfl, hil, hic⟩ := StrsA.slice hq
            rw [all_drop2 hlt2] at hv2
            simp (implicitDefEqProofs := false) only [go_sem, hlt2', h02, p0, p1, sv]
            refine NewP_intro fun H2' hn2' hf2' hs2' => ?_
            simp (implicitDefEqProofs := false) only [go_sem]
            refine Sto_all hn2' rfl (one2 (Rep.one1 hq) rfl) fun H2 hn2 hf2'' hs2 => ?_
            have hf2 := new_fr hf2' hf2''
            have hc2 := hn2.cell
            have hx2 := (hn1.ext (hfn.trans hf2)).cell
            by_cases i0 : (l.rules[j].ifs.length : Int) = 0
            · have hr : ruleT l.names l.rules[j] = false := by simp [ruleT]; omega
              simp (implicitDefEqProofs := false) only [go_sem, hc2, i0]
              exact ⟨by rw [hsp, ← hv2, hr]; rfl, hf.trans hf2⟩
            simp (implicitDefEqProofs := false) only [go_sem, hc2, i0, hx2]
            refine (sorted_ok (hq.ext hf2)).mono ?_
            rintro r H3 ⟨rfl, rfl⟩
            cases es : sortedT l.rules[j].ifs
            · have hr : ruleT l.names l.rules[j] = false := by simp [ruleT, es]
              simp (implicitDefEqProofs := false) only [go_sem]
              exact ⟨by rw [hsp, ← hv2, hr]; rfl, hf.trans hf2⟩
            simp (implicitDefEqProofs := false) only [go_sem, hc2, hx2]
            refine (subset_ok (hq.ext hf2) (h3.ext (hf.trans hf2))).mono ?_
            rintro r H3 ⟨rfl, rfl⟩
            cases eu : (l.rules[j].ifs.all fun s => decide (s ∈ l.names))
            · have hr : ruleT l.names l.rules[j] = false := by simp only [ruleT, es, eu, Bool.true_and, Bool.false_and, Bool.and_false]
              simp (implicitDefEqProofs := false) only [go_sem]
              exact ⟨by rw [hsp, ← hv2, hr]; rfl, hf.trans hf2⟩
            simp (implicitDefEqProofs := false) only [go_sem, hc2, hx2]
            refine (has_ok l.rules[j].thn (h3.ext (hf.trans hf2))).mono ?_
            rintro r H3 ⟨rfl, rfl⟩
            by_cases et : l.rules[j].thn ∈ l.names
            · have hr : ruleT l.names l.rules[j] = true := by
                have : 0 < l.rules[j].ifs.length := by omega
                simp only [ruleT, es, eu, et, Bool.true_and, decide_true, this]
              simp (implicitDefEqProofs := false) only [go_sem, et]
              refine loopK_intro (j + 1) (by show l.rules.length - (j + 1) < l.rules.length - j; omega) ?_ ⟨hlt2, ?_, hf.trans hf2, hfn.trans hf2⟩
              · simp (implicitDefEqProofs := false) only [go_sem, hw2]
              · rw [← hv2, hr, Bool.true_and]
            · have hr : ruleT l.names l.rules[j] = false := by simp only [ruleT, et, Bool.and_false, decide_false]
              simp (implicitDefEqProofs := false) only [go_sem, et]
              exact ⟨by rw [hsp, ← hv2, hr]; rfl, hf.trans hf2⟩
          · have hge2' : ¬ (j : Int) < (l.rules.length : Int) := by omega
            rw [List.drop_eq_nil_of_le hge2] at hv2
            simp (implicitDefEqProofs := false) only [go_sem, hge2']
            exact ⟨by rw [hsp, ← hv2]; rfl, hf⟩
      · simp (implicitDefEqProofs := false) only [go_sem, hge', hc1, k6]
        refine (sorted_ok (h3.ext hf1)).mono ?_
        rintro r H2 ⟨rfl, hEq⟩
        obtain rfl := hEq.symm
        cases es : sortedT l.names
        · simp (implicitDefEqProofs := false) only [go_sem, hc1]
          exact ⟨by rw [hS, es, hk, decide_eq_false k6, Bool.false_or, Bool.false_and, Bool.and_false]; rfl, hf1⟩
        have hsp : spellT l = l.rules.all (ruleT l.names) := by rw [hS, hv', es, Bool.or_true, Bool.true_and, Bool.true_and]
        simp (implicitDefEqProofs := false) only [go_sem, hc1]
        refine vc_loop (fun (j : Nat) H' => j ≤ l.rules.length ∧ ((l.rules.drop j).all (ruleT l.names)) = (l.rules.all (ruleT l.names)) ∧ Fr [] H H' ∧ Fr [] H1 H')
          (fun j => [(1, .pointer (some ⟨H.size, 0, none⟩)), (42, .slice ra l.rules.length rc), (43, .int .i64 l.rules.length), (44, .int .i64 j)]) (fun j => l.rules.length - j) 0 ?_ ?_ ?_
        · exact ⟨Nat.zero_le _, rfl, hf1, Fr.refl _ _⟩
        · simp (implicitDefEqProofs := false) only [go_sem]
        · rintro j H' ⟨hj, hv2, hf, hfn⟩
          have hx := (hn1.ext hfn).cell
          rcases Nat.lt_or_ge j l.rules.length with hlt2 | hge2
          · have hlt2' : (j : Int) < (l.rules.length : Int) := by omega
            have h02 : (0 : Int) ≤ (j : Int) := by omega
            have hw2 := succ_i64 j l.rules.length hlt2 (by omega)
            obtain ⟨b, o, c, vi, e1, p0, p1, hq⟩ := RulesA.at (h5.ext hf) j hlt2
            cases e1
            obtain ⟨ia, ic, rfl, hil, hic⟩ := StrsA.slice hq
            rw [all_drop2 hlt2] at hv2
            simp (implicitDefEqProofs := false) only [go_sem, hlt2', h02, p0, p1, sv]
            refine NewP_intro fun H2' hn2' hf2' hs2' => ?_
            simp (implicitDefEqProofs := false) only [go_sem]
            refine Sto_all hn2' rfl (one2 (Rep.one1 hq) rfl) fun H2 hn2 hf2'' hs2 => ?_
            have hf2 := new_fr hf2' hf2''
            have hc2 := hn2.cell
            have hx2 := (hn1.ext (hfn.trans hf2)).cell
            by_cases i0 : (l.rules[j].ifs.length : Int) = 0
            · have hr : ruleT l.names l.rules[j] = false := by simp [ruleT]; omega
              simp (implicitDefEqProofs := false) only [go_sem, hc2, i0]
              exact ⟨by rw [hsp, ← hv2, hr]; rfl, hf.trans hf2⟩
            simp (implicitDefEqProofs := false) only [go_sem, hc2, i0, hx2]
            refine (sorted_ok (hq.ext hf2)).mono ?_
            rintro r H3 ⟨rfl, rfl⟩
            cases es : sortedT l.rules[j].ifs
            · have hr : ruleT l.names l.rules[j] = false := by simp [ruleT, es]
              simp (implicitDefEqProofs := false) only [go_sem]
              exact ⟨by rw [hsp, ← hv2, hr]; rfl, hf.trans hf2⟩
            simp (implicitDefEqProofs := false) only [go_sem, hc2, hx2]
            refine (subset_ok (hq.ext hf2) (h3.ext (hf.trans hf2))).mono ?_
            rintro r H3 ⟨rfl, rfl⟩
            cases eu : (l.rules[j].ifs.all fun s => decide (s ∈ l.names))
            · have hr : ruleT l.names l.rules[j] = false := by simp only [ruleT, es, eu, Bool.true_and, Bool.false_and, Bool.and_false]
              simp (implicitDefEqProofs := false) only [go_sem]
              exact ⟨by rw [hsp, ← hv2, hr]; rfl, hf.trans hf2⟩
            simp (implicitDefEqProofs := false) only [go_sem, hc2, hx2]
            refine (has_ok l.rules[j].thn (h3.ext (hf.trans hf2))).mono ?_
            rintro r H3 ⟨rfl, rfl⟩
            by_cases et : l.rules[j].thn ∈ l.names
            · have hr : ruleT l.names l.rules[j] = true := by
                have : 0 < l.rules[j].ifs.length := by omega
                simp only [ruleT, es, eu, et, Bool.true_and, decide_true, this]
              simp (implicitDefEqProofs := false) only [go_sem, et]
              refine loopK_intro (j + 1) (by show l.rules.length - (j + 1) < l.rules.length - j; omega) ?_ ⟨hlt2, ?_, hf.trans hf2, hfn.trans hf2⟩
              · simp (implicitDefEqProofs := false) only [go_sem, hw2]
              · rw [← hv2, hr, Bool.true_and]
            · have hr : ruleT l.names l.rules[j] = false := by simp only [ruleT, et, Bool.and_false, decide_false]
              simp (implicitDefEqProofs := false) only [go_sem, et]
              exact ⟨by rw [hsp, ← hv2, hr]; rfl, hf.trans hf2⟩
          · have hge2' : ¬ (j : Int) < (l.rules.length : Int) := by omega
            rw [List.drop_eq_nil_of_le hge2] at hv2
            simp (implicitDefEqProofs := false) only [go_sem, hge2']
            exact ⟨by rw [hsp, ← hv2]; rfl, hf⟩

end Go.Proofs.Ytcilkhjadljaaaa
end
section
/- The check: contracts. -/
set_option linter.unusedSimpArgs false
set_option linter.unusedVariables false
set_option maxRecDepth 8000
namespace Go.Proofs.Ytcilkhjadljaaaa
open Gx Go

def nodeE (l : Lt) : Int := if shapeT l then or4 (if limT l then 6 else 0) (if spellT l then 0 else 3) (if rngT l then 5 else 0) (if chnT l then 4 else 0) else 1
mutual
def visT (d n : Nat) : Lt → Int × Nat
  | .mk k lo hi ns ps rs => if 6 < d ∨ 64 ≤ n then (6, n) else if nodeE (.mk k lo hi ns ps rs) ≠ 0 then (nodeE (.mk k lo hi ns ps rs), n + 1) else visTs (d + 1) (n + 1) ps
def visTs (d n : Nat) : List Lt → Int × Nat
  | [] => (0, n)
  | p :: ps => if (visT d n p).1 ≠ 0 then visT d n p else visTs d (visT d n p).2 ps
end
theorem visT_open (d n : Nat) (l : Lt) : visT d n l = if 6 < d ∨ 64 ≤ n then (6, n) else if nodeE l ≠ 0 then (nodeE l, n + 1) else visTs (d + 1) (n + 1) l.parts := by
  cases l; simp only [visT]; rfl
theorem visTs_drop (d n : Nat) {l : List Lt} {i : Nat} (h : i < l.length) : visTs d n (l.drop i) = if (visT d n l[i]).1 ≠ 0 then visT d n l[i] else visTs d (visT d n l[i]).2 (l.drop (i + 1)) := by
  rw [List.drop_eq_getElem_cons h]; rfl
theorem shapeT_seven {l : Lt} (h : shapeT l = true) (k : l.kind = 7) : 0 < l.parts.length := by
  unfold shapeT at h
  simp [k] at h
  omega

theorem Rep.less {H : Heap} {M : List Nat} {d : Dat} {cs : List Value} (h : Rep H M d cs) : Rep H [] d cs := Rep.stay h (fun _ _ _ => ⟨by simp, rfl⟩)
theorem Rep.kept {H H' : Heap} {M : List Nat} {d : Dat} {cs : List Value} (h : Rep H M d cs) (hf : Fr M H H') : Rep H' M d cs := Rep.stay h (Stays.fr hf fun x hx => .inl hx)

set_option maxHeartbeats 4000000 in
theorem visit_ok (l : Lt) : ∀ {H : Heap} {cs : List Value} {b n d : Nat}, LtA H [b] l cs → Blk H b 43 [.int .i64 n] →
    HCalls Try.prog 29 #[.pointer (some ⟨b, 0, none⟩), .agg cs.toArray, .int .i64 d] H fun r H' => r = .int .i64 (visT d n l).1 ∧ Blk H' b 43 [.int .i64 (visT d n l).2] ∧ Fr [b] H H' := by
  refine ltInd (P := fun l => ∀ {H : Heap} {cs : List Value} {b n d : Nat}, LtA H [b] l cs → Blk H b 43 [.int .i64 n] →
    HCalls Try.prog 29 #[.pointer (some ⟨b, 0, none⟩), .agg cs.toArray, .int .i64 d] H fun r H' => r = .int .i64 (visT d n l).1 ∧ Blk H' b 43 [.int .i64 (visT d n l).2] ∧ Fr [b] H H') ?_ l
  intro l ih H cs b n d ha hb
  obtain ⟨vn, vp, vr, rfl, h3, h4, h5⟩ := LtA.open ha
  obtain ⟨pa, pc, rfl, hpl, hpc⟩ := PartsA.slice h4
  refine calls_of_vc (args := [_, _, _]) Try.func29 c29ok (Nat.le_of_ble_eq_true rfl) ?_
  rw [visT_open]
  simp (implicitDefEqProofs := false) only [go_sem, c29]
  refine NewP_intro fun H1 hn1 hf1 hs1 => ?_
  have hc1 := hn1.cell
  have hb1 := hb.ext hf1
  have hcb := hb1.cell
  have hne : b ≠ H.size := by have := hb.lt; omega
  have hF1 : Fr [b] H H1 := hf1.mono (by simp)
  by_cases hd : 6 < d
  · have hd' : (6 : Int) < (d : Int) := by omega
    simp (implicitDefEqProofs := false) only [go_sem, hc1, hcb, hd', hd]
    exact ⟨hb1, hF1⟩
  have hd' : ¬ (6 : Int) < (d : Int) := by omega
  by_cases hn : 64 ≤ n
  · have hn' : (64 : Int) ≤ (n : Int) := by omega
    simp (implicitDefEqProofs := false) only [go_sem, hc1, hcb, hd', hn', hn]
    exact ⟨hb1, hF1⟩
  have hn' : ¬ (64 : Int) ≤ (n : Int) := by omega
  have hw0 : IntKind.i64.wrap ((n : Int) + 1) = ((n + 1 : Nat) : Int) := by
    rw [wrap_i64_id _ (by omega) (by omega)]; omega
  rw [if_neg (by omega)]
  simp (implicitDefEqProofs := false) only [go_sem, hc1, hcb, hd', hn', hw0]
  refine Sto_one hb1 (by simp) rfl fun H2 hb2 hf2 hs2 => ?_
  have hF2 := hF1.trans hf2
  have hn2 := hn1.fr hf2 (by simp [Ne.symm hne])
  have hc2 := hn2.cell
  have ha2 := Rep.kept ha hF2
  simp (implicitDefEqProofs := false) only [go_sem, hc2]
  refine (shape_ok (Rep.less ha2)).mono ?_
  rintro r H3 ⟨rfl, hf3⟩
  have hF3 := hF2.trans (hf3.mono (by simp))
  have hn3 := hn2.ext hf3
  have hc3 := hn3.cell
  have hb3 := hb2.ext hf3
  have ha3 := Rep.kept ha hF3
  cases es : shapeT l
  · have hE : nodeE l = 1 := by simp [nodeE, es]
    simp (implicitDefEqProofs := false) only [go_sem, hc3, hE]
    exact ⟨hb3, hF3⟩
  simp (implicitDefEqProofs := false) only [go_sem, hc3]
  refine (limits_ok (Rep.less ha3)).mono ?_
  rintro r H4 ⟨rfl, hf4⟩
  have hF4 := hF3.trans (hf4.mono (by simp))
  have hn4 := hn3.ext hf4
  have hc4 := hn4.cell
  simp (implicitDefEqProofs := false) only [go_sem, hc4]
  refine (spelling_ok (Rep.less (Rep.kept ha hF4))).mono ?_
  rintro r H5 ⟨rfl, hf5⟩
  have hF5 := hF4.trans (hf5.mono (by simp))
  have hn5 := hn4.ext hf5
  have hc5 := hn5.cell
  simp (implicitDefEqProofs := false) only [go_sem, hc5]
  refine (ranges_ok (Rep.less (Rep.kept ha hF5))).mono ?_
  rintro r H6 ⟨rfl, hf6⟩
  have hF6 := hF5.trans (hf6.mono (by simp))
  have hn6 := hn5.ext hf6
  have hc6 := hn6.cell
  simp (implicitDefEqProofs := false) only [go_sem, hc6]
  refine (chains_ok (Rep.less (Rep.kept ha hF6)) (shapeT_seven es)).mono ?_
  rintro r H7 ⟨rfl, hf7⟩
  have hF7 := hF6.trans (hf7.mono (by simp))
  have hn7 := hn6.ext hf7
  have hc7 := hn7.cell
  have hb7 := (((hb3.ext hf4).ext hf5).ext hf6).ext hf7
  simp (implicitDefEqProofs := false) only [go_sem, hc7]
  refine NewS_intro fun H8 hn8 hf8 hs8 => ?_
  simp (implicitDefEqProofs := false) only [go_sem]
  refine (or_ok hn8).mono ?_
  rintro r H9 ⟨rfl, hEq⟩
  obtain rfl := hEq.symm
  have hF8 := hF7.trans (hf8.mono (by simp))
  have hb8 := hb7.ext hf8
  have hc8 := (hn7.ext hf8).cell
  have hE : nodeE l = or4 (if limT l then 6 else 0) (if spellT l then 0 else 3) (if rngT l then 5 else 0) (if chnT l then 4 else 0) := by simp [nodeE, es]
  rw [← hE]
  by_cases e0 : nodeE l = 0
  case neg =>
    simp (implicitDefEqProofs := false) only [go_sem, hc8, e0]
    exact ⟨hb8, hF8⟩
  simp (implicitDefEqProofs := false) only [go_sem, hc8, e0]
  refine vc_loop (fun (i : Nat) H' => i ≤ l.parts.length ∧ ∃ m : Nat, Blk H' b 43 [.int .i64 m] ∧ visTs (d + 1) m (l.parts.drop i) = visTs (d + 1) (n + 1) l.parts ∧ Fr [b] H H')
    (fun i => [(0, .pointer (some ⟨b, 0, none⟩)), (2, .int .i64 d), (47, .slice pa l.parts.length pc), (48, .int .i64 l.parts.length), (49, .int .i64 i)]) (fun i => l.parts.length - i) 0 ?_ ?_ ?_
  · exact ⟨Nat.zero_le _, n + 1, hb8, rfl, hF8⟩
  · simp (implicitDefEqProofs := false) only [go_sem]
  · rintro i H' ⟨hi, m, hbi, hv, hF⟩
    rcases Nat.lt_or_ge i l.parts.length with hlt | hge
    · have hlt' : (i : Int) < (l.parts.length : Int) := by omega
      have h0 : (0 : Int) ≤ (i : Int) := by omega
      obtain ⟨bb, o, c, wn, wp, wr, e1, p0, p1, p2, p3, p4, p5, hp⟩ := PartsA.at (Rep.kept h4 hF) i hlt
      cases e1
      have hw := succ_i64 i l.parts.length hlt (by omega)
      have hwd : IntKind.i64.wrap ((d : Int) + 1) = ((d + 1 : Nat) : Int) := by
        rw [wrap_i64_id _ (by omega) (by omega)]; omega
      rw [visTs_drop _ _ hlt] at hv
      simp (implicitDefEqProofs := false) only [go_sem, hlt', h0, p0, p1, p2, p3, p4, p5]
      refine NewP_intro fun H10 hn10 hf10 hs10 => ?_
      simp (implicitDefEqProofs := false) only [go_sem]
      refine Sto_all hn10 rfl (LtA.one6 hp) fun H11 hn11 hf11 hs11 => ?_
      have hfn := new_fr hf10 hf11
      have hc11 := hn11.cell
      simp (implicitDefEqProofs := false) only [go_sem, hc11, hwd]
      refine (ih i hlt (Rep.ext hp hfn) (hbi.ext hfn)).mono ?_
      rintro r H12 ⟨rfl, hb12, hf12⟩
      have hF12 := (hF.trans (hfn.mono (by simp))).trans hf12
      by_cases ev : (visT (d + 1) m l.parts[i]).1 = 0
      · simp (implicitDefEqProofs := false) only [go_sem, ev]
        refine loopK_intro (i + 1) (by show l.parts.length - (i + 1) < l.parts.length - i; omega) ?_ ⟨hlt, _, hb12, ?_, hF12⟩
        · simp (implicitDefEqProofs := false) only [go_sem, hw]
        · rw [← hv, if_neg (by simpa using ev)]
      · rw [if_pos ev] at hv
        simp (implicitDefEqProofs := false) only [go_sem, ev]
        exact ⟨by rw [hv], by rw [← hv]; exact hb12, hF12⟩
    · have hge' : ¬ (i : Int) < (l.parts.length : Int) := by omega
      rw [List.drop_eq_nil_of_le hge] at hv
      simp (implicitDefEqProofs := false) only [go_sem, hge']
      rw [← hv]
      exact ⟨rfl, hbi, hF⟩

theorem check_ok {l : Lt} {H : Heap} {cs : List Value} (ha : LtA H [] l cs) : HCalls Try.prog 12 #[.agg cs.toArray] H fun r H' => r = .int .i64 (visT 1 0 l).1 ∧ Fr [] H H' := by
  obtain ⟨vn, vp, vr, rfl, h3, h4, h5⟩ := LtA.open ha
  refine calls_of_vc (args := [_]) Try.func12 c12ok (Nat.le_of_ble_eq_true rfl) ?_
  simp (implicitDefEqProofs := false) only [go_sem, c12]
  refine NewP_intro fun H1 hn1 hf1 hs1 => ?_
  simp (implicitDefEqProofs := false) only [go_sem]
  refine NewP_intro fun H2 hn2 hf2 hs2 => ?_
  simp (implicitDefEqProofs := false) only [go_sem]
  refine Sto_all hn2 rfl (by simp [Value.oneCell']) fun H3 hn3 hf3 hs3 => ?_
  have hF3 := new_fr hf2 hf3
  have hc3 := (hn1.ext hF3).cell
  have hm : LtA H3 [H1.size] l [.int .i64 l.kind, .int .i64 l.lo, .int .i64 l.hi, vn, vp, vr] :=
    Rep.kept (Rep.stay (ha.ext hf1) (Stays.more (M' := [H1.size]) (by simp))) (hF3.mono (by simp))
  simp (implicitDefEqProofs := false) only [go_sem, hc3]
  refine (visit_ok l hm (n := 0) (d := 1) hn3).mono ?_
  rintro r H4 ⟨rfl, hb4, hf4⟩
  simp (implicitDefEqProofs := false) only [go_sem]
  exact (hf1.trans hF3).trans' hf4 (by simp; omega)

end Go.Proofs.Ytcilkhjadljaaaa
end
section
/- The encoding: data and the list of names. -/
set_option linter.unusedSimpArgs false
set_option linter.unusedVariables false
set_option maxRecDepth 8000
namespace Go.Proofs.Ytcilkhjadljaaaa
open Gx Go

def textB (s : Bs) : Bs := enc s.length ++ s
def strsB (l : List Bs) : Bs := enc l.length ++ l.flatMap textB
def ruleB (r : Rl) : Bs := strsB r.ifs ++ textB r.thn
def headB (t : Lt) : Bs := enc t.kind.toNat ++ (if t.kind = 2 ∨ t.kind = 3 then enc (zig t.lo) ++ enc (zig t.hi) else if t.kind = 4 ∨ t.kind = 8 ∨ t.kind = 5 ∨ t.kind = 10 then strsB t.names else if t.kind = 6 then enc t.names.length else [])
def tailB (t : Lt) : Bs := if t.kind = 10 then enc t.rules.length ++ t.rules.flatMap ruleB else []
def nameB (k6 : Bool) (ns : List Bs) : Bs := if k6 then (match ns with | [] => [] | n :: _ => textB n) else []
mutual
def encT : Lt → Bs
  | .mk k lo hi ns ps rs => headB (.mk k lo hi ns ps rs) ++ (encPs (decide (k = 6)) ps ns ++ tailB (.mk k lo hi ns ps rs))
def encPs (k6 : Bool) : List Lt → List Bs → Bs
  | [], _ => []
  | p :: ps, ns => nameB k6 ns ++ (encT p ++ encPs k6 ps ns.tail)
end
theorem encT_open (t : Lt) : encT t = headB t ++ (encPs (decide (t.kind = 6)) t.parts t.names ++ tailB t) := by
  cases t; simp only [encT]; rfl
theorem encPs_drop (k6 : Bool) {ps : List Lt} {ns : List Bs} {i : Nat} (h : i < ps.length) : encPs k6 (ps.drop i) (ns.drop i) = nameB k6 (ns.drop i) ++ (encT ps[i] ++ encPs k6 (ps.drop (i + 1)) (ns.drop (i + 1))) := by
  rw [List.drop_eq_getElem_cons h]; simp [encPs]

mutual
def okT : Lt → Prop
  | .mk k lo hi ns ps rs => (0 ≤ k ∧ k ≤ 10 ∧ -2^63 ≤ lo ∧ lo < 2^63 ∧ -2^63 ≤ hi ∧ hi < 2^63) ∧ okTs ps
def okTs : List Lt → Prop
  | [] => True
  | p :: ps => okT p ∧ okTs ps
end
theorem okTs_get : ∀ {l : List Lt} {i : Nat} (h : i < l.length), okTs l → okT l[i]
  | [], _, h, _ => by simp at h
  | p :: l, 0, _, h => by simp only [okTs] at h; exact h.1
  | p :: l, i + 1, h, k => by
    simp only [okTs] at k
    simpa using okTs_get (l := l) (i := i) (by simpa using h) k.2
theorem okT_open (t : Lt) : okT t ↔ (0 ≤ t.kind ∧ t.kind ≤ 10 ∧ -2^63 ≤ t.lo ∧ t.lo < 2^63 ∧ -2^63 ≤ t.hi ∧ t.hi < 2^63) ∧ okTs t.parts := by
  cases t; simp only [okT]; rfl

theorem WrStep.refl {H : Heap} {b : Nat} {l : Bs} {g : Option Nat} (h : Wr H b l g) : WrStep H b g H l g := ⟨h, Fr.refl _ _, fun k hk => .inl hk⟩
theorem WrStep.pre {H H1 H' : Heap} {b : Nat} {l : List UInt8} {g g' : Option Nat} (hf : Fr [] H H1) (h : WrStep H1 b g H' l g') : WrStep H b g H' l g' :=
  ⟨h.1, (hf.mono (by simp)).trans h.2.1, fun k hk => (h.2.2 k hk).imp id fun q => Nat.le_trans hf.size q⟩
theorem WrStep.post {H H1 H' : Heap} {b : Nat} {l : List UInt8} {g g' : Option Nat} (h : WrStep H b g H1 l g') (hf : Fr [] H1 H') : WrStep H b g H' l g' :=
  ⟨h.1.fr hf (by simp) (by simp), h.2.1.trans (hf.mono (by simp)), h.2.2⟩
/-- Data beside a Writer stay readable. -/
theorem Rep.wr {H H' : Heap} {b : Nat} {g g' : Option Nat} {l : Bs} {d : Dat} {cs : List Value} (h : Rep H (b :: g.toList) d cs) (hs : WrStep H b g H' l g') : Rep H' (b :: g'.toList) d cs := by
  refine Rep.stay h fun x hx hn => ?_
  refine ⟨?_, hs.2.1.same x hx hn⟩
  simp only [List.mem_cons, not_or] at hn ⊢
  refine ⟨hn.1, fun hm => ?_⟩
  rcases hs.2.2 x (by simpa using hm) with q | q
  · exact hn.2 (by simp [q])
  · omega
theorem Blk.wr {H H' : Heap} {b x t : Nat} {g g' : Option Nat} {l : Bs} {cs : List Value} (h : Blk H x t cs) (hs : WrStep H b g H' l g') (hb : x ≠ b) (hg : ∀ k, g = some k → x ≠ k) : Blk H' x t cs := by
  refine h.fr hs.2.1 ?_
  simp only [List.mem_cons, not_or]
  refine ⟨hb, fun hm => ?_⟩
  exact hg x (by simpa using hm) rfl

theorem list_ok {H : Heap} {b : Nat} {l : Bs} {g : Option Nat} {v : Value} {ns : List Bs} (h : Wr H b l g) (hn : StrsA H (b :: g.toList) ns v) (hl : l.length + (strsB ns).length < 2^38) :
    HCalls Try.prog 60 #[.pointer (some ⟨b, 0, none⟩), v] H fun r H' => r = .tuple #[] ∧ ∃ g', WrStep H b g H' (l ++ strsB ns) g' := by
  obtain ⟨a, c, rfl, hlc, hc⟩ := StrsA.slice hn
  refine calls_of_vc (args := [_, _]) Try.func60 c60ok (Nat.le_of_ble_eq_true rfl) ?_
  have hlen : (strsB ns).length = (enc ns.length).length + (ns.flatMap textB).length := by simp [strsB]
  have hcv : IntKind.u64.wrap ((ns.length : Nat) : Int) = ((ns.length : Nat) : Int) := by unfold maxLen at hc; rw [wrap_u64_id _ (by omega) (by omega)]
  simp (implicitDefEqProofs := false) only [go_sem, c60, hcv]
  refine (uint_ok ns.length (by unfold maxLen at hc; omega) h (by omega)).mono ?_
  rintro r H1 ⟨rfl, g1, w1⟩
  simp (implicitDefEqProofs := false) only [go_sem]
  refine vc_loop (fun (i : Nat) H' => i ≤ ns.length ∧ ∃ l' g', WrStep H b g H' l' g' ∧ l' ++ (ns.drop i).flatMap textB = l ++ strsB ns)
    (fun i => [(0, .pointer (some ⟨b, 0, none⟩)), (11, .slice a ns.length c), (12, .int .i64 ns.length), (13, .int .i64 i)]) (fun i => ns.length - i) 0 ?_ ?_ ?_
  · exact ⟨Nat.zero_le _, _, _, w1, by simp [strsB]⟩
  · simp (implicitDefEqProofs := false) only [go_sem]
  · rintro i H' ⟨hi, l', g', ws, hv⟩
    have hv' := congrArg List.length hv
    simp only [List.length_append] at hv'
    rcases Nat.lt_or_ge i ns.length with hlt | hge
    · have hlt' : (i : Int) < (ns.length : Int) := by omega
      have h0 : (0 : Int) ≤ (i : Int) := by omega
      obtain ⟨b1, o1, c1, e1, h1⟩ := StrsA.at (Rep.wr hn ws) i hlt
      cases e1
      have hw := succ_i64 i ns.length hlt (by omega)
      rw [List.drop_eq_getElem_cons hlt, List.flatMap_cons] at hv
      have hv2 := congrArg List.length hv
      simp only [List.length_append, textB] at hv2
      simp (implicitDefEqProofs := false) only [go_sem, hlt', h0, h1]
      refine (text_ok ns[i] ws.1 (by omega)).mono ?_
      rintro r H3 ⟨rfl, g3, w3⟩
      simp (implicitDefEqProofs := false) only [go_sem]
      refine loopK_intro (i + 1) (by show ns.length - (i + 1) < ns.length - i; omega) ?_ ⟨hlt, _, _, ws.trans w3, ?_⟩
      · simp (implicitDefEqProofs := false) only [go_sem, hw]
      · rw [← hv]; simp [textB]
    · have hge' : ¬ (i : Int) < (ns.length : Int) := by omega
      rw [List.drop_eq_nil_of_le hge] at hv
      simp only [List.flatMap_nil, List.append_nil] at hv
      subst hv
      simp (implicitDefEqProofs := false) only [go_sem, hge']
      exact ⟨_, ws⟩

end Go.Proofs.Ytcilkhjadljaaaa
end
section
/- The encoding: a tree written. -/
set_option linter.unusedSimpArgs false
set_option linter.unusedVariables false
set_option maxRecDepth 8000
namespace Go.Proofs.Ytcilkhjadljaaaa
open Gx Go

set_option maxHeartbeats 4000000 in
theorem write_ok (t : Lt) : ∀ {H : Heap} {b : Nat} {l : Bs} {g : Option Nat} {cs : List Value}, okT t → Wr H b l g → LtA H (b :: g.toList) t cs → l.length + (encT t).length < 2^38 →
    HCalls Try.prog 39 #[.pointer (some ⟨b, 0, none⟩), .agg cs.toArray] H fun r H' => r = .tuple #[] ∧ ∃ g', WrStep H b g H' (l ++ encT t) g' := by
  refine ltInd (P := fun t => ∀ {H : Heap} {b : Nat} {l : Bs} {g : Option Nat} {cs : List Value}, okT t → Wr H b l g → LtA H (b :: g.toList) t cs → l.length + (encT t).length < 2^38 →
    HCalls Try.prog 39 #[.pointer (some ⟨b, 0, none⟩), .agg cs.toArray] H fun r H' => r = .tuple #[] ∧ ∃ g', WrStep H b g H' (l ++ encT t) g') ?_ t
  intro t ih H b l g cs hok hwr ha hsz
  rw [okT_open] at hok
  obtain ⟨vn, vp, vr, rfl, h3, h4, h5⟩ := LtA.open ha
  obtain ⟨na, nc, rfl, hnl, hnc⟩ := StrsA.slice h3
  obtain ⟨pa, pc, rfl, hpl, hpc⟩ := PartsA.slice h4
  obtain ⟨ra, rc, rfl, hrl, hrc⟩ := RulesA.slice h5
  have hck : IntKind.u64.wrap t.kind = ((t.kind.toNat : Nat) : Int) := by rw [wrap_u64_id _ (by omega) (by omega)]; omega
  have hT := congrArg List.length (encT_open t)
  have hH : headB t = enc t.kind.toNat ++ (if t.kind = 2 ∨ t.kind = 3 then enc (zig t.lo) ++ enc (zig t.hi) else if t.kind = 4 ∨ t.kind = 8 ∨ t.kind = 5 ∨ t.kind = 10 then strsB t.names else if t.kind = 6 then enc t.names.length else []) := rfl
  simp only [List.length_append] at hT
  obtain ⟨q6, hq6⟩ : ∃ q, q = decide (t.kind = 6) := ⟨_, rfl⟩
  have hO : encT t = headB t ++ (encPs q6 t.parts t.names ++ tailB t) := by rw [hq6]; exact encT_open t
  rw [← hq6] at hT
  refine calls_of_vc (args := [_, _]) Try.func39 c39ok (Nat.le_of_ble_eq_true rfl) ?_
  simp (implicitDefEqProofs := false) only [go_sem, c39]
  refine NewP_intro fun H1 hn1 hf1 hs1 => ?_
  have hc1 := hn1.cell
  have h3' := Rep.ext h3 hf1
  have h4' := Rep.ext h4 hf1
  have h5' := Rep.ext h5 hf1
  have hxb : H.size ≠ b := by have := hwr.lt; omega
  have hxg : ∀ k, g = some k → H.size ≠ k := by
    intro k hk
    obtain ⟨aa, cc, _, ho⟩ := hwr
    have := ho.lt hk
    omega
  have hwr1 : Wr H1 b l g := hwr.fr hf1 (by simp) (by simp)
  simp (implicitDefEqProofs := false) only [go_sem, hc1, hck]
  have hkl := congrArg List.length hH
  simp only [List.length_append] at hkl
  refine (uint_ok t.kind.toNat (by omega) hwr1 (by omega)).mono ?_
  rintro r H0 ⟨rfl, g0, w0⟩
  have hc0 := (Blk.wr hn1 w0 hxb hxg).cell
  by_cases k2 : t.kind = 2
  · rw [if_pos (by omega)] at hH hkl
    simp only [List.length_append] at hkl
    simp (implicitDefEqProofs := false) only [go_sem, hc0, k2]
    refine (int_ok t.lo (by omega) (by omega) w0.1 (by simp only [List.length_append]; omega)).mono ?_
    rintro r Ha ⟨rfl, ga, wa⟩
    have wsa := w0.trans wa
    have hca := (Blk.wr hn1 wsa hxb hxg).cell
    simp (implicitDefEqProofs := false) only [go_sem, hca]
    refine (int_ok t.hi (by omega) (by omega) wa.1 (by simp only [List.length_append]; omega)).mono ?_
    rintro r Hc ⟨rfl, gc, wc⟩
    have ws := wsa.trans wc
    have hcc := (Blk.wr hn1 ws hxb hxg).cell
    have hv0 : (l ++ enc t.kind.toNat ++ enc (zig t.lo) ++ enc (zig t.hi)) ++ (encPs q6 (t.parts.drop 0) (t.names.drop 0) ++ tailB t) = l ++ encT t := by rw [hO, hH]; simp
    simp (implicitDefEqProofs := false) only [go_sem, hcc]
    refine vc_loop (fun (i : Nat) H' => i ≤ t.parts.length ∧ ∃ l' g', WrStep H1 b g H' l' g' ∧ l' ++ (encPs q6 (t.parts.drop i) (t.names.drop i) ++ tailB t) = l ++ encT t)
      (fun i => [(0, .pointer (some ⟨b, 0, none⟩)), (3, .pointer (some ⟨H.size, 0, none⟩)), (44, .slice pa t.parts.length pc), (45, .int .i64 t.parts.length), (46, .int .i64 i)]) (fun i => t.parts.length - i) 0 ?_ ?_ ?_
    · exact ⟨Nat.zero_le _, _, _, ws, hv0⟩
    · simp (implicitDefEqProofs := false) only [go_sem]
    · rintro i H' ⟨hi, l', g', ws', hv⟩
      have hx := (Blk.wr hn1 ws' hxb hxg).cell
      rcases Nat.lt_or_ge i t.parts.length with hlt | hge
      · have hlt' : (i : Int) < (t.parts.length : Int) := by omega
        have h0 : (0 : Int) ≤ (i : Int) := by omega
        obtain ⟨bb, o, c, wn, wp, wr, e1, p0, p1, p2, p3, p4, p5, hp⟩ := PartsA.at (Rep.wr h4' ws') i hlt
        cases e1
        have hw := succ_i64 i t.parts.length hlt (by omega)
        rw [encPs_drop _ hlt] at hv
        have hv2 := congrArg List.length hv
        simp only [List.length_append] at hv2
        simp (implicitDefEqProofs := false) only [go_sem, hlt', h0, p0, p1, p2, p3, p4, p5]
        refine NewP_intro fun H2 hn2 hf2 hs2 => ?_
        simp (implicitDefEqProofs := false) only [go_sem]
        refine Sto_all hn2 rfl (LtA.one6 hp) fun H3 hn3 hf3 hs3 => ?_
        have hfn := new_fr hf2 hf3
        have hc3 := hn3.cell
        have ws3 := ws'.post hfn
        have hx3 := (Blk.wr hn1 ws3 hxb hxg).cell
        have hb3 : H'.size ≠ b := by have := ws'.1.lt; omega
        have hg3 : ∀ k, g' = some k → H'.size ≠ k := by
          intro k hk
          obtain ⟨aa, cc, _, ho⟩ := ws'.1
          have := ho.lt hk
          omega
        have hnm : nameB q6 (t.names.drop i) = [] := by
          have : ¬ t.kind = 6 := by omega
          rw [hq6, decide_eq_false this]; rfl
        rw [hnm] at hv hv2
        simp (implicitDefEqProofs := false) only [go_sem, hx3, k2, hc3]
        refine (ih i hlt (okTs_get hlt hok.2) ws3.1 (Rep.ext hp hfn) (by simp at hv2; omega)).mono ?_
        rintro r H5 ⟨rfl, g5, w5⟩
        simp (implicitDefEqProofs := false) only [go_sem]
        refine loopK_intro (i + 1) (by show t.parts.length - (i + 1) < t.parts.length - i; omega) ?_ ⟨hlt, _, _, ws3.trans w5, ?_⟩
        · simp (implicitDefEqProofs := false) only [go_sem, hw]
        · rw [← hv]; simp
      · have hge' : ¬ (i : Int) < (t.parts.length : Int) := by omega
        rw [List.drop_eq_nil_of_le hge] at hv
        simp only [encPs, List.nil_append] at hv
        have ht : tailB t = [] := by
          have : ¬ t.kind = 10 := by omega
          rw [tailB, if_neg this]
        rw [ht, List.append_nil] at hv
        subst hv
        simp (implicitDefEqProofs := false) only [go_sem, hge', hx, k2]
        exact ⟨_, WrStep.pre hf1 ws'⟩
  by_cases k3 : t.kind = 3
  · rw [if_pos (by omega)] at hH hkl
    simp only [List.length_append] at hkl
    simp (implicitDefEqProofs := false) only [go_sem, hc0, k3]
    refine (int_ok t.lo (by omega) (by omega) w0.1 (by simp only [List.length_append]; omega)).mono ?_
    rintro r Ha ⟨rfl, ga, wa⟩
    have wsa := w0.trans wa
    have hca := (Blk.wr hn1 wsa hxb hxg).cell
    simp (implicitDefEqProofs := false) only [go_sem, hca]
    refine (int_ok t.hi (by omega) (by omega) wa.1 (by simp only [List.length_append]; omega)).mono ?_
    rintro r Hc ⟨rfl, gc, wc⟩
    have ws := wsa.trans wc
    have hcc := (Blk.wr hn1 ws hxb hxg).cell
    have hv0 : (l ++ enc t.kind.toNat ++ enc (zig t.lo) ++ enc (zig t.hi)) ++ (encPs q6 (t.parts.drop 0) (t.names.drop 0) ++ tailB t) = l ++ encT t := by rw [hO, hH]; simp
    simp (implicitDefEqProofs := false) only [go_sem, hcc]
    refine vc_loop (fun (i : Nat) H' => i ≤ t.parts.length ∧ ∃ l' g', WrStep H1 b g H' l' g' ∧ l' ++ (encPs q6 (t.parts.drop i) (t.names.drop i) ++ tailB t) = l ++ encT t)
      (fun i => [(0, .pointer (some ⟨b, 0, none⟩)), (3, .pointer (some ⟨H.size, 0, none⟩)), (44, .slice pa t.parts.length pc), (45, .int .i64 t.parts.length), (46, .int .i64 i)]) (fun i => t.parts.length - i) 0 ?_ ?_ ?_
    · exact ⟨Nat.zero_le _, _, _, ws, hv0⟩
    · simp (implicitDefEqProofs := false) only [go_sem]
    · rintro i H' ⟨hi, l', g', ws', hv⟩
      have hx := (Blk.wr hn1 ws' hxb hxg).cell
      rcases Nat.lt_or_ge i t.parts.length with hlt | hge
      · have hlt' : (i : Int) < (t.parts.length : Int) := by omega
        have h0 : (0 : Int) ≤ (i : Int) := by omega
        obtain ⟨bb, o, c, wn, wp, wr, e1, p0, p1, p2, p3, p4, p5, hp⟩ := PartsA.at (Rep.wr h4' ws') i hlt
        cases e1
        have hw := succ_i64 i t.parts.length hlt (by omega)
        rw [encPs_drop _ hlt] at hv
        have hv2 := congrArg List.length hv
        simp only [List.length_append] at hv2
        simp (implicitDefEqProofs := false) only [go_sem, hlt', h0, p0, p1, p2, p3, p4, p5]
        refine NewP_intro fun H2 hn2 hf2 hs2 => ?_
        simp (implicitDefEqProofs := false) only [go_sem]
        refine Sto_all hn2 rfl (LtA.one6 hp) fun H3 hn3 hf3 hs3 => ?_
        have hfn := new_fr hf2 hf3
        have hc3 := hn3.cell
        have ws3 := ws'.post hfn
        have hx3 := (Blk.wr hn1 ws3 hxb hxg).cell
        have hb3 : H'.size ≠ b := by have := ws'.1.lt; omega
        have hg3 : ∀ k, g' = some k → H'.size ≠ k := by
          intro k hk
          obtain ⟨aa, cc, _, ho⟩ := ws'.1
          have := ho.lt hk
          omega
        have hnm : nameB q6 (t.names.drop i) = [] := by
          have : ¬ t.kind = 6 := by omega
          rw [hq6, decide_eq_false this]; rfl
        rw [hnm] at hv hv2
        simp (implicitDefEqProofs := false) only [go_sem, hx3, k3, hc3]
        refine (ih i hlt (okTs_get hlt hok.2) ws3.1 (Rep.ext hp hfn) (by simp at hv2; omega)).mono ?_
        rintro r H5 ⟨rfl, g5, w5⟩
        simp (implicitDefEqProofs := false) only [go_sem]
        refine loopK_intro (i + 1) (by show t.parts.length - (i + 1) < t.parts.length - i; omega) ?_ ⟨hlt, _, _, ws3.trans w5, ?_⟩
        · simp (implicitDefEqProofs := false) only [go_sem, hw]
        · rw [← hv]; simp
      · have hge' : ¬ (i : Int) < (t.parts.length : Int) := by omega
        rw [List.drop_eq_nil_of_le hge] at hv
        simp only [encPs, List.nil_append] at hv
        have ht : tailB t = [] := by
          have : ¬ t.kind = 10 := by omega
          rw [tailB, if_neg this]
        rw [ht, List.append_nil] at hv
        subst hv
        simp (implicitDefEqProofs := false) only [go_sem, hge', hx, k3]
        exact ⟨_, WrStep.pre hf1 ws'⟩
  by_cases k4 : t.kind = 4
  · rw [if_neg (by omega), if_pos (by omega)] at hH hkl
    simp (implicitDefEqProofs := false) only [go_sem, hc0, k4]
    refine (list_ok w0.1 (Rep.wr h3' w0) (by simp only [List.length_append]; omega)).mono ?_
    rintro r Hc ⟨rfl, gc, wc⟩
    have ws := w0.trans wc
    have hcc := (Blk.wr hn1 ws hxb hxg).cell
    have hv0 : (l ++ enc t.kind.toNat ++ strsB t.names) ++ (encPs q6 (t.parts.drop 0) (t.names.drop 0) ++ tailB t) = l ++ encT t := by rw [hO, hH]; simp
    simp (implicitDefEqProofs := false) only [go_sem, hcc]
    refine vc_loop (fun (i : Nat) H' => i ≤ t.parts.length ∧ ∃ l' g', WrStep H1 b g H' l' g' ∧ l' ++ (encPs q6 (t.parts.drop i) (t.names.drop i) ++ tailB t) = l ++ encT t)
      (fun i => [(0, .pointer (some ⟨b, 0, none⟩)), (3, .pointer (some ⟨H.size, 0, none⟩)), (44, .slice pa t.parts.length pc), (45, .int .i64 t.parts.length), (46, .int .i64 i)]) (fun i => t.parts.length - i) 0 ?_ ?_ ?_
    · exact ⟨Nat.zero_le _, _, _, ws, hv0⟩
    · simp (implicitDefEqProofs := false) only [go_sem]
    · rintro i H' ⟨hi, l', g', ws', hv⟩
      have hx := (Blk.wr hn1 ws' hxb hxg).cell
      rcases Nat.lt_or_ge i t.parts.length with hlt | hge
      · have hlt' : (i : Int) < (t.parts.length : Int) := by omega
        have h0 : (0 : Int) ≤ (i : Int) := by omega
        obtain ⟨bb, o, c, wn, wp, wr, e1, p0, p1, p2, p3, p4, p5, hp⟩ := PartsA.at (Rep.wr h4' ws') i hlt
        cases e1
        have hw := succ_i64 i t.parts.length hlt (by omega)
        rw [encPs_drop _ hlt] at hv
        have hv2 := congrArg List.length hv
        simp only [List.length_append] at hv2
        simp (implicitDefEqProofs := false) only [go_sem, hlt', h0, p0, p1, p2, p3, p4, p5]
        refine NewP_intro fun H2 hn2 hf2 hs2 => ?_
        simp (implicitDefEqProofs := false) only [go_sem]
        refine Sto_all hn2 rfl (LtA.one6 hp) fun H3 hn3 hf3 hs3 => ?_
        have hfn := new_fr hf2 hf3
        have hc3 := hn3.cell
        have ws3 := ws'.post hfn
        have hx3 := (Blk.wr hn1 ws3 hxb hxg).cell
        have hb3 : H'.size ≠ b := by have := ws'.1.lt; omega
        have hg3 : ∀ k, g' = some k → H'.size ≠ k := by
          intro k hk
          obtain ⟨aa, cc, _, ho⟩ := ws'.1
          have := ho.lt hk
          omega
        have hnm : nameB q6 (t.names.drop i) = [] := by
          have : ¬ t.kind = 6 := by omega
          rw [hq6, decide_eq_false this]; rfl
        rw [hnm] at hv hv2
        simp (implicitDefEqProofs := false) only [go_sem, hx3, k4, hc3]
        refine (ih i hlt (okTs_get hlt hok.2) ws3.1 (Rep.ext hp hfn) (by simp at hv2; omega)).mono ?_
        rintro r H5 ⟨rfl, g5, w5⟩
        simp (implicitDefEqProofs := false) only [go_sem]
        refine loopK_intro (i + 1) (by show t.parts.length - (i + 1) < t.parts.length - i; omega) ?_ ⟨hlt, _, _, ws3.trans w5, ?_⟩
        · simp (implicitDefEqProofs := false) only [go_sem, hw]
        · rw [← hv]; simp
      · have hge' : ¬ (i : Int) < (t.parts.length : Int) := by omega
        rw [List.drop_eq_nil_of_le hge] at hv
        simp only [encPs, List.nil_append] at hv
        have ht : tailB t = [] := by
          have : ¬ t.kind = 10 := by omega
          rw [tailB, if_neg this]
        rw [ht, List.append_nil] at hv
        subst hv
        simp (implicitDefEqProofs := false) only [go_sem, hge', hx, k4]
        exact ⟨_, WrStep.pre hf1 ws'⟩
  by_cases k8 : t.kind = 8
  · rw [if_neg (by omega), if_pos (by omega)] at hH hkl
    simp (implicitDefEqProofs := false) only [go_sem, hc0, k8]
    refine (list_ok w0.1 (Rep.wr h3' w0) (by simp only [List.length_append]; omega)).mono ?_
    rintro r Hc ⟨rfl, gc, wc⟩
    have ws := w0.trans wc
    have hcc := (Blk.wr hn1 ws hxb hxg).cell
    have hv0 : (l ++ enc t.kind.toNat ++ strsB t.names) ++ (encPs q6 (t.parts.drop 0) (t.names.drop 0) ++ tailB t) = l ++ encT t := by rw [hO, hH]; simp
    simp (implicitDefEqProofs := false) only [go_sem, hcc]
    refine vc_loop (fun (i : Nat) H' => i ≤ t.parts.length ∧ ∃ l' g', WrStep H1 b g H' l' g' ∧ l' ++ (encPs q6 (t.parts.drop i) (t.names.drop i) ++ tailB t) = l ++ encT t)
      (fun i => [(0, .pointer (some ⟨b, 0, none⟩)), (3, .pointer (some ⟨H.size, 0, none⟩)), (44, .slice pa t.parts.length pc), (45, .int .i64 t.parts.length), (46, .int .i64 i)]) (fun i => t.parts.length - i) 0 ?_ ?_ ?_
    · exact ⟨Nat.zero_le _, _, _, ws, hv0⟩
    · simp (implicitDefEqProofs := false) only [go_sem]
    · rintro i H' ⟨hi, l', g', ws', hv⟩
      have hx := (Blk.wr hn1 ws' hxb hxg).cell
      rcases Nat.lt_or_ge i t.parts.length with hlt | hge
      · have hlt' : (i : Int) < (t.parts.length : Int) := by omega
        have h0 : (0 : Int) ≤ (i : Int) := by omega
        obtain ⟨bb, o, c, wn, wp, wr, e1, p0, p1, p2, p3, p4, p5, hp⟩ := PartsA.at (Rep.wr h4' ws') i hlt
        cases e1
        have hw := succ_i64 i t.parts.length hlt (by omega)
        rw [encPs_drop _ hlt] at hv
        have hv2 := congrArg List.length hv
        simp only [List.length_append] at hv2
        simp (implicitDefEqProofs := false) only [go_sem, hlt', h0, p0, p1, p2, p3, p4, p5]
        refine NewP_intro fun H2 hn2 hf2 hs2 => ?_
        simp (implicitDefEqProofs := false) only [go_sem]
        refine Sto_all hn2 rfl (LtA.one6 hp) fun H3 hn3 hf3 hs3 => ?_
        have hfn := new_fr hf2 hf3
        have hc3 := hn3.cell
        have ws3 := ws'.post hfn
        have hx3 := (Blk.wr hn1 ws3 hxb hxg).cell
        have hb3 : H'.size ≠ b := by have := ws'.1.lt; omega
        have hg3 : ∀ k, g' = some k → H'.size ≠ k := by
          intro k hk
          obtain ⟨aa, cc, _, ho⟩ := ws'.1
          have := ho.lt hk
          omega
        have hnm : nameB q6 (t.names.drop i) = [] := by
          have : ¬ t.kind = 6 := by omega
          rw [hq6, decide_eq_false this]; rfl
        rw [hnm] at hv hv2
        simp (implicitDefEqProofs := false) only [go_sem, hx3, k8, hc3]
        refine (ih i hlt (okTs_get hlt hok.2) ws3.1 (Rep.ext hp hfn) (by simp at hv2; omega)).mono ?_
        rintro r H5 ⟨rfl, g5, w5⟩
        simp (implicitDefEqProofs := false) only [go_sem]
        refine loopK_intro (i + 1) (by show t.parts.length - (i + 1) < t.parts.length - i; omega) ?_ ⟨hlt, _, _, ws3.trans w5, ?_⟩
        · simp (implicitDefEqProofs := false) only [go_sem, hw]
        · rw [← hv]; simp
      · have hge' : ¬ (i : Int) < (t.parts.length : Int) := by omega
        rw [List.drop_eq_nil_of_le hge] at hv
        simp only [encPs, List.nil_append] at hv
        have ht : tailB t = [] := by
          have : ¬ t.kind = 10 := by omega
          rw [tailB, if_neg this]
        rw [ht, List.append_nil] at hv
        subst hv
        simp (implicitDefEqProofs := false) only [go_sem, hge', hx, k8]
        exact ⟨_, WrStep.pre hf1 ws'⟩
  by_cases k5 : t.kind = 5
  · rw [if_neg (by omega), if_pos (by omega)] at hH hkl
    simp (implicitDefEqProofs := false) only [go_sem, hc0, k5]
    refine (list_ok w0.1 (Rep.wr h3' w0) (by simp only [List.length_append]; omega)).mono ?_
    rintro r Hc ⟨rfl, gc, wc⟩
    have ws := w0.trans wc
    have hcc := (Blk.wr hn1 ws hxb hxg).cell
    have hv0 : (l ++ enc t.kind.toNat ++ strsB t.names) ++ (encPs q6 (t.parts.drop 0) (t.names.drop 0) ++ tailB t) = l ++ encT t := by rw [hO, hH]; simp
    simp (implicitDefEqProofs := false) only [go_sem, hcc]
    refine vc_loop (fun (i : Nat) H' => i ≤ t.parts.length ∧ ∃ l' g', WrStep H1 b g H' l' g' ∧ l' ++ (encPs q6 (t.parts.drop i) (t.names.drop i) ++ tailB t) = l ++ encT t)
      (fun i => [(0, .pointer (some ⟨b, 0, none⟩)), (3, .pointer (some ⟨H.size, 0, none⟩)), (44, .slice pa t.parts.length pc), (45, .int .i64 t.parts.length), (46, .int .i64 i)]) (fun i => t.parts.length - i) 0 ?_ ?_ ?_
    · exact ⟨Nat.zero_le _, _, _, ws, hv0⟩
    · simp (implicitDefEqProofs := false) only [go_sem]
    · rintro i H' ⟨hi, l', g', ws', hv⟩
      have hx := (Blk.wr hn1 ws' hxb hxg).cell
      rcases Nat.lt_or_ge i t.parts.length with hlt | hge
      · have hlt' : (i : Int) < (t.parts.length : Int) := by omega
        have h0 : (0 : Int) ≤ (i : Int) := by omega
        obtain ⟨bb, o, c, wn, wp, wr, e1, p0, p1, p2, p3, p4, p5, hp⟩ := PartsA.at (Rep.wr h4' ws') i hlt
        cases e1
        have hw := succ_i64 i t.parts.length hlt (by omega)
        rw [encPs_drop _ hlt] at hv
        have hv2 := congrArg List.length hv
        simp only [List.length_append] at hv2
        simp (implicitDefEqProofs := false) only [go_sem, hlt', h0, p0, p1, p2, p3, p4, p5]
        refine NewP_intro fun H2 hn2 hf2 hs2 => ?_
        simp (implicitDefEqProofs := false) only [go_sem]
        refine Sto_all hn2 rfl (LtA.one6 hp) fun H3 hn3 hf3 hs3 => ?_
        have hfn := new_fr hf2 hf3
        have hc3 := hn3.cell
        have ws3 := ws'.post hfn
        have hx3 := (Blk.wr hn1 ws3 hxb hxg).cell
        have hb3 : H'.size ≠ b := by have := ws'.1.lt; omega
        have hg3 : ∀ k, g' = some k → H'.size ≠ k := by
          intro k hk
          obtain ⟨aa, cc, _, ho⟩ := ws'.1
          have := ho.lt hk
          omega
        have hnm : nameB q6 (t.names.drop i) = [] := by
          have : ¬ t.kind = 6 := by omega
          rw [hq6, decide_eq_false this]; rfl
        rw [hnm] at hv hv2
        simp (implicitDefEqProofs := false) only [go_sem, hx3, k5, hc3]
        refine (ih i hlt (okTs_get hlt hok.2) ws3.1 (Rep.ext hp hfn) (by simp at hv2; omega)).mono ?_
        rintro r H5 ⟨rfl, g5, w5⟩
        simp (implicitDefEqProofs := false) only [go_sem]
        refine loopK_intro (i + 1) (by show t.parts.length - (i + 1) < t.parts.length - i; omega) ?_ ⟨hlt, _, _, ws3.trans w5, ?_⟩
        · simp (implicitDefEqProofs := false) only [go_sem, hw]
        · rw [← hv]; simp
      · have hge' : ¬ (i : Int) < (t.parts.length : Int) := by omega
        rw [List.drop_eq_nil_of_le hge] at hv
        simp only [encPs, List.nil_append] at hv
        have ht : tailB t = [] := by
          have : ¬ t.kind = 10 := by omega
          rw [tailB, if_neg this]
        rw [ht, List.append_nil] at hv
        subst hv
        simp (implicitDefEqProofs := false) only [go_sem, hge', hx, k5]
        exact ⟨_, WrStep.pre hf1 ws'⟩
  by_cases k10 : t.kind = 10
  · rw [if_neg (by omega), if_pos (by omega)] at hH hkl
    simp (implicitDefEqProofs := false) only [go_sem, hc0, k10]
    refine (list_ok w0.1 (Rep.wr h3' w0) (by simp only [List.length_append]; omega)).mono ?_
    rintro r Hc ⟨rfl, gc, wc⟩
    have ws := w0.trans wc
    have hcc := (Blk.wr hn1 ws hxb hxg).cell
    have hv0 : (l ++ enc t.kind.toNat ++ strsB t.names) ++ (encPs q6 (t.parts.drop 0) (t.names.drop 0) ++ tailB t) = l ++ encT t := by rw [hO, hH]; simp
    simp (implicitDefEqProofs := false) only [go_sem, hcc]
    refine vc_loop (fun (i : Nat) H' => i ≤ t.parts.length ∧ ∃ l' g', WrStep H1 b g H' l' g' ∧ l' ++ (encPs q6 (t.parts.drop i) (t.names.drop i) ++ tailB t) = l ++ encT t)
      (fun i => [(0, .pointer (some ⟨b, 0, none⟩)), (3, .pointer (some ⟨H.size, 0, none⟩)), (44, .slice pa t.parts.length pc), (45, .int .i64 t.parts.length), (46, .int .i64 i)]) (fun i => t.parts.length - i) 0 ?_ ?_ ?_
    · exact ⟨Nat.zero_le _, _, _, ws, hv0⟩
    · simp (implicitDefEqProofs := false) only [go_sem]
    · rintro i H' ⟨hi, l', g', ws', hv⟩
      have hx := (Blk.wr hn1 ws' hxb hxg).cell
      rcases Nat.lt_or_ge i t.parts.length with hlt | hge
      · have hlt' : (i : Int) < (t.parts.length : Int) := by omega
        have h0 : (0 : Int) ≤ (i : Int) := by omega
        obtain ⟨bb, o, c, wn, wp, wr, e1, p0, p1, p2, p3, p4, p5, hp⟩ := PartsA.at (Rep.wr h4' ws') i hlt
        cases e1
        have hw := succ_i64 i t.parts.length hlt (by omega)
        rw [encPs_drop _ hlt] at hv
        have hv2 := congrArg List.length hv
        simp only [List.length_append] at hv2
        simp (implicitDefEqProofs := false) only [go_sem, hlt', h0, p0, p1, p2, p3, p4, p5]
        refine NewP_intro fun H2 hn2 hf2 hs2 => ?_
        simp (implicitDefEqProofs := false) only [go_sem]
        refine Sto_all hn2 rfl (LtA.one6 hp) fun H3 hn3 hf3 hs3 => ?_
        have hfn := new_fr hf2 hf3
        have hc3 := hn3.cell
        have ws3 := ws'.post hfn
        have hx3 := (Blk.wr hn1 ws3 hxb hxg).cell
        have hb3 : H'.size ≠ b := by have := ws'.1.lt; omega
        have hg3 : ∀ k, g' = some k → H'.size ≠ k := by
          intro k hk
          obtain ⟨aa, cc, _, ho⟩ := ws'.1
          have := ho.lt hk
          omega
        have hnm : nameB q6 (t.names.drop i) = [] := by
          have : ¬ t.kind = 6 := by omega
          rw [hq6, decide_eq_false this]; rfl
        rw [hnm] at hv hv2
        simp (implicitDefEqProofs := false) only [go_sem, hx3, k10, hc3]
        refine (ih i hlt (okTs_get hlt hok.2) ws3.1 (Rep.ext hp hfn) (by simp at hv2; omega)).mono ?_
        rintro r H5 ⟨rfl, g5, w5⟩
        simp (implicitDefEqProofs := false) only [go_sem]
        refine loopK_intro (i + 1) (by show t.parts.length - (i + 1) < t.parts.length - i; omega) ?_ ⟨hlt, _, _, ws3.trans w5, ?_⟩
        · simp (implicitDefEqProofs := false) only [go_sem, hw]
        · rw [← hv]; simp
      · have hge' : ¬ (i : Int) < (t.parts.length : Int) := by omega
        rw [List.drop_eq_nil_of_le hge] at hv
        simp only [encPs, List.nil_append] at hv
        have ht : tailB t = enc t.rules.length ++ t.rules.flatMap ruleB := by rw [tailB, if_pos k10]
        rw [ht] at hv
        have hv2 := congrArg List.length hv
        simp only [List.length_append] at hv2
        have hcr : IntKind.u64.wrap ((t.rules.length : Nat) : Int) = ((t.rules.length : Nat) : Int) := by unfold maxLen at hrc; rw [wrap_u64_id _ (by omega) (by omega)]
        simp (implicitDefEqProofs := false) only [go_sem, hge', hx, k10, hcr]
        refine (uint_ok t.rules.length (by unfold maxLen at hrc; omega) ws'.1 (by omega)).mono ?_
        rintro r H6 ⟨rfl, g6, w6⟩
        have ws6 := ws'.trans w6
        have hx6 := (Blk.wr hn1 ws6 hxb hxg).cell
        simp (implicitDefEqProofs := false) only [go_sem, hx6]
        refine vc_loop (fun (j : Nat) H' => j ≤ t.rules.length ∧ ∃ l' g', WrStep H1 b g H' l' g' ∧ l' ++ (t.rules.drop j).flatMap ruleB = l ++ encT t)
          (fun j => [(0, .pointer (some ⟨b, 0, none⟩)), (82, .slice ra t.rules.length rc), (83, .int .i64 t.rules.length), (84, .int .i64 j)]) (fun j => t.rules.length - j) 0 ?_ ?_ ?_
        · exact ⟨Nat.zero_le _, _, _, ws6, by rw [← hv]; simp⟩
        · simp (implicitDefEqProofs := false) only [go_sem]
        · rintro j H7 ⟨hj, l7, g7, ws7, hvj⟩
          rcases Nat.lt_or_ge j t.rules.length with hlt2 | hge2
          · have hlt2' : (j : Int) < (t.rules.length : Int) := by omega
            have h02 : (0 : Int) ≤ (j : Int) := by omega
            have hw2 := succ_i64 j t.rules.length hlt2 (by omega)
            obtain ⟨b7, o7, c7, vi, e7, q0, q1, hq⟩ := RulesA.at (Rep.wr h5' ws7) j hlt2
            cases e7
            rw [List.drop_eq_getElem_cons hlt2, List.flatMap_cons] at hvj
            have hvj2 := congrArg List.length hvj
            simp only [List.length_append, ruleB, textB] at hvj2
            obtain ⟨ia, ic, rfl, hil, hic⟩ := StrsA.slice hq
            simp (implicitDefEqProofs := false) only [go_sem, hlt2', h02, q0, q1, sv]
            refine NewP_intro fun H8 hn8 hf8 hs8 => ?_
            simp (implicitDefEqProofs := false) only [go_sem]
            refine Sto_all hn8 rfl (one2 (Rep.one1 hq) rfl) fun H9 hn9 hf9 hs9 => ?_
            have hfn := new_fr hf8 hf9
            have hc9 := hn9.cell
            have ws9 := ws7.post hfn
            have hb9 : H7.size ≠ b := by have := ws7.1.lt; omega
            have hg9 : ∀ k, g7 = some k → H7.size ≠ k := by
              intro k hk
              obtain ⟨aa, cc, _, ho⟩ := ws7.1
              have := ho.lt hk
              omega
            simp (implicitDefEqProofs := false) only [go_sem, hc9]
            refine (list_ok ws9.1 (Rep.ext hq hfn) (by omega)).mono ?_
            rintro r H10 ⟨rfl, g10, w10⟩
            have hc10 := (Blk.wr hn9 w10 hb9 hg9).cell
            simp (implicitDefEqProofs := false) only [go_sem, hc10]
            refine (text_ok t.rules[j].thn w10.1 (by simp only [List.length_append]; omega)).mono ?_
            rintro r H11 ⟨rfl, g11, w11⟩
            simp (implicitDefEqProofs := false) only [go_sem]
            refine loopK_intro (j + 1) (by show t.rules.length - (j + 1) < t.rules.length - j; omega) ?_ ⟨hlt2, _, _, (ws9.trans w10).trans w11, ?_⟩
            · simp (implicitDefEqProofs := false) only [go_sem, hw2]
            · rw [← hvj]; simp [ruleB, textB]
          · have hge2' : ¬ (j : Int) < (t.rules.length : Int) := by omega
            rw [List.drop_eq_nil_of_le hge2] at hvj
            simp only [List.flatMap_nil, List.append_nil] at hvj
            subst hvj
            simp (implicitDefEqProofs := false) only [go_sem, hge2']
            exact ⟨_, WrStep.pre hf1 ws7⟩
  by_cases k6 : t.kind = 6
  · rw [if_neg (by omega), if_neg (by omega), if_pos k6] at hH hkl
    have hcn : IntKind.u64.wrap ((t.names.length : Nat) : Int) = ((t.names.length : Nat) : Int) := by unfold maxLen at hnc; rw [wrap_u64_id _ (by omega) (by omega)]
    simp (implicitDefEqProofs := false) only [go_sem, hc0, k6, hcn]
    refine (uint_ok t.names.length (by unfold maxLen at hnc; omega) w0.1 (by simp only [List.length_append]; omega)).mono ?_
    rintro r Hc ⟨rfl, gc, wc⟩
    have ws := w0.trans wc
    have hcc := (Blk.wr hn1 ws hxb hxg).cell
    have hv0 : (l ++ enc t.kind.toNat ++ enc t.names.length) ++ (encPs q6 (t.parts.drop 0) (t.names.drop 0) ++ tailB t) = l ++ encT t := by rw [hO, hH]; simp
    simp (implicitDefEqProofs := false) only [go_sem, hcc]
    refine vc_loop (fun (i : Nat) H' => i ≤ t.parts.length ∧ ∃ l' g', WrStep H1 b g H' l' g' ∧ l' ++ (encPs q6 (t.parts.drop i) (t.names.drop i) ++ tailB t) = l ++ encT t)
      (fun i => [(0, .pointer (some ⟨b, 0, none⟩)), (3, .pointer (some ⟨H.size, 0, none⟩)), (44, .slice pa t.parts.length pc), (45, .int .i64 t.parts.length), (46, .int .i64 i)]) (fun i => t.parts.length - i) 0 ?_ ?_ ?_
    · exact ⟨Nat.zero_le _, _, _, ws, hv0⟩
    · simp (implicitDefEqProofs := false) only [go_sem]
    · rintro i H' ⟨hi, l', g', ws', hv⟩
      have hx := (Blk.wr hn1 ws' hxb hxg).cell
      rcases Nat.lt_or_ge i t.parts.length with hlt | hge
      · have hlt' : (i : Int) < (t.parts.length : Int) := by omega
        have h0 : (0 : Int) ≤ (i : Int) := by omega
        obtain ⟨bb, o, c, wn, wp, wr, e1, p0, p1, p2, p3, p4, p5, hp⟩ := PartsA.at (Rep.wr h4' ws') i hlt
        cases e1
        have hw := succ_i64 i t.parts.length hlt (by omega)
        rw [encPs_drop _ hlt] at hv
        have hv2 := congrArg List.length hv
        simp only [List.length_append] at hv2
        simp (implicitDefEqProofs := false) only [go_sem, hlt', h0, p0, p1, p2, p3, p4, p5]
        refine NewP_intro fun H2 hn2 hf2 hs2 => ?_
        simp (implicitDefEqProofs := false) only [go_sem]
        refine Sto_all hn2 rfl (LtA.one6 hp) fun H3 hn3 hf3 hs3 => ?_
        have hfn := new_fr hf2 hf3
        have hc3 := hn3.cell
        have ws3 := ws'.post hfn
        have hx3 := (Blk.wr hn1 ws3 hxb hxg).cell
        have hb3 : H'.size ≠ b := by have := ws'.1.lt; omega
        have hg3 : ∀ k, g' = some k → H'.size ≠ k := by
          intro k hk
          obtain ⟨aa, cc, _, ho⟩ := ws'.1
          have := ho.lt hk
          omega
        have hd6 : q6 = true := by rw [hq6]; exact decide_eq_true k6
        by_cases hn : i < t.names.length
        · have hn' : (i : Int) < (t.names.length : Int) := by omega
          obtain ⟨b2, o2, c2, e2, q2⟩ := StrsA.at (Rep.wr h3' ws3) i hn
          cases e2
          have hnm : nameB q6 (t.names.drop i) = textB t.names[i] := by
            rw [hd6, List.drop_eq_getElem_cons hn]; rfl
          rw [hnm] at hv hv2
          simp only [textB, List.length_append] at hv2
          simp (implicitDefEqProofs := false) only [go_sem, hx3, k6, hn', h0, q2]
          refine (text_ok t.names[i] ws3.1 (by omega)).mono ?_
          rintro r H4 ⟨rfl, g4, w4⟩
          have ws4 := ws3.trans w4
          have hc4 := (Blk.wr hn3 w4 hb3 hg3).cell
          simp (implicitDefEqProofs := false) only [go_sem, hc4]
          refine (ih i hlt (okTs_get hlt hok.2) w4.1 (Rep.wr (Rep.ext hp hfn) w4) (by simp only [List.length_append]; omega)).mono ?_
          rintro r H5 ⟨rfl, g5, w5⟩
          simp (implicitDefEqProofs := false) only [go_sem]
          refine loopK_intro (i + 1) (by show t.parts.length - (i + 1) < t.parts.length - i; omega) ?_ ⟨hlt, _, _, ws4.trans w5, ?_⟩
          · simp (implicitDefEqProofs := false) only [go_sem, hw]
          · rw [← hv]; simp [textB]
        · have hn' : ¬ (i : Int) < (t.names.length : Int) := by omega
          have hnm : nameB q6 (t.names.drop i) = [] := by
            rw [hd6, List.drop_eq_nil_of_le (by omega)]; rfl
          rw [hnm] at hv hv2
          simp (implicitDefEqProofs := false) only [go_sem, hx3, k6, hn', hc3]
          refine (ih i hlt (okTs_get hlt hok.2) ws3.1 (Rep.ext hp hfn) (by simp at hv2; omega)).mono ?_
          rintro r H5 ⟨rfl, g5, w5⟩
          simp (implicitDefEqProofs := false) only [go_sem]
          refine loopK_intro (i + 1) (by show t.parts.length - (i + 1) < t.parts.length - i; omega) ?_ ⟨hlt, _, _, ws3.trans w5, ?_⟩
          · simp (implicitDefEqProofs := false) only [go_sem, hw]
          · rw [← hv]; simp
      · have hge' : ¬ (i : Int) < (t.parts.length : Int) := by omega
        rw [List.drop_eq_nil_of_le hge] at hv
        simp only [encPs, List.nil_append] at hv
        have ht : tailB t = [] := by
          have : ¬ t.kind = 10 := by omega
          rw [tailB, if_neg this]
        rw [ht, List.append_nil] at hv
        subst hv
        simp (implicitDefEqProofs := false) only [go_sem, hge', hx, k6]
        exact ⟨_, WrStep.pre hf1 ws'⟩
  rw [if_neg (by omega), if_neg (by omega), if_neg k6] at hH hkl
  have ws := w0
  have hv0 : (l ++ enc t.kind.toNat) ++ (encPs q6 (t.parts.drop 0) (t.names.drop 0) ++ tailB t) = l ++ encT t := by rw [hO, hH]; simp
  simp (implicitDefEqProofs := false) only [go_sem, hc0, k2, k3, k4, k8, k5, k10, k6]
  refine vc_loop (fun (i : Nat) H' => i ≤ t.parts.length ∧ ∃ l' g', WrStep H1 b g H' l' g' ∧ l' ++ (encPs q6 (t.parts.drop i) (t.names.drop i) ++ tailB t) = l ++ encT t)
    (fun i => [(0, .pointer (some ⟨b, 0, none⟩)), (3, .pointer (some ⟨H.size, 0, none⟩)), (44, .slice pa t.parts.length pc), (45, .int .i64 t.parts.length), (46, .int .i64 i)]) (fun i => t.parts.length - i) 0 ?_ ?_ ?_
  · exact ⟨Nat.zero_le _, _, _, ws, hv0⟩
  · simp (implicitDefEqProofs := false) only [go_sem]
  · rintro i H' ⟨hi, l', g', ws', hv⟩
    have hx := (Blk.wr hn1 ws' hxb hxg).cell
    rcases Nat.lt_or_ge i t.parts.length with hlt | hge
    · have hlt' : (i : Int) < (t.parts.length : Int) := by omega
      have h0 : (0 : Int) ≤ (i : Int) := by omega
      obtain ⟨bb, o, c, wn, wp, wr, e1, p0, p1, p2, p3, p4, p5, hp⟩ := PartsA.at (Rep.wr h4' ws') i hlt
      cases e1
      have hw := succ_i64 i t.parts.length hlt (by omega)
      rw [encPs_drop _ hlt] at hv
      have hv2 := congrArg List.length hv
      simp only [List.length_append] at hv2
      simp (implicitDefEqProofs := false) only [go_sem, hlt', h0, p0, p1, p2, p3, p4, p5]
      refine NewP_intro fun H2 hn2 hf2 hs2 => ?_
      simp (implicitDefEqProofs := false) only [go_sem]
      refine Sto_all hn2 rfl (LtA.one6 hp) fun H3 hn3 hf3 hs3 => ?_
      have hfn := new_fr hf2 hf3
      have hc3 := hn3.cell
      have ws3 := ws'.post hfn
      have hx3 := (Blk.wr hn1 ws3 hxb hxg).cell
      have hb3 : H'.size ≠ b := by have := ws'.1.lt; omega
      have hg3 : ∀ k, g' = some k → H'.size ≠ k := by
        intro k hk
        obtain ⟨aa, cc, _, ho⟩ := ws'.1
        have := ho.lt hk
        omega
      have hnm : nameB q6 (t.names.drop i) = [] := by
        have : ¬ t.kind = 6 := by omega
        rw [hq6, decide_eq_false this]; rfl
      rw [hnm] at hv hv2
      simp (implicitDefEqProofs := false) only [go_sem, hx3, k2, k3, k4, k8, k5, k10, k6, hc3]
      refine (ih i hlt (okTs_get hlt hok.2) ws3.1 (Rep.ext hp hfn) (by simp at hv2; omega)).mono ?_
      rintro r H5 ⟨rfl, g5, w5⟩
      simp (implicitDefEqProofs := false) only [go_sem]
      refine loopK_intro (i + 1) (by show t.parts.length - (i + 1) < t.parts.length - i; omega) ?_ ⟨hlt, _, _, ws3.trans w5, ?_⟩
      · simp (implicitDefEqProofs := false) only [go_sem, hw]
      · rw [← hv]; simp
    · have hge' : ¬ (i : Int) < (t.parts.length : Int) := by omega
      rw [List.drop_eq_nil_of_le hge] at hv
      simp only [encPs, List.nil_append] at hv
      have ht : tailB t = [] := by
        have : ¬ t.kind = 10 := by omega
        rw [tailB, if_neg this]
      rw [ht, List.append_nil] at hv
      subst hv
      simp (implicitDefEqProofs := false) only [go_sem, hge', hx, k2, k3, k4, k8, k5, k10, k6]
      exact ⟨_, WrStep.pre hf1 ws'⟩

end Go.Proofs.Ytcilkhjadljaaaa
end
section
/- A field's part: contract. -/
set_option linter.unusedSimpArgs false
set_option linter.unusedVariables false
set_option maxRecDepth 8000
namespace Go.Proofs.Ytcilkhjadljaaaa
open Gx Go

def Lt.zero : Lt := .mk 0 0 0 [] [] []
theorem zeroA (H : Heap) (M : List Nat) : LtA H M Lt.zero [.int .i64 0, .int .i64 0, .int .i64 0, .slice none 0 0, .slice none 0 0, .slice none 0 0] := by
  have e : ∀ m, Rep H M (.list m []) [.slice none 0 0] := fun m => by
    simp only [Rep, Reps]
    exact ⟨none, 0, [], rfl, Nat.le_refl _, Nat.zero_le _, rfl, by simp, .inl rfl⟩
  exact LtA.mk (l := Lt.zero) (e 1) (e 6) (e 2)
def fieldF (s : Bs) : List Bs → List Lt → Lt × Bool
  | n :: ns, ps => if n = s then (match ps with | p :: _ => (p, true) | [] => (Lt.zero, false)) else fieldF s ns ps.tail
  | [], _ => (Lt.zero, false)
def fieldT (l : Lt) (s : Bs) : Lt × Bool := if l.kind = 6 then fieldF s l.names l.parts else (Lt.zero, false)
theorem fieldF_none {s : Bs} : ∀ {ns : List Bs} {ps : List Lt}, s ∉ ns → fieldF s ns ps = (Lt.zero, false)
  | [], _, _ => rfl
  | n :: ns, ps, h => by
    simp only [List.mem_cons, not_or] at h
    show (if n = s then _ else fieldF s ns ps.tail) = _
    rw [if_neg (Ne.symm h.1), fieldF_none h.2]
theorem fieldF_at {s : Bs} : ∀ {ns : List Bs} {ps : List Lt} {j : Nat} (hj : j < ns.length), ns[j] = s → (∀ (i : Nat) (hi : i < j), ns[i] ≠ s) → fieldF s ns ps = match ps[j]? with | some p => (p, true) | none => (Lt.zero, false)
  | [], _, _, hj, _, _ => by simp at hj
  | n :: ns, ps, 0, _, h, _ => by
    have : n = s := h
    show (if n = s then _ else fieldF s ns ps.tail) = _
    rw [if_pos this]
    cases ps <;> rfl
  | n :: ns, ps, j + 1, hj, h, hi => by
    have : n ≠ s := hi 0 (by omega)
    show (if n = s then _ else fieldF s ns ps.tail) = _
    rw [if_neg this, fieldF_at (j := j) (by simpa using hj) (by simpa using h) (fun i h' => by simpa using hi (i + 1) (by omega))]
    cases ps <;> simp

set_option maxHeartbeats 2000000 in
theorem field_ok {l : Lt} {H : Heap} {cs : List Value} {s : Bs} (ha : LtA H [] l cs) : HCalls Try.prog 24 #[.agg cs.toArray, sv s] H fun r H' => (∃ cs', r = .tuple #[.agg cs'.toArray, .bool (fieldT l s).2] ∧ LtA H' [] (fieldT l s).1 cs') ∧ Fr [] H H' := by
  obtain ⟨vn, vp, vr, rfl, h3, h4, h5⟩ := LtA.open ha
  obtain ⟨pa, pc, rfl, hpl, hpc⟩ := PartsA.slice h4
  refine calls_of_vc (args := [_, _]) Try.func24 c24ok (Nat.le_of_ble_eq_true rfl) ?_
  simp (implicitDefEqProofs := false) only [go_sem, c24]
  refine NewP_intro fun H1 hn1 hf1 hs1 => ?_
  simp (implicitDefEqProofs := false) only [go_sem]
  refine NewP_intro fun H2 hn2 hf2 hs2 => ?_
  have hF2 := hf1.trans hf2
  have hc1 := (hn1.ext hf2).cell
  have hc2 := hn2.cell
  simp (implicitDefEqProofs := false) only [go_sem, hc1]
  refine (index_ok s (h3.ext hF2)).mono ?_
  rintro r H3 ⟨k, rfl, hk, hEq⟩
  obtain rfl := hEq.symm
  have bad : fieldT l s = (Lt.zero, false) → ∀ H4, Fr [H1.size] H2 H4 → (∃ cs', Value.tuple #[.agg #[.int .i64 0, .int .i64 0, .int .i64 0, .slice none 0 0, .slice none 0 0, .slice none 0 0], .bool false] = .tuple #[.agg (List.toArray cs'), .bool (fieldT l s).2] ∧ LtA H4 [] (fieldT l s).1 cs') ∧ Fr [] H H4 := by
    intro hb H4 hf4
    rw [hb]
    exact ⟨⟨_, rfl, zeroA _ _⟩, (hf1.trans hf2).trans' hf4 (by simp; have := hf1.size; omega)⟩
  by_cases k6 : l.kind = 6
  case neg =>
    simp (implicitDefEqProofs := false) only [go_sem, hc1, k6]
    refine Sto_all hn2 rfl (by simp [Value.oneCell']) fun H4 hn4 hf4 hs4 => ?_
    have hc4 := hn4.cell
    simp (implicitDefEqProofs := false) only [go_sem, hc4]
    exact bad (by rw [fieldT, if_neg k6]) H4 hf4
  rcases hk with ⟨hk0, hns⟩ | ⟨j, rfl, hj, hjs, hmin⟩
  · simp (implicitDefEqProofs := false) only [go_sem, hc1, k6, hk0]
    refine Sto_all hn2 rfl (by simp [Value.oneCell']) fun H4 hn4 hf4 hs4 => ?_
    have hc4 := hn4.cell
    simp (implicitDefEqProofs := false) only [go_sem, hc4]
    exact bad (by rw [fieldT, if_pos k6, fieldF_none hns]) H4 hf4
  have hj0 : ¬ (j : Int) < 0 := by omega
  have hj0' : (0 : Int) ≤ (j : Int) := by omega
  rcases Nat.lt_or_ge j l.parts.length with hlt | hge
  · have hlt' : ¬ (l.parts.length : Int) ≤ (j : Int) := by omega
    have hlt2 : (j : Int) < (l.parts.length : Int) := by omega
    have hT : fieldT l s = (l.parts[j], true) := by
      rw [fieldT, if_pos k6, fieldF_at hj hjs hmin, List.getElem?_eq_getElem hlt]
    obtain ⟨bb, o, c, wn, wp, wr, e1, p0, p1, p2, p3, p4, p5, hp⟩ := PartsA.at h4 j hlt
    cases e1
    replace p0 := cellB_fr p0 hF2 (by simp)
    replace p1 := cellB_fr p1 hF2 (by simp)
    replace p2 := cellB_fr p2 hF2 (by simp)
    replace p3 := cellB_fr p3 hF2 (by simp)
    replace p4 := cellB_fr p4 hF2 (by simp)
    replace p5 := cellB_fr p5 hF2 (by simp)
    simp (implicitDefEqProofs := false) only [go_sem, hc1, k6, hj0, hlt', hj0', hlt2, p0, p1, p2, p3, p4, p5]
    refine Sto_all hn2 rfl (LtA.one6 hp) fun H4 hn4 hf4 hs4 => ?_
    have hF4 : Fr [] H H4 := hF2.trans' hf4 (by simp; have := hf1.size; omega)
    have hc4 := hn4.cell
    simp (implicitDefEqProofs := false) only [go_sem, hc4, hT]
    exact ⟨⟨_, rfl, Rep.ext hp hF4⟩, hF4⟩
  · have hge' : (l.parts.length : Int) ≤ (j : Int) := by omega
    simp (implicitDefEqProofs := false) only [go_sem, hc1, k6, hj0, hge']
    refine Sto_all hn2 rfl (by simp [Value.oneCell']) fun H4 hn4 hf4 hs4 => ?_
    have hc4 := hn4.cell
    simp (implicitDefEqProofs := false) only [go_sem, hc4]
    exact bad (by rw [fieldT, if_pos k6, fieldF_at hj hjs hmin, List.getElem?_eq_none hge]) H4 hf4

end Go.Proofs.Ytcilkhjadljaaaa
end
section
/- The encoding of a tree; the decoding of one level's bytes. -/
set_option linter.unusedSimpArgs false
set_option linter.unusedVariables false
set_option maxRecDepth 8000
namespace Go.Proofs.Ytcilkhjadljaaaa
open Gx Go

theorem encode_ok {t : Lt} {H : Heap} {cs : List Value} (ha : LtA H [] t cs) (hok : okT t) (hl : (encT t).length < 2^37) : HCalls Try.prog 25 #[.agg cs.toArray] H fun r H' =>
    ∃ a c g', r = .slice a (encT t).length c ∧ Own H' 5 1 r (encT t).length ((encT t).map bv) g' ∧ (∀ k, g' = some k → H.size ≤ k) ∧ Fr [] H H' := by
  obtain ⟨vn, vp, vr, rfl, h3, h4, h5⟩ := LtA.open ha
  refine calls_of_vc (args := [_]) Try.func25 c25ok (Nat.le_of_ble_eq_true rfl) ?_
  simp (implicitDefEqProofs := false) only [go_sem, c25]
  refine NewP_intro fun H1 hn1 hf1 hs1 => ?_
  simp (implicitDefEqProofs := false) only [go_sem]
  refine NewP_intro fun H2 hn2 hf2 hs2 => ?_
  have hF2 := hf1.trans hf2
  have hc1 := (hn1.ext hf2).cell
  have hwr : Wr H2 H1.size [] none := ⟨none, 0, hn2, Own.nil _ _ _⟩
  have hm : LtA H2 (H1.size :: (none : Option Nat).toList) t [.int .i64 t.kind, .int .i64 t.lo, .int .i64 t.hi, vn, vp, vr] :=
    Rep.ext (Rep.stay (ha.ext hf1) (Stays.more (M' := [H1.size]) (by simp))) hf2
  simp (implicitDefEqProofs := false) only [go_sem, hc1]
  refine (write_ok t hok hwr hm (by simpa using (by omega : (encT t).length < 2^38))).mono ?_
  rintro r H3 ⟨rfl, g3, w3⟩
  have hF3 : Fr [] H H3 := hF2.trans' w3.2.1 (by simp; omega)
  simp (implicitDefEqProofs := false) only [go_sem]
  refine (data_ok w3.1 (by simp only [List.nil_append]; omega)).mono ?_
  rintro r H4 ⟨a, c, g', rfl, ho, hg', hf4⟩
  simp only [List.nil_append] at ho ⊢
  simp (implicitDefEqProofs := false) only [go_sem]
  exact ⟨a, c, g', rfl, ho, fun k hk => Nat.le_trans hF3.size (hg' k hk), hF3.trans hf4⟩

theorem nilA (H : Heap) (M : List Nat) (m : Nat) : Rep H M (.list m []) [.slice none 0 0] := by
  simp only [Rep, Reps]
  exact ⟨none, 0, [], rfl, Nat.le_refl _, Nat.zero_le _, rfl, by simp, .inl rfl⟩
theorem bareA (H : Heap) (M : List Nat) (k lo hi : Int) : LtA H M (.mk k lo hi [] [] []) [.int .i64 k, .int .i64 lo, .int .i64 hi, .slice none 0 0, .slice none 0 0, .slice none 0 0] :=
  LtA.mk (l := .mk k lo hi [] [] []) (nilA H M 1) (nilA H M 6) (nilA H M 2)

end Go.Proofs.Ytcilkhjadljaaaa
end
section
/- The reading of lists of names and of trees: what is read. -/
set_option linter.unusedSimpArgs false
set_option linter.unusedVariables false
set_option maxRecDepth 8000
namespace Go.Proofs.Ytcilkhjadljaaaa
open Gx Go

theorem ES : ElemOk Try.prog 22 9 1 16 (.string ⟨⟨[]⟩⟩) := ⟨Try.underlying22, by kernel_rfl, rfl, by decide⟩
theorem EL : ElemOk Try.prog 23 26 6 96 (.agg #[.int .i64 0, .int .i64 0, .int .i64 0, .slice none 0 0, .slice none 0 0, .slice none 0 0]) := ⟨Try.underlying23, by kernel_rfl, rfl, by decide⟩
theorem ER : ElemOk Try.prog 24 50 2 40 (.agg #[.slice none 0 0, .string ⟨⟨[]⟩⟩]) := ⟨Try.underlying24, by kernel_rfl, rfl, by decide⟩

def textsO (L : Bs) : Nat → Pl → List Bs × Pl
  | 0, s => ([], s)
  | n + 1, s => ((bytesO L s).1 :: (textsO L n (bytesO L s).2).1, (textsO L n (bytesO L s).2).2)
def listO (L : Bs) (s : Pl) : List Bs × Pl := textsO L (countO L s).1 (countO L s).2

def partsO (f : Pl → Lt × Pl) (k6 : Bool) (L : Bs) : Nat → Pl → List Bs × List Lt × Pl
  | n + 1, some p =>
    let x := if k6 then bytesO L (some p) else ([], some p)
    let t := f x.2
    let r := partsO f k6 L n t.2
    (if k6 then x.1 :: r.1 else r.1, t.1 :: r.2.1, r.2.2)
  | _, s => ([], [], s)

def rulesO (L : Bs) : Nat → Pl → List Rl × Pl
  | 0, s => ([], s)
  | n + 1, s => match bytesO L (listO L s).2 with
    | (t, none) => ([⟨(listO L s).1, t⟩], none)
    | (t, some p) => (⟨(listO L s).1, t⟩ :: (rulesO L n (some p)).1, (rulesO L n (some p)).2)

structure Hd where
  lo : Int
  hi : Int
  names : List Bs
  n : Nat
  s : Pl
def headO (L : Bs) (k : Nat) (s : Pl) : Hd :=
  if k = 2 ∨ k = 3 then ⟨zag (uintO L s).1, zag (uintO L (uintO L s).2).1, [], 0, (uintO L (uintO L s).2).2⟩
  else if k = 4 ∨ k = 8 ∨ k = 10 then ⟨0, 0, (listO L s).1, 0, (listO L s).2⟩
  else if k = 5 then ⟨0, 0, (listO L s).1, 1, (listO L s).2⟩
  else if k = 7 then ⟨0, 0, [], 2, s⟩
  else if k = 6 then ⟨0, 0, [], (countO L s).1, (countO L s).2⟩
  else ⟨0, 0, [], 0, s⟩
def nodeO (L : Bs) (f : Pl → Lt × Pl) (k : Nat) (s : Pl) : Lt × Pl :=
  let h := headO L k s
  let p := partsO f (k == 6) L h.n h.s
  if k = 10 then (.mk k h.lo h.hi (h.names ++ p.1) p.2.1 (rulesO L (countO L p.2.2).1 (countO L p.2.2).2).1, (rulesO L (countO L p.2.2).1 (countO L p.2.2).2).2)
  else (.mk k h.lo h.hi (h.names ++ p.1) p.2.1 [], p.2.2)
def rT (L : Bs) : Nat → Pl → Lt × Pl
  | 0, _ => (Lt.zero, none)
  | lv + 1, s => if 10 < (uintO L s).1 then (Lt.zero, none) else nodeO L (rT L lv) (uintO L s).1 (uintO L s).2

theorem lsO_disj {H : Heap} {B B' : Nat → Prop} {e e' m m' : Nat} {v v' : Value} {ds ds' : List Dat} {g g' : Option Nat} (h : LsO H B e m v ds g) (h' : LsO H B' e' m' v' ds' g') (ht : e ≠ e') : ∀ b, g = some b → g' ≠ some b := by
  intro b hb hb'
  subst hb; subst hb'
  obtain ⟨css, h1, _⟩ := h'
  exact h.ne' h1 ht rfl
theorem lt_repP {H : Heap} {B : Nat → Prop} {k lo hi : Int} {ns : List Bs} {ps : List Lt} {rs : List Rl} {vn vp vr : Value} (h1 : RepP H B (strsD ns) [vn]) (h2 : RepP H B (partsD ps) [vp]) (h3 : RepP H B (rulesD rs) [vr]) :
    RepP H B (Lt.mk k lo hi ns ps rs).dat [.int .i64 k, .int .i64 lo, .int .i64 hi, vn, vp, vr] := fun M hM => LtA.mk (l := .mk k lo hi ns ps rs) (h1 M hM) (h2 M hM) (h3 M hM)

theorem textsO_len (L : Bs) : ∀ (n : Nat) (s : Pl), (textsO L n s).1.length = n
  | 0, _ => rfl
  | n + 1, s => by simp [textsO, textsO_len L n]

set_option maxHeartbeats 2000000 in
theorem readList_ok {H : Heap} {b : Nat} {L : Bs} {s : Pl} {g : Option Nat} (h : RdO H b L s g) :
    HCalls Try.prog 65 #[.pointer (some ⟨b, 0, none⟩)] H fun r H' => ∃ g', LsO H' (fun x => x < H.size) 9 1 r ((listO L s).1.map strD) g' ∧ (∀ k, g' = some k → H.size ≤ k) ∧ RdO H' b L (listO L s).2 g ∧ Fr [b] H H' := by
  refine calls_of_vc (args := [_]) Try.func65 c65ok (Nat.le_of_ble_eq_true rfl) ?_
  have hn := countO_le L s
  have hL := h.len
  have hb := h.lt
  unfold listO
  obtain ⟨n, hnn⟩ : ∃ n, n = (countO L s).1 := ⟨_, rfl⟩
  obtain ⟨s1, hs1⟩ : ∃ s1, s1 = (countO L s).2 := ⟨_, rfl⟩
  simp (implicitDefEqProofs := false) only [go_sem, c65]
  refine (rcount_o h).mono ?_
  rw [← hnn] at hn
  rw [← hnn, ← hs1]
  rintro r H1 ⟨rfl, h1, hf1⟩
  simp (implicitDefEqProofs := false) only [go_sem]
  refine vc_loop (fun (x : Nat × List Bs × Pl × Value × Option Nat) H' => x.1 ≤ n ∧ x.2.1.length = x.1 ∧ LsO H' (fun y => y < H.size) 9 1 x.2.2.2.1 (x.2.1.map strD) x.2.2.2.2 ∧ (∀ k, x.2.2.2.2 = some k → H.size ≤ k) ∧ RdO H' b L x.2.2.1 g ∧ Fr [b] H H' ∧
      (x.2.1 ++ (textsO L (n - x.1) x.2.2.1).1, (textsO L (n - x.1) x.2.2.1).2) = textsO L n s1)
    (fun x => [(0, .pointer (some ⟨b, 0, none⟩)), (3, x.2.2.2.1), (5, .int .i64 n), (6, .int .i64 x.1)]) (fun x => n - x.1) (0, [], s1, .slice none 0 0, none) ?_ ?_ ?_
  · exact ⟨Nat.zero_le _, rfl, LsO.nil, by simp, h1, hf1, by simp⟩
  · simp (implicitDefEqProofs := false) only [go_sem]
  · rintro ⟨i, done, s', v, g'⟩ H' ⟨hi, hd, hl, hg, hr, hF, he⟩
    simp only at hi hd hl hg hr hF he ⊢
    have hsz := hF.size
    rcases Nat.lt_or_ge i n with hlt | hge
    · have hlt' : (i : Int) < (n : Int) := by omega
      have hw := succ_i64 i n hlt (by unfold maxLen; omega)
      simp (implicitDefEqProofs := false) only [go_sem, hlt']
      refine (rtext_o hr).mono ?_
      rintro r H2 ⟨rfl, hr2, hf2⟩
      have hl2 := hl.fr (B' := fun y => y < H.size) hf2 (by simp; omega) (fun k hk => by have := hg k hk; simp; omega) (fun x hx => .inl hx)
      simp (implicitDefEqProofs := false) only [go_sem]
      refine NewS_intro fun H3 hn3 hf3 hs3 => ?_
      have hl3 := hl2.ext (B' := fun y => y < H.size) hf3 (fun x hx => .inl hx)
      have hdm : (done.map strD).length = i := by simpa using hd
      simp (implicitDefEqProofs := false) only [go_sem]
      refine App_ls ES hl3 Try.underlying22 hn3 rfl (by simp [Value.oneCell']) (RepP.v _) rfl (by unfold maxLen; omega) (by omega) fun a c H4 g4 hl4 hf4 hg4 => ?_
      simp (implicitDefEqProofs := false) only [go_sem]
      have hgs : ∀ k, g = some k → k < H.size := fun k hk => h.ltg hk
      have hnew : ∀ x ∈ g'.toList, H.size ≤ x := fun x hx => hg x (by simpa using hx)
      refine loopK_intro (i + 1, done ++ [(bytesO L s').1], (bytesO L s').2, .slice a ((done.map strD).length + 1) c, g4) (by show n - (i + 1) < n - i; omega) ?_ ⟨hlt, by simp [hd], ?_, ?_, ?_, ?_, ?_⟩
      · simp (implicitDefEqProofs := false) only [go_sem, hw]
      · simpa [strD, sv] using hl4
      · intro k hk
        rcases hg4 k hk with q | q
        · exact hg k q
        · have := hf2.size; have := hf3.size; omega
      · exact (hr2.ext hf3).fr hf4 (fun hm => by have := hnew b hm; omega) (fun k hk hm => by have := hnew k hm; have := hgs k hk; omega)
      · exact ((hF.trans hf2).trans (hf3.mono (by simp))).trans' hf4 fun x hx => .inr (hnew x hx)
      · rw [← he, show n - i = (n - (i + 1)) + 1 by omega]
        simp [textsO]
    · have hge' : ¬ (i : Int) < (n : Int) := by omega
      simp (implicitDefEqProofs := false) only [go_sem, hge']
      have e : n - i = 0 := by omega
      rw [e] at he
      simp only [textsO, List.append_nil] at he
      rw [← he]
      exact ⟨g', hl, hg, hr, hF⟩
end Go.Proofs.Ytcilkhjadljaaaa
end
section
/- What is written is read back: plain facts. -/
set_option linter.unusedSimpArgs false
set_option linter.unusedVariables false
set_option maxRecDepth 8000
namespace Go.Proofs.Ytcilkhjadljaaaa
open Gx Go

/-- These bytes stand at this place. -/
def AtL (L : Bs) (p : Nat) (w : Bs) : Prop := ∃ r, L.drop p = w ++ r
theorem AtL.left {L : Bs} {p : Nat} {u v : Bs} (h : AtL L p (u ++ v)) : AtL L p u := by
  obtain ⟨r, h⟩ := h
  exact ⟨v ++ r, by rw [h, List.append_assoc]⟩
theorem AtL.right {L : Bs} {p : Nat} {u v : Bs} (h : AtL L p (u ++ v)) : AtL L (p + u.length) v := by
  obtain ⟨r, h⟩ := h
  refine ⟨r, ?_⟩
  rw [← List.drop_drop, h, List.append_assoc, List.drop_left]
theorem AtL.le {L : Bs} {p : Nat} {w : Bs} (h : AtL L p w) (h0 : 0 < w.length) : p + w.length ≤ L.length := by
  obtain ⟨r, h⟩ := h
  have := congrArg List.length h
  simp only [List.length_drop, List.length_append] at this
  omega
theorem AtL.le' {L : Bs} {p : Nat} {w : Bs} (h : AtL L p w) (hp : p ≤ L.length) : p + w.length ≤ L.length := by
  obtain ⟨r, h⟩ := h
  have := congrArg List.length h
  simp only [List.length_drop, List.length_append] at this
  omega

theorem num_at {L : Bs} {p n : Nat} (h : AtL L p (enc n)) (hn : n < 2^64) : num (L.drop p) = some (n, (enc n).length) := by
  obtain ⟨r, h⟩ := h
  rw [h]; exact num_enc n hn r
theorem uintO_at {L : Bs} {p n : Nat} (h : AtL L p (enc n)) (hn : n < 2^64) : uintO L (some p) = (n, some (p + (enc n).length)) := by
  simp only [uintO, num_at h hn]
theorem countO_at {L : Bs} {p n : Nat} {u : Bs} (h : AtL L p (enc n ++ u)) (hn : n ≤ u.length) (hL : L.length < 2^64) : countO L (some p) = (n, some (p + (enc n).length)) := by
  have h1 := len_enc_pos n
  have h2 := h.le (by simp; omega)
  simp only [List.length_append] at h2
  have : num (L.drop p) = some (n, (enc n).length) := num_at h.left (by omega)
  simp only [countO, this]
  rw [if_pos (by omega)]
theorem textO_at {L : Bs} {p : Nat} {s : Bs} (h : AtL L p (textB s)) (hL : L.length < 2^64) : bytesO L (some p) = (s, some (p + (textB s).length)) := by
  unfold textB at *
  have h1 := len_enc_pos s.length
  have h2 := h.le (by simp; omega)
  simp only [List.length_append] at h2
  have h3 : num (L.drop p) = some (s.length, (enc s.length).length) := num_at h.left (by omega)
  simp only [bytesO, h3]
  rw [if_pos (by omega)]
  obtain ⟨r, h4⟩ := h.right
  rw [h4, List.take_left, List.length_append, Nat.add_assoc]
theorem textsO_at {L : Bs} (hL : L.length < 2^64) : ∀ (l : List Bs) {p : Nat}, AtL L p (l.flatMap textB) → textsO L l.length (some p) = (l, some (p + (l.flatMap textB).length))
  | [], p, _ => by simp [textsO]
  | s :: l, p, h => by
    rw [List.flatMap_cons] at h
    simp only [List.length_cons, textsO, textO_at h.left hL, textsO_at hL l h.right, List.flatMap_cons, List.length_append, Nat.add_assoc]
theorem flat_len {α : Type} {f : α → Bs} (hf : ∀ x, 1 ≤ (f x).length) : ∀ l : List α, l.length ≤ (l.flatMap f).length
  | [] => by simp
  | x :: l => by
    have h1 := flat_len hf l
    have h2 := hf x
    rw [List.flatMap_cons, List.length_append, List.length_cons]; omega
theorem textB_pos (s : Bs) : 1 ≤ (textB s).length := by
  have := len_enc_pos s.length
  unfold textB; rw [List.length_append]; omega
theorem strsB_pos (l : List Bs) : 1 ≤ (strsB l).length := by
  have := len_enc_pos l.length
  unfold strsB; rw [List.length_append]; omega
theorem ruleB_pos (r : Rl) : 1 ≤ (ruleB r).length := by
  have := strsB_pos r.ifs
  unfold ruleB; rw [List.length_append]; omega
theorem listO_at {L : Bs} {p : Nat} {l : List Bs} (h : AtL L p (strsB l)) (hL : L.length < 2^64) : listO L (some p) = (l, some (p + (strsB l).length)) := by
  unfold strsB at *
  have h1 := countO_at h (flat_len textB_pos l) hL
  simp only [listO, h1, textsO_at hL l h.right, List.length_append, Nat.add_assoc]
theorem rulesO_at {L : Bs} (hL : L.length < 2^64) : ∀ (l : List Rl) {p : Nat}, AtL L p (l.flatMap ruleB) → rulesO L l.length (some p) = (l, some (p + (l.flatMap ruleB).length))
  | [], p, _ => by simp [rulesO]
  | r :: l, p, h => by
    rw [List.flatMap_cons] at h
    have h1 := h.left
    unfold ruleB at h1
    have e1 := listO_at h1.left hL
    have e2 := textO_at h1.right hL
    have e3 := rulesO_at hL l h.right
    have e : p + (ruleB r).length = p + (strsB r.ifs).length + (textB r.thn).length := by unfold ruleB; rw [List.length_append]; omega
    rw [e] at e3
    simp only [List.length_cons, rulesO, e1, e2, e3, List.flatMap_cons, List.length_append, e]
    simp only [Prod.mk.injEq, Option.some.injEq, true_and]
    omega

theorem headB_pos (t : Lt) : 1 ≤ (headB t).length := by
  have := len_enc_pos t.kind.toNat
  unfold headB; rw [List.length_append]; omega
theorem encT_pos (t : Lt) : 1 ≤ (encT t).length := by
  have := headB_pos t
  rw [encT_open, List.length_append]; omega
theorem encPs_len (k6 : Bool) : ∀ (ps : List Lt) (ns : List Bs), ps.length ≤ (encPs k6 ps ns).length
  | [], _ => by simp [encPs]
  | p :: ps, ns => by
    have h1 := encPs_len k6 ps ns.tail
    have h2 := encT_pos p
    simp only [encPs, List.length_append, List.length_cons]; omega

theorem partsO_at {L : Bs} (hL : L.length < 2^64) {f : Pl → Lt × Pl} (k6 : Bool) : ∀ (ps : List Lt) (ns : List Bs), (k6 = true → ns.length = ps.length) → (∀ t ∈ ps, ∀ q, AtL L q (encT t) → f (some q) = (t, some (q + (encT t).length))) → ∀ {p : Nat},
    AtL L p (encPs k6 ps ns) → partsO f k6 L ps.length (some p) = (if k6 then ns else [], ps, some (p + (encPs k6 ps ns).length))
  | [], ns, hn, _, p, _ => by
    cases k6
    · simp [partsO, encPs]
    · have : ns = [] := List.eq_nil_of_length_eq_zero (by simpa using hn rfl)
      subst this
      simp [partsO, encPs]
  | t :: ps, ns, hn, hf, p, h => by
    simp only [encPs] at h
    cases k6 with
    | false =>
      have e0 : nameB false ns = [] := rfl
      rw [e0, List.nil_append] at h
      have h1 := hf t (by simp) p h.left
      have h2 := partsO_at hL false ps ns.tail (by simp) (fun t ht => hf t (by simp [ht])) h.right
      simp only [List.length_cons, partsO, Bool.false_eq_true, if_false, h1, h2, encPs, e0, List.nil_append, List.length_append, Nat.add_assoc]
    | true =>
      match ns, hn with
      | [], hn => have := hn rfl; simp at this
      | n :: ns, hn =>
        have e0 : nameB true (n :: ns) = textB n := rfl
        rw [e0] at h
        have h0 := textO_at h.left hL
        have h1 := hf t (by simp) _ h.right.left
        have h2 := partsO_at hL true ps ns (fun _ => by have := hn rfl; simpa using this) (fun t ht => hf t (by simp [ht])) h.right.right
        simp only [List.length_cons, partsO, if_true, h0, h1, h2, encPs, e0, List.tail_cons, List.length_append]
        simp only [Nat.add_assoc]

theorem depTs_mem {k : Nat} : ∀ {ps : List Lt}, depTs ps ≤ k → ∀ p ∈ ps, depT p ≤ k
  | [], _, p, hp => by cases hp
  | q :: ps, h, p, hp => by
    simp only [depTs] at h
    rcases List.mem_cons.1 hp with rfl | hp
    · omega
    · exact depTs_mem (by omega) p hp

theorem visT_zero' {d n : Nat} {l : Lt} (h : (visT d n l).1 = 0) : d ≤ 6 ∧ nodeE l = 0 ∧ ∀ p ∈ l.parts, ∃ m, (visT (d + 1) m p).1 = 0 := by
  rw [visT_open] at h
  split at h
  · cases h
  rename_i h1
  split at h
  · rename_i h2; exact absurd h h2
  rename_i h2
  refine ⟨by omega, by simpa using h2, ?_⟩
  have key : ∀ {ps : List Lt} {d n : Nat}, (visTs d n ps).1 = 0 → ∀ p ∈ ps, ∃ m, (visT d m p).1 = 0 := by
    intro ps
    induction ps with
    | nil => intro d n _ p hp; cases hp
    | cons q ps ih =>
      intro d n h p hp
      simp only [visTs] at h
      split at h
      · rename_i h1; exact absurd h h1
      · rename_i h1
        rcases List.mem_cons.1 hp with rfl | hp
        · exact ⟨n, by simpa using h1⟩
        · exact ih h p hp
  exact key h
theorem nodeE_zero {l : Lt} (h : nodeE l = 0) : shapeT l = true ∧ limT l = false ∧ spellT l = true ∧ rngT l = false ∧ chnT l = false := by
  unfold nodeE at h
  cases e1 : shapeT l
  · rw [e1] at h; cases h
  rw [e1] at h
  simp only [if_true, or4] at h
  cases e2 : limT l <;> cases e3 : spellT l <;> cases e4 : rngT l <;> cases e5 : chnT l <;> simp [e2, e3, e4, e5] at h ⊢

theorem shapeT_spec {l : Lt} (h : shapeT l = true) : 0 ≤ l.kind ∧ l.kind ≤ 10 ∧ 1 ≤ l.kind ∧ (l.kind ≠ 2 → l.kind ≠ 3 → l.lo = 0 ∧ l.hi = 0) ∧ (l.kind ≠ 10 → l.rules = []) ∧ (l.kind = 2 ∨ l.kind = 3 → l.parts = [] ∧ l.names = []) ∧ (l.kind = 4 ∨ l.kind = 8 ∨ l.kind = 10 → l.parts = []) ∧
    (l.kind = 5 → l.parts.length = 1) ∧ (l.kind = 7 → l.parts.length = 2 ∧ l.names = []) ∧ (l.kind = 6 → l.names.length = l.parts.length) ∧ (l.kind = 1 ∨ l.kind = 9 → l.parts = [] ∧ l.names = []) := by
  have e : ∀ {α : Type} (x : List α), x = [] ↔ x.length = 0 := fun x => List.length_eq_zero_iff.symm
  simp only [e]
  simp only [shapeT] at h
  split at h
  · simp only [decide_eq_true_eq] at h; omega
  split at h
  · simp only [decide_eq_true_eq] at h; omega
  split at h
  · simp only [decide_eq_true_eq] at h; omega
  split at h
  · simp only [decide_eq_true_eq] at h; omega
  split at h
  · simp only [decide_eq_true_eq] at h; omega
  split at h
  · simp only [decide_eq_true_eq] at h; omega
  split at h
  · simp only [decide_eq_true_eq] at h; omega
  · cases h

theorem rT_at {L : Bs} (hL : L.length < 2^64) (t : Lt) : ∀ {d n lv p : Nat}, (visT d n t).1 = 0 → depT t ≤ lv → AtL L p (encT t) → rT L lv (some p) = (t, some (p + (encT t).length)) := by
  refine ltInd (P := fun t => ∀ {d n lv p : Nat}, (visT d n t).1 = 0 → depT t ≤ lv → AtL L p (encT t) → rT L lv (some p) = (t, some (p + (encT t).length))) ?_ t
  intro t ih d n lv p hv hd ha
  obtain ⟨h6, hnode, hparts⟩ := visT_zero' hv
  obtain ⟨hsh, hlim, hspell, hrng, hchn⟩ := nodeE_zero hnode
  obtain ⟨s1, s2, s3, s4, s5, s6, s7, s8, s9, s10, s11⟩ := shapeT_spec hsh
  replace hrng := of_decide_eq_false hrng
  rw [depT_open] at hd
  obtain ⟨lv', rfl⟩ : ∃ lv', lv = lv' + 1 := ⟨lv - 1, by omega⟩
  have hdp := depTs_mem (ps := t.parts) (k := lv') (by omega)
  have hread : ∀ u ∈ t.parts, ∀ q, AtL L q (encT u) → rT L lv' (some q) = (u, some (q + (encT u).length)) := by
    intro u hu q hq
    obtain ⟨j, hj, rfl⟩ := List.getElem_of_mem hu
    obtain ⟨m, hm⟩ := hparts _ hu
    exact ih j hj hm (hdp _ hu) hq
  rw [encT_open] at ha
  have hlen : (encT t).length = (headB t).length + ((encPs (decide (t.kind = 6)) t.parts t.names).length + (tailB t).length) := by
    rw [encT_open]; simp only [List.length_append]
  obtain ⟨q6, hq6⟩ : ∃ q, q = decide (t.kind = 6) := ⟨_, rfl⟩
  rw [← hq6] at ha hlen
  have q6t : t.kind = 6 → q6 = true := fun e => by rw [hq6]; exact decide_eq_true e
  have q6f : t.kind ≠ 6 → q6 = false := fun e => by rw [hq6]; exact decide_eq_false e
  clear hq6
  obtain ⟨k, lo, hi, ns, ps, rs⟩ := t
  simp only [Lt.kind, Lt.lo, Lt.hi, Lt.names, Lt.parts, Lt.rules] at s1 s2 s3 s4 s5 s6 s7 s8 s9 s10 s11 q6t q6f hrng ha hlen hparts hd hdp hread ⊢
  have hhead : headB (.mk k lo hi ns ps rs) = enc k.toNat ++ (if k = 2 ∨ k = 3 then enc (zig lo) ++ enc (zig hi) else if k = 4 ∨ k = 8 ∨ k = 5 ∨ k = 10 then strsB ns else if k = 6 then enc ns.length else []) := rfl
  have htail : tailB (.mk k lo hi ns ps rs) = if k = 10 then enc rs.length ++ rs.flatMap ruleB else [] := rfl
  rw [hhead, htail] at ha hlen
  have h1 := uintO_at (n := k.toNat) ha.left.left (by omega)
  have hzl : zig lo < 2^64 := by unfold zig; split <;> omega
  have hzh : zig hi < 2^64 := by unfold zig; split <;> omega
  simp only [rT, h1]
  rw [if_neg (by omega)]
  have hkk : ((k.toNat : Nat) : Int) = k := by omega
  simp only [nodeO, hkk]
  by_cases k2 : k = 2 ∨ k = 3
  · have e : headO L k.toNat (some (p + (enc k.toNat).length)) = ⟨lo, hi, [], 0, some (p + (enc k.toNat).length + (enc (zig lo)).length + (enc (zig hi)).length)⟩ := by
      rw [if_pos k2] at ha
      have h2 := uintO_at (n := zig lo) ha.left.right.left hzl
      have h3 := uintO_at (n := zig hi) ha.left.right.right hzh
      unfold headO
      rw [if_pos (by omega)]
      simp only [h2, h3, zag_zig]
    rw [if_pos k2] at hlen
    obtain ⟨rfl, rfl⟩ := s6 k2
    obtain rfl := s5 (by omega)
    simp only [e, partsO]
    rw [if_neg (by omega)]
    rw [if_neg (by omega)] at hlen
    simp only [encPs, List.length_append, List.length_nil] at hlen
    simp only [List.append_nil, Prod.mk.injEq, Option.some.injEq, true_and]
    rw [hlen]; omega
  rw [if_neg k2] at ha hlen
  obtain ⟨rfl, rfl⟩ := s4 (by omega) (by omega)
  by_cases k10 : k = 10
  · subst k10
    obtain rfl := s7 (by omega)
    simp only [encPs, List.nil_append, List.length_nil, Nat.zero_add, or_true, if_true] at ha hlen
    have h2 := listO_at ha.left.right hL
    have e : headO L (10 : Int).toNat (some (p + (enc (10 : Int).toNat).length)) = ⟨0, 0, ns, 0, some (p + (enc (10 : Int).toNat).length + (strsB ns).length)⟩ := by
      unfold headO
      rw [if_neg (by decide), if_pos (by decide)]
      simp only [h2]
    have h3 := ha.right
    simp only [List.length_append] at h3
    rw [← Nat.add_assoc] at h3
    have h4 := countO_at h3 (flat_len ruleB_pos rs) hL
    have h5 := rulesO_at hL rs h3.right
    simp only [e, partsO, h4, h5]
    rw [if_pos (by decide)]
    simp only [List.append_nil, Prod.mk.injEq, Option.some.injEq, true_and]
    rw [hlen]; simp only [List.length_append]; omega
  obtain rfl := s5 k10
  rw [if_neg k10] at ha hlen
  try simp only [List.append_nil] at ha
  try simp only [List.length_nil, Nat.add_zero] at hlen
  -- the parts
  have parts : ∀ (hd : Hd) (w : Bs), headO L k.toNat (some (p + (enc k.toNat).length)) = hd → hd.n = ps.length → hd.lo = 0 → hd.hi = 0 → hd.s = some (p + (enc k.toNat).length + w.length) → (k = 6 → hd.names = []) → (k ≠ 6 → hd.names = ns) →
      AtL L p ((enc k.toNat ++ w) ++ encPs q6 ps ns) → (encT (.mk k 0 0 ns ps [])).length = (enc k.toNat ++ w).length + (encPs q6 ps ns).length →
      (if k.toNat = 10 then ((.mk k (headO L k.toNat (some (p + (enc k.toNat).length))).lo (headO L k.toNat (some (p + (enc k.toNat).length))).hi ((headO L k.toNat (some (p + (enc k.toNat).length))).names ++ (partsO (rT L lv') (k.toNat == 6) L (headO L k.toNat (some (p + (enc k.toNat).length))).n (headO L k.toNat (some (p + (enc k.toNat).length))).s).1) (partsO (rT L lv') (k.toNat == 6) L (headO L k.toNat (some (p + (enc k.toNat).length))).n (headO L k.toNat (some (p + (enc k.toNat).length))).s).2.1 (rulesO L (countO L (partsO (rT L lv') (k.toNat == 6) L (headO L k.toNat (some (p + (enc k.toNat).length))).n (headO L k.toNat (some (p + (enc k.toNat).length))).s).2.2).1 (countO L (partsO (rT L lv') (k.toNat == 6) L (headO L k.toNat (some (p + (enc k.toNat).length))).n (headO L k.toNat (some (p + (enc k.toNat).length))).s).2.2).2).1, (rulesO L (countO L (partsO (rT L lv') (k.toNat == 6) L (headO L k.toNat (some (p + (enc k.toNat).length))).n (headO L k.toNat (some (p + (enc k.toNat).length))).s).2.2).1 (countO L (partsO (rT L lv') (k.toNat == 6) L (headO L k.toNat (some (p + (enc k.toNat).length))).n (headO L k.toNat (some (p + (enc k.toNat).length))).s).2.2).2).2) : Lt × Pl)
        else (.mk k (headO L k.toNat (some (p + (enc k.toNat).length))).lo (headO L k.toNat (some (p + (enc k.toNat).length))).hi ((headO L k.toNat (some (p + (enc k.toNat).length))).names ++ (partsO (rT L lv') (k.toNat == 6) L (headO L k.toNat (some (p + (enc k.toNat).length))).n (headO L k.toNat (some (p + (enc k.toNat).length))).s).1) (partsO (rT L lv') (k.toNat == 6) L (headO L k.toNat (some (p + (enc k.toNat).length))).n (headO L k.toNat (some (p + (enc k.toNat).length))).s).2.1 [], (partsO (rT L lv') (k.toNat == 6) L (headO L k.toNat (some (p + (enc k.toNat).length))).n (headO L k.toNat (some (p + (enc k.toNat).length))).s).2.2)) = (.mk k 0 0 ns ps [], some (p + (encT (.mk k 0 0 ns ps [])).length)) := by
    intro hd w he hn hlo hhi hs hn6 hn6' hat hle
    rw [he, hn, hlo, hhi, hs]
    have hq : (k.toNat == 6) = q6 := by
      by_cases e : k = 6
      · rw [q6t e]; subst e; rfl
      · rw [q6f e]; simp; omega
    have h3 := hat.right
    simp only [List.length_append] at h3
    rw [← Nat.add_assoc] at h3
    have hnl : q6 = true → ns.length = ps.length := by
      intro e
      refine s10 ?_
      by_cases e6 : k = 6
      · exact e6
      · rw [q6f e6] at e; cases e
    have h4 := partsO_at hL q6 ps ns hnl hread h3
    rw [hq, h4, if_neg (by omega)]
    have hnn : hd.names ++ (if q6 = true then ns else []) = ns := by
      by_cases e : k = 6
      · rw [hn6 e, q6t e]; simp
      · rw [hn6' e, q6f e]; simp
    rw [hnn]
    simp only [Prod.mk.injEq, Option.some.injEq, true_and]
    rw [hle]; simp only [List.length_append]; omega
  by_cases kn : k = 4 ∨ k = 8 ∨ k = 5 ∨ k = 10
  · rw [if_pos kn] at ha hlen
    have h2 := listO_at ha.left.right hL
    by_cases k5 : k = 5
    · refine parts _ (strsB ns) (by unfold headO; rw [if_neg (by omega), if_neg (by omega), if_pos (by omega)]) ?_ rfl rfl (by simp only [h2]) (fun e => by omega) (fun _ => by simp only [h2]) ha hlen
      exact (s8 k5).symm
    · refine parts _ (strsB ns) (by unfold headO; rw [if_neg (by omega), if_pos (by omega)]) ?_ rfl rfl (by simp only [h2]) (fun e => by omega) (fun _ => by simp only [h2]) ha hlen
      rw [s7 (by omega)]; rfl
  rw [if_neg kn] at ha hlen
  by_cases k6 : k = 6
  · rw [if_pos k6] at ha hlen
    have hnl : ps.length = ns.length := (s10 k6).symm
    have h3 := ha
    rw [List.append_assoc] at h3
    have h4 := countO_at h3.right (by have := encPs_len q6 ps ns; omega) hL
    refine parts _ (enc ns.length) (by unfold headO; rw [if_neg (by omega), if_neg (by omega), if_neg (by omega), if_neg (by omega), if_pos (by omega)]) (by simp only [h4]; omega) rfl rfl (by simp only [h4]) (fun _ => rfl) (fun e => absurd k6 e) ha hlen
  rw [if_neg k6] at ha hlen
  simp only [List.append_nil] at ha hlen
  have hns : ns = [] := by
    by_cases k7 : k = 7
    · exact (s9 k7).2
    · exact (s11 (by omega)).2
  by_cases k7 : k = 7
  · refine parts _ [] (by unfold headO; rw [if_neg (by omega), if_neg (by omega), if_neg (by omega), if_pos (by omega)]) ?_ rfl rfl (by simp) (fun e => by omega) (fun _ => hns.symm) (by simpa using ha) (by simpa using hlen)
    exact (s9 k7).1.symm
  · refine parts _ [] (by unfold headO; rw [if_neg (by omega), if_neg (by omega), if_neg (by omega), if_neg (by omega), if_neg (by omega)]) ?_ rfl rfl (by simp) (fun e => by omega) (fun _ => hns.symm) (by simpa using ha) (by simpa using hlen)
    rw [(s11 (by omega)).1]; rfl

end Go.Proofs.Ytcilkhjadljaaaa
end
section
/- The reference's reading, plainly; that both readings agree. -/
set_option linter.unusedSimpArgs false
set_option linter.unusedVariables false
set_option maxRecDepth 8000
namespace Go.Proofs.Ytcilkhjadljaaaa
open Gx Go

def textsF (L : Bs) : Nat → Pl → List Bs × Pl
  | n + 1, some p => ((bytesO L (some p)).1 :: (textsF L n (bytesO L (some p)).2).1, (textsF L n (bytesO L (some p)).2).2)
  | _, s => ([], s)
def listF (L : Bs) (s : Pl) : List Bs × Pl := textsF L (countO L s).1 (countO L s).2
def rulesF (L : Bs) : Nat → Pl → List Rl × Pl
  | n + 1, some p => (⟨(listF L (some p)).1, (bytesO L (listF L (some p)).2).1⟩ :: (rulesF L n (bytesO L (listF L (some p)).2).2).1, (rulesF L n (bytesO L (listF L (some p)).2).2).2)
  | _, s => ([], s)
def headF (L : Bs) (k : Nat) (s : Pl) : Hd :=
  if k = 2 ∨ k = 3 then ⟨zag (uintO L s).1, zag (uintO L (uintO L s).2).1, [], 0, (uintO L (uintO L s).2).2⟩
  else if k = 4 ∨ k = 8 ∨ k = 10 then ⟨0, 0, (listF L s).1, 0, (listF L s).2⟩
  else if k = 5 then ⟨0, 0, (listF L s).1, 1, (listF L s).2⟩
  else if k = 7 then ⟨0, 0, [], 2, s⟩
  else if k = 6 then ⟨0, 0, [], (countO L s).1, if 8 < (countO L s).1 then none else (countO L s).2⟩
  else ⟨0, 0, [], 0, s⟩
def nodeF (L : Bs) (f : Pl → Lt × Pl) (k : Nat) (s : Pl) : Lt × Pl :=
  let h := headF L k s
  let p := partsO f (k == 6) L h.n h.s
  if k = 10 then (.mk k h.lo h.hi (h.names ++ p.1) p.2.1 (rulesF L (countO L p.2.2).1 (countO L p.2.2).2).1, (rulesF L (countO L p.2.2).1 (countO L p.2.2).2).2)
  else (.mk k h.lo h.hi (h.names ++ p.1) p.2.1 [], p.2.2)
def fT (L : Bs) : Nat → Pl → Lt × Pl
  | 0, _ => (Lt.zero, none)
  | lv + 1, s => if (uintO L s).2 = none ∨ (uintO L s).1 < 1 ∨ 10 < (uintO L s).1 then (Lt.zero, none) else nodeF L (fT L lv) (uintO L s).1 (uintO L s).2

theorem textsF_none (L : Bs) (n : Nat) : textsF L n none = ([], none) := by cases n <;> rfl
theorem textsF_zero (L : Bs) (s : Pl) : textsF L 0 s = ([], s) := by cases s <;> rfl
theorem rulesF_none (L : Bs) (n : Nat) : rulesF L n none = ([], none) := by cases n <;> rfl
theorem rulesF_zero (L : Bs) (s : Pl) : rulesF L 0 s = ([], s) := by cases s <;> rfl
theorem textsO_none (L : Bs) : ∀ n, (textsO L n none).2 = none
  | 0 => rfl
  | n + 1 => textsO_none L n
theorem listO_none (L : Bs) : (listO L none).2 = none := textsO_none L _
theorem listF_none (L : Bs) : (listF L none).2 = none := by unfold listF; rw [show countO L none = (0, none) from rfl, textsF_none]
theorem headO_none (L : Bs) (k : Nat) : (headO L k none).s = none := by
  unfold headO
  repeat' split
  all_goals first | rfl | exact listO_none L
theorem headF_none (L : Bs) (k : Nat) : (headF L k none).s = none := by
  unfold headF
  repeat' split
  all_goals first | rfl | exact listF_none L | (split <;> rfl)

theorem texts_eq (L : Bs) : ∀ (n : Nat) (s : Pl) {l : List Bs} {q : Nat}, textsF L n s = (l, some q) ↔ textsO L n s = (l, some q)
  | 0, s, l, q => by rw [textsF_zero]; rfl
  | n + 1, none, l, q => by
    rw [textsF_none]
    constructor
    · intro h; cases h
    · intro h
      have := textsO_none L (n + 1)
      rw [h] at this; cases this
  | n + 1, some p, l, q => by
    simp only [textsF, textsO, Prod.mk.injEq]
    constructor
    · rintro ⟨h1, h2⟩
      obtain ⟨l', e⟩ : ∃ l', textsF L n (bytesO L (some p)).2 = (l', some q) := ⟨_, Prod.ext rfl h2⟩
      have e' := (texts_eq L n _).1 e
      rw [e] at h1
      rw [e']; exact ⟨h1, rfl⟩
    · rintro ⟨h1, h2⟩
      obtain ⟨l', e⟩ : ∃ l', textsO L n (bytesO L (some p)).2 = (l', some q) := ⟨_, Prod.ext rfl h2⟩
      have e' := (texts_eq L n _).2 e
      rw [e] at h1
      rw [e']; exact ⟨h1, rfl⟩
theorem list_eq (L : Bs) (s : Pl) {l : List Bs} {q : Nat} : listF L s = (l, some q) ↔ listO L s = (l, some q) := texts_eq L _ _
theorem list_none (L : Bs) (s : Pl) : (listF L s).2 = none ↔ (listO L s).2 = none := by
  constructor
  · intro h
    cases e : (listO L s).2 with
    | none => rfl
    | some q =>
      have := (list_eq L s).2 (Prod.ext rfl e : listO L s = ((listO L s).1, some q))
      rw [this] at h; cases h
  · intro h
    cases e : (listF L s).2 with
    | none => rfl
    | some q =>
      have := (list_eq L s).1 (Prod.ext rfl e : listF L s = ((listF L s).1, some q))
      rw [this] at h; cases h
theorem rules_eq (L : Bs) : ∀ (n : Nat) (s : Pl) {l : List Rl} {q : Nat}, rulesF L n s = (l, some q) ↔ rulesO L n s = (l, some q)
  | 0, s, l, q => by rw [rulesF_zero]; rfl
  | n + 1, none, l, q => by
    rw [rulesF_none]
    simp only [rulesO, listO_none, bytesO]
    try (constructor <;> (intro h; cases h))
  | n + 1, some p, l, q => by
    cases hl : (listO L (some p)).2 with
    | none =>
      have hl' := (list_none L (some p)).2 hl
      simp only [rulesF, rulesO, hl, hl', bytesO, rulesF_none]
      try (constructor <;> (intro h; cases h))
    | some r =>
      have e1 : listO L (some p) = ((listO L (some p)).1, some r) := Prod.ext rfl hl
      have e2 := (list_eq L (some p)).2 e1
      simp only [rulesF, rulesO]
      rw [e2, e1]
      simp only
      cases hb : bytesO L (some r) with
      | mk tx s3 =>
        cases s3 with
        | none =>
          simp only [rulesF_none]
          try (constructor <;> (intro h; cases h))
        | some w =>
          simp only [Prod.mk.injEq]
          constructor
          · rintro ⟨h1, h2⟩
            obtain ⟨l', e⟩ : ∃ l', rulesF L n (some w) = (l', some q) := ⟨_, Prod.ext rfl h2⟩
            have e' := (rules_eq L n _).1 e
            rw [e] at h1
            rw [e']; exact ⟨h1, rfl⟩
          · rintro ⟨h1, h2⟩
            obtain ⟨l', e⟩ : ∃ l', rulesO L n (some w) = (l', some q) := ⟨_, Prod.ext rfl h2⟩
            have e' := (rules_eq L n _).2 e
            rw [e] at h1
            rw [e']; exact ⟨h1, rfl⟩

theorem partsO_congr {f g : Pl → Lt × Pl} {k6 : Bool} {L : Bs} : ∀ {n : Nat} {s : Pl} {ns : List Bs} {ps : List Lt} {q : Nat}, (∀ s t q, t ∈ ps → f s = (t, some q) → g s = (t, some q)) → partsO f k6 L n s = (ns, ps, some q) → (∀ s t, f s = (t, none) → True) → (∀ n, partsO f k6 L n none = ([], [], none)) → partsO g k6 L n s = (ns, ps, some q)
  | 0, s, ns, ps, q, h, he, _, _ => by cases s <;> exact he
  | n + 1, none, ns, ps, q, h, he, _, hn => by rw [hn] at he; cases he
  | n + 1, some p, ns, ps, q, h, he, h', hn => by
    simp only [partsO] at he ⊢
    generalize hx : (if k6 = true then bytesO L (some p) else ([], some p)) = x at he ⊢
    obtain ⟨t, s2, ht⟩ : ∃ t s2, f x.2 = (t, s2) := ⟨_, _, rfl⟩
    rw [ht] at he
    simp only [Prod.mk.injEq] at he
    obtain ⟨e1, e2, e3⟩ := he
    cases s2 with
    | none =>
      rw [hn] at e3; cases e3
    | some r =>
      have hg := h x.2 t r (by rw [← e2]; simp) ht
      rw [hg]
      obtain ⟨ns', ps', er⟩ : ∃ ns' ps', partsO f k6 L n (some r) = (ns', ps', some q) := ⟨_, _, Prod.ext rfl (Prod.ext rfl e3)⟩
      rw [er] at e1 e2
      have := partsO_congr (fun s t q ht => h s t q (by rw [← e2]; simp [ht])) er h' hn
      rw [this]
      simp only [e1, e2]
theorem partsO_nil (f : Pl → Lt × Pl) (k6 : Bool) (L : Bs) (n : Nat) : partsO f k6 L n none = ([], [], none) := by cases n <;> rfl
theorem partsO_cnt {f : Pl → Lt × Pl} {k6 : Bool} {L : Bs} : ∀ {n : Nat} {s : Pl} {ns : List Bs} {ps : List Lt} {q : Nat}, partsO f k6 L n s = (ns, ps, some q) → ps.length = n
  | 0, s, ns, ps, q, he => by cases s <;> simp [partsO] at he <;> simp [← he.2.1]
  | n + 1, none, ns, ps, q, he => by cases he
  | n + 1, some p, ns, ps, q, he => by
    simp only [partsO] at he
    generalize hx : (if k6 = true then bytesO L (some p) else ([], some p)) = x at he
    simp only [Prod.mk.injEq] at he
    obtain ⟨e1, e2, e3⟩ := he
    obtain ⟨ns', ps', er⟩ : ∃ ns' ps', partsO f k6 L n (f x.2).2 = (ns', ps', some q) := ⟨_, _, Prod.ext rfl (Prod.ext rfl e3)⟩
    rw [er] at e2
    rw [← e2, List.length_cons, partsO_cnt er]

/-- The heads agree where they do not fail. -/
theorem head_eq {L : Bs} {k : Nat} {s : Pl} {q : Nat} (h : (headF L k s).s = some q) : headF L k s = headO L k s := by
  unfold headF headO at *
  split at h
  · rename_i hc; rw [if_pos hc, if_pos hc]
  rename_i c1
  rw [if_neg c1, if_neg c1]
  split at h
  · rename_i hc
    rw [if_pos hc, if_pos hc]
    have := (list_eq L s).1 (Prod.ext rfl h : listF L s = ((listF L s).1, some q))
    rw [this]; simp only at h ⊢; rw [h]
  rename_i c2
  rw [if_neg c2, if_neg c2]
  split at h
  · rename_i hc
    rw [if_pos hc, if_pos hc]
    have := (list_eq L s).1 (Prod.ext rfl h : listF L s = ((listF L s).1, some q))
    rw [this]; simp only at h ⊢; rw [h]
  rename_i c3
  rw [if_neg c3, if_neg c3]
  split at h
  · rename_i hc; rw [if_pos hc, if_pos hc]
  rename_i c4
  rw [if_neg c4, if_neg c4]
  split at h
  · rename_i hc
    rw [if_pos hc, if_pos hc]
    simp only at h
    split at h
    · cases h
    · rename_i h8; rw [if_neg h8]
  · rename_i hc; rw [if_neg hc, if_neg hc]
theorem head_eq' {L : Bs} {k : Nat} {s : Pl} {q : Nat} (h : (headO L k s).s = some q) (h6 : k = 6 → (headO L k s).n ≤ 8) : headF L k s = headO L k s := by
  unfold headF headO at *
  split at h
  · rename_i hc; rw [if_pos hc, if_pos hc]
  rename_i c1
  rw [if_neg c1] at h6
  rw [if_neg c1, if_neg c1]
  split at h
  · rename_i hc
    rw [if_pos hc, if_pos hc]
    have := (list_eq L s).2 (Prod.ext rfl h : listO L s = ((listO L s).1, some q))
    rw [this]; simp only at h ⊢; rw [h]
  rename_i c2
  rw [if_neg c2] at h6
  rw [if_neg c2, if_neg c2]
  split at h
  · rename_i hc
    rw [if_pos hc, if_pos hc]
    have := (list_eq L s).2 (Prod.ext rfl h : listO L s = ((listO L s).1, some q))
    rw [this]; simp only at h ⊢; rw [h]
  rename_i c3
  rw [if_neg c3] at h6
  rw [if_neg c3, if_neg c3]
  split at h
  · rename_i hc; rw [if_pos hc, if_pos hc]
  rename_i c4
  rw [if_neg c4] at h6
  rw [if_neg c4, if_neg c4]
  split at h
  · rename_i hc
    rw [if_pos hc] at h6
    rw [if_pos hc, if_pos hc]
    have := h6 hc
    simp only at this
    rw [if_neg (by omega)]
  · rename_i hc; rw [if_neg hc, if_neg hc]

theorem fT_rT (L : Bs) : ∀ (lv : Nat) {s : Pl} {t : Lt} {q : Nat}, fT L lv s = (t, some q) → rT L lv s = (t, some q)
  | 0, s, t, q, h => by cases h
  | lv + 1, s, t, q, h => by
    simp only [fT] at h
    simp only [rT]
    split at h
    · cases h
    rename_i hc
    rw [if_neg (by omega)]
    simp only [nodeF] at h
    simp only [nodeO]
    cases hs : (headF L (uintO L s).1 (uintO L s).2).s with
    | none =>
      rw [hs, partsO_nil] at h
      simp only at h
      split at h
      · rw [show countO L none = (0, none) from rfl, rulesF_none] at h; cases h
      · cases h
    | some w =>
      rw [← head_eq hs]
      cases hp : (partsO (fT L lv) ((uintO L s).1 == 6) L (headF L (uintO L s).1 (uintO L s).2).n (headF L (uintO L s).1 (uintO L s).2).s).2.2 with
      | none =>
        rw [hp] at h
        split at h
        · rw [show countO L none = (0, none) from rfl, rulesF_none] at h; cases h
        · cases h
      | some v =>
        obtain ⟨ns, ps, er⟩ : ∃ ns ps, partsO (fT L lv) ((uintO L s).1 == 6) L (headF L (uintO L s).1 (uintO L s).2).n (headF L (uintO L s).1 (uintO L s).2).s = (ns, ps, some v) := ⟨_, _, Prod.ext rfl (Prod.ext rfl hp)⟩
        have er' := partsO_congr (g := rT L lv) (fun s t q _ h => fT_rT L lv h) er (fun _ _ _ => trivial) (partsO_nil _ _ _)
        rw [er] at h
        rw [er']
        simp only at h ⊢
        split at h
        · rename_i hk
          rw [if_pos hk]
          simp only [Prod.mk.injEq] at h
          obtain ⟨h1, h2⟩ := h
          obtain ⟨rs, e⟩ : ∃ rs, rulesF L (countO L (some v)).1 (countO L (some v)).2 = (rs, some q) := ⟨_, Prod.ext rfl h2⟩
          have e' := (rules_eq L _ _).1 e
          rw [e] at h1
          rw [e']
          simp only at h1 ⊢
          rw [h1]
        · rename_i hk
          rw [if_neg hk]; exact h

theorem rT_fT (L : Bs) : ∀ (lv : Nat) {s : Pl} {t : Lt} {q d n : Nat}, rT L lv s = (t, some q) → (visT d n t).1 = 0 → fT L lv s = (t, some q)
  | 0, s, t, q, d, n, h, _ => by cases h
  | lv + 1, s, t, q, d, n, h, hv => by
    simp only [rT] at h
    simp only [fT]
    split at h
    · cases h
    rename_i hc
    obtain ⟨h6, hnode, hparts⟩ := visT_zero' hv
    obtain ⟨hsh, hlim, _, _, _⟩ := nodeE_zero hnode
    obtain ⟨c1, c2, c3, c4, c5, c6, c7, c8, c9, c10, c11⟩ := shapeT_spec hsh
    replace hlim := of_decide_eq_false hlim
    simp only [nodeO] at h
    have hkind : t.kind = ((uintO L s).1 : Nat) := by
      split at h
      · have := congrArg Prod.fst h; simp only at this; rw [← this]; rfl
      · have := congrArg Prod.fst h; simp only at this; rw [← this]; rfl
    cases hu : (uintO L s).2 with
    | none =>
      rw [hu, headO_none, partsO_nil] at h
      simp only at h
      split at h
      · rw [show countO L none = (0, none) from rfl] at h
        cases h
      · cases h
    | some u =>
      rw [hu] at h
      rw [if_neg (by simp only [reduceCtorEq, false_or]; omega)]
      simp only [nodeF]
      cases hs : (headO L (uintO L s).1 (some u)).s with
      | none =>
        rw [hs, partsO_nil] at h
        simp only at h
        split at h
        · rw [show countO L none = (0, none) from rfl] at h; cases h
        · cases h
      | some w =>
        cases hp : (partsO (rT L lv) ((uintO L s).1 == 6) L (headO L (uintO L s).1 (some u)).n (headO L (uintO L s).1 (some u)).s).2.2 with
        | none =>
          rw [hp] at h
          split at h
          · rw [show countO L none = (0, none) from rfl] at h; cases h
          · cases h
        | some v =>
          obtain ⟨ns, ps, er⟩ : ∃ ns ps, partsO (rT L lv) ((uintO L s).1 == 6) L (headO L (uintO L s).1 (some u)).n (headO L (uintO L s).1 (some u)).s = (ns, ps, some v) := ⟨_, _, Prod.ext rfl (Prod.ext rfl hp)⟩
          have hlen := partsO_cnt er
          rw [er] at h
          simp only at h
          have hps : t.parts = ps := by
            split at h
            · have := congrArg Prod.fst h; simp only at this; rw [← this]; rfl
            · have := congrArg Prod.fst h; simp only at this; rw [← this]; rfl
          have hh := head_eq' hs (fun k6 => by
            have k6' : t.kind = 6 := by omega
            have := c10 k6'
            rw [if_pos k6'] at hlim
            rw [← hlen, ← hps]; omega)
          rw [hh]
          have er' := partsO_congr (g := fT L lv) (fun s t' q ht h => by
            obtain ⟨m, hm⟩ := hparts t' (by rw [hps]; exact ht)
            exact rT_fT L lv h hm) er (fun _ _ _ => trivial) (partsO_nil _ _ _)
          rw [er']
          simp only
          split at h
          · rename_i hk
            rw [if_pos hk]
            simp only [Prod.mk.injEq] at h
            obtain ⟨h1, h2⟩ := h
            obtain ⟨rs, e⟩ : ∃ rs, rulesO L (countO L (some v)).1 (countO L (some v)).2 = (rs, some q) := ⟨_, Prod.ext rfl h2⟩
            have e' := (rules_eq L _ _).2 e
            rw [e] at h1
            rw [e']
            simp only at h1 ⊢
            rw [h1]
          · rename_i hk
            rw [if_neg hk]; exact h
end Go.Proofs.Ytcilkhjadljaaaa
end
