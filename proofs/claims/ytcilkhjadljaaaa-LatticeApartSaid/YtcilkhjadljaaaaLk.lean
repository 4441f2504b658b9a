/- The kinds of descriptions: contracts. -/
import Derived.Test.YtcilkhjadljaaaaLr
set_option linter.unusedSimpArgs false
set_option linter.unusedVariables false
set_option maxRecDepth 8000
namespace Go.Proofs.Ytcilkhjadljaaaa
open Gx Go

theorem ltInd {P : Lt → Prop} (h : ∀ l : Lt, (∀ (j : Nat) (hj : j < l.parts.length), P l.parts[j]) → P l) (l : Lt) : P l := by
  have key : ∀ (n : Nat) (l : Lt), l.sz ≤ n → P l := by
    intro n
    induction n with
    | zero =>
      intro a hn
      exfalso
      obtain ⟨k, lo, hi, ns, ps, rs⟩ := a
      simp only [Lt.sz] at hn; omega
    | succ n ih => exact fun l hn => h l fun j hj => ih _ (by have := Lt.sz_part l j hj; omega)
  exact key l.sz l (Nat.le_refl _)

mutual
def chainT : Lt → Bool
  | .mk k _ _ _ ps _ => if k = 1 ∨ k = 2 ∨ k = 3 then true else if k = 7 then decide (ps.length = 2) && chainTs ps else false
def chainTs : List Lt → Bool
  | [] => true
  | p :: ps => chainT p && chainTs ps
end
mutual
def finT : Lt → Bool
  | .mk k _ _ ns ps _ => if k = 9 ∨ (k = 4 ∨ k = 8 ∨ k = 5) ∧ ns.length = 0 then false else finTs ps
def finTs : List Lt → Bool
  | [] => true
  | p :: ps => finT p && finTs ps
end
mutual
def disT : Lt → Bool
  | .mk k _ _ _ ps _ => if k = 8 ∨ k = 10 then false else disTs ps
def disTs : List Lt → Bool
  | [] => true
  | p :: ps => disT p && disTs ps
end
mutual
def depT : Lt → Nat
  | .mk _ _ _ _ ps _ => depTs ps + 1
def depTs : List Lt → Nat
  | [] => 0
  | p :: ps => max (depT p) (depTs ps)
end
theorem chainTs_eq : ∀ l, chainTs l = l.all chainT | [] => rfl | p :: l => by simp [chainTs, chainTs_eq l]
theorem finTs_eq : ∀ l, finTs l = l.all finT | [] => rfl | p :: l => by simp [finTs, finTs_eq l]
theorem disTs_eq : ∀ l, disTs l = l.all disT | [] => rfl | p :: l => by simp [disTs, disTs_eq l]
theorem chainT_open (l : Lt) : chainT l = if l.kind = 1 ∨ l.kind = 2 ∨ l.kind = 3 then true else if l.kind = 7 then decide (l.parts.length = 2) && l.parts.all chainT else false := by
  obtain ⟨k, lo, hi, ns, ps, rs⟩ := l
  simp only [chainT, chainTs_eq]; rfl
theorem finT_open (l : Lt) : finT l = if l.kind = 9 ∨ (l.kind = 4 ∨ l.kind = 8 ∨ l.kind = 5) ∧ l.names.length = 0 then false else l.parts.all finT := by
  obtain ⟨k, lo, hi, ns, ps, rs⟩ := l
  simp only [finT, finTs_eq]; rfl
theorem disT_open (l : Lt) : disT l = if l.kind = 8 ∨ l.kind = 10 then false else l.parts.all disT := by
  obtain ⟨k, lo, hi, ns, ps, rs⟩ := l
  simp only [disT, disTs_eq]; rfl
theorem depT_open (l : Lt) : depT l = depTs l.parts + 1 := by
  obtain ⟨k, lo, hi, ns, ps, rs⟩ := l
  rfl
theorem two_all (p : Lt → Bool) : ∀ (l : List Lt) (h : l.length = 2), l.all p = (p (l[0]'(by omega)) && p (l[1]'(by omega)))
  | [a, b], _ => by simp
theorem all_drop {p : Lt → Bool} {l : List Lt} {i : Nat} (h : i < l.length) : (l.drop i).all p = (p l[i] && (l.drop (i + 1)).all p) := by
  rw [List.drop_eq_getElem_cons h]; rfl
theorem depTs_take : ∀ (l : List Lt) (i : Nat) (h : i < l.length), depTs (l.take (i + 1)) = max (depTs (l.take i)) (depT l[i])
  | p :: l, 0, _ => by simp [depTs]
  | p :: l, i + 1, h => by
    have := depTs_take l i (by simpa using h)
    simp only [List.take_succ_cons, depTs, List.getElem_cons_succ]
    rw [this]; omega
theorem depTs_get : ∀ (l : List Lt) (i : Nat) (h : i < l.length), depT l[i] ≤ depTs l
  | p :: l, 0, _ => by simp [depTs]; omega
  | p :: l, i + 1, h => by
    have := depTs_get l i (by simpa using h)
    simp [depTs]; omega
theorem depTs_take_le : ∀ (l : List Lt) (i : Nat), depTs (l.take i) ≤ depTs l
  | [], i => by simp [depTs]
  | p :: l, 0 => by simp [depTs]
  | p :: l, i + 1 => by
    have := depTs_take_le l i
    simp [depTs]; omega

theorem chain_ok (l : Lt) : ∀ {H : Heap} {cs : List Value}, LtA H [] l cs → HCalls Try.prog 16 #[.agg cs.toArray] H fun r H' => r = .bool (chainT l) ∧ Fr [] H H' := by
  refine ltInd (P := fun l => ∀ {H : Heap} {cs : List Value}, LtA H [] l cs → HCalls Try.prog 16 #[.agg cs.toArray] H fun r H' => r = .bool (chainT l) ∧ Fr [] H H') ?_ l
  intro l ih H cs ha
  obtain ⟨vn, vp, vr, rfl, h3, h4, h5⟩ := LtA.open ha
  obtain ⟨pa, pc, rfl, hpl, hpc⟩ := PartsA.slice h4
  refine calls_of_vc (args := [_]) Try.func16 c16ok (Nat.le_of_ble_eq_true rfl) ?_
  rw [chainT_open]
  simp (implicitDefEqProofs := false) only [go_sem, c16]
  refine NewP_intro fun H1 hn1 hf1 hs1 => ?_
  have hc1 := hn1.cell
  by_cases k1 : l.kind = 1
  · simp (implicitDefEqProofs := false) only [go_sem, hc1, k1, true_or]
    exact hf1
  by_cases k2 : l.kind = 2
  · simp (implicitDefEqProofs := false) only [go_sem, hc1, k2, true_or, or_true]
    exact hf1
  by_cases k3 : l.kind = 3
  · simp (implicitDefEqProofs := false) only [go_sem, hc1, k3, true_or, or_true]
    exact hf1
  by_cases k7 : l.kind = 7
  case neg =>
    simp (implicitDefEqProofs := false) only [go_sem, hc1, k1, k2, k3, k7, or_self]
    exact hf1
  by_cases hlen : l.parts.length = 2
  case neg =>
    have hz : ¬ (l.parts.length : Int) = 2 := by omega
    simp (implicitDefEqProofs := false) only [go_sem, hc1, k7, hz, hlen, or_self, Bool.false_and]
    exact hf1
  obtain ⟨b0, o0, c0, wn, wp, wr, e0, p0, p1, p2, p3, p4, p5, hp⟩ := PartsA.at (h4.ext hf1) 0 (by omega)
  obtain ⟨b1, o1, c1, xn, xp, xr, e1, q0, q1, q2, q3, q4, q5, hq⟩ := PartsA.at (h4.ext hf1) 1 (by omega)
  have e01 := e0
  rw [e1] at e01
  simp only [Value.slice.injEq, Option.some.injEq, Addr.mk.injEq, true_and, and_true] at e01 e0
  obtain ⟨⟨rfl, rfl⟩, rfl⟩ := e01
  cases e1
  simp only [Nat.zero_mul, Nat.add_zero] at p0 p1 p2 p3 p4 p5
  have hz : (l.parts.length : Int) = 2 := by omega
  have hall := two_all chainT l.parts hlen
  rw [hall]
  simp (implicitDefEqProofs := false) only [go_sem, hc1, k7, n2, hlen, or_self, p0, p1, p2, p3, p4, p5, Bool.true_and]
  refine (ih 0 (by omega) hp).mono ?_
  rintro r H2 ⟨rfl, hf2⟩
  cases hv : chainT l.parts[0]
  · simp (implicitDefEqProofs := false) only [go_sem, Bool.false_and]
    exact hf1.trans hf2
  have hc2 := (hn1.ext hf2).cell
  have q0' := cellB_fr q0 hf2 (by simp)
  have q1' := cellB_fr q1 hf2 (by simp)
  have q2' := cellB_fr q2 hf2 (by simp)
  have q3' := cellB_fr q3 hf2 (by simp)
  have q4' := cellB_fr q4 hf2 (by simp)
  have q5' := cellB_fr q5 hf2 (by simp)
  simp only [Nat.one_mul] at q0' q1' q2' q3' q4' q5'
  simp (implicitDefEqProofs := false) only [go_sem, hc2, n2, hlen, q0', q1', q2', q3', q4', q5', Bool.true_and]
  refine (ih 1 (by omega) (Rep.ext hq hf2)).mono ?_
  rintro r H3 ⟨rfl, hf3⟩
  simp (implicitDefEqProofs := false) only [go_sem]
  exact (hf1.trans hf2).trans hf3

theorem fchain_ok (l : Lt) : ∀ {H : Heap} {cs : List Value}, LtA H [] l cs → HCalls Try.prog 17 #[.agg cs.toArray] H fun r H' => r = .bool (chainT l) ∧ Fr [] H H' := by
  refine ltInd (P := fun l => ∀ {H : Heap} {cs : List Value}, LtA H [] l cs → HCalls Try.prog 17 #[.agg cs.toArray] H fun r H' => r = .bool (chainT l) ∧ Fr [] H H') ?_ l
  intro l ih H cs ha
  obtain ⟨vn, vp, vr, rfl, h3, h4, h5⟩ := LtA.open ha
  obtain ⟨pa, pc, rfl, hpl, hpc⟩ := PartsA.slice h4
  refine calls_of_vc (args := [_]) Try.func17 c17ok (Nat.le_of_ble_eq_true rfl) ?_
  rw [chainT_open]
  simp (implicitDefEqProofs := false) only [go_sem, c17]
  refine NewP_intro fun H1 hn1 hf1 hs1 => ?_
  have hc1 := hn1.cell
  by_cases k1 : l.kind = 1
  · simp (implicitDefEqProofs := false) only [go_sem, hc1, k1, true_or]
    exact hf1
  by_cases k2 : l.kind = 2
  · simp (implicitDefEqProofs := false) only [go_sem, hc1, k2, true_or, or_true]
    exact hf1
  by_cases k3 : l.kind = 3
  · simp (implicitDefEqProofs := false) only [go_sem, hc1, k3, true_or, or_true]
    exact hf1
  by_cases k7 : l.kind = 7
  case neg =>
    simp (implicitDefEqProofs := false) only [go_sem, hc1, k1, k2, k3, k7, or_self]
    exact hf1
  by_cases hlen : l.parts.length = 2
  case neg =>
    have hz : ¬ (l.parts.length : Int) = 2 := by omega
    simp (implicitDefEqProofs := false) only [go_sem, hc1, k7, hz, hlen, or_self, Bool.false_and]
    exact hf1
  obtain ⟨b0, o0, c0, wn, wp, wr, e0, p0, p1, p2, p3, p4, p5, hp⟩ := PartsA.at (h4.ext hf1) 0 (by omega)
  obtain ⟨b1, o1, c1, xn, xp, xr, e1, q0, q1, q2, q3, q4, q5, hq⟩ := PartsA.at (h4.ext hf1) 1 (by omega)
  have e01 := e0
  rw [e1] at e01
  simp only [Value.slice.injEq, Option.some.injEq, Addr.mk.injEq, true_and, and_true] at e01 e0
  obtain ⟨⟨rfl, rfl⟩, rfl⟩ := e01
  cases e1
  simp only [Nat.zero_mul, Nat.add_zero] at p0 p1 p2 p3 p4 p5
  have hz : (l.parts.length : Int) = 2 := by omega
  have hall := two_all chainT l.parts hlen
  rw [hall]
  simp (implicitDefEqProofs := false) only [go_sem, hc1, k7, n2, hlen, or_self, p0, p1, p2, p3, p4, p5, Bool.true_and]
  refine (ih 0 (by omega) hp).mono ?_
  rintro r H2 ⟨rfl, hf2⟩
  cases hv : chainT l.parts[0]
  · simp (implicitDefEqProofs := false) only [go_sem, Bool.false_and]
    exact hf1.trans hf2
  have hc2 := (hn1.ext hf2).cell
  have q0' := cellB_fr q0 hf2 (by simp)
  have q1' := cellB_fr q1 hf2 (by simp)
  have q2' := cellB_fr q2 hf2 (by simp)
  have q3' := cellB_fr q3 hf2 (by simp)
  have q4' := cellB_fr q4 hf2 (by simp)
  have q5' := cellB_fr q5 hf2 (by simp)
  simp only [Nat.one_mul] at q0' q1' q2' q3' q4' q5'
  simp (implicitDefEqProofs := false) only [go_sem, hc2, n2, hlen, q0', q1', q2', q3', q4', q5', Bool.true_and]
  refine (ih 1 (by omega) (Rep.ext hq hf2)).mono ?_
  rintro r H3 ⟨rfl, hf3⟩
  simp (implicitDefEqProofs := false) only [go_sem]
  exact (hf1.trans hf2).trans hf3

theorem fin_ok (l : Lt) : ∀ {H : Heap} {cs : List Value}, LtA H [] l cs → HCalls Try.prog 18 #[.agg cs.toArray] H fun r H' => r = .bool (finT l) ∧ Fr [] H H' := by
  refine ltInd (P := fun l => ∀ {H : Heap} {cs : List Value}, LtA H [] l cs → HCalls Try.prog 18 #[.agg cs.toArray] H fun r H' => r = .bool (finT l) ∧ Fr [] H H') ?_ l
  intro l ih H cs ha
  obtain ⟨vn, vp, vr, rfl, h3, h4, h5⟩ := LtA.open ha
  obtain ⟨na, nc, rfl, hnl, hnc⟩ := StrsA.slice h3
  obtain ⟨pa, pc, rfl, hpl, hpc⟩ := PartsA.slice h4
  refine calls_of_vc (args := [_]) Try.func18 c18ok (Nat.le_of_ble_eq_true rfl) ?_
  rw [finT_open]
  simp (implicitDefEqProofs := false) only [go_sem, c18]
  refine NewP_intro fun H1 hn1 hf1 hs1 => ?_
  have hc1 := hn1.cell
  have hz : ((l.names.length : Int) = 0) = (l.names.length = 0) := by apply propext; omega
  have d1 : ¬ (9 : Int) = 4 := by decide
  by_cases k9 : l.kind = 9
  · simp (implicitDefEqProofs := false) only [go_sem, hc1, hz, k9]
    exact hf1
  by_cases k4 : l.kind = 4 ∧ l.names.length = 0
  · simp (implicitDefEqProofs := false) only [go_sem, hc1, hz, k4.1, k4.2]
    exact hf1
  by_cases k8 : l.kind = 8 ∧ l.names.length = 0
  · simp (implicitDefEqProofs := false) only [go_sem, hc1, hz, k8.1, k8.2]
    exact hf1
  by_cases k5 : l.kind = 5 ∧ l.names.length = 0
  · simp (implicitDefEqProofs := false) only [go_sem, hc1, hz, k5.1, k5.2]
    exact hf1
  rw [if_neg (by omega)]
  by_cases e : l.names.length = 0
  · have a4 : ¬ l.kind = 4 := fun h => k4 ⟨h, e⟩
    have a8 : ¬ l.kind = 8 := fun h => k8 ⟨h, e⟩
    have a5 : ¬ l.kind = 5 := fun h => k5 ⟨h, e⟩
    simp (implicitDefEqProofs := false) only [go_sem, hc1, hz, k9, e, a4, a8, a5]
    refine vc_loop (fun (i : Nat) H' => i ≤ l.parts.length ∧ (l.parts.drop i).all finT = l.parts.all finT ∧ Fr [] H H')
      (fun i => [(18, .slice pa l.parts.length pc), (19, .int .i64 l.parts.length), (20, .int .i64 i)]) (fun i => l.parts.length - i) 0 ?_ ?_ ?_
    · exact ⟨Nat.zero_le _, rfl, hf1⟩
    · simp (implicitDefEqProofs := false) only [go_sem]
    · rintro i H' ⟨hi, hv, hf⟩
      rcases Nat.lt_or_ge i l.parts.length with hlt | hge
      · have hlt' : (i : Int) < (l.parts.length : Int) := by omega
        have h0 : (0 : Int) ≤ (i : Int) := by omega
        obtain ⟨b, o, c, wn, wp, wr, e1, p0, p1, p2, p3, p4, p5, hp⟩ := PartsA.at (h4.ext hf) i hlt
        cases e1
        have hw := succ_i64 i l.parts.length hlt (by omega)
        rw [all_drop hlt] at hv
        simp (implicitDefEqProofs := false) only [go_sem, hlt', h0, p0, p1, p2, p3, p4, p5]
        refine NewP_intro fun H2 hn2 hf2 hs2 => ?_
        simp (implicitDefEqProofs := false) only [go_sem]
        refine Sto_all hn2 rfl (LtA.one6 hp) fun H3 hn3 hf3 hs3 => ?_
        have hfn := new_fr hf2 hf3
        have hc3 := hn3.cell
        simp (implicitDefEqProofs := false) only [go_sem, hc3]
        refine (ih i hlt (Rep.ext hp hfn)).mono ?_
        rintro r H4 ⟨rfl, hf4⟩
        cases e : finT l.parts[i]
        · simp (implicitDefEqProofs := false) only [go_sem]
          exact ⟨by rw [← hv, e, Bool.false_and], (hf.trans hfn).trans hf4⟩
        · simp (implicitDefEqProofs := false) only [go_sem]
          refine loopK_intro (i + 1) (by show l.parts.length - (i + 1) < l.parts.length - i; omega) ?_ ⟨hlt, ?_, (hf.trans hfn).trans hf4⟩
          · simp (implicitDefEqProofs := false) only [go_sem, hw]
          · rw [← hv, e, Bool.true_and]
      · have hlt' : ¬ (i : Int) < (l.parts.length : Int) := by omega
        simp (implicitDefEqProofs := false) only [go_sem, hlt']
        rw [List.drop_eq_nil_of_le hge] at hv
        exact ⟨by rw [← hv]; rfl, hf⟩
  by_cases a4 : l.kind = 4
  · simp (implicitDefEqProofs := false) only [go_sem, hc1, hz, e, a4]
    refine vc_loop (fun (i : Nat) H' => i ≤ l.parts.length ∧ (l.parts.drop i).all finT = l.parts.all finT ∧ Fr [] H H')
      (fun i => [(18, .slice pa l.parts.length pc), (19, .int .i64 l.parts.length), (20, .int .i64 i)]) (fun i => l.parts.length - i) 0 ?_ ?_ ?_
    · exact ⟨Nat.zero_le _, rfl, hf1⟩
    · simp (implicitDefEqProofs := false) only [go_sem]
    · rintro i H' ⟨hi, hv, hf⟩
      rcases Nat.lt_or_ge i l.parts.length with hlt | hge
      · have hlt' : (i : Int) < (l.parts.length : Int) := by omega
        have h0 : (0 : Int) ≤ (i : Int) := by omega
        obtain ⟨b, o, c, wn, wp, wr, e1, p0, p1, p2, p3, p4, p5, hp⟩ := PartsA.at (h4.ext hf) i hlt
        cases e1
        have hw := succ_i64 i l.parts.length hlt (by omega)
        rw [all_drop hlt] at hv
        simp (implicitDefEqProofs := false) only [go_sem, hlt', h0, p0, p1, p2, p3, p4, p5]
        refine NewP_intro fun H2 hn2 hf2 hs2 => ?_
        simp (implicitDefEqProofs := false) only [go_sem]
        refine Sto_all hn2 rfl (LtA.one6 hp) fun H3 hn3 hf3 hs3 => ?_
        have hfn := new_fr hf2 hf3
        have hc3 := hn3.cell
        simp (implicitDefEqProofs := false) only [go_sem, hc3]
        refine (ih i hlt (Rep.ext hp hfn)).mono ?_
        rintro r H4 ⟨rfl, hf4⟩
        cases e : finT l.parts[i]
        · simp (implicitDefEqProofs := false) only [go_sem]
          exact ⟨by rw [← hv, e, Bool.false_and], (hf.trans hfn).trans hf4⟩
        · simp (implicitDefEqProofs := false) only [go_sem]
          refine loopK_intro (i + 1) (by show l.parts.length - (i + 1) < l.parts.length - i; omega) ?_ ⟨hlt, ?_, (hf.trans hfn).trans hf4⟩
          · simp (implicitDefEqProofs := false) only [go_sem, hw]
          · rw [← hv, e, Bool.true_and]
      · have hlt' : ¬ (i : Int) < (l.parts.length : Int) := by omega
        simp (implicitDefEqProofs := false) only [go_sem, hlt']
        rw [List.drop_eq_nil_of_le hge] at hv
        exact ⟨by rw [← hv]; rfl, hf⟩
  by_cases a8 : l.kind = 8
  · simp (implicitDefEqProofs := false) only [go_sem, hc1, hz, e, a8]
    refine vc_loop (fun (i : Nat) H' => i ≤ l.parts.length ∧ (l.parts.drop i).all finT = l.parts.all finT ∧ Fr [] H H')
      (fun i => [(18, .slice pa l.parts.length pc), (19, .int .i64 l.parts.length), (20, .int .i64 i)]) (fun i => l.parts.length - i) 0 ?_ ?_ ?_
    · exact ⟨Nat.zero_le _, rfl, hf1⟩
    · simp (implicitDefEqProofs := false) only [go_sem]
    · rintro i H' ⟨hi, hv, hf⟩
      rcases Nat.lt_or_ge i l.parts.length with hlt | hge
      · have hlt' : (i : Int) < (l.parts.length : Int) := by omega
        have h0 : (0 : Int) ≤ (i : Int) := by omega
        obtain ⟨b, o, c, wn, wp, wr, e1, p0, p1, p2, p3, p4, p5, hp⟩ := PartsA.at (h4.ext hf) i hlt
        cases e1
        have hw := succ_i64 i l.parts.length hlt (by omega)
        rw [all_drop hlt] at hv
        simp (implicitDefEqProofs := false) only [go_sem, hlt', h0, p0, p1, p2, p3, p4, p5]
        refine NewP_intro fun H2 hn2 hf2 hs2 => ?_
        simp (implicitDefEqProofs := false) only [go_sem]
        refine Sto_all hn2 rfl (LtA.one6 hp) fun H3 hn3 hf3 hs3 => ?_
        have hfn := new_fr hf2 hf3
        have hc3 := hn3.cell
        simp (implicitDefEqProofs := false) only [go_sem, hc3]
        refine (ih i hlt (Rep.ext hp hfn)).mono ?_
        rintro r H4 ⟨rfl, hf4⟩
        cases e : finT l.parts[i]
        · simp (implicitDefEqProofs := false) only [go_sem]
          exact ⟨by rw [← hv, e, Bool.false_and], (hf.trans hfn).trans hf4⟩
        · simp (implicitDefEqProofs := false) only [go_sem]
          refine loopK_intro (i + 1) (by show l.parts.length - (i + 1) < l.parts.length - i; omega) ?_ ⟨hlt, ?_, (hf.trans hfn).trans hf4⟩
          · simp (implicitDefEqProofs := false) only [go_sem, hw]
          · rw [← hv, e, Bool.true_and]
      · have hlt' : ¬ (i : Int) < (l.parts.length : Int) := by omega
        simp (implicitDefEqProofs := false) only [go_sem, hlt']
        rw [List.drop_eq_nil_of_le hge] at hv
        exact ⟨by rw [← hv]; rfl, hf⟩
  by_cases a5 : l.kind = 5
  · simp (implicitDefEqProofs := false) only [go_sem, hc1, hz, e, a5]
    refine vc_loop (fun (i : Nat) H' => i ≤ l.parts.length ∧ (l.parts.drop i).all finT = l.parts.all finT ∧ Fr [] H H')
      (fun i => [(18, .slice pa l.parts.length pc), (19, .int .i64 l.parts.length), (20, .int .i64 i)]) (fun i => l.parts.length - i) 0 ?_ ?_ ?_
    · exact ⟨Nat.zero_le _, rfl, hf1⟩
    · simp (implicitDefEqProofs := false) only [go_sem]
    · rintro i H' ⟨hi, hv, hf⟩
      rcases Nat.lt_or_ge i l.parts.length with hlt | hge
      · have hlt' : (i : Int) < (l.parts.length : Int) := by omega
        have h0 : (0 : Int) ≤ (i : Int) := by omega
        obtain ⟨b, o, c, wn, wp, wr, e1, p0, p1, p2, p3, p4, p5, hp⟩ := PartsA.at (h4.ext hf) i hlt
        cases e1
        have hw := succ_i64 i l.parts.length hlt (by omega)
        rw [all_drop hlt] at hv
        simp (implicitDefEqProofs := false) only [go_sem, hlt', h0, p0, p1, p2, p3, p4, p5]
        refine NewP_intro fun H2 hn2 hf2 hs2 => ?_
        simp (implicitDefEqProofs := false) only [go_sem]
        refine Sto_all hn2 rfl (LtA.one6 hp) fun H3 hn3 hf3 hs3 => ?_
        have hfn := new_fr hf2 hf3
        have hc3 := hn3.cell
        simp (implicitDefEqProofs := false) only [go_sem, hc3]
        refine (ih i hlt (Rep.ext hp hfn)).mono ?_
        rintro r H4 ⟨rfl, hf4⟩
        cases e : finT l.parts[i]
        · simp (implicitDefEqProofs := false) only [go_sem]
          exact ⟨by rw [← hv, e, Bool.false_and], (hf.trans hfn).trans hf4⟩
        · simp (implicitDefEqProofs := false) only [go_sem]
          refine loopK_intro (i + 1) (by show l.parts.length - (i + 1) < l.parts.length - i; omega) ?_ ⟨hlt, ?_, (hf.trans hfn).trans hf4⟩
          · simp (implicitDefEqProofs := false) only [go_sem, hw]
          · rw [← hv, e, Bool.true_and]
      · have hlt' : ¬ (i : Int) < (l.parts.length : Int) := by omega
        simp (implicitDefEqProofs := false) only [go_sem, hlt']
        rw [List.drop_eq_nil_of_le hge] at hv
        exact ⟨by rw [← hv]; rfl, hf⟩
  simp (implicitDefEqProofs := false) only [go_sem, hc1, hz, k9, e, a4, a8, a5]
  refine vc_loop (fun (i : Nat) H' => i ≤ l.parts.length ∧ (l.parts.drop i).all finT = l.parts.all finT ∧ Fr [] H H')
    (fun i => [(18, .slice pa l.parts.length pc), (19, .int .i64 l.parts.length), (20, .int .i64 i)]) (fun i => l.parts.length - i) 0 ?_ ?_ ?_
  · exact ⟨Nat.zero_le _, rfl, hf1⟩
  · simp (implicitDefEqProofs := false) only [go_sem]
  · rintro i H' ⟨hi, hv, hf⟩
    rcases Nat.lt_or_ge i l.parts.length with hlt | hge
    · have hlt' : (i : Int) < (l.parts.length : Int) := by omega
      have h0 : (0 : Int) ≤ (i : Int) := by omega
      obtain ⟨b, o, c, wn, wp, wr, e1, p0, p1, p2, p3, p4, p5, hp⟩ := PartsA.at (h4.ext hf) i hlt
      cases e1
      have hw := succ_i64 i l.parts.length hlt (by omega)
      rw [all_drop hlt] at hv
      simp (implicitDefEqProofs := false) only [go_sem, hlt', h0, p0, p1, p2, p3, p4, p5]
      refine NewP_intro fun H2 hn2 hf2 hs2 => ?_
      simp (implicitDefEqProofs := false) only [go_sem]
      refine Sto_all hn2 rfl (LtA.one6 hp) fun H3 hn3 hf3 hs3 => ?_
      have hfn := new_fr hf2 hf3
      have hc3 := hn3.cell
      simp (implicitDefEqProofs := false) only [go_sem, hc3]
      refine (ih i hlt (Rep.ext hp hfn)).mono ?_
      rintro r H4 ⟨rfl, hf4⟩
      cases e : finT l.parts[i]
      · simp (implicitDefEqProofs := false) only [go_sem]
        exact ⟨by rw [← hv, e, Bool.false_and], (hf.trans hfn).trans hf4⟩
      · simp (implicitDefEqProofs := false) only [go_sem]
        refine loopK_intro (i + 1) (by show l.parts.length - (i + 1) < l.parts.length - i; omega) ?_ ⟨hlt, ?_, (hf.trans hfn).trans hf4⟩
        · simp (implicitDefEqProofs := false) only [go_sem, hw]
        · rw [← hv, e, Bool.true_and]
    · have hlt' : ¬ (i : Int) < (l.parts.length : Int) := by omega
      simp (implicitDefEqProofs := false) only [go_sem, hlt']
      rw [List.drop_eq_nil_of_le hge] at hv
      exact ⟨by rw [← hv]; rfl, hf⟩

theorem ffin_ok (l : Lt) : ∀ {H : Heap} {cs : List Value}, LtA H [] l cs → HCalls Try.prog 19 #[.agg cs.toArray] H fun r H' => r = .bool (finT l) ∧ Fr [] H H' := by
  refine ltInd (P := fun l => ∀ {H : Heap} {cs : List Value}, LtA H [] l cs → HCalls Try.prog 19 #[.agg cs.toArray] H fun r H' => r = .bool (finT l) ∧ Fr [] H H') ?_ l
  intro l ih H cs ha
  obtain ⟨vn, vp, vr, rfl, h3, h4, h5⟩ := LtA.open ha
  obtain ⟨na, nc, rfl, hnl, hnc⟩ := StrsA.slice h3
  obtain ⟨pa, pc, rfl, hpl, hpc⟩ := PartsA.slice h4
  refine calls_of_vc (args := [_]) Try.func19 c19ok (Nat.le_of_ble_eq_true rfl) ?_
  rw [finT_open]
  simp (implicitDefEqProofs := false) only [go_sem, c19]
  refine NewP_intro fun H1 hn1 hf1 hs1 => ?_
  have hc1 := hn1.cell
  have hz : ((l.names.length : Int) = 0) = (l.names.length = 0) := by apply propext; omega
  have d1 : ¬ (9 : Int) = 4 := by decide
  by_cases k9 : l.kind = 9
  · simp (implicitDefEqProofs := false) only [go_sem, hc1, hz, k9]
    exact hf1
  by_cases k4 : l.kind = 4 ∧ l.names.length = 0
  · simp (implicitDefEqProofs := false) only [go_sem, hc1, hz, k4.1, k4.2]
    exact hf1
  by_cases k8 : l.kind = 8 ∧ l.names.length = 0
  · simp (implicitDefEqProofs := false) only [go_sem, hc1, hz, k8.1, k8.2]
    exact hf1
  by_cases k5 : l.kind = 5 ∧ l.names.length = 0
  · simp (implicitDefEqProofs := false) only [go_sem, hc1, hz, k5.1, k5.2]
    exact hf1
  rw [if_neg (by omega)]
  by_cases e : l.names.length = 0
  · have a4 : ¬ l.kind = 4 := fun h => k4 ⟨h, e⟩
    have a8 : ¬ l.kind = 8 := fun h => k8 ⟨h, e⟩
    have a5 : ¬ l.kind = 5 := fun h => k5 ⟨h, e⟩
    simp (implicitDefEqProofs := false) only [go_sem, hc1, hz, k9, e, a4, a8, a5]
    refine vc_loop (fun (i : Nat) H' => i ≤ l.parts.length ∧ (l.parts.drop i).all finT = l.parts.all finT ∧ Fr [] H H' ∧ Fr [] H1 H')
      (fun i => [(1, .pointer (some ⟨H.size, 0, none⟩)), (3, .int .i64 i)]) (fun i => l.parts.length - i) 0 ?_ ?_ ?_
    · exact ⟨Nat.zero_le _, rfl, hf1, Fr.refl _ _⟩
    · simp (implicitDefEqProofs := false) only [go_sem]
    · rintro i H' ⟨hi, hv, hf, hf1'⟩
      have hx := (hn1.ext hf1').cell
      rcases Nat.lt_or_ge i l.parts.length with hlt | hge
      · have hlt' : (i : Int) < (l.parts.length : Int) := by omega
        have h0 : (0 : Int) ≤ (i : Int) := by omega
        obtain ⟨b, o, c, wn, wp, wr, e1, p0, p1, p2, p3, p4, p5, hp⟩ := PartsA.at (h4.ext hf) i hlt
        cases e1
        have hw := succ_i64 i l.parts.length hlt (by omega)
        rw [all_drop hlt] at hv
        simp (implicitDefEqProofs := false) only [go_sem, hlt', h0, hx, p0, p1, p2, p3, p4, p5]
        refine (ih i hlt hp).mono ?_
        rintro r H4 ⟨rfl, hf4⟩
        cases e : finT l.parts[i]
        · simp (implicitDefEqProofs := false) only [go_sem]
          exact ⟨by rw [← hv, e, Bool.false_and], hf.trans hf4⟩
        · simp (implicitDefEqProofs := false) only [go_sem]
          refine loopK_intro (i + 1) (by show l.parts.length - (i + 1) < l.parts.length - i; omega) ?_ ⟨hlt, ?_, hf.trans hf4, hf1'.trans hf4⟩
          · simp (implicitDefEqProofs := false) only [go_sem, hw]
          · rw [← hv, e, Bool.true_and]
      · have hlt' : ¬ (i : Int) < (l.parts.length : Int) := by omega
        simp (implicitDefEqProofs := false) only [go_sem, hlt', hx]
        rw [List.drop_eq_nil_of_le hge] at hv
        exact ⟨by rw [← hv]; rfl, hf⟩
  simp (implicitDefEqProofs := false) only [go_sem, hc1, hz, k9, e]
  refine vc_loop (fun (i : Nat) H' => i ≤ l.parts.length ∧ (l.parts.drop i).all finT = l.parts.all finT ∧ Fr [] H H' ∧ Fr [] H1 H')
    (fun i => [(1, .pointer (some ⟨H.size, 0, none⟩)), (3, .int .i64 i)]) (fun i => l.parts.length - i) 0 ?_ ?_ ?_
  · exact ⟨Nat.zero_le _, rfl, hf1, Fr.refl _ _⟩
  · simp (implicitDefEqProofs := false) only [go_sem]
  · rintro i H' ⟨hi, hv, hf, hf1'⟩
    have hx := (hn1.ext hf1').cell
    rcases Nat.lt_or_ge i l.parts.length with hlt | hge
    · have hlt' : (i : Int) < (l.parts.length : Int) := by omega
      have h0 : (0 : Int) ≤ (i : Int) := by omega
      obtain ⟨b, o, c, wn, wp, wr, e1, p0, p1, p2, p3, p4, p5, hp⟩ := PartsA.at (h4.ext hf) i hlt
      cases e1
      have hw := succ_i64 i l.parts.length hlt (by omega)
      rw [all_drop hlt] at hv
      simp (implicitDefEqProofs := false) only [go_sem, hlt', h0, hx, p0, p1, p2, p3, p4, p5]
      refine (ih i hlt hp).mono ?_
      rintro r H4 ⟨rfl, hf4⟩
      cases e : finT l.parts[i]
      · simp (implicitDefEqProofs := false) only [go_sem]
        exact ⟨by rw [← hv, e, Bool.false_and], hf.trans hf4⟩
      · simp (implicitDefEqProofs := false) only [go_sem]
        refine loopK_intro (i + 1) (by show l.parts.length - (i + 1) < l.parts.length - i; omega) ?_ ⟨hlt, ?_, hf.trans hf4, hf1'.trans hf4⟩
        · simp (implicitDefEqProofs := false) only [go_sem, hw]
        · rw [← hv, e, Bool.true_and]
    · have hlt' : ¬ (i : Int) < (l.parts.length : Int) := by omega
      simp (implicitDefEqProofs := false) only [go_sem, hlt', hx]
      rw [List.drop_eq_nil_of_le hge] at hv
      exact ⟨by rw [← hv]; rfl, hf⟩

theorem fdis_ok (l : Lt) : ∀ {H : Heap} {cs : List Value}, LtA H [] l cs → HCalls Try.prog 21 #[.agg cs.toArray] H fun r H' => r = .bool (disT l) ∧ Fr [] H H' := by
  refine ltInd (P := fun l => ∀ {H : Heap} {cs : List Value}, LtA H [] l cs → HCalls Try.prog 21 #[.agg cs.toArray] H fun r H' => r = .bool (disT l) ∧ Fr [] H H') ?_ l
  intro l ih H cs ha
  obtain ⟨vn, vp, vr, rfl, h3, h4, h5⟩ := LtA.open ha
  obtain ⟨na, nc, rfl, hnl, hnc⟩ := StrsA.slice h3
  obtain ⟨pa, pc, rfl, hpl, hpc⟩ := PartsA.slice h4
  refine calls_of_vc (args := [_]) Try.func21 c21ok (Nat.le_of_ble_eq_true rfl) ?_
  rw [disT_open]
  simp (implicitDefEqProofs := false) only [go_sem, c21]
  refine NewP_intro fun H1 hn1 hf1 hs1 => ?_
  have hc1 := hn1.cell
  by_cases k8 : l.kind = 8
  · simp (implicitDefEqProofs := false) only [go_sem, hc1, k8]
    exact hf1
  by_cases k10 : l.kind = 10
  · simp (implicitDefEqProofs := false) only [go_sem, hc1, k10]
    exact hf1
  simp (implicitDefEqProofs := false) only [go_sem, hc1, k8, k10]
  refine vc_loop (fun (i : Nat) H' => i ≤ l.parts.length ∧ (l.parts.drop i).all disT = l.parts.all disT ∧ Fr [] H H' ∧ Fr [] H1 H')
    (fun i => [(1, .pointer (some ⟨H.size, 0, none⟩)), (3, .int .i64 i)]) (fun i => l.parts.length - i) 0 ?_ ?_ ?_
  · exact ⟨Nat.zero_le _, rfl, hf1, Fr.refl _ _⟩
  · simp (implicitDefEqProofs := false) only [go_sem]
  · rintro i H' ⟨hi, hv, hf, hf1'⟩
    have hx := (hn1.ext hf1').cell
    rcases Nat.lt_or_ge i l.parts.length with hlt | hge
    · have hlt' : (i : Int) < (l.parts.length : Int) := by omega
      have h0 : (0 : Int) ≤ (i : Int) := by omega
      obtain ⟨b, o, c, wn, wp, wr, e1, p0, p1, p2, p3, p4, p5, hp⟩ := PartsA.at (h4.ext hf) i hlt
      cases e1
      have hw := succ_i64 i l.parts.length hlt (by omega)
      rw [all_drop hlt] at hv
      simp (implicitDefEqProofs := false) only [go_sem, hlt', h0, hx, p0, p1, p2, p3, p4, p5]
      refine (ih i hlt hp).mono ?_
      rintro r H4 ⟨rfl, hf4⟩
      cases e : disT l.parts[i]
      · simp (implicitDefEqProofs := false) only [go_sem]
        exact ⟨by rw [← hv, e, Bool.false_and], hf.trans hf4⟩
      · simp (implicitDefEqProofs := false) only [go_sem]
        refine loopK_intro (i + 1) (by show l.parts.length - (i + 1) < l.parts.length - i; omega) ?_ ⟨hlt, ?_, hf.trans hf4, hf1'.trans hf4⟩
        · simp (implicitDefEqProofs := false) only [go_sem, hw]
        · rw [← hv, e, Bool.true_and]
    · have hlt' : ¬ (i : Int) < (l.parts.length : Int) := by omega
      simp (implicitDefEqProofs := false) only [go_sem, hlt', hx]
      rw [List.drop_eq_nil_of_le hge] at hv
      exact ⟨by rw [← hv]; rfl, hf⟩

/-- IndexFunc on parts, with a function that says E. -/
theorem idxf_ok {f : Nat} {E : Lt → Bool} (hbody : hasBody Try.prog f = true) {H : Heap} {la : List Lt} {v : Value} (ha : PartsA H [] la v)
    (hE : ∀ (j : Nat) (h1 : j < la.length) (H' : Heap) (cs : List Value), LtA H' [] la[j] cs → HCalls Try.prog f #[.agg cs.toArray] H' fun r H'' => r = .bool (E la[j]) ∧ Fr [] H' H'') :
    HCalls Try.prog 57 #[v, .func (.func f) #[] #[]] H fun r H' => ∃ k : Int, r = .int .i64 k ∧ (0 ≤ k ↔ la.any E = true) ∧ Fr [] H H' := by
  obtain ⟨a, ca, rfl, hla, hca⟩ := ha.slice
  refine calls_of_vc (args := [_, _]) Try.func57 c57ok (Nat.le_of_ble_eq_true rfl) ?_
  simp (implicitDefEqProofs := false) only [go_sem, c57]
  refine vc_loop (fun (i : Nat) H' => i ≤ la.length ∧ (la.drop i).any E = la.any E ∧ Fr [] H H')
    (fun i => [(0, .slice a la.length ca), (1, .func (.func f) #[] #[]), (7, .int .i64 la.length), (8, .int .i64 i)]) (fun i => la.length - i) 0 ?_ ?_ ?_
  · exact ⟨Nat.zero_le _, rfl, Fr.refl _ _⟩
  · simp (implicitDefEqProofs := false) only [go_sem]
  · rintro i H' ⟨hi, hv, hf⟩
    rcases Nat.lt_or_ge i la.length with hlt | hge
    · have hlt' : (i : Int) < (la.length : Int) := by omega
      have h0 : (0 : Int) ≤ (i : Int) := by omega
      obtain ⟨b, o, c, wn, wp, wr, e1, p0, p1, p2, p3, p4, p5, hp⟩ := PartsA.at (ha.ext hf) i hlt
      cases e1
      have hw := succ_i64 i la.length hlt (by omega)
      rw [List.drop_eq_getElem_cons hlt, List.any_cons] at hv
      simp (implicitDefEqProofs := false) only [go_sem, hlt', h0, p0, p1, p2, p3, p4, p5]
      refine ⟨hbody, ?_⟩
      refine (hE i hlt H' _ hp).mono ?_
      rintro r H4 ⟨rfl, hf4⟩
      cases e : E la[i]
      · simp (implicitDefEqProofs := false) only [go_sem]
        refine loopK_intro (i + 1) (by show la.length - (i + 1) < la.length - i; omega) ?_ ⟨hlt, ?_, hf.trans hf4⟩
        · simp (implicitDefEqProofs := false) only [go_sem, hw]
        · rw [← hv, e, Bool.false_or]
      · simp (implicitDefEqProofs := false) only [go_sem]
        exact ⟨_, rfl, ⟨fun _ => by rw [← hv, e, Bool.true_or], fun _ => h0⟩, hf.trans hf4⟩
    · have hlt' : ¬ (i : Int) < (la.length : Int) := by omega
      simp (implicitDefEqProofs := false) only [go_sem, hlt']
      rw [List.drop_eq_nil_of_le hge] at hv
      exact ⟨_, rfl, ⟨fun h => absurd h (by decide), fun h => by rw [← hv] at h; cases h⟩, hf⟩
theorem conf_ok {f : Nat} {E : Lt → Bool} (hbody : hasBody Try.prog f = true) {H : Heap} {la : List Lt} {v : Value} (ha : PartsA H [] la v)
    (hE : ∀ (j : Nat) (h1 : j < la.length) (H' : Heap) (cs : List Value), LtA H' [] la[j] cs → HCalls Try.prog f #[.agg cs.toArray] H' fun r H'' => r = .bool (E la[j]) ∧ Fr [] H' H'') :
    HCalls Try.prog 36 #[v, .func (.func f) #[] #[]] H fun r H' => r = .bool (la.any E) ∧ Fr [] H H' := by
  refine calls_of_vc (args := [_, _]) Try.func36 c36ok (Nat.le_of_ble_eq_true rfl) ?_
  simp (implicitDefEqProofs := false) only [go_sem, c36]
  refine (idxf_ok hbody ha hE).mono ?_
  rintro r H1 ⟨k, rfl, hk, hf⟩
  simp (implicitDefEqProofs := false) only [go_sem]
  refine ⟨?_, hf⟩
  congr 1
  rw [Bool.eq_iff_iff, decide_eq_true_eq]
  exact hk

theorem dis_ok (l : Lt) : ∀ {H : Heap} {cs : List Value}, LtA H [] l cs → HCalls Try.prog 20 #[.agg cs.toArray] H fun r H' => r = .bool (disT l) ∧ Fr [] H H' := by
  refine ltInd (P := fun l => ∀ {H : Heap} {cs : List Value}, LtA H [] l cs → HCalls Try.prog 20 #[.agg cs.toArray] H fun r H' => r = .bool (disT l) ∧ Fr [] H H') ?_ l
  intro l ih H cs ha
  obtain ⟨vn, vp, vr, rfl, h3, h4, h5⟩ := LtA.open ha
  obtain ⟨na, nc, rfl, hnl, hnc⟩ := StrsA.slice h3
  obtain ⟨pa, pc, rfl, hpl, hpc⟩ := PartsA.slice h4
  refine calls_of_vc (args := [_]) Try.func20 c20ok (Nat.le_of_ble_eq_true rfl) ?_
  rw [disT_open]
  simp (implicitDefEqProofs := false) only [go_sem, c20]
  refine NewP_intro fun H1 hn1 hf1 hs1 => ?_
  have hc1 := hn1.cell
  by_cases k8 : l.kind = 8
  · simp (implicitDefEqProofs := false) only [go_sem, hc1, k8]
    exact hf1
  by_cases k10 : l.kind = 10
  · simp (implicitDefEqProofs := false) only [go_sem, hc1, k10]
    exact hf1
  simp (implicitDefEqProofs := false) only [go_sem, hc1, k8, k10]
  have h37 : ∀ (j : Nat) (h1 : j < l.parts.length) (H' : Heap) (cs : List Value), LtA H' [] l.parts[j] cs → HCalls Try.prog 37 #[.agg cs.toArray] H' fun r H'' => r = .bool (!disT l.parts[j]) ∧ Fr [] H' H'' := by
    intro j h1 H' cs hp
    obtain ⟨wn, wp, wr, rfl, q3, q4, q5⟩ := LtA.open hp
    refine calls_of_vc (args := [_]) Try.func37 c37ok (Nat.le_of_ble_eq_true rfl) ?_
    simp (implicitDefEqProofs := false) only [go_sem, c37]
    refine NewP_intro fun H1 hn1 hf1 hs1 => ?_
    have hc1 := hn1.cell
    simp (implicitDefEqProofs := false) only [go_sem, hc1]
    refine (ih j h1 (Rep.ext hp hf1)).mono ?_
    rintro r H2 ⟨rfl, hf2⟩
    simp (implicitDefEqProofs := false) only [go_sem]
    exact hf1.trans hf2
  refine (conf_ok (E := fun p => !disT p) (by kernel_rfl) (h4.ext hf1) h37).mono ?_
  rintro r H2 ⟨rfl, hf2⟩
  simp (implicitDefEqProofs := false) only [go_sem]
  refine ⟨?_, hf1.trans hf2⟩
  congr 1
  rw [List.any_eq_not_all_not]
  simp

theorem dep_ok (l : Lt) : ∀ {H : Heap} {cs : List Value}, LtA H [] l cs → depT l < 2^60 → HCalls Try.prog 22 #[.agg cs.toArray] H fun r H' => r = .int .i64 (depT l) ∧ Fr [] H H' := by
  refine ltInd (P := fun l => ∀ {H : Heap} {cs : List Value}, LtA H [] l cs → depT l < 2^60 → HCalls Try.prog 22 #[.agg cs.toArray] H fun r H' => r = .int .i64 (depT l) ∧ Fr [] H H') ?_ l
  intro l ih H cs ha hd
  obtain ⟨vn, vp, vr, rfl, h3, h4, h5⟩ := LtA.open ha
  obtain ⟨pa, pc, rfl, hpl, hpc⟩ := PartsA.slice h4
  refine calls_of_vc (args := [_]) Try.func22 c22ok (Nat.le_of_ble_eq_true rfl) ?_
  rw [depT_open] at hd ⊢
  simp (implicitDefEqProofs := false) only [go_sem, c22]
  refine NewP_intro fun H1 hn1 hf1 hs1 => ?_
  have hc1 := hn1.cell
  have hwd : IntKind.i64.wrap ((depTs l.parts : Int) + 1) = ((depTs l.parts + 1 : Nat) : Int) := by rw [wrap_i64_id _ (by omega) (by omega)]; omega
  have hmx : ∀ a b : Nat, (if (a : Int) < (b : Int) then (b : Int) else (a : Int)) = ((max a b : Nat) : Int) := fun a b => by split <;> omega
  simp (implicitDefEqProofs := false) only [go_sem, hc1]
  refine vc_loop (fun (i : Nat) H' => i ≤ l.parts.length ∧ Fr [] H H')
    (fun i => [(3, .int .i64 (depTs (l.parts.take i))), (7, .slice pa l.parts.length pc), (8, .int .i64 l.parts.length), (9, .int .i64 i)]) (fun i => l.parts.length - i) 0 ?_ ?_ ?_
  · exact ⟨Nat.zero_le _, hf1⟩
  · simp (implicitDefEqProofs := false) only [go_sem, depTs]
  · rintro i H' ⟨hi, hf⟩
    rcases Nat.lt_or_ge i l.parts.length with hlt | hge
    · have hlt' : (i : Int) < (l.parts.length : Int) := by omega
      have h0 : (0 : Int) ≤ (i : Int) := by omega
      obtain ⟨b, o, c, wn, wp, wr, e1, p0, p1, p2, p3, p4, p5, hp⟩ := PartsA.at (h4.ext hf) i hlt
      cases e1
      have hw := succ_i64 i l.parts.length hlt (by omega)
      simp (implicitDefEqProofs := false) only [go_sem, hlt', h0, p0, p1, p2, p3, p4, p5]
      refine NewP_intro fun H2 hn2 hf2 hs2 => ?_
      simp (implicitDefEqProofs := false) only [go_sem]
      refine Sto_all hn2 rfl (LtA.one6 hp) fun H3 hn3 hf3 hs3 => ?_
      have hfn := new_fr hf2 hf3
      have hc3 := hn3.cell
      simp (implicitDefEqProofs := false) only [go_sem, hc3]
      refine (ih i hlt (Rep.ext hp hfn) (by have := depTs_get l.parts i hlt; omega)).mono ?_
      rintro r H4 ⟨rfl, hf4⟩
      simp (implicitDefEqProofs := false) only [go_sem, hmx]
      refine loopK_intro (i + 1) (by show l.parts.length - (i + 1) < l.parts.length - i; omega) ?_ ⟨hlt, (hf.trans hfn).trans hf4⟩
      simp (implicitDefEqProofs := false) only [go_sem, hw, depTs_take l.parts i hlt]
    · have hlt' : ¬ (i : Int) < (l.parts.length : Int) := by omega
      have e : l.parts.take i = l.parts := List.take_of_length_le hge
      simp (implicitDefEqProofs := false) only [go_sem, hlt', e, hwd]
      exact hf

theorem fdep_ok (l : Lt) : ∀ {H : Heap} {cs : List Value}, LtA H [] l cs → depT l < 2^60 → HCalls Try.prog 23 #[.agg cs.toArray] H fun r H' => r = .int .i64 (depT l) ∧ Fr [] H H' := by
  refine ltInd (P := fun l => ∀ {H : Heap} {cs : List Value}, LtA H [] l cs → depT l < 2^60 → HCalls Try.prog 23 #[.agg cs.toArray] H fun r H' => r = .int .i64 (depT l) ∧ Fr [] H H') ?_ l
  intro l ih H cs ha hd
  obtain ⟨vn, vp, vr, rfl, h3, h4, h5⟩ := LtA.open ha
  obtain ⟨pa, pc, rfl, hpl, hpc⟩ := PartsA.slice h4
  refine calls_of_vc (args := [_]) Try.func23 c23ok (Nat.le_of_ble_eq_true rfl) ?_
  rw [depT_open] at hd ⊢
  simp (implicitDefEqProofs := false) only [go_sem, c23]
  refine NewP_intro fun H1 hn1 hf1 hs1 => ?_
  have hc1 := hn1.cell
  have hwd : IntKind.i64.wrap ((depTs l.parts : Int) + 1) = ((depTs l.parts + 1 : Nat) : Int) := by rw [wrap_i64_id _ (by omega) (by omega)]; omega
  have hmx : ∀ a b : Nat, (if (a : Int) < (b : Int) then (b : Int) else (a : Int)) = ((max a b : Nat) : Int) := fun a b => by split <;> omega
  simp (implicitDefEqProofs := false) only [go_sem, hc1]
  refine vc_loop (fun (i : Nat) H' => i ≤ l.parts.length ∧ Fr [] H H' ∧ Fr [] H1 H')
    (fun i => [(1, .pointer (some ⟨H.size, 0, none⟩)), (3, .int .i64 (depTs (l.parts.take i))), (4, .int .i64 i)]) (fun i => l.parts.length - i) 0 ?_ ?_ ?_
  · exact ⟨Nat.zero_le _, hf1, Fr.refl _ _⟩
  · simp (implicitDefEqProofs := false) only [go_sem, depTs]
  · rintro i H' ⟨hi, hf, hf1'⟩
    have hx := (hn1.ext hf1').cell
    rcases Nat.lt_or_ge i l.parts.length with hlt | hge
    · have hlt' : (i : Int) < (l.parts.length : Int) := by omega
      have h0 : (0 : Int) ≤ (i : Int) := by omega
      obtain ⟨b, o, c, wn, wp, wr, e1, p0, p1, p2, p3, p4, p5, hp⟩ := PartsA.at (h4.ext hf) i hlt
      cases e1
      have hw := succ_i64 i l.parts.length hlt (by omega)
      simp (implicitDefEqProofs := false) only [go_sem, hlt', h0, hx, p0, p1, p2, p3, p4, p5]
      refine (ih i hlt hp (by have := depTs_get l.parts i hlt; omega)).mono ?_
      rintro r H4 ⟨rfl, hf4⟩
      simp (implicitDefEqProofs := false) only [go_sem, hmx]
      refine loopK_intro (i + 1) (by show l.parts.length - (i + 1) < l.parts.length - i; omega) ?_ ⟨hlt, hf.trans hf4, hf1'.trans hf4⟩
      simp (implicitDefEqProofs := false) only [go_sem, hw, depTs_take l.parts i hlt]
    · have hlt' : ¬ (i : Int) < (l.parts.length : Int) := by omega
      have e : l.parts.take i = l.parts := List.take_of_length_le hge
      simp (implicitDefEqProofs := false) only [go_sem, hlt', hx, e, hwd]
      exact hf
end Go.Proofs.Ytcilkhjadljaaaa
