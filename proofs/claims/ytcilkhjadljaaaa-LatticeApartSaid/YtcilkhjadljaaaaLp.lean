/- The spelling of a node: contracts. -/
import Derived.Test.YtcilkhjadljaaaaLc
set_option linter.unusedSimpArgs false
set_option linter.unusedVariables false
set_option maxRecDepth 8000
namespace Go.Proofs.Ytcilkhjadljaaaa
open Gx Go

def nmF (k6 : Bool) : List Bs → List Bs → Bool
  | _, [] => true
  | s, x :: r => nameT x && (!(k6 && decide (x ∈ s)) && nmF k6 (s ++ [x]) r)
def ruleT (names : List Bs) (r : Rl) : Bool := decide (0 < r.ifs.length) && (sortedT r.ifs && ((r.ifs.all fun s => decide (s ∈ names)) && decide (r.thn ∈ names)))
def spellT (l : Lt) : Bool := nmF (decide (l.kind = 6)) [] l.names && ((decide (l.kind = 6) || sortedT l.names) && l.rules.all (ruleT l.names))
theorem nmF_drop (k6 : Bool) {l : List Bs} {i : Nat} (h : i < l.length) : nmF k6 (l.take i) (l.drop i) = (nameT l[i] && (!(k6 && decide (l[i] ∈ l.take i)) && nmF k6 (l.take (i + 1)) (l.drop (i + 1)))) := by
  rw [List.drop_eq_getElem_cons h, List.take_succ_eq_append_getElem h]; rfl

theorem all_drop2 {α : Type} {p : α → Bool} {l : List α} {i : Nat} (h : i < l.length) : (l.drop i).all p = (p l[i] && (l.drop (i + 1)).all p) := by
  rw [List.drop_eq_getElem_cons h]; rfl
theorem StrsA.takeL {H : Heap} {M : List Nat} {l : List Bs} {a : Option Addr} {n c k : Nat} (h : StrsA H M l (.slice a n c)) (hk : k ≤ l.length) : StrsA H M (l.take k) (.slice a k c) := by
  have := Rep.takeL h (k := k) (by rw [List.length_map]; exact hk)
  rw [← List.map_take] at this
  exact this

set_option maxHeartbeats 4000000 in
theorem spelling_ok {l : Lt} {H : Heap} {cs : List Value} (ha : LtA H [] l cs) : HCalls Try.prog 53 #[.agg cs.toArray] H fun r H' => r = .int .i64 (if spellT l then 0 else 3) ∧ Fr [] H H' := by
  obtain ⟨vn, vp, vr, rfl, h3, h4, h5⟩ := LtA.open ha
  obtain ⟨na, nc, rfl, hnl, hnc⟩ := StrsA.slice h3
  obtain ⟨ra, rc, rfl, hrl, hrc⟩ := RulesA.slice h5
  refine calls_of_vc (args := [_]) Try.func53 c53ok (Nat.le_of_ble_eq_true rfl) ?_
  simp (implicitDefEqProofs := false) only [go_sem, c53]
  refine NewP_intro fun H1 hn1 hf1 hs1 => ?_
  have hc1 := hn1.cell
  simp (implicitDefEqProofs := false) only [go_sem, hc1]
  obtain ⟨k, hk⟩ : ∃ k, k = decide (l.kind = 6) := ⟨_, rfl⟩
  have hS : spellT l = (nmF k [] l.names && ((k || sortedT l.names) && l.rules.all (ruleT l.names))) := by rw [hk]; rfl
  refine vc_loop (fun (i : Nat) H' => i ≤ l.names.length ∧ nmF k (l.names.take i) (l.names.drop i) = nmF k [] l.names ∧ H1 = H')
    (fun i => [(1, .pointer (some ⟨H.size, 0, none⟩)), (8, .slice na l.names.length nc), (9, .int .i64 l.names.length), (10, .int .i64 i)]) (fun i => l.names.length - i) 0 ?_ ?_ ?_
  · exact ⟨Nat.zero_le _, rfl, rfl⟩
  · simp (implicitDefEqProofs := false) only [go_sem]
  · rintro i H' ⟨hi, hv, rfl⟩
    rcases Nat.lt_or_ge i l.names.length with hlt | hge
    · have hlt' : (i : Int) < (l.names.length : Int) := by omega
      have h0 : (0 : Int) ≤ (i : Int) := by omega
      have hle' : (i : Int) ≤ (nc : Int) := by omega
      obtain ⟨b1, o1, c1, e1, h1⟩ := StrsA.at (h3.ext hf1) i hlt
      cases e1
      have hw := succ_i64 i l.names.length hlt (by omega)
      rw [nmF_drop _ hlt] at hv
      simp (implicitDefEqProofs := false) only [go_sem, hlt', h0, h1]
      refine (valid_ok l.names[i] H1).mono ?_
      rintro r H2 ⟨rfl, rfl⟩
      cases en : nameT l.names[i]
      · simp (implicitDefEqProofs := false) only [go_sem, hc1]
        exact ⟨by rw [hS, ← hv, en]; rfl, hf1⟩
      rw [en, Bool.true_and] at hv
      by_cases k6 : l.kind = 6
      · simp (implicitDefEqProofs := false) only [go_sem, hc1, k6, h0, hle']
        refine (contains_ok l.names[i] (StrsA.takeL (h3.ext hf1) hi)).mono ?_
        rintro r H2 ⟨rfl, rfl⟩
        have hk' : k = true := by rw [hk, decide_eq_true k6]
        by_cases ec : l.names[i] ∈ l.names.take i
        · simp (implicitDefEqProofs := false) only [go_sem, ec]
          exact ⟨by rw [hS, ← hv, hk', decide_eq_true ec]; rfl, hf1⟩
        · simp (implicitDefEqProofs := false) only [go_sem, ec]
          refine loopK_intro (i + 1) (by show l.names.length - (i + 1) < l.names.length - i; omega) ?_ ⟨hlt, ?_, rfl⟩
          · simp (implicitDefEqProofs := false) only [go_sem, hw]
          · rw [← hv, decide_eq_false ec, Bool.and_false]; rfl
      · simp (implicitDefEqProofs := false) only [go_sem, hc1, k6]
        refine loopK_intro (i + 1) (by show l.names.length - (i + 1) < l.names.length - i; omega) ?_ ⟨hlt, ?_, rfl⟩
        · simp (implicitDefEqProofs := false) only [go_sem, hw]
        · rw [← hv, hk, decide_eq_false k6]; rfl
    · have hge' : ¬ (i : Int) < (l.names.length : Int) := by omega
      rw [List.drop_eq_nil_of_le hge] at hv
      have hv' : nmF k [] l.names = true := by rw [← hv]; rfl
      by_cases k6 : l.kind = 6
      · have hsp : spellT l = l.rules.all (ruleT l.names) := by rw [hS, hv', hk, decide_eq_true k6, Bool.true_and, Bool.true_or, Bool.true_and]
        simp (implicitDefEqProofs := false) only [go_sem, hge', hc1, k6]
        refine vc_loop (fun (j : Nat) H' => j ≤ l.rules.length ∧ ((l.rules.drop j).all (ruleT l.names)) = (l.rules.all (ruleT l.names)) ∧ Fr [] H H' ∧ Fr [] H1 H')
          (fun j => [(1, .pointer (some ⟨H.size, 0, none⟩)), (42, .slice ra l.rules.length rc), (43, .int .i64 l.rules.length), (44, .int .i64 j)]) (fun j => l.rules.length - j) 0 ?_ ?_ ?_
        · exact ⟨Nat.zero_le _, rfl, hf1, Fr.refl _ _⟩
        · simp (implicitDefEqProofs := false) only [go_sem]
        · rintro j H' ⟨hj, hv2, hf, hfn⟩
          have hx := (hn1.ext hfn).cell
          rcases Nat.lt_or_ge j l.rules.length with hlt2 | hge2
          · have hlt2' : (j : Int) < (l.rules.length : Int) := by omega
            have h02 : (0 : Int) ≤ (j : Int) := by omega
            have hw2 := succ_i64 j l.rules.length hlt2 (by omega)
            obtain ⟨b, o, c, vi, e1, p0, p1, hq⟩ := RulesA.at (h5.ext hf) j hlt2
            cases e1
            obtain ⟨ia, ic, rfl, hil, hic⟩ := StrsA.slice hq
            rw [all_drop2 hlt2] at hv2
            simp (implicitDefEqProofs := false) only [go_sem, hlt2', h02, p0, p1, sv]
            refine NewP_intro fun H2' hn2' hf2' hs2' => ?_
            simp (implicitDefEqProofs := false) only [go_sem]
            refine Sto_all hn2' rfl (one2 (Rep.one1 hq) rfl) fun H2 hn2 hf2'' hs2 => ?_
            have hf2 := new_fr hf2' hf2''
            have hc2 := hn2.cell
            have hx2 := (hn1.ext (hfn.trans hf2)).cell
            by_cases i0 : (l.rules[j].ifs.length : Int) = 0
            · have hr : ruleT l.names l.rules[j] = false := by simp [ruleT]; omega
              simp (implicitDefEqProofs := false) only [go_sem, hc2, i0]
              exact ⟨by rw [hsp, ← hv2, hr]; rfl, hf.trans hf2⟩
            simp (implicitDefEqProofs := false) only [go_sem, hc2, i0, hx2]
            refine (sorted_ok (hq.ext hf2)).mono ?_
            rintro r H3 ⟨rfl, rfl⟩
            cases es : sortedT l.rules[j].ifs
            · have hr : ruleT l.names l.rules[j] = false := by simp [ruleT, es]
              simp (implicitDefEqProofs := false) only [go_sem]
              exact ⟨by rw [hsp, ← hv2, hr]; rfl, hf.trans hf2⟩
            simp (implicitDefEqProofs := false) only [go_sem, hc2, hx2]
            refine (subset_ok (hq.ext hf2) (h3.ext (hf.trans hf2))).mono ?_
            rintro r H3 ⟨rfl, rfl⟩
            cases eu : (l.rules[j].ifs.all fun s => decide (s ∈ l.names))
            · have hr : ruleT l.names l.rules[j] = false := by simp only [ruleT, es, eu, Bool.true_and, Bool.false_and, Bool.and_false]
              simp (implicitDefEqProofs := false) only [go_sem]
              exact ⟨by rw [hsp, ← hv2, hr]; rfl, hf.trans hf2⟩
            simp (implicitDefEqProofs := false) only [go_sem, hc2, hx2]
            refine (has_ok l.rules[j].thn (h3.ext (hf.trans hf2))).mono ?_
            rintro r H3 ⟨rfl, rfl⟩
            by_cases et : l.rules[j].thn ∈ l.names
            · have hr : ruleT l.names l.rules[j] = true := by
                have : 0 < l.rules[j].ifs.length := by omega
                simp only [ruleT, es, eu, et, Bool.true_and, decide_true, this]
              simp (implicitDefEqProofs := false) only [go_sem, et]
              refine loopK_intro (j + 1) (by show l.rules.length - (j + 1) < l.rules.length - j; omega) ?_ ⟨hlt2, ?_, hf.trans hf2, hfn.trans hf2⟩
              · simp (implicitDefEqProofs := false) only [go_sem, hw2]
              · rw [← hv2, hr, Bool.true_and]
            · have hr : ruleT l.names l.rules[j] = false := by simp only [ruleT, et, Bool.and_false, decide_false]
              simp (implicitDefEqProofs := false) only [go_sem, et]
              exact ⟨by rw [hsp, ← hv2, hr]; rfl, hf.trans hf2⟩
          · have hge2' : ¬ (j : Int) < (l.rules.length : Int) := by omega
            rw [List.drop_eq_nil_of_le hge2] at hv2
            simp (implicitDefEqProofs := false) only [go_sem, hge2']
            exact ⟨by rw [hsp, ← hv2]; rfl, hf⟩
      · simp (implicitDefEqProofs := false) only [go_sem, hge', hc1, k6]
        refine (sorted_ok (h3.ext hf1)).mono ?_
        rintro r H2 ⟨rfl, hEq⟩
        obtain rfl := hEq.symm
        cases es : sortedT l.names
        · simp (implicitDefEqProofs := false) only [go_sem, hc1]
          exact ⟨by rw [hS, es, hk, decide_eq_false k6, Bool.false_or, Bool.false_and, Bool.and_false]; rfl, hf1⟩
        have hsp : spellT l = l.rules.all (ruleT l.names) := by rw [hS, hv', es, Bool.or_true, Bool.true_and, Bool.true_and]
        simp (implicitDefEqProofs := false) only [go_sem, hc1]
        refine vc_loop (fun (j : Nat) H' => j ≤ l.rules.length ∧ ((l.rules.drop j).all (ruleT l.names)) = (l.rules.all (ruleT l.names)) ∧ Fr [] H H' ∧ Fr [] H1 H')
          (fun j => [(1, .pointer (some ⟨H.size, 0, none⟩)), (42, .slice ra l.rules.length rc), (43, .int .i64 l.rules.length), (44, .int .i64 j)]) (fun j => l.rules.length - j) 0 ?_ ?_ ?_
        · exact ⟨Nat.zero_le _, rfl, hf1, Fr.refl _ _⟩
        · simp (implicitDefEqProofs := false) only [go_sem]
        · rintro j H' ⟨hj, hv2, hf, hfn⟩
          have hx := (hn1.ext hfn).cell
          rcases Nat.lt_or_ge j l.rules.length with hlt2 | hge2
          · have hlt2' : (j : Int) < (l.rules.length : Int) := by omega
            have h02 : (0 : Int) ≤ (j : Int) := by omega
            have hw2 := succ_i64 j l.rules.length hlt2 (by omega)
            obtain ⟨b, o, c, vi, e1, p0, p1, hq⟩ := RulesA.at (h5.ext hf) j hlt2
            cases e1
            obtain ⟨ia, ic, rfl, hil, hic⟩ := StrsA.slice hq
            rw [all_drop2 hlt2] at hv2
            simp (implicitDefEqProofs := false) only [go_sem, hlt2', h02, p0, p1, sv]
            refine NewP_intro fun H2' hn2' hf2' hs2' => ?_
            simp (implicitDefEqProofs := false) only [go_sem]
            refine Sto_all hn2' rfl (one2 (Rep.one1 hq) rfl) fun H2 hn2 hf2'' hs2 => ?_
            have hf2 := new_fr hf2' hf2''
            have hc2 := hn2.cell
            have hx2 := (hn1.ext (hfn.trans hf2)).cell
            by_cases i0 : (l.rules[j].ifs.length : Int) = 0
            · have hr : ruleT l.names l.rules[j] = false := by simp [ruleT]; omega
              simp (implicitDefEqProofs := false) only [go_sem, hc2, i0]
              exact ⟨by rw [hsp, ← hv2, hr]; rfl, hf.trans hf2⟩
            simp (implicitDefEqProofs := false) only [go_sem, hc2, i0, hx2]
            refine (sorted_ok (hq.ext hf2)).mono ?_
            rintro r H3 ⟨rfl, rfl⟩
            cases es : sortedT l.rules[j].ifs
            · have hr : ruleT l.names l.rules[j] = false := by simp [ruleT, es]
              simp (implicitDefEqProofs := false) only [go_sem]
              exact ⟨by rw [hsp, ← hv2, hr]; rfl, hf.trans hf2⟩
            simp (implicitDefEqProofs := false) only [go_sem, hc2, hx2]
            refine (subset_ok (hq.ext hf2) (h3.ext (hf.trans hf2))).mono ?_
            rintro r H3 ⟨rfl, rfl⟩
            cases eu : (l.rules[j].ifs.all fun s => decide (s ∈ l.names))
            · have hr : ruleT l.names l.rules[j] = false := by simp only [ruleT, es, eu, Bool.true_and, Bool.false_and, Bool.and_false]
              simp (implicitDefEqProofs := false) only [go_sem]
              exact ⟨by rw [hsp, ← hv2, hr]; rfl, hf.trans hf2⟩
            simp (implicitDefEqProofs := false) only [go_sem, hc2, hx2]
            refine (has_ok l.rules[j].thn (h3.ext (hf.trans hf2))).mono ?_
            rintro r H3 ⟨rfl, rfl⟩
            by_cases et : l.rules[j].thn ∈ l.names
            · have hr : ruleT l.names l.rules[j] = true := by
                have : 0 < l.rules[j].ifs.length := by omega
                simp only [ruleT, es, eu, et, Bool.true_and, decide_true, this]
              simp (implicitDefEqProofs := false) only [go_sem, et]
              refine loopK_intro (j + 1) (by show l.rules.length - (j + 1) < l.rules.length - j; omega) ?_ ⟨hlt2, ?_, hf.trans hf2, hfn.trans hf2⟩
              · simp (implicitDefEqProofs := false) only [go_sem, hw2]
              · rw [← hv2, hr, Bool.true_and]
            · have hr : ruleT l.names l.rules[j] = false := by simp only [ruleT, et, Bool.and_false, decide_false]
              simp (implicitDefEqProofs := false) only [go_sem, et]
              exact ⟨by rw [hsp, ← hv2, hr]; rfl, hf.trans hf2⟩
          · have hge2' : ¬ (j : Int) < (l.rules.length : Int) := by omega
            rw [List.drop_eq_nil_of_le hge2] at hv2
            simp (implicitDefEqProofs := false) only [go_sem, hge2']
            exact ⟨by rw [hsp, ← hv2]; rfl, hf⟩

end Go.Proofs.Ytcilkhjadljaaaa
