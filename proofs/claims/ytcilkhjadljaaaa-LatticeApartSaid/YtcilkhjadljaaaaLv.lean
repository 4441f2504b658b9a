/- The check: contracts. -/
import Derived.Test.YtcilkhjadljaaaaLp
set_option linter.unusedSimpArgs false
set_option linter.unusedVariables false
set_option maxRecDepth 8000
namespace Go.Proofs.Ytcilkhjadljaaaa
open Gx Go

def nodeE (l : Lt) : Int := if shapeT l then or4 (if limT l then 6 else 0) (if spellT l then 0 else 3) (if rngT l then 5 else 0) (if chnT l then 4 else 0) else 1
mutual
def visT (d n : Nat) : Lt → Int × Nat
  | .mk k lo hi ns ps rs => if 6 < d ∨ 64 ≤ n then (6, n) else if nodeE (.mk k lo hi ns ps rs) ≠ 0 then (nodeE (.mk k lo hi ns ps rs), n + 1) else visTs (d + 1) (n + 1) ps
def visTs (d n : Nat) : List Lt → Int × Nat
  | [] => (0, n)
  | p :: ps => if (visT d n p).1 ≠ 0 then visT d n p else visTs d (visT d n p).2 ps
end
theorem visT_open (d n : Nat) (l : Lt) : visT d n l = if 6 < d ∨ 64 ≤ n then (6, n) else if nodeE l ≠ 0 then (nodeE l, n + 1) else visTs (d + 1) (n + 1) l.parts := by
  cases l; simp only [visT]; rfl
theorem visTs_drop (d n : Nat) {l : List Lt} {i : Nat} (h : i < l.length) : visTs d n (l.drop i) = if (visT d n l[i]).1 ≠ 0 then visT d n l[i] else visTs d (visT d n l[i]).2 (l.drop (i + 1)) := by
  rw [List.drop_eq_getElem_cons h]; rfl
theorem shapeT_seven {l : Lt} (h : shapeT l = true) (k : l.kind = 7) : 0 < l.parts.length := by
  unfold shapeT at h
  simp [k] at h
  omega

theorem Rep.less {H : Heap} {M : List Nat} {d : Dat} {cs : List Value} (h : Rep H M d cs) : Rep H [] d cs := Rep.stay h (fun _ _ _ => ⟨by simp, rfl⟩)
theorem Rep.kept {H H' : Heap} {M : List Nat} {d : Dat} {cs : List Value} (h : Rep H M d cs) (hf : Fr M H H') : Rep H' M d cs := Rep.stay h (Stays.fr hf fun x hx => .inl hx)

set_option maxHeartbeats 4000000 in
theorem visit_ok (l : Lt) : ∀ {H : Heap} {cs : List Value} {b n d : Nat}, LtA H [b] l cs → Blk H b 43 [.int .i64 n] →
    HCalls Try.prog 29 #[.pointer (some ⟨b, 0, none⟩), .agg cs.toArray, .int .i64 d] H fun r H' => r = .int .i64 (visT d n l).1 ∧ Blk H' b 43 [.int .i64 (visT d n l).2] ∧ Fr [b] H H' := by
  refine ltInd (P := fun l => ∀ {H : Heap} {cs : List Value} {b n d : Nat}, LtA H [b] l cs → Blk H b 43 [.int .i64 n] →
    HCalls Try.prog 29 #[.pointer (some ⟨b, 0, none⟩), .agg cs.toArray, .int .i64 d] H fun r H' => r = .int .i64 (visT d n l).1 ∧ Blk H' b 43 [.int .i64 (visT d n l).2] ∧ Fr [b] H H') ?_ l
  intro l ih H cs b n d ha hb
  obtain ⟨vn, vp, vr, rfl, h3, h4, h5⟩ := LtA.open ha
  obtain ⟨pa, pc, rfl, hpl, hpc⟩ := PartsA.slice h4
  refine calls_of_vc (args := [_, _, _]) Try.func29 c29ok (Nat.le_of_ble_eq_true rfl) ?_
  rw [visT_open]
  simp (implicitDefEqProofs := false) only [go_sem, c29]
  refine NewP_intro fun H1 hn1 hf1 hs1 => ?_
  have hc1 := hn1.cell
  have hb1 := hb.ext hf1
  have hcb := hb1.cell
  have hne : b ≠ H.size := by have := hb.lt; omega
  have hF1 : Fr [b] H H1 := hf1.mono (by simp)
  by_cases hd : 6 < d
  · have hd' : (6 : Int) < (d : Int) := by omega
    simp (implicitDefEqProofs := false) only [go_sem, hc1, hcb, hd', hd]
    exact ⟨hb1, hF1⟩
  have hd' : ¬ (6 : Int) < (d : Int) := by omega
  by_cases hn : 64 ≤ n
  · have hn' : (64 : Int) ≤ (n : Int) := by omega
    simp (implicitDefEqProofs := false) only [go_sem, hc1, hcb, hd', hn', hn]
    exact ⟨hb1, hF1⟩
  have hn' : ¬ (64 : Int) ≤ (n : Int) := by omega
  have hw0 : IntKind.i64.wrap ((n : Int) + 1) = ((n + 1 : Nat) : Int) := by
    rw [wrap_i64_id _ (by omega) (by omega)]; omega
  rw [if_neg (by omega)]
  simp (implicitDefEqProofs := false) only [go_sem, hc1, hcb, hd', hn', hw0]
  refine Sto_one hb1 (by simp) rfl fun H2 hb2 hf2 hs2 => ?_
  have hF2 := hF1.trans hf2
  have hn2 := hn1.fr hf2 (by simp [Ne.symm hne])
  have hc2 := hn2.cell
  have ha2 := Rep.kept ha hF2
  simp (implicitDefEqProofs := false) only [go_sem, hc2]
  refine (shape_ok (Rep.less ha2)).mono ?_
  rintro r H3 ⟨rfl, hf3⟩
  have hF3 := hF2.trans (hf3.mono (by simp))
  have hn3 := hn2.ext hf3
  have hc3 := hn3.cell
  have hb3 := hb2.ext hf3
  have ha3 := Rep.kept ha hF3
  cases es : shapeT l
  · have hE : nodeE l = 1 := by simp [nodeE, es]
    simp (implicitDefEqProofs := false) only [go_sem, hc3, hE]
    exact ⟨hb3, hF3⟩
  simp (implicitDefEqProofs := false) only [go_sem, hc3]
  refine (limits_ok (Rep.less ha3)).mono ?_
  rintro r H4 ⟨rfl, hf4⟩
  have hF4 := hF3.trans (hf4.mono (by simp))
  have hn4 := hn3.ext hf4
  have hc4 := hn4.cell
  simp (implicitDefEqProofs := false) only [go_sem, hc4]
  refine (spelling_ok (Rep.less (Rep.kept ha hF4))).mono ?_
  rintro r H5 ⟨rfl, hf5⟩
  have hF5 := hF4.trans (hf5.mono (by simp))
  have hn5 := hn4.ext hf5
  have hc5 := hn5.cell
  simp (implicitDefEqProofs := false) only [go_sem, hc5]
  refine (ranges_ok (Rep.less (Rep.kept ha hF5))).mono ?_
  rintro r H6 ⟨rfl, hf6⟩
  have hF6 := hF5.trans (hf6.mono (by simp))
  have hn6 := hn5.ext hf6
  have hc6 := hn6.cell
  simp (implicitDefEqProofs := false) only [go_sem, hc6]
  refine (chains_ok (Rep.less (Rep.kept ha hF6)) (shapeT_seven es)).mono ?_
  rintro r H7 ⟨rfl, hf7⟩
  have hF7 := hF6.trans (hf7.mono (by simp))
  have hn7 := hn6.ext hf7
  have hc7 := hn7.cell
  have hb7 := (((hb3.ext hf4).ext hf5).ext hf6).ext hf7
  simp (implicitDefEqProofs := false) only [go_sem, hc7]
  refine NewS_intro fun H8 hn8 hf8 hs8 => ?_
  simp (implicitDefEqProofs := false) only [go_sem]
  refine (or_ok hn8).mono ?_
  rintro r H9 ⟨rfl, hEq⟩
  obtain rfl := hEq.symm
  have hF8 := hF7.trans (hf8.mono (by simp))
  have hb8 := hb7.ext hf8
  have hc8 := (hn7.ext hf8).cell
  have hE : nodeE l = or4 (if limT l then 6 else 0) (if spellT l then 0 else 3) (if rngT l then 5 else 0) (if chnT l then 4 else 0) := by simp [nodeE, es]
  rw [← hE]
  by_cases e0 : nodeE l = 0
  case neg =>
    simp (implicitDefEqProofs := false) only [go_sem, hc8, e0]
    exact ⟨hb8, hF8⟩
  simp (implicitDefEqProofs := false) only [go_sem, hc8, e0]
  refine vc_loop (fun (i : Nat) H' => i ≤ l.parts.length ∧ ∃ m : Nat, Blk H' b 43 [.int .i64 m] ∧ visTs (d + 1) m (l.parts.drop i) = visTs (d + 1) (n + 1) l.parts ∧ Fr [b] H H')
    (fun i => [(0, .pointer (some ⟨b, 0, none⟩)), (2, .int .i64 d), (47, .slice pa l.parts.length pc), (48, .int .i64 l.parts.length), (49, .int .i64 i)]) (fun i => l.parts.length - i) 0 ?_ ?_ ?_
  · exact ⟨Nat.zero_le _, n + 1, hb8, rfl, hF8⟩
  · simp (implicitDefEqProofs := false) only [go_sem]
  · rintro i H' ⟨hi, m, hbi, hv, hF⟩
    rcases Nat.lt_or_ge i l.parts.length with hlt | hge
    · have hlt' : (i : Int) < (l.parts.length : Int) := by omega
      have h0 : (0 : Int) ≤ (i : Int) := by omega
      obtain ⟨bb, o, c, wn, wp, wr, e1, p0, p1, p2, p3, p4, p5, hp⟩ := PartsA.at (Rep.kept h4 hF) i hlt
      cases e1
      have hw := succ_i64 i l.parts.length hlt (by omega)
      have hwd : IntKind.i64.wrap ((d : Int) + 1) = ((d + 1 : Nat) : Int) := by
        rw [wrap_i64_id _ (by omega) (by omega)]; omega
      rw [visTs_drop _ _ hlt] at hv
      simp (implicitDefEqProofs := false) only [go_sem, hlt', h0, p0, p1, p2, p3, p4, p5]
      refine NewP_intro fun H10 hn10 hf10 hs10 => ?_
      simp (implicitDefEqProofs := false) only [go_sem]
      refine Sto_all hn10 rfl (LtA.one6 hp) fun H11 hn11 hf11 hs11 => ?_
      have hfn := new_fr hf10 hf11
      have hc11 := hn11.cell
      simp (implicitDefEqProofs := false) only [go_sem, hc11, hwd]
      refine (ih i hlt (Rep.ext hp hfn) (hbi.ext hfn)).mono ?_
      rintro r H12 ⟨rfl, hb12, hf12⟩
      have hF12 := (hF.trans (hfn.mono (by simp))).trans hf12
      by_cases ev : (visT (d + 1) m l.parts[i]).1 = 0
      · simp (implicitDefEqProofs := false) only [go_sem, ev]
        refine loopK_intro (i + 1) (by show l.parts.length - (i + 1) < l.parts.length - i; omega) ?_ ⟨hlt, _, hb12, ?_, hF12⟩
        · simp (implicitDefEqProofs := false) only [go_sem, hw]
        · rw [← hv, if_neg (by simpa using ev)]
      · rw [if_pos ev] at hv
        simp (implicitDefEqProofs := false) only [go_sem, ev]
        exact ⟨by rw [hv], by rw [← hv]; exact hb12, hF12⟩
    · have hge' : ¬ (i : Int) < (l.parts.length : Int) := by omega
      rw [List.drop_eq_nil_of_le hge] at hv
      simp (implicitDefEqProofs := false) only [go_sem, hge']
      rw [← hv]
      exact ⟨rfl, hbi, hF⟩

theorem check_ok {l : Lt} {H : Heap} {cs : List Value} (ha : LtA H [] l cs) : HCalls Try.prog 12 #[.agg cs.toArray] H fun r H' => r = .int .i64 (visT 1 0 l).1 ∧ Fr [] H H' := by
  obtain ⟨vn, vp, vr, rfl, h3, h4, h5⟩ := LtA.open ha
  refine calls_of_vc (args := [_]) Try.func12 c12ok (Nat.le_of_ble_eq_true rfl) ?_
  simp (implicitDefEqProofs := false) only [go_sem, c12]
  refine NewP_intro fun H1 hn1 hf1 hs1 => ?_
  simp (implicitDefEqProofs := false) only [go_sem]
  refine NewP_intro fun H2 hn2 hf2 hs2 => ?_
  simp (implicitDefEqProofs := false) only [go_sem]
  refine Sto_all hn2 rfl (by simp [Value.oneCell']) fun H3 hn3 hf3 hs3 => ?_
  have hF3 := new_fr hf2 hf3
  have hc3 := (hn1.ext hF3).cell
  have hm : LtA H3 [H1.size] l [.int .i64 l.kind, .int .i64 l.lo, .int .i64 l.hi, vn, vp, vr] :=
    Rep.kept (Rep.stay (ha.ext hf1) (Stays.more (M' := [H1.size]) (by simp))) (hF3.mono (by simp))
  simp (implicitDefEqProofs := false) only [go_sem, hc3]
  refine (visit_ok l hm (n := 0) (d := 1) hn3).mono ?_
  rintro r H4 ⟨rfl, hb4, hf4⟩
  simp (implicitDefEqProofs := false) only [go_sem]
  exact (hf1.trans hF3).trans' hf4 (by simp; omega)

end Go.Proofs.Ytcilkhjadljaaaa
