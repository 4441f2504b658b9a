/- The encoding: a tree written. -/
import Derived.Test.YtcilkhjadljaaaaLe
set_option linter.unusedSimpArgs false
set_option linter.unusedVariables false
set_option maxRecDepth 8000
namespace Go.Proofs.Ytcilkhjadljaaaa
open Gx Go

set_option maxHeartbeats 4000000 in
theorem write_ok (t : Lt) : ∀ {H : Heap} {b : Nat} {l : Bs} {g : Option Nat} {cs : List Value}, okT t → Wr H b l g → LtA H (b :: g.toList) t cs → l.length + (encT t).length < 2^38 →
    HCalls Try.prog 39 #[.pointer (some ⟨b, 0, none⟩), .agg cs.toArray] H fun r H' => r = .tuple #[] ∧ ∃ g', WrStep H b g H' (l ++ encT t) g' := by
  refine ltInd (P := fun t => ∀ {H : Heap} {b : Nat} {l : Bs} {g : Option Nat} {cs : List Value}, okT t → Wr H b l g → LtA H (b :: g.toList) t cs → l.length + (encT t).length < 2^38 →
    HCalls Try.prog 39 #[.pointer (some ⟨b, 0, none⟩), .agg cs.toArray] H fun r H' => r = .tuple #[] ∧ ∃ g', WrStep H b g H' (l ++ encT t) g') ?_ t
  intro t ih H b l g cs hok hwr ha hsz
  rw [okT_open] at hok
  obtain ⟨vn, vp, vr, rfl, h3, h4, h5⟩ := LtA.open ha
  obtain ⟨na, nc, rfl, hnl, hnc⟩ := StrsA.slice h3
  obtain ⟨pa, pc, rfl, hpl, hpc⟩ := PartsA.slice h4
  obtain ⟨ra, rc, rfl, hrl, hrc⟩ := RulesA.slice h5
  have hck : IntKind.u64.wrap t.kind = ((t.kind.toNat : Nat) : Int) := by rw [wrap_u64_id _ (by omega) (by omega)]; omega
  have hT := congrArg List.length (encT_open t)
  have hH : headB t = enc t.kind.toNat ++ (if t.kind = 2 ∨ t.kind = 3 then enc (zig t.lo) ++ enc (zig t.hi) else if t.kind = 4 ∨ t.kind = 8 ∨ t.kind = 5 ∨ t.kind = 10 then strsB t.names else if t.kind = 6 then enc t.names.length else []) := rfl
  simp only [List.length_append] at hT
  obtain ⟨q6, hq6⟩ : ∃ q, q = decide (t.kind = 6) := ⟨_, rfl⟩
  have hO : encT t = headB t ++ (encPs q6 t.parts t.names ++ tailB t) := by rw [hq6]; exact encT_open t
  rw [← hq6] at hT
  refine calls_of_vc (args := [_, _]) Try.func39 c39ok (Nat.le_of_ble_eq_true rfl) ?_
  simp (implicitDefEqProofs := false) only [go_sem, c39]
  refine NewP_intro fun H1 hn1 hf1 hs1 => ?_
  have hc1 := hn1.cell
  have h3' := Rep.ext h3 hf1
  have h4' := Rep.ext h4 hf1
  have h5' := Rep.ext h5 hf1
  have hxb : H.size ≠ b := by have := hwr.lt; omega
  have hxg : ∀ k, g = some k → H.size ≠ k := by
    intro k hk
    obtain ⟨aa, cc, _, ho⟩ := hwr
    have := ho.lt hk
    omega
  have hwr1 : Wr H1 b l g := hwr.fr hf1 (by simp) (by simp)
  simp (implicitDefEqProofs := false) only [go_sem, hc1, hck]
  have hkl := congrArg List.length hH
  simp only [List.length_append] at hkl
  refine (uint_ok t.kind.toNat (by omega) hwr1 (by omega)).mono ?_
  rintro r H0 ⟨rfl, g0, w0⟩
  have hc0 := (Blk.wr hn1 w0 hxb hxg).cell
  by_cases k2 : t.kind = 2
  · rw [if_pos (by omega)] at hH hkl
    simp only [List.length_append] at hkl
    simp (implicitDefEqProofs := false) only [go_sem, hc0, k2]
    refine (int_ok t.lo (by omega) (by omega) w0.1 (by simp only [List.length_append]; omega)).mono ?_
    rintro r Ha ⟨rfl, ga, wa⟩
    have wsa := w0.trans wa
    have hca := (Blk.wr hn1 wsa hxb hxg).cell
    simp (implicitDefEqProofs := false) only [go_sem, hca]
    refine (int_ok t.hi (by omega) (by omega) wa.1 (by simp only [List.length_append]; omega)).mono ?_
    rintro r Hc ⟨rfl, gc, wc⟩
    have ws := wsa.trans wc
    have hcc := (Blk.wr hn1 ws hxb hxg).cell
    have hv0 : (l ++ enc t.kind.toNat ++ enc (zig t.lo) ++ enc (zig t.hi)) ++ (encPs q6 (t.parts.drop 0) (t.names.drop 0) ++ tailB t) = l ++ encT t := by rw [hO, hH]; simp
    simp (implicitDefEqProofs := false) only [go_sem, hcc]
    refine vc_loop (fun (i : Nat) H' => i ≤ t.parts.length ∧ ∃ l' g', WrStep H1 b g H' l' g' ∧ l' ++ (encPs q6 (t.parts.drop i) (t.names.drop i) ++ tailB t) = l ++ encT t)
      (fun i => [(0, .pointer (some ⟨b, 0, none⟩)), (3, .pointer (some ⟨H.size, 0, none⟩)), (44, .slice pa t.parts.length pc), (45, .int .i64 t.parts.length), (46, .int .i64 i)]) (fun i => t.parts.length - i) 0 ?_ ?_ ?_
    · exact ⟨Nat.zero_le _, _, _, ws, hv0⟩
    · simp (implicitDefEqProofs := false) only [go_sem]
    · rintro i H' ⟨hi, l', g', ws', hv⟩
      have hx := (Blk.wr hn1 ws' hxb hxg).cell
      rcases Nat.lt_or_ge i t.parts.length with hlt | hge
      · have hlt' : (i : Int) < (t.parts.length : Int) := by omega
        have h0 : (0 : Int) ≤ (i : Int) := by omega
        obtain ⟨bb, o, c, wn, wp, wr, e1, p0, p1, p2, p3, p4, p5, hp⟩ := PartsA.at (Rep.wr h4' ws') i hlt
        cases e1
        have hw := succ_i64 i t.parts.length hlt (by omega)
        rw [encPs_drop _ hlt] at hv
        have hv2 := congrArg List.length hv
        simp only [List.length_append] at hv2
        simp (implicitDefEqProofs := false) only [go_sem, hlt', h0, p0, p1, p2, p3, p4, p5]
        refine NewP_intro fun H2 hn2 hf2 hs2 => ?_
        simp (implicitDefEqProofs := false) only [go_sem]
        refine Sto_all hn2 rfl (LtA.one6 hp) fun H3 hn3 hf3 hs3 => ?_
        have hfn := new_fr hf2 hf3
        have hc3 := hn3.cell
        have ws3 := ws'.post hfn
        have hx3 := (Blk.wr hn1 ws3 hxb hxg).cell
        have hb3 : H'.size ≠ b := by have := ws'.1.lt; omega
        have hg3 : ∀ k, g' = some k → H'.size ≠ k := by
          intro k hk
          obtain ⟨aa, cc, _, ho⟩ := ws'.1
          have := ho.lt hk
          omega
        have hnm : nameB q6 (t.names.drop i) = [] := by
          have : ¬ t.kind = 6 := by omega
          rw [hq6, decide_eq_false this]; rfl
        rw [hnm] at hv hv2
        simp (implicitDefEqProofs := false) only [go_sem, hx3, k2, hc3]
        refine (ih i hlt (okTs_get hlt hok.2) ws3.1 (Rep.ext hp hfn) (by simp at hv2; omega)).mono ?_
        rintro r H5 ⟨rfl, g5, w5⟩
        simp (implicitDefEqProofs := false) only [go_sem]
        refine loopK_intro (i + 1) (by show t.parts.length - (i + 1) < t.parts.length - i; omega) ?_ ⟨hlt, _, _, ws3.trans w5, ?_⟩
        · simp (implicitDefEqProofs := false) only [go_sem, hw]
        · rw [← hv]; simp
      · have hge' : ¬ (i : Int) < (t.parts.length : Int) := by omega
        rw [List.drop_eq_nil_of_le hge] at hv
        simp only [encPs, List.nil_append] at hv
        have ht : tailB t = [] := by
          have : ¬ t.kind = 10 := by omega
          rw [tailB, if_neg this]
        rw [ht, List.append_nil] at hv
        subst hv
        simp (implicitDefEqProofs := false) only [go_sem, hge', hx, k2]
        exact ⟨_, WrStep.pre hf1 ws'⟩
  by_cases k3 : t.kind = 3
  · rw [if_pos (by omega)] at hH hkl
    simp only [List.length_append] at hkl
    simp (implicitDefEqProofs := false) only [go_sem, hc0, k3]
    refine (int_ok t.lo (by omega) (by omega) w0.1 (by simp only [List.length_append]; omega)).mono ?_
    rintro r Ha ⟨rfl, ga, wa⟩
    have wsa := w0.trans wa
    have hca := (Blk.wr hn1 wsa hxb hxg).cell
    simp (implicitDefEqProofs := false) only [go_sem, hca]
    refine (int_ok t.hi (by omega) (by omega) wa.1 (by simp only [List.length_append]; omega)).mono ?_
    rintro r Hc ⟨rfl, gc, wc⟩
    have ws := wsa.trans wc
    have hcc := (Blk.wr hn1 ws hxb hxg).cell
    have hv0 : (l ++ enc t.kind.toNat ++ enc (zig t.lo) ++ enc (zig t.hi)) ++ (encPs q6 (t.parts.drop 0) (t.names.drop 0) ++ tailB t) = l ++ encT t := by rw [hO, hH]; simp
    simp (implicitDefEqProofs := false) only [go_sem, hcc]
    refine vc_loop (fun (i : Nat) H' => i ≤ t.parts.length ∧ ∃ l' g', WrStep H1 b g H' l' g' ∧ l' ++ (encPs q6 (t.parts.drop i) (t.names.drop i) ++ tailB t) = l ++ encT t)
      (fun i => [(0, .pointer (some ⟨b, 0, none⟩)), (3, .pointer (some ⟨H.size, 0, none⟩)), (44, .slice pa t.parts.length pc), (45, .int .i64 t.parts.length), (46, .int .i64 i)]) (fun i => t.parts.length - i) 0 ?_ ?_ ?_
    · exact ⟨Nat.zero_le _, _, _, ws, hv0⟩
    · simp (implicitDefEqProofs := false) only [go_sem]
    · rintro i H' ⟨hi, l', g', ws', hv⟩
      have hx := (Blk.wr hn1 ws' hxb hxg).cell
      rcases Nat.lt_or_ge i t.parts.length with hlt | hge
      · have hlt' : (i : Int) < (t.parts.length : Int) := by omega
        have h0 : (0 : Int) ≤ (i : Int) := by omega
        obtain ⟨bb, o, c, wn, wp, wr, e1, p0, p1, p2, p3, p4, p5, hp⟩ := PartsA.at (Rep.wr h4' ws') i hlt
        cases e1
        have hw := succ_i64 i t.parts.length hlt (by omega)
        rw [encPs_drop _ hlt] at hv
        have hv2 := congrArg List.length hv
        simp only [List.length_append] at hv2
        simp (implicitDefEqProofs := false) only [go_sem, hlt', h0, p0, p1, p2, p3, p4, p5]
        refine NewP_intro fun H2 hn2 hf2 hs2 => ?_
        simp (implicitDefEqProofs := false) only [go_sem]
        refine Sto_all hn2 rfl (LtA.one6 hp) fun H3 hn3 hf3 hs3 => ?_
        have hfn := new_fr hf2 hf3
        have hc3 := hn3.cell
        have ws3 := ws'.post hfn
        have hx3 := (Blk.wr hn1 ws3 hxb hxg).cell
        have hb3 : H'.size ≠ b := by have := ws'.1.lt; omega
        have hg3 : ∀ k, g' = some k → H'.size ≠ k := by
          intro k hk
          obtain ⟨aa, cc, _, ho⟩ := ws'.1
          have := ho.lt hk
          omega
        have hnm : nameB q6 (t.names.drop i) = [] := by
          have : ¬ t.kind = 6 := by omega
          rw [hq6, decide_eq_false this]; rfl
        rw [hnm] at hv hv2
        simp (implicitDefEqProofs := false) only [go_sem, hx3, k3, hc3]
        refine (ih i hlt (okTs_get hlt hok.2) ws3.1 (Rep.ext hp hfn) (by simp at hv2; omega)).mono ?_
        rintro r H5 ⟨rfl, g5, w5⟩
        simp (implicitDefEqProofs := false) only [go_sem]
        refine loopK_intro (i + 1) (by show t.parts.length - (i + 1) < t.parts.length - i; omega) ?_ ⟨hlt, _, _, ws3.trans w5, ?_⟩
        · simp (implicitDefEqProofs := false) only [go_sem, hw]
        · rw [← hv]; simp
      · have hge' : ¬ (i : Int) < (t.parts.length : Int) := by omega
        rw [List.drop_eq_nil_of_le hge] at hv
        simp only [encPs, List.nil_append] at hv
        have ht : tailB t = [] := by
          have : ¬ t.kind = 10 := by omega
          rw [tailB, if_neg this]
        rw [ht, List.append_nil] at hv
        subst hv
        simp (implicitDefEqProofs := false) only [go_sem, hge', hx, k3]
        exact ⟨_, WrStep.pre hf1 ws'⟩
  by_cases k4 : t.kind = 4
  · rw [if_neg (by omega), if_pos (by omega)] at hH hkl
    simp (implicitDefEqProofs := false) only [go_sem, hc0, k4]
    refine (list_ok w0.1 (Rep.wr h3' w0) (by simp only [List.length_append]; omega)).mono ?_
    rintro r Hc ⟨rfl, gc, wc⟩
    have ws := w0.trans wc
    have hcc := (Blk.wr hn1 ws hxb hxg).cell
    have hv0 : (l ++ enc t.kind.toNat ++ strsB t.names) ++ (encPs q6 (t.parts.drop 0) (t.names.drop 0) ++ tailB t) = l ++ encT t := by rw [hO, hH]; simp
    simp (implicitDefEqProofs := false) only [go_sem, hcc]
    refine vc_loop (fun (i : Nat) H' => i ≤ t.parts.length ∧ ∃ l' g', WrStep H1 b g H' l' g' ∧ l' ++ (encPs q6 (t.parts.drop i) (t.names.drop i) ++ tailB t) = l ++ encT t)
      (fun i => [(0, .pointer (some ⟨b, 0, none⟩)), (3, .pointer (some ⟨H.size, 0, none⟩)), (44, .slice pa t.parts.length pc), (45, .int .i64 t.parts.length), (46, .int .i64 i)]) (fun i => t.parts.length - i) 0 ?_ ?_ ?_
    · exact ⟨Nat.zero_le _, _, _, ws, hv0⟩
    · simp (implicitDefEqProofs := false) only [go_sem]
    · rintro i H' ⟨hi, l', g', ws', hv⟩
      have hx := (Blk.wr hn1 ws' hxb hxg).cell
      rcases Nat.lt_or_ge i t.parts.length with hlt | hge
      · have hlt' : (i : Int) < (t.parts.length : Int) := by omega
        have h0 : (0 : Int) ≤ (i : Int) := by omega
        obtain ⟨bb, o, c, wn, wp, wr, e1, p0, p1, p2, p3, p4, p5, hp⟩ := PartsA.at (Rep.wr h4' ws') i hlt
        cases e1
        have hw := succ_i64 i t.parts.length hlt (by omega)
        rw [encPs_drop _ hlt] at hv
        have hv2 := congrArg List.length hv
        simp only [List.length_append] at hv2
        simp (implicitDefEqProofs := false) only [go_sem, hlt', h0, p0, p1, p2, p3, p4, p5]
        refine NewP_intro fun H2 hn2 hf2 hs2 => ?_
        simp (implicitDefEqProofs := false) only [go_sem]
        refine Sto_all hn2 rfl (LtA.one6 hp) fun H3 hn3 hf3 hs3 => ?_
        have hfn := new_fr hf2 hf3
        have hc3 := hn3.cell
        have ws3 := ws'.post hfn
        have hx3 := (Blk.wr hn1 ws3 hxb hxg).cell
        have hb3 : H'.size ≠ b := by have := ws'.1.lt; omega
        have hg3 : ∀ k, g' = some k → H'.size ≠ k := by
          intro k hk
          obtain ⟨aa, cc, _, ho⟩ := ws'.1
          have := ho.lt hk
          omega
        have hnm : nameB q6 (t.names.drop i) = [] := by
          have : ¬ t.kind = 6 := by omega
          rw [hq6, decide_eq_false this]; rfl
        rw [hnm] at hv hv2
        simp (implicitDefEqProofs := false) only [go_sem, hx3, k4, hc3]
        refine (ih i hlt (okTs_get hlt hok.2) ws3.1 (Rep.ext hp hfn) (by simp at hv2; omega)).mono ?_
        rintro r H5 ⟨rfl, g5, w5⟩
        simp (implicitDefEqProofs := false) only [go_sem]
        refine loopK_intro (i + 1) (by show t.parts.length - (i + 1) < t.parts.length - i; omega) ?_ ⟨hlt, _, _, ws3.trans w5, ?_⟩
        · simp (implicitDefEqProofs := false) only [go_sem, hw]
        · rw [← hv]; simp
      · have hge' : ¬ (i : Int) < (t.parts.length : Int) := by omega
        rw [List.drop_eq_nil_of_le hge] at hv
        simp only [encPs, List.nil_append] at hv
        have ht : tailB t = [] := by
          have : ¬ t.kind = 10 := by omega
          rw [tailB, if_neg this]
        rw [ht, List.append_nil] at hv
        subst hv
        simp (implicitDefEqProofs := false) only [go_sem, hge', hx, k4]
        exact ⟨_, WrStep.pre hf1 ws'⟩
  by_cases k8 : t.kind = 8
  · rw [if_neg (by omega), if_pos (by omega)] at hH hkl
    simp (implicitDefEqProofs := false) only [go_sem, hc0, k8]
    refine (list_ok w0.1 (Rep.wr h3' w0) (by simp only [List.length_append]; omega)).mono ?_
    rintro r Hc ⟨rfl, gc, wc⟩
    have ws := w0.trans wc
    have hcc := (Blk.wr hn1 ws hxb hxg).cell
    have hv0 : (l ++ enc t.kind.toNat ++ strsB t.names) ++ (encPs q6 (t.parts.drop 0) (t.names.drop 0) ++ tailB t) = l ++ encT t := by rw [hO, hH]; simp
    simp (implicitDefEqProofs := false) only [go_sem, hcc]
    refine vc_loop (fun (i : Nat) H' => i ≤ t.parts.length ∧ ∃ l' g', WrStep H1 b g H' l' g' ∧ l' ++ (encPs q6 (t.parts.drop i) (t.names.drop i) ++ tailB t) = l ++ encT t)
      (fun i => [(0, .pointer (some ⟨b, 0, none⟩)), (3, .pointer (some ⟨H.size, 0, none⟩)), (44, .slice pa t.parts.length pc), (45, .int .i64 t.parts.length), (46, .int .i64 i)]) (fun i => t.parts.length - i) 0 ?_ ?_ ?_
    · exact ⟨Nat.zero_le _, _, _, ws, hv0⟩
    · simp (implicitDefEqProofs := false) only [go_sem]
    · rintro i H' ⟨hi, l', g', ws', hv⟩
      have hx := (Blk.wr hn1 ws' hxb hxg).cell
      rcases Nat.lt_or_ge i t.parts.length with hlt | hge
      · have hlt' : (i : Int) < (t.parts.length : Int) := by omega
        have h0 : (0 : Int) ≤ (i : Int) := by omega
        obtain ⟨bb, o, c, wn, wp, wr, e1, p0, p1, p2, p3, p4, p5, hp⟩ := PartsA.at (Rep.wr h4' ws') i hlt
        cases e1
        have hw := succ_i64 i t.parts.length hlt (by omega)
        rw [encPs_drop _ hlt] at hv
        have hv2 := congrArg List.length hv
        simp only [List.length_append] at hv2
        simp (implicitDefEqProofs := false) only [go_sem, hlt', h0, p0, p1, p2, p3, p4, p5]
        refine NewP_intro fun H2 hn2 hf2 hs2 => ?_
        simp (implicitDefEqProofs := false) only [go_sem]
        refine Sto_all hn2 rfl (LtA.one6 hp) fun H3 hn3 hf3 hs3 => ?_
        have hfn := new_fr hf2 hf3
        have hc3 := hn3.cell
        have ws3 := ws'.post hfn
        have hx3 := (Blk.wr hn1 ws3 hxb hxg).cell
        have hb3 : H'.size ≠ b := by have := ws'.1.lt; omega
        have hg3 : ∀ k, g' = some k → H'.size ≠ k := by
          intro k hk
          obtain ⟨aa, cc, _, ho⟩ := ws'.1
          have := ho.lt hk
          omega
        have hnm : nameB q6 (t.names.drop i) = [] := by
          have : ¬ t.kind = 6 := by omega
          rw [hq6, decide_eq_false this]; rfl
        rw [hnm] at hv hv2
        simp (implicitDefEqProofs := false) only [go_sem, hx3, k8, hc3]
        refine (ih i hlt (okTs_get hlt hok.2) ws3.1 (Rep.ext hp hfn) (by simp at hv2; omega)).mono ?_
        rintro r H5 ⟨rfl, g5, w5⟩
        simp (implicitDefEqProofs := false) only [go_sem]
        refine loopK_intro (i + 1) (by show t.parts.length - (i + 1) < t.parts.length - i; omega) ?_ ⟨hlt, _, _, ws3.trans w5, ?_⟩
        · simp (implicitDefEqProofs := false) only [go_sem, hw]
        · rw [← hv]; simp
      · have hge' : ¬ (i : Int) < (t.parts.length : Int) := by omega
        rw [List.drop_eq_nil_of_le hge] at hv
        simp only [encPs, List.nil_append] at hv
        have ht : tailB t = [] := by
          have : ¬ t.kind = 10 := by omega
          rw [tailB, if_neg this]
        rw [ht, List.append_nil] at hv
        subst hv
        simp (implicitDefEqProofs := false) only [go_sem, hge', hx, k8]
        exact ⟨_, WrStep.pre hf1 ws'⟩
  by_cases k5 : t.kind = 5
  · rw [if_neg (by omega), if_pos (by omega)] at hH hkl
    simp (implicitDefEqProofs := false) only [go_sem, hc0, k5]
    refine (list_ok w0.1 (Rep.wr h3' w0) (by simp only [List.length_append]; omega)).mono ?_
    rintro r Hc ⟨rfl, gc, wc⟩
    have ws := w0.trans wc
    have hcc := (Blk.wr hn1 ws hxb hxg).cell
    have hv0 : (l ++ enc t.kind.toNat ++ strsB t.names) ++ (encPs q6 (t.parts.drop 0) (t.names.drop 0) ++ tailB t) = l ++ encT t := by rw [hO, hH]; simp
    simp (implicitDefEqProofs := false) only [go_sem, hcc]
    refine vc_loop (fun (i : Nat) H' => i ≤ t.parts.length ∧ ∃ l' g', WrStep H1 b g H' l' g' ∧ l' ++ (encPs q6 (t.parts.drop i) (t.names.drop i) ++ tailB t) = l ++ encT t)
      (fun i => [(0, .pointer (some ⟨b, 0, none⟩)), (3, .pointer (some ⟨H.size, 0, none⟩)), (44, .slice pa t.parts.length pc), (45, .int .i64 t.parts.length), (46, .int .i64 i)]) (fun i => t.parts.length - i) 0 ?_ ?_ ?_
    · exact ⟨Nat.zero_le _, _, _, ws, hv0⟩
    · simp (implicitDefEqProofs := false) only [go_sem]
    · rintro i H' ⟨hi, l', g', ws', hv⟩
      have hx := (Blk.wr hn1 ws' hxb hxg).cell
      rcases Nat.lt_or_ge i t.parts.length with hlt | hge
      · have hlt' : (i : Int) < (t.parts.length : Int) := by omega
        have h0 : (0 : Int) ≤ (i : Int) := by omega
        obtain ⟨bb, o, c, wn, wp, wr, e1, p0, p1, p2, p3, p4, p5, hp⟩ := PartsA.at (Rep.wr h4' ws') i hlt
        cases e1
        have hw := succ_i64 i t.parts.length hlt (by omega)
        rw [encPs_drop _ hlt] at hv
        have hv2 := congrArg List.length hv
        simp only [List.length_append] at hv2
        simp (implicitDefEqProofs := false) only [go_sem, hlt', h0, p0, p1, p2, p3, p4, p5]
        refine NewP_intro fun H2 hn2 hf2 hs2 => ?_
        simp (implicitDefEqProofs := false) only [go_sem]
        refine Sto_all hn2 rfl (LtA.one6 hp) fun H3 hn3 hf3 hs3 => ?_
        have hfn := new_fr hf2 hf3
        have hc3 := hn3.cell
        have ws3 := ws'.post hfn
        have hx3 := (Blk.wr hn1 ws3 hxb hxg).cell
        have hb3 : H'.size ≠ b := by have := ws'.1.lt; omega
        have hg3 : ∀ k, g' = some k → H'.size ≠ k := by
          intro k hk
          obtain ⟨aa, cc, _, ho⟩ := ws'.1
          have := ho.lt hk
          omega
        have hnm : nameB q6 (t.names.drop i) = [] := by
          have : ¬ t.kind = 6 := by omega
          rw [hq6, decide_eq_false this]; rfl
        rw [hnm] at hv hv2
        simp (implicitDefEqProofs := false) only [go_sem, hx3, k5, hc3]
        refine (ih i hlt (okTs_get hlt hok.2) ws3.1 (Rep.ext hp hfn) (by simp at hv2; omega)).mono ?_
        rintro r H5 ⟨rfl, g5, w5⟩
        simp (implicitDefEqProofs := false) only [go_sem]
        refine loopK_intro (i + 1) (by show t.parts.length - (i + 1) < t.parts.length - i; omega) ?_ ⟨hlt, _, _, ws3.trans w5, ?_⟩
        · simp (implicitDefEqProofs := false) only [go_sem, hw]
        · rw [← hv]; simp
      · have hge' : ¬ (i : Int) < (t.parts.length : Int) := by omega
        rw [List.drop_eq_nil_of_le hge] at hv
        simp only [encPs, List.nil_append] at hv
        have ht : tailB t = [] := by
          have : ¬ t.kind = 10 := by omega
          rw [tailB, if_neg this]
        rw [ht, List.append_nil] at hv
        subst hv
        simp (implicitDefEqProofs := false) only [go_sem, hge', hx, k5]
        exact ⟨_, WrStep.pre hf1 ws'⟩
  by_cases k10 : t.kind = 10
  · rw [if_neg (by omega), if_pos (by omega)] at hH hkl
    simp (implicitDefEqProofs := false) only [go_sem, hc0, k10]
    refine (list_ok w0.1 (Rep.wr h3' w0) (by simp only [List.length_append]; omega)).mono ?_
    rintro r Hc ⟨rfl, gc, wc⟩
    have ws := w0.trans wc
    have hcc := (Blk.wr hn1 ws hxb hxg).cell
    have hv0 : (l ++ enc t.kind.toNat ++ strsB t.names) ++ (encPs q6 (t.parts.drop 0) (t.names.drop 0) ++ tailB t) = l ++ encT t := by rw [hO, hH]; simp
    simp (implicitDefEqProofs := false) only [go_sem, hcc]
    refine vc_loop (fun (i : Nat) H' => i ≤ t.parts.length ∧ ∃ l' g', WrStep H1 b g H' l' g' ∧ l' ++ (encPs q6 (t.parts.drop i) (t.names.drop i) ++ tailB t) = l ++ encT t)
      (fun i => [(0, .pointer (some ⟨b, 0, none⟩)), (3, .pointer (some ⟨H.size, 0, none⟩)), (44, .slice pa t.parts.length pc), (45, .int .i64 t.parts.length), (46, .int .i64 i)]) (fun i => t.parts.length - i) 0 ?_ ?_ ?_
    · exact ⟨Nat.zero_le _, _, _, ws, hv0⟩
    · simp (implicitDefEqProofs := false) only [go_sem]
    · rintro i H' ⟨hi, l', g', ws', hv⟩
      have hx := (Blk.wr hn1 ws' hxb hxg).cell
      rcases Nat.lt_or_ge i t.parts.length with hlt | hge
      · have hlt' : (i : Int) < (t.parts.length : Int) := by omega
        have h0 : (0 : Int) ≤ (i : Int) := by omega
        obtain ⟨bb, o, c, wn, wp, wr, e1, p0, p1, p2, p3, p4, p5, hp⟩ := PartsA.at (Rep.wr h4' ws') i hlt
        cases e1
        have hw := succ_i64 i t.parts.length hlt (by omega)
        rw [encPs_drop _ hlt] at hv
        have hv2 := congrArg List.length hv
        simp only [List.length_append] at hv2
        simp (implicitDefEqProofs := false) only [go_sem, hlt', h0, p0, p1, p2, p3, p4, p5]
        refine NewP_intro fun H2 hn2 hf2 hs2 => ?_
        simp (implicitDefEqProofs := false) only [go_sem]
        refine Sto_all hn2 rfl (LtA.one6 hp) fun H3 hn3 hf3 hs3 => ?_
        have hfn := new_fr hf2 hf3
        have hc3 := hn3.cell
        have ws3 := ws'.post hfn
        have hx3 := (Blk.wr hn1 ws3 hxb hxg).cell
        have hb3 : H'.size ≠ b := by have := ws'.1.lt; omega
        have hg3 : ∀ k, g' = some k → H'.size ≠ k := by
          intro k hk
          obtain ⟨aa, cc, _, ho⟩ := ws'.1
          have := ho.lt hk
          omega
        have hnm : nameB q6 (t.names.drop i) = [] := by
          have : ¬ t.kind = 6 := by omega
          rw [hq6, decide_eq_false this]; rfl
        rw [hnm] at hv hv2
        simp (implicitDefEqProofs := false) only [go_sem, hx3, k10, hc3]
        refine (ih i hlt (okTs_get hlt hok.2) ws3.1 (Rep.ext hp hfn) (by simp at hv2; omega)).mono ?_
        rintro r H5 ⟨rfl, g5, w5⟩
        simp (implicitDefEqProofs := false) only [go_sem]
        refine loopK_intro (i + 1) (by show t.parts.length - (i + 1) < t.parts.length - i; omega) ?_ ⟨hlt, _, _, ws3.trans w5, ?_⟩
        · simp (implicitDefEqProofs := false) only [go_sem, hw]
        · rw [← hv]; simp
      · have hge' : ¬ (i : Int) < (t.parts.length : Int) := by omega
        rw [List.drop_eq_nil_of_le hge] at hv
        simp only [encPs, List.nil_append] at hv
        have ht : tailB t = enc t.rules.length ++ t.rules.flatMap ruleB := by rw [tailB, if_pos k10]
        rw [ht] at hv
        have hv2 := congrArg List.length hv
        simp only [List.length_append] at hv2
        have hcr : IntKind.u64.wrap ((t.rules.length : Nat) : Int) = ((t.rules.length : Nat) : Int) := by unfold maxLen at hrc; rw [wrap_u64_id _ (by omega) (by omega)]
        simp (implicitDefEqProofs := false) only [go_sem, hge', hx, k10, hcr]
        refine (uint_ok t.rules.length (by unfold maxLen at hrc; omega) ws'.1 (by omega)).mono ?_
        rintro r H6 ⟨rfl, g6, w6⟩
        have ws6 := ws'.trans w6
        have hx6 := (Blk.wr hn1 ws6 hxb hxg).cell
        simp (implicitDefEqProofs := false) only [go_sem, hx6]
        refine vc_loop (fun (j : Nat) H' => j ≤ t.rules.length ∧ ∃ l' g', WrStep H1 b g H' l' g' ∧ l' ++ (t.rules.drop j).flatMap ruleB = l ++ encT t)
          (fun j => [(0, .pointer (some ⟨b, 0, none⟩)), (82, .slice ra t.rules.length rc), (83, .int .i64 t.rules.length), (84, .int .i64 j)]) (fun j => t.rules.length - j) 0 ?_ ?_ ?_
        · exact ⟨Nat.zero_le _, _, _, ws6, by rw [← hv]; simp⟩
        · simp (implicitDefEqProofs := false) only [go_sem]
        · rintro j H7 ⟨hj, l7, g7, ws7, hvj⟩
          rcases Nat.lt_or_ge j t.rules.length with hlt2 | hge2
          · have hlt2' : (j : Int) < (t.rules.length : Int) := by omega
            have h02 : (0 : Int) ≤ (j : Int) := by omega
            have hw2 := succ_i64 j t.rules.length hlt2 (by omega)
            obtain ⟨b7, o7, c7, vi, e7, q0, q1, hq⟩ := RulesA.at (Rep.wr h5' ws7) j hlt2
            cases e7
            rw [List.drop_eq_getElem_cons hlt2, List.flatMap_cons] at hvj
            have hvj2 := congrArg List.length hvj
            simp only [List.length_append, ruleB, textB] at hvj2
            obtain ⟨ia, ic, rfl, hil, hic⟩ := StrsA.slice hq
            simp (implicitDefEqProofs := false) only [go_sem, hlt2', h02, q0, q1, sv]
            refine NewP_intro fun H8 hn8 hf8 hs8 => ?_
            simp (implicitDefEqProofs := false) only [go_sem]
            refine Sto_all hn8 rfl (one2 (Rep.one1 hq) rfl) fun H9 hn9 hf9 hs9 => ?_
            have hfn := new_fr hf8 hf9
            have hc9 := hn9.cell
            have ws9 := ws7.post hfn
            have hb9 : H7.size ≠ b := by have := ws7.1.lt; omega
            have hg9 : ∀ k, g7 = some k → H7.size ≠ k := by
              intro k hk
              obtain ⟨aa, cc, _, ho⟩ := ws7.1
              have := ho.lt hk
              omega
            simp (implicitDefEqProofs := false) only [go_sem, hc9]
            refine (list_ok ws9.1 (Rep.ext hq hfn) (by omega)).mono ?_
            rintro r H10 ⟨rfl, g10, w10⟩
            have hc10 := (Blk.wr hn9 w10 hb9 hg9).cell
            simp (implicitDefEqProofs := false) only [go_sem, hc10]
            refine (text_ok t.rules[j].thn w10.1 (by simp only [List.length_append]; omega)).mono ?_
            rintro r H11 ⟨rfl, g11, w11⟩
            simp (implicitDefEqProofs := false) only [go_sem]
            refine loopK_intro (j + 1) (by show t.rules.length - (j + 1) < t.rules.length - j; omega) ?_ ⟨hlt2, _, _, (ws9.trans w10).trans w11, ?_⟩
            · simp (implicitDefEqProofs := false) only [go_sem, hw2]
            · rw [← hvj]; simp [ruleB, textB]
          · have hge2' : ¬ (j : Int) < (t.rules.length : Int) := by omega
            rw [List.drop_eq_nil_of_le hge2] at hvj
            simp only [List.flatMap_nil, List.append_nil] at hvj
            subst hvj
            simp (implicitDefEqProofs := false) only [go_sem, hge2']
            exact ⟨_, WrStep.pre hf1 ws7⟩
  by_cases k6 : t.kind = 6
  · rw [if_neg (by omega), if_neg (by omega), if_pos k6] at hH hkl
    have hcn : IntKind.u64.wrap ((t.names.length : Nat) : Int) = ((t.names.length : Nat) : Int) := by unfold maxLen at hnc; rw [wrap_u64_id _ (by omega) (by omega)]
    simp (implicitDefEqProofs := false) only [go_sem, hc0, k6, hcn]
    refine (uint_ok t.names.length (by unfold maxLen at hnc; omega) w0.1 (by simp only [List.length_append]; omega)).mono ?_
    rintro r Hc ⟨rfl, gc, wc⟩
    have ws := w0.trans wc
    have hcc := (Blk.wr hn1 ws hxb hxg).cell
    have hv0 : (l ++ enc t.kind.toNat ++ enc t.names.length) ++ (encPs q6 (t.parts.drop 0) (t.names.drop 0) ++ tailB t) = l ++ encT t := by rw [hO, hH]; simp
    simp (implicitDefEqProofs := false) only [go_sem, hcc]
    refine vc_loop (fun (i : Nat) H' => i ≤ t.parts.length ∧ ∃ l' g', WrStep H1 b g H' l' g' ∧ l' ++ (encPs q6 (t.parts.drop i) (t.names.drop i) ++ tailB t) = l ++ encT t)
      (fun i => [(0, .pointer (some ⟨b, 0, none⟩)), (3, .pointer (some ⟨H.size, 0, none⟩)), (44, .slice pa t.parts.length pc), (45, .int .i64 t.parts.length), (46, .int .i64 i)]) (fun i => t.parts.length - i) 0 ?_ ?_ ?_
    · exact ⟨Nat.zero_le _, _, _, ws, hv0⟩
    · simp (implicitDefEqProofs := false) only [go_sem]
    · rintro i H' ⟨hi, l', g', ws', hv⟩
      have hx := (Blk.wr hn1 ws' hxb hxg).cell
      rcases Nat.lt_or_ge i t.parts.length with hlt | hge
      · have hlt' : (i : Int) < (t.parts.length : Int) := by omega
        have h0 : (0 : Int) ≤ (i : Int) := by omega
        obtain ⟨bb, o, c, wn, wp, wr, e1, p0, p1, p2, p3, p4, p5, hp⟩ := PartsA.at (Rep.wr h4' ws') i hlt
        cases e1
        have hw := succ_i64 i t.parts.length hlt (by omega)
        rw [encPs_drop _ hlt] at hv
        have hv2 := congrArg List.length hv
        simp only [List.length_append] at hv2
        simp (implicitDefEqProofs := false) only [go_sem, hlt', h0, p0, p1, p2, p3, p4, p5]
        refine NewP_intro fun H2 hn2 hf2 hs2 => ?_
        simp (implicitDefEqProofs := false) only [go_sem]
        refine Sto_all hn2 rfl (LtA.one6 hp) fun H3 hn3 hf3 hs3 => ?_
        have hfn := new_fr hf2 hf3
        have hc3 := hn3.cell
        have ws3 := ws'.post hfn
        have hx3 := (Blk.wr hn1 ws3 hxb hxg).cell
        have hb3 : H'.size ≠ b := by have := ws'.1.lt; omega
        have hg3 : ∀ k, g' = some k → H'.size ≠ k := by
          intro k hk
          obtain ⟨aa, cc, _, ho⟩ := ws'.1
          have := ho.lt hk
          omega
        have hd6 : q6 = true := by rw [hq6]; exact decide_eq_true k6
        by_cases hn : i < t.names.length
        · have hn' : (i : Int) < (t.names.length : Int) := by omega
          obtain ⟨b2, o2, c2, e2, q2⟩ := StrsA.at (Rep.wr h3' ws3) i hn
          cases e2
          have hnm : nameB q6 (t.names.drop i) = textB t.names[i] := by
            rw [hd6, List.drop_eq_getElem_cons hn]; rfl
          rw [hnm] at hv hv2
          simp only [textB, List.length_append] at hv2
          simp (implicitDefEqProofs := false) only [go_sem, hx3, k6, hn', h0, q2]
          refine (text_ok t.names[i] ws3.1 (by omega)).mono ?_
          rintro r H4 ⟨rfl, g4, w4⟩
          have ws4 := ws3.trans w4
          have hc4 := (Blk.wr hn3 w4 hb3 hg3).cell
          simp (implicitDefEqProofs := false) only [go_sem, hc4]
          refine (ih i hlt (okTs_get hlt hok.2) w4.1 (Rep.wr (Rep.ext hp hfn) w4) (by simp only [List.length_append]; omega)).mono ?_
          rintro r H5 ⟨rfl, g5, w5⟩
          simp (implicitDefEqProofs := false) only [go_sem]
          refine loopK_intro (i + 1) (by show t.parts.length - (i + 1) < t.parts.length - i; omega) ?_ ⟨hlt, _, _, ws4.trans w5, ?_⟩
          · simp (implicitDefEqProofs := false) only [go_sem, hw]
          · rw [← hv]; simp [textB]
        · have hn' : ¬ (i : Int) < (t.names.length : Int) := by omega
          have hnm : nameB q6 (t.names.drop i) = [] := by
            rw [hd6, List.drop_eq_nil_of_le (by omega)]; rfl
          rw [hnm] at hv hv2
          simp (implicitDefEqProofs := false) only [go_sem, hx3, k6, hn', hc3]
          refine (ih i hlt (okTs_get hlt hok.2) ws3.1 (Rep.ext hp hfn) (by simp at hv2; omega)).mono ?_
          rintro r H5 ⟨rfl, g5, w5⟩
          simp (implicitDefEqProofs := false) only [go_sem]
          refine loopK_intro (i + 1) (by show t.parts.length - (i + 1) < t.parts.length - i; omega) ?_ ⟨hlt, _, _, ws3.trans w5, ?_⟩
          · simp (implicitDefEqProofs := false) only [go_sem, hw]
          · rw [← hv]; simp
      · have hge' : ¬ (i : Int) < (t.parts.length : Int) := by omega
        rw [List.drop_eq_nil_of_le hge] at hv
        simp only [encPs, List.nil_append] at hv
        have ht : tailB t = [] := by
          have : ¬ t.kind = 10 := by omega
          rw [tailB, if_neg this]
        rw [ht, List.append_nil] at hv
        subst hv
        simp (implicitDefEqProofs := false) only [go_sem, hge', hx, k6]
        exact ⟨_, WrStep.pre hf1 ws'⟩
  rw [if_neg (by omega), if_neg (by omega), if_neg k6] at hH hkl
  have ws := w0
  have hv0 : (l ++ enc t.kind.toNat) ++ (encPs q6 (t.parts.drop 0) (t.names.drop 0) ++ tailB t) = l ++ encT t := by rw [hO, hH]; simp
  simp (implicitDefEqProofs := false) only [go_sem, hc0, k2, k3, k4, k8, k5, k10, k6]
  refine vc_loop (fun (i : Nat) H' => i ≤ t.parts.length ∧ ∃ l' g', WrStep H1 b g H' l' g' ∧ l' ++ (encPs q6 (t.parts.drop i) (t.names.drop i) ++ tailB t) = l ++ encT t)
    (fun i => [(0, .pointer (some ⟨b, 0, none⟩)), (3, .pointer (some ⟨H.size, 0, none⟩)), (44, .slice pa t.parts.length pc), (45, .int .i64 t.parts.length), (46, .int .i64 i)]) (fun i => t.parts.length - i) 0 ?_ ?_ ?_
  · exact ⟨Nat.zero_le _, _, _, ws, hv0⟩
  · simp (implicitDefEqProofs := false) only [go_sem]
  · rintro i H' ⟨hi, l', g', ws', hv⟩
    have hx := (Blk.wr hn1 ws' hxb hxg).cell
    rcases Nat.lt_or_ge i t.parts.length with hlt | hge
    · have hlt' : (i : Int) < (t.parts.length : Int) := by omega
      have h0 : (0 : Int) ≤ (i : Int) := by omega
      obtain ⟨bb, o, c, wn, wp, wr, e1, p0, p1, p2, p3, p4, p5, hp⟩ := PartsA.at (Rep.wr h4' ws') i hlt
      cases e1
      have hw := succ_i64 i t.parts.length hlt (by omega)
      rw [encPs_drop _ hlt] at hv
      have hv2 := congrArg List.length hv
      simp only [List.length_append] at hv2
      simp (implicitDefEqProofs := false) only [go_sem, hlt', h0, p0, p1, p2, p3, p4, p5]
      refine NewP_intro fun H2 hn2 hf2 hs2 => ?_
      simp (implicitDefEqProofs := false) only [go_sem]
      refine Sto_all hn2 rfl (LtA.one6 hp) fun H3 hn3 hf3 hs3 => ?_
      have hfn := new_fr hf2 hf3
      have hc3 := hn3.cell
      have ws3 := ws'.post hfn
      have hx3 := (Blk.wr hn1 ws3 hxb hxg).cell
      have hb3 : H'.size ≠ b := by have := ws'.1.lt; omega
      have hg3 : ∀ k, g' = some k → H'.size ≠ k := by
        intro k hk
        obtain ⟨aa, cc, _, ho⟩ := ws'.1
        have := ho.lt hk
        omega
      have hnm : nameB q6 (t.names.drop i) = [] := by
        have : ¬ t.kind = 6 := by omega
        rw [hq6, decide_eq_false this]; rfl
      rw [hnm] at hv hv2
      simp (implicitDefEqProofs := false) only [go_sem, hx3, k2, k3, k4, k8, k5, k10, k6, hc3]
      refine (ih i hlt (okTs_get hlt hok.2) ws3.1 (Rep.ext hp hfn) (by simp at hv2; omega)).mono ?_
      rintro r H5 ⟨rfl, g5, w5⟩
      simp (implicitDefEqProofs := false) only [go_sem]
      refine loopK_intro (i + 1) (by show t.parts.length - (i + 1) < t.parts.length - i; omega) ?_ ⟨hlt, _, _, ws3.trans w5, ?_⟩
      · simp (implicitDefEqProofs := false) only [go_sem, hw]
      · rw [← hv]; simp
    · have hge' : ¬ (i : Int) < (t.parts.length : Int) := by omega
      rw [List.drop_eq_nil_of_le hge] at hv
      simp only [encPs, List.nil_append] at hv
      have ht : tailB t = [] := by
        have : ¬ t.kind = 10 := by omega
        rw [tailB, if_neg this]
      rw [ht, List.append_nil] at hv
      subst hv
      simp (implicitDefEqProofs := false) only [go_sem, hge', hx, k2, k3, k4, k8, k5, k10, k6]
      exact ⟨_, WrStep.pre hf1 ws'⟩

end Go.Proofs.Ytcilkhjadljaaaa
