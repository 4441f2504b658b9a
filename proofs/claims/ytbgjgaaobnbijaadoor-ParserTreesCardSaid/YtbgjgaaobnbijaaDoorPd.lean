/- Levels of expressions that are chains: contracts. -/
import Derived.Test.YtbgjgaaobnbijaaDoorPc
set_option linter.unusedSimpArgs false
set_option linter.unusedVariables false
set_option maxRecDepth 8000
namespace Go.Proofs.YtbgjgaaobnbijaaDoor
open Gx Go

theorem sum_ok {k : Nat} {lo : Lo} (hl : LoDn lo) (hop : POk k 107 [] (postP lo) NdR) : POk k 105 [] (sumP lo) NdR := by
  refine ⟨fun {X H ts} hs => ?_⟩
  refine pcalls_of_vc (args := [_]) Tryd.func105 c105ok (Nat.le_of_ble_eq_true rfl) ?_
  simp (implicitDefEqProofs := false) only [go_sem, c105]
  refine NewP_intro fun H0 hn0 hf0 hs0 => ?_
  simp (implicitDefEqProofs := false) only [go_sem]
  refine NewM_intro fun H1 hm1 hf1 hs1 => ?_
  simp (implicitDefEqProofs := false) only [go_sem]
  refine InsM_intro hm1 rfl fun H2 hm2 hg2 hs2 => ?_
  simp (implicitDefEqProofs := false) only [go_sem]
  refine InsM_intro hm2 rfl fun H3 hm3 hg3 hs3 => ?_
  simp (implicitDefEqProofs := false) only [go_sem]
  have hfA1 := hf0.trans hf1
  have hfA2 : Fr [] H H2 := hfA1.trans' hg2 (by simp; omega)
  have hfA3 : Fr [] H H3 := hfA2.trans' hg3 (by simp; omega)
  have hx0 : H.size ≠ X.b := by have := hs.lt; omega
  have hb1 := hn0.ext hf1
  have hb2 := hb1.fr hg2 (by simp; omega)
  have hb3 := hb2.fr hg3 (by simp; omega)
  refine PCalls.mono (chain_ok (kd := kSum) (by kernel_rfl) hop (postP_dn hl) (hs.ext hfA3) hm3) ?_ ?_
  rotate_left
  · rintro ch H9 ⟨e, he, rfl, hf9⟩
    exact ⟨e, he, rfl, (fr1 hfA3).trans hf9⟩
  rintro v H9 ⟨⟨k', t', n', a', ks'⟩, r, he, ⟨cs, rfl, hr⟩, hs9, hf9⟩
  obtain ⟨kv, rfl, hkv⟩ := RepP.nd_open hr
  have hb9 := hb3.fr hf9 (by simpa using hx0)
  simp (implicitDefEqProofs := false) only [go_sem]
  refine Sto_all hb9 rfl (one_agg (nd_one hkv)) fun H10 hn10 hf10 hs10 => ?_
  have hc10 := hn10.cell
  simp (implicitDefEqProofs := false) only [go_sem, hc10]
  refine ⟨_, r, he, ⟨_, rfl, RepP.nd ?_⟩, Ps.on hs hs9 hf10 (by simp), ((fr1 hfA3).trans hf9).trans' hf10 (by simp)⟩
  have := hfA3.size
  have := (hf1.size)
  exact RepP.fr hkv hf10 (by simp; omega) fun x hx => by omega

theorem joined_ok {k : Nat} {lo : Lo} (hl : LoDn lo) (hop : POk k 105 [] (sumP lo) NdR) : POk k 97 [] (joinP lo) NdR := by
  refine ⟨fun {X H ts} hs => ?_⟩
  refine pcalls_of_vc (args := [_]) Tryd.func97 c97ok (Nat.le_of_ble_eq_true rfl) ?_
  simp (implicitDefEqProofs := false) only [go_sem, c97]
  refine NewP_intro fun H0 hn0 hf0 hs0 => ?_
  simp (implicitDefEqProofs := false) only [go_sem]
  refine NewM_intro fun H1 hm1 hf1 hs1 => ?_
  simp (implicitDefEqProofs := false) only [go_sem]
  refine InsM_intro hm1 rfl fun H2 hm2 hg2 hs2 => ?_
  simp (implicitDefEqProofs := false) only [go_sem]
  have hfA1 := hf0.trans hf1
  have hfA2 : Fr [] H H2 := hfA1.trans' hg2 (by simp; omega)
  have hx0 : H.size ≠ X.b := by have := hs.lt; omega
  have hb1 := hn0.ext hf1
  have hb2 := hb1.fr hg2 (by simp; omega)
  refine PCalls.mono (chain_ok (kd := kJoin) (by kernel_rfl) hop (sumP_dn hl) (hs.ext hfA2) hm2) ?_ ?_
  rotate_left
  · rintro ch H9 ⟨e, he, rfl, hf9⟩
    exact ⟨e, he, rfl, (fr1 hfA2).trans hf9⟩
  rintro v H9 ⟨⟨k', t', n', a', ks'⟩, r, he, ⟨cs, rfl, hr⟩, hs9, hf9⟩
  obtain ⟨kv, rfl, hkv⟩ := RepP.nd_open hr
  have hb9 := hb2.fr hf9 (by simpa using hx0)
  simp (implicitDefEqProofs := false) only [go_sem]
  refine Sto_all hb9 rfl (one_agg (nd_one hkv)) fun H10 hn10 hf10 hs10 => ?_
  have hc10 := hn10.cell
  simp (implicitDefEqProofs := false) only [go_sem, hc10]
  refine ⟨_, r, he, ⟨_, rfl, RepP.nd ?_⟩, Ps.on hs hs9 hf10 (by simp), ((fr1 hfA2).trans hf9).trans' hf10 (by simp)⟩
  have := hfA2.size
  have := (hf1.size)
  exact RepP.fr hkv hf10 (by simp; omega) fun x hx => by omega

theorem and_ok {k : Nat} {lo : Lo} (hl : LoDn lo) (hop : POk k 74 [] (notP lo) NdR) : POk k 57 [] (andP lo) NdR := by
  refine ⟨fun {X H ts} hs => ?_⟩
  refine pcalls_of_vc (args := [_]) Tryd.func57 c57ok (Nat.le_of_ble_eq_true rfl) ?_
  simp (implicitDefEqProofs := false) only [go_sem, c57]
  refine NewP_intro fun H0 hn0 hf0 hs0 => ?_
  simp (implicitDefEqProofs := false) only [go_sem]
  refine NewM_intro fun H1 hm1 hf1 hs1 => ?_
  simp (implicitDefEqProofs := false) only [go_sem]
  refine InsM_intro hm1 rfl fun H2 hm2 hg2 hs2 => ?_
  simp (implicitDefEqProofs := false) only [go_sem]
  have hfA1 := hf0.trans hf1
  have hfA2 : Fr [] H H2 := hfA1.trans' hg2 (by simp; omega)
  have hx0 : H.size ≠ X.b := by have := hs.lt; omega
  have hb1 := hn0.ext hf1
  have hb2 := hb1.fr hg2 (by simp; omega)
  refine PCalls.mono (chain_ok (kd := kAnd) (by kernel_rfl) hop (notP_dn hl) (hs.ext hfA2) hm2) ?_ ?_
  rotate_left
  · rintro ch H9 ⟨e, he, rfl, hf9⟩
    exact ⟨e, he, rfl, (fr1 hfA2).trans hf9⟩
  rintro v H9 ⟨⟨k', t', n', a', ks'⟩, r, he, ⟨cs, rfl, hr⟩, hs9, hf9⟩
  obtain ⟨kv, rfl, hkv⟩ := RepP.nd_open hr
  have hb9 := hb2.fr hf9 (by simpa using hx0)
  simp (implicitDefEqProofs := false) only [go_sem]
  refine Sto_all hb9 rfl (one_agg (nd_one hkv)) fun H10 hn10 hf10 hs10 => ?_
  have hc10 := hn10.cell
  simp (implicitDefEqProofs := false) only [go_sem, hc10]
  refine ⟨_, r, he, ⟨_, rfl, RepP.nd ?_⟩, Ps.on hs hs9 hf10 (by simp), ((fr1 hfA2).trans hf9).trans' hf10 (by simp)⟩
  have := hfA2.size
  have := (hf1.size)
  exact RepP.fr hkv hf10 (by simp; omega) fun x hx => by omega

theorem or_ok {k : Nat} {lo : Lo} (hl : LoDn lo) (hop : POk k 57 [] (andP lo) NdR) : POk k 36 [] (orP lo) NdR := by
  refine ⟨fun {X H ts} hs => ?_⟩
  refine pcalls_of_vc (args := [_]) Tryd.func36 c36ok (Nat.le_of_ble_eq_true rfl) ?_
  simp (implicitDefEqProofs := false) only [go_sem, c36]
  refine NewP_intro fun H0 hn0 hf0 hs0 => ?_
  simp (implicitDefEqProofs := false) only [go_sem]
  refine NewM_intro fun H1 hm1 hf1 hs1 => ?_
  simp (implicitDefEqProofs := false) only [go_sem]
  refine InsM_intro hm1 rfl fun H2 hm2 hg2 hs2 => ?_
  simp (implicitDefEqProofs := false) only [go_sem]
  have hfA1 := hf0.trans hf1
  have hfA2 : Fr [] H H2 := hfA1.trans' hg2 (by simp; omega)
  have hx0 : H.size ≠ X.b := by have := hs.lt; omega
  have hb1 := hn0.ext hf1
  have hb2 := hb1.fr hg2 (by simp; omega)
  refine PCalls.mono (chain_ok (kd := kOr) (by kernel_rfl) hop (andP_dn hl) (hs.ext hfA2) hm2) ?_ ?_
  rotate_left
  · rintro ch H9 ⟨e, he, rfl, hf9⟩
    exact ⟨e, he, rfl, (fr1 hfA2).trans hf9⟩
  rintro v H9 ⟨⟨k', t', n', a', ks'⟩, r, he, ⟨cs, rfl, hr⟩, hs9, hf9⟩
  obtain ⟨kv, rfl, hkv⟩ := RepP.nd_open hr
  have hb9 := hb2.fr hf9 (by simpa using hx0)
  simp (implicitDefEqProofs := false) only [go_sem]
  refine Sto_all hb9 rfl (one_agg (nd_one hkv)) fun H10 hn10 hf10 hs10 => ?_
  have hc10 := hn10.cell
  simp (implicitDefEqProofs := false) only [go_sem, hc10]
  refine ⟨_, r, he, ⟨_, rfl, RepP.nd ?_⟩, Ps.on hs hs9 hf10 (by simp), ((fr1 hfA2).trans hf9).trans' hf10 (by simp)⟩
  have := hfA2.size
  have := (hf1.size)
  exact RepP.fr hkv hf10 (by simp; omega) fun x hx => by omega

end Go.Proofs.YtbgjgaaobnbijaaDoor