/- The package awake: contract. -/
import Derived.Test.YtcilkhjadljaaaaLd
set_option linter.unusedSimpArgs false
set_option linter.unusedVariables false
set_option maxRecDepth 8000
namespace Go.Proofs.Ytcilkhjadljaaaa
open Gx Go

def awN : Lt := .mk 2 0 9 [] [] []
def awS : Lt := .mk 4 0 0 [] [] []
def awX : Lt := .mk 7 0 0 [] [awN, awS] []
def awC : Lt := .mk 1 0 0 [] [] []
def awP : Lt := .mk 6 0 0 [[98], [97]] [awC, awS] []
abbrev cells6 (k lo hi : Int) : List Value := [.int .i64 k, .int .i64 lo, .int .i64 hi, .slice none 0 0, .slice none 0 0, .slice none 0 0]

theorem parts2 {H : Heap} {b t : Nat} {x y : Lt} {c1 c2 : List Value} (h : Blk H b t (c1 ++ c2)) (h1 : LtA H [] x c1) (h2 : LtA H [] y c2) (l1 : c1.length = 6) (l2 : c2.length = 6) : PartsA H [] [x, y] (.slice (some ⟨b, 0, none⟩) 2 2) := by
  show Rep H [] (.list 6 [x.dat, y.dat]) _
  simp only [Rep, Reps]
  refine ⟨some ⟨b, 0, none⟩, 2, [c1, c2], rfl, Nat.le_refl _, by decide, ⟨c1, [c2], rfl, h1, c2, [], rfl, h2, rfl⟩, by simp [l1, l2], .inr ⟨b, 0, rfl, by simp, fun j hj => ?_⟩⟩
  rw [h.cell, Nat.zero_add]
  simp only [List.flatten_cons, List.flatten_nil, List.append_nil] at hj ⊢
  rw [List.getElem?_eq_getElem hj]
theorem strs2 {H : Heap} {b t : Nat} {x y : Bs} (h : Blk H b t [sv x, sv y]) : StrsA H [] [x, y] (.slice (some ⟨b, 0, none⟩) 2 2) := by
  show Rep H [] (.list 1 [strD x, strD y]) _
  simp only [Rep, Reps, strD]
  refine ⟨some ⟨b, 0, none⟩, 2, [[sv x], [sv y]], rfl, Nat.le_refl _, by decide, ⟨_, _, rfl, rfl, _, _, rfl, rfl, rfl⟩, by simp, .inr ⟨b, 0, rfl, by simp, fun j hj => ?_⟩⟩
  rw [h.cell, Nat.zero_add]
  simp only [List.flatten_cons, List.flatten_nil, List.append_nil, List.cons_append, List.nil_append] at hj ⊢
  rw [List.getElem?_eq_getElem hj]

set_option maxHeartbeats 4000000 in
theorem awake_ok (H : Heap) : HCalls Try.prog 11 #[] H fun v H' => v = .bool true ∧ Fr [] H H' := by
  refine calls_of_vc (args := []) Try.func11 c11ok (Nat.le_of_ble_eq_true rfl) ?_
  have hfr := Fr.refl [] H
  simp (implicitDefEqProofs := false) only [go_sem, c11]
  refine NewP_intro fun Ha1 hna1 hfa1 hsa1 => ?_
  simp (implicitDefEqProofs := false) only [go_sem]
  refine Sto_all hna1 rfl (by simp [Value.oneCell']) fun Hb1 b1 hfb1 hsb1 => ?_
  have hfab1 := new_fr hfa1 hfb1
  replace hfr := hfr.trans hfab1
  simp (implicitDefEqProofs := false) only [go_sem, b1.cell]
  refine NewP_intro fun Ha2 hna2 hfa2 hsa2 => ?_
  simp (implicitDefEqProofs := false) only [go_sem]
  refine Sto_all hna2 rfl (by simp [Value.oneCell']) fun Hb2 b2 hfb2 hsb2 => ?_
  have hfab2 := new_fr hfa2 hfb2
  replace b1 := b1.ext hfab2
  replace hfr := hfr.trans hfab2
  simp (implicitDefEqProofs := false) only [go_sem, b1.cell, b2.cell]
  refine NewS_intro fun Ha3 px hfa3 hsa3 => ?_
  replace b1 := b1.ext hfa3
  replace b2 := b2.ext hfa3
  replace hfr := hfr.trans hfa3
  simp (implicitDefEqProofs := false) only [go_sem]
  refine NewP_intro fun Ha4 hna4 hfa4 hsa4 => ?_
  simp (implicitDefEqProofs := false) only [go_sem]
  refine Sto_all hna4 rfl (by simp [Value.oneCell']) fun Hb4 b3 hfb4 hsb4 => ?_
  have hfab4 := new_fr hfa4 hfb4
  replace b1 := b1.ext hfab4
  replace b2 := b2.ext hfab4
  replace px := px.ext hfab4
  replace hfr := hfr.trans hfab4
  simp (implicitDefEqProofs := false) only [go_sem, b1.cell, b2.cell]
  refine NewS_intro fun Ha5 pn hfa5 hsa5 => ?_
  replace b1 := b1.ext hfa5
  replace b2 := b2.ext hfa5
  replace px := px.ext hfa5
  replace b3 := b3.ext hfa5
  replace hfr := hfr.trans hfa5
  simp (implicitDefEqProofs := false) only [go_sem, b2.cell]
  refine NewS_intro fun Ha6 pp hfa6 hsa6 => ?_
  replace b1 := b1.ext hfa6
  replace b2 := b2.ext hfa6
  replace px := px.ext hfa6
  replace b3 := b3.ext hfa6
  replace pn := pn.ext hfa6
  replace hfr := hfr.trans hfa6
  simp (implicitDefEqProofs := false) only [go_sem]
  refine NewP_intro fun Ha7 hna7 hfa7 hsa7 => ?_
  simp (implicitDefEqProofs := false) only [go_sem]
  refine Sto_all hna7 rfl (by simp [Value.oneCell']) fun Hb7 b4 hfb7 hsb7 => ?_
  have hfab7 := new_fr hfa7 hfb7
  replace b1 := b1.ext hfab7
  replace b2 := b2.ext hfab7
  replace px := px.ext hfab7
  replace b3 := b3.ext hfab7
  replace pn := pn.ext hfab7
  replace pp := pp.ext hfab7
  replace hfr := hfr.trans hfab7
  simp (implicitDefEqProofs := false) only [go_sem, b4.cell]
  have dN : LtA _ [] awN (cells6 2 0 9) := bareA Hb7 [] 2 0 9
  have dS : LtA _ [] awS (cells6 4 0 0) := bareA Hb7 [] 4 0 0
  have dX : LtA _ [] awX _ := LtA.mk (l := awX) (nilA Hb7 [] 1) (parts2 (c1 := cells6 2 0 9) (c2 := cells6 4 0 0) (x := awN) (y := awS) px (bareA _ _ _ _ _) (bareA _ _ _ _ _) rfl rfl) (nilA Hb7 [] 2)
  have dP : LtA _ [] awP _ := LtA.mk (l := awP) (strs2 pn) (parts2 (c1 := cells6 1 0 0) (c2 := cells6 4 0 0) (x := awC) (y := awS) pp (bareA _ _ _ _ _) (bareA _ _ _ _ _) rfl rfl) (nilA Hb7 [] 2)
  have eF : fieldT awP [97] = (awS, true) := rfl
  refine (field_ok (s := [97]) dP).mono ?_
  rintro r Hc8 ⟨⟨cs, rfl, dF⟩, hfc8⟩
  replace b1 := b1.ext hfc8
  replace b2 := b2.ext hfc8
  replace b3 := b3.ext hfc8
  replace dN := dN.ext hfc8
  replace dS := dS.ext hfc8
  replace dX := dX.ext hfc8
  replace dP := dP.ext hfc8
  replace hfr := hfr.trans hfc8
  rw [eF] at dF ⊢
  simp only at dF ⊢
  obtain ⟨fn, fp, frr, rfl, f3, f4, f5⟩ := LtA.open dF
  simp (implicitDefEqProofs := false) only [go_sem]
  refine NewP_intro fun Ha9 hna9 hfa9 hsa9 => ?_
  simp (implicitDefEqProofs := false) only [go_sem]
  refine Sto_all hna9 rfl (LtA.one6 dF) fun Hb9 b5 hfb9 hsb9 => ?_
  have hfab9 := new_fr hfa9 hfb9
  replace b1 := b1.ext hfab9
  replace b2 := b2.ext hfab9
  replace b3 := b3.ext hfab9
  replace dN := dN.ext hfab9
  replace dS := dS.ext hfab9
  replace dX := dX.ext hfab9
  replace dP := dP.ext hfab9
  replace dF := dF.ext hfab9
  replace hfr := hfr.trans hfab9
  simp (implicitDefEqProofs := false) only [go_sem]
  refine NewS_intro fun Ha10 pb hfa10 hsa10 => ?_
  replace b1 := b1.ext hfa10
  replace b2 := b2.ext hfa10
  replace b3 := b3.ext hfa10
  replace dN := dN.ext hfa10
  replace dS := dS.ext hfa10
  replace dX := dX.ext hfa10
  replace dP := dP.ext hfa10
  replace dF := dF.ext hfa10
  replace b5 := b5.ext hfa10
  replace hfr := hfr.trans hfa10
  simp (implicitDefEqProofs := false) only [go_sem]
  have hB : BsR _ (some ⟨Hb9.size, 0, none⟩) [2, 0, 18] := (Own.of_blk (n := 3) (e := 5) pb (by simp) (by decide) : Own _ 5 1 (.slice _ [(2 : UInt8), 0, 18].length 3) [(2 : UInt8), 0, 18].length ([2, 0, 18].map bv) _).bsR
  refine (decode_two (c := 3) hB).mono ?_
  rintro r Hc11 ⟨cs2, rfl, dD, hfc11⟩
  obtain ⟨dn, dp, dr, rfl, _, _, _⟩ := LtA.open dD
  simp only [Lt.kind, Lt.lo, Lt.hi] at dD ⊢
  replace b1 := b1.ext hfc11
  replace b2 := b2.ext hfc11
  replace b3 := b3.ext hfc11
  replace dN := dN.ext hfc11
  replace dS := dS.ext hfc11
  replace dX := dX.ext hfc11
  replace dP := dP.ext hfc11
  replace dF := dF.ext hfc11
  replace b5 := b5.ext hfc11
  replace pb := pb.ext hfc11
  replace hfr := hfr.trans hfc11
  simp (implicitDefEqProofs := false) only [go_sem]
  refine NewP_intro fun Ha12 hna12 hfa12 hsa12 => ?_
  simp (implicitDefEqProofs := false) only [go_sem]
  refine Sto_all hna12 rfl (LtA.one6 (l := .mk 2 0 9 [] [] []) dD) fun Hb12 b7 hfb12 hsb12 => ?_
  have hfab12 := new_fr hfa12 hfb12
  replace b1 := b1.ext hfab12
  replace b2 := b2.ext hfab12
  replace b3 := b3.ext hfab12
  replace dN := dN.ext hfab12
  replace dD := dD.ext hfab12
  replace dS := dS.ext hfab12
  replace dX := dX.ext hfab12
  replace dP := dP.ext hfab12
  replace dF := dF.ext hfab12
  replace b5 := b5.ext hfab12
  replace pb := pb.ext hfab12
  replace hfr := hfr.trans hfab12
  simp (implicitDefEqProofs := false) only [go_sem, b1.cell]
  have eE : encT awN = [2, 0, 18] := by decide
  refine (encode_ok dN (by simp [awN, okT, okTs]) (by rw [eE]; decide)).mono ?_
  rintro r He ⟨ae, ce, ge, rfl, hoe, hge, hfe⟩
  rw [eE] at hoe ⊢
  have hbe := hoe.bsR.b2s ce
  simp only [List.length_cons, List.length_nil, Nat.reduceAdd] at hbe ⊢
  replace b1 := b1.ext hfe
  replace b2 := b2.ext hfe
  replace b3 := b3.ext hfe
  replace dN := dN.ext hfe
  replace dD := dD.ext hfe
  replace dS := dS.ext hfe
  replace dX := dX.ext hfe
  replace dP := dP.ext hfe
  replace dF := dF.ext hfe
  replace b5 := b5.ext hfe
  replace pb := pb.ext hfe
  replace b7 := b7.ext hfe
  replace hfr := hfr.trans hfe
  simp (implicitDefEqProofs := false) only [go_sem, hbe, ba_eq]
  have v1 : (visT 1 0 (.mk 2 3 2 [] [] [])).1 = 5 := by decide
  have v2 : chainT awN = true := by decide
  have v3 : chainT awX = false := by decide
  have v4 : finT awN = true := by decide
  have v5 : finT awX = false := by decide
  have v6 : disT awX = true := by decide
  have v7 : depT awX = 2 := by decide
  have v8 : awS.kind = 4 := rfl
  have v9 : eqT awN awN = true := by decide
  have v10 : eqT awN awS = false := by decide
  have v11 : (visT 1 0 (.mk 7 0 0 [] [awS, awN] [])).1 = 4 := by decide
  refine (check_ok (bareA _ [] 2 3 2)).mono ?_
  rintro r Hc21 ⟨rfl, hfc21⟩
  replace b1 := b1.ext hfc21
  replace b2 := b2.ext hfc21
  replace b3 := b3.ext hfc21
  replace dN := dN.ext hfc21
  replace dD := dD.ext hfc21
  replace dS := dS.ext hfc21
  replace dX := dX.ext hfc21
  replace dP := dP.ext hfc21
  replace dF := dF.ext hfc21
  replace b5 := b5.ext hfc21
  replace pb := pb.ext hfc21
  replace b7 := b7.ext hfc21
  replace hfr := hfr.trans hfc21
  simp (implicitDefEqProofs := false) only [go_sem, v1, b1.cell]
  refine (chain_ok awN dN).mono ?_
  rintro r Hc22 ⟨rfl, hfc22⟩
  replace b1 := b1.ext hfc22
  replace b2 := b2.ext hfc22
  replace b3 := b3.ext hfc22
  replace dN := dN.ext hfc22
  replace dD := dD.ext hfc22
  replace dS := dS.ext hfc22
  replace dX := dX.ext hfc22
  replace dP := dP.ext hfc22
  replace dF := dF.ext hfc22
  replace b5 := b5.ext hfc22
  replace pb := pb.ext hfc22
  replace b7 := b7.ext hfc22
  replace hfr := hfr.trans hfc22
  simp (implicitDefEqProofs := false) only [go_sem, v2, b3.cell]
  refine (chain_ok awX dX).mono ?_
  rintro r Hc23 ⟨rfl, hfc23⟩
  replace b1 := b1.ext hfc23
  replace b2 := b2.ext hfc23
  replace b3 := b3.ext hfc23
  replace dN := dN.ext hfc23
  replace dD := dD.ext hfc23
  replace dS := dS.ext hfc23
  replace dX := dX.ext hfc23
  replace dP := dP.ext hfc23
  replace dF := dF.ext hfc23
  replace b5 := b5.ext hfc23
  replace pb := pb.ext hfc23
  replace b7 := b7.ext hfc23
  replace hfr := hfr.trans hfc23
  simp (implicitDefEqProofs := false) only [go_sem, v3, b1.cell]
  refine (fin_ok awN dN).mono ?_
  rintro r Hc24 ⟨rfl, hfc24⟩
  replace b1 := b1.ext hfc24
  replace b2 := b2.ext hfc24
  replace b3 := b3.ext hfc24
  replace dN := dN.ext hfc24
  replace dD := dD.ext hfc24
  replace dS := dS.ext hfc24
  replace dX := dX.ext hfc24
  replace dP := dP.ext hfc24
  replace dF := dF.ext hfc24
  replace b5 := b5.ext hfc24
  replace pb := pb.ext hfc24
  replace b7 := b7.ext hfc24
  replace hfr := hfr.trans hfc24
  simp (implicitDefEqProofs := false) only [go_sem, v4, b3.cell]
  refine (fin_ok awX dX).mono ?_
  rintro r Hc25 ⟨rfl, hfc25⟩
  replace b1 := b1.ext hfc25
  replace b2 := b2.ext hfc25
  replace b3 := b3.ext hfc25
  replace dN := dN.ext hfc25
  replace dD := dD.ext hfc25
  replace dS := dS.ext hfc25
  replace dX := dX.ext hfc25
  replace dP := dP.ext hfc25
  replace dF := dF.ext hfc25
  replace b5 := b5.ext hfc25
  replace pb := pb.ext hfc25
  replace b7 := b7.ext hfc25
  replace hfr := hfr.trans hfc25
  simp (implicitDefEqProofs := false) only [go_sem, v5, b3.cell]
  refine (dis_ok awX dX).mono ?_
  rintro r Hc26 ⟨rfl, hfc26⟩
  replace b1 := b1.ext hfc26
  replace b2 := b2.ext hfc26
  replace b3 := b3.ext hfc26
  replace dN := dN.ext hfc26
  replace dD := dD.ext hfc26
  replace dS := dS.ext hfc26
  replace dX := dX.ext hfc26
  replace dP := dP.ext hfc26
  replace dF := dF.ext hfc26
  replace b5 := b5.ext hfc26
  replace pb := pb.ext hfc26
  replace b7 := b7.ext hfc26
  replace hfr := hfr.trans hfc26
  simp (implicitDefEqProofs := false) only [go_sem, v6, b3.cell]
  refine (dep_ok awX dX (by rw [v7]; decide)).mono ?_
  rintro r Hc27 ⟨rfl, hfc27⟩
  replace b1 := b1.ext hfc27
  replace b2 := b2.ext hfc27
  replace b3 := b3.ext hfc27
  replace dN := dN.ext hfc27
  replace dD := dD.ext hfc27
  replace dS := dS.ext hfc27
  replace dX := dX.ext hfc27
  replace dP := dP.ext hfc27
  replace dF := dF.ext hfc27
  replace b5 := b5.ext hfc27
  replace pb := pb.ext hfc27
  replace b7 := b7.ext hfc27
  replace hfr := hfr.trans hfc27
  simp (implicitDefEqProofs := false) only [go_sem, v7, v8, b5.cell, b7.cell, b1.cell]
  refine (equal_ok awN.sz awN awN (Nat.le_refl _) dD dN).mono ?_
  rintro r Hc28 ⟨rfl, hfc28⟩
  replace b1 := b1.ext hfc28
  replace b2 := b2.ext hfc28
  replace b3 := b3.ext hfc28
  replace dN := dN.ext hfc28
  replace dD := dD.ext hfc28
  replace dS := dS.ext hfc28
  replace dX := dX.ext hfc28
  replace dP := dP.ext hfc28
  replace dF := dF.ext hfc28
  replace b5 := b5.ext hfc28
  replace pb := pb.ext hfc28
  replace b7 := b7.ext hfc28
  replace hfr := hfr.trans hfc28
  simp (implicitDefEqProofs := false) only [go_sem, v9, b7.cell, b2.cell]
  refine (equal_ok awN.sz awN awS (Nat.le_refl _) dD dS).mono ?_
  rintro r Hc29 ⟨rfl, hfc29⟩
  replace b1 := b1.ext hfc29
  replace b2 := b2.ext hfc29
  replace b3 := b3.ext hfc29
  replace dN := dN.ext hfc29
  replace dD := dD.ext hfc29
  replace dS := dS.ext hfc29
  replace dX := dX.ext hfc29
  replace dP := dP.ext hfc29
  replace dF := dF.ext hfc29
  replace b5 := b5.ext hfc29
  replace pb := pb.ext hfc29
  replace b7 := b7.ext hfc29
  replace hfr := hfr.trans hfc29
  simp (implicitDefEqProofs := false) only [go_sem, v10, b2.cell, b1.cell]
  refine NewS_intro fun Hz pz hfz hsz => ?_
  replace b1 := b1.ext hfz
  replace b2 := b2.ext hfz
  replace b3 := b3.ext hfz
  replace dN := dN.ext hfz
  replace dD := dD.ext hfz
  replace dS := dS.ext hfz
  replace dX := dX.ext hfz
  replace dP := dP.ext hfz
  replace dF := dF.ext hfz
  replace b5 := b5.ext hfz
  replace pb := pb.ext hfz
  replace b7 := b7.ext hfz
  replace hfr := hfr.trans hfz
  simp (implicitDefEqProofs := false) only [go_sem]
  have dZ : LtA Hz [] (.mk 7 0 0 [] [awS, awN] []) _ := LtA.mk (l := .mk 7 0 0 [] [awS, awN] []) (nilA Hz [] 1) (parts2 (c1 := cells6 4 0 0) (c2 := cells6 2 0 9) (x := awS) (y := awN) pz (bareA _ _ _ _ _) (bareA _ _ _ _ _) rfl rfl) (nilA Hz [] 2)
  refine (check_ok dZ).mono ?_
  rintro r Hc30 ⟨rfl, hfc30⟩
  replace b1 := b1.ext hfc30
  replace b2 := b2.ext hfc30
  replace b3 := b3.ext hfc30
  replace dN := dN.ext hfc30
  replace dD := dD.ext hfc30
  replace dS := dS.ext hfc30
  replace dX := dX.ext hfc30
  replace dP := dP.ext hfc30
  replace dF := dF.ext hfc30
  replace b5 := b5.ext hfc30
  replace pb := pb.ext hfc30
  replace b7 := b7.ext hfc30
  replace hfr := hfr.trans hfc30
  simp (implicitDefEqProofs := false) only [go_sem, v11]
  exact hfr

end Go.Proofs.Ytcilkhjadljaaaa
