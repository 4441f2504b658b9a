/- The examples: contract. -/
import Derived.Test.YtighpnijbnllaaaDoorXp
set_option linter.unusedSimpArgs false
set_option linter.unusedVariables false
set_option maxRecDepth 8000
namespace Go.Proofs.YtighpnijbnllaaaDoor
open Gx Go

def ex1 : Bs := [111, 98, 106, 101, 99, 116, 32, 99, 97, 114, 116, 45, 49, 32, 58, 32, 115, 101, 116, 59, 32, 35, 32, 109, 121, 32, 99, 97, 114, 116]
def ex1T : List Tk := [⟨2, [111, 98, 106, 101, 99, 116], 0, 0⟩, ⟨1, [99, 97, 114, 116, 45, 49], 0, 7⟩, ⟨5, [58], 0, 14⟩, ⟨2, [115, 101, 116], 0, 16⟩, ⟨5, [59], 0, 19⟩, ⟨6, [], 0, 30⟩]
theorem ex1_lex : lexT ex1 = .ok ex1T := by decide +kernel
theorem ex2_lex : lexT [120, 32, 39, 115, 101, 116] = .bad 2 2 := by decide +kernel
def ex3 : List Tk := [⟨1, [97], 0, 0⟩, ⟨3, [], 12, 0⟩, ⟨6, [], 0, 0⟩]
theorem dd12 : Lib.decDigits 12 = [49, 50] := by
  rw [Lib.decDigits, dif_neg (by decide), Lib.decDigits, dif_pos (by decide)]; rfl
theorem ex3_text : textT ex3 = ([97, 32, 49, 50], 0) := by
  have h1 : spells ex3 = [[97], [49, 50]] := by
    show [spT ⟨1, [97], 0, 0⟩, spT ⟨3, [], 12, 0⟩] = _
    have : spT ⟨3, [], 12, 0⟩ = [49, 50] := by
      show Lib.itoa ((12 : Nat) : Int) = _
      rw [itoa_nat, dd12]
    rw [this]; rfl
  unfold textT
  rw [h1, if_neg (by decide +kernel)]
  decide +kernel
theorem ex4_next : tokS (List.drop (1 + skB false (List.drop 1 [97, 32, 45, 32, 49])) [97, 32, 45, 32, 49]) = .ok 5 [45] 0 1 := by decide +kernel
theorem ex4_skip : 1 + skB false (List.drop 1 [97, 32, 45, 32, 49]) = 2 := by decide +kernel
theorem ex4 : nextT [97, 32, 45, 32, 49] 1 = ⟨⟨5, [45], 0, 2⟩, 3, 0, 0⟩ := by
  unfold nextT
  rw [if_neg (by decide), if_neg (by decide)]
  show nextN _ 1 = _
  unfold nextN
  rw [ex4_next, ex4_skip]; rfl
theorem ex5 : placeT [97, 10, 98, 99] 3 = (2, 2) := by decide +kernel

set_option maxHeartbeats 4000000 in
theorem awake_ok {H : Heap} (hg : GlobH H) : HCalls Tryd.prog 14 #[] H fun r H' => r = .bool true ∧ Fr [] H H' := by
  refine calls_of_vc (args := []) Tryd.func14 c14ok (Nat.le_of_ble_eq_true rfl) ?_
  simp (implicitDefEqProofs := false) only [go_sem, c14]
  refine (lex_ok ex1 (by decide) hg).mono ?_
  rintro r H1 ⟨hr, hf1⟩
  rw [ex1_lex] at hr
  obtain ⟨a1, c1, rfl, _, _, hrow⟩ := hr
  simp (implicitDefEqProofs := false) only [go_sem, ftV]
  refine NewP_intro fun H2 hb2 hf2 hs2 => ?_
  generalize hx2 : H1.size = x2 at *
  simp (implicitDefEqProofs := false) only [go_sem]
  refine Sto_all hb2 rfl (one2 rfl rfl) fun H3 hb3 hf3 hs3 => ?_
  have hF3 : Fr [] H1 H3 := fr_new hf2 hf3 (by omega)
  have hg3 := (hg.ext hf1).ext hF3
  simp (implicitDefEqProofs := false) only [go_sem]
  refine (lex_ok [120, 32, 39, 115, 101, 116] (by decide) hg3).mono ?_
  rintro r H4 ⟨hr, hf4⟩
  rw [ex2_lex] at hr
  cases hr
  have hb4 := hb3.ext hf4
  have hlt4 := hb4.lt
  simp (implicitDefEqProofs := false) only [go_sem, ftV]
  refine NewP_intro fun H5 hb5 hf5 hs5 => ?_
  generalize hx5 : H4.size = x5 at *
  simp (implicitDefEqProofs := false) only [go_sem]
  refine Sto_all hb5 rfl (one2 rfl rfl) fun H6 hb6 hf6 hs6 => ?_
  have hb26 := (hb4.ext hf5).fr hf6 (by simp; omega)
  have hF6 : Fr [] H4 H6 := fr_new hf5 hf6 (by omega)
  have hg6 := (hg3.ext hf4).ext hF6
  simp (implicitDefEqProofs := false) only [go_sem]
  refine NewS_intro fun H7 hb7 hf7 hs7 => ?_
  simp (implicitDefEqProofs := false) only [go_sem]
  have hrow3 : RowR tkC H7 (some ⟨H6.size, 0, none⟩) ex3 := by
    refine .inr ⟨H6.size, 0, rfl, fun j hj => ?_⟩
    rw [Nat.zero_add, hb7.cell]
    exact List.getElem?_eq_getElem hj
  refine (text_ok hrow3 (by decide) (by decide) (hg6.ext hf7)).mono ?_
  rintro r H8 ⟨rfl, hf8⟩
  rw [ex3_text]
  have hF8 : Fr [] H6 H8 := hf7.trans hf8
  simp (implicitDefEqProofs := false) only [go_sem]
  refine (next_ok [97, 32, 45, 32, 49] (by decide) 1 (hg6.ext hF8)).mono ?_
  rintro r H9 ⟨rfl, hf9⟩
  rw [ex4]
  have hF9 := hF8.trans hf9
  have hlt9 := (hb6.ext hF9).lt
  simp (implicitDefEqProofs := false) only [go_sem, NR.val, tkV, ftV]
  refine NewP_intro fun H10 hb10 hf10 hs10 => ?_
  generalize hx10 : H9.size = x10 at *
  simp (implicitDefEqProofs := false) only [go_sem]
  refine NewP_intro fun H11 hb11 hf11 hs11 => ?_
  have hb1011 := hb10.ext hf11
  generalize hx11 : H10.size = x11 at *
  simp (implicitDefEqProofs := false) only [go_sem, sv]
  refine Sto_all hb1011 rfl (one4 (t := [45])) fun H12 hb12 hf12 hs12 => ?_
  have hb1112 := hb11.fr hf12 (by simp; omega)
  simp (implicitDefEqProofs := false) only [go_sem]
  refine Sto_all hb1112 rfl (one2 rfl rfl) fun H13 hb13 hf13 hs13 => ?_
  have hb1213 := hb12.fr hf13 (by simp; omega)
  have hF13 : Fr [] H9 H13 := fr_new (fr_new (hf10.trans hf11) hf12 (by omega)) hf13 (by omega)
  simp (implicitDefEqProofs := false) only [go_sem]
  refine (place_ok [97, 10, 98, 99] (by decide) 3 H13).mono ?_
  rintro r H14 ⟨rfl, hEq⟩
  obtain rfl := hEq.symm
  rw [ex5]
  simp (implicitDefEqProofs := false) only [go_sem]
  refine (keyword_ok [108, 101, 113] H13).mono ?_
  rintro r H15 ⟨rfl, hf15⟩
  rw [show kwB [108, 101, 113] = true by decide]
  simp (implicitDefEqProofs := false) only [go_sem]
  refine (sign_ok [61, 62] H15).mono ?_
  rintro r H16 ⟨rfl, hf16⟩
  rw [show signB [61, 62] = true by decide]
  have hFe : Fr [] H13 H16 := hf15.trans hf16
  have hFa : Fr [] H6 H16 := (hF9.trans hF13).trans hFe
  have k2 := (hb26.ext hFa).cell
  have k6 := (hb6.ext hFa).cell
  have k12 := (hb1213.ext hFe).cell
  have k13 := (hb13.ext hFe).cell
  have hrow' : RowR tkC H16 a1 ex1T := hrow.ext ((hF3.trans (hf4.trans hF6)).trans hFa)
  obtain ⟨b, o, rfl, p0, p1, p2, p3⟩ := rowT_at hrow' 1 (by decide)
  obtain ⟨b', o', e', q0, q1, q2, q3⟩ := rowT_at hrow' 5 (by decide)
  simp only [Option.some.injEq, Addr.mk.injEq, and_true] at e'
  obtain ⟨rfl, rfl⟩ := e'
  have p1' : cellB H16 b (o + 4 + 1) = some (.string ⟨⟨[99, 97, 114, 116, 45, 49]⟩⟩) := p1
  have q3' : cellB H16 b (o + 20 + 3) = some (.int .i64 30) := q3
  have hlen : ex1T.length = 6 := rfl
  simp (implicitDefEqProofs := false) only [go_sem, k2, k6, k12, k13, p1', q3', ba_eq, hlen]
  exact ((hf1.trans hF3).trans (hf4.trans hF6)).trans hFa
end Go.Proofs.YtighpnijbnllaaaDoor
