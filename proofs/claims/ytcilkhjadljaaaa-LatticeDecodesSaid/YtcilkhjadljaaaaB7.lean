import Derived.Test.YtcilkhjadljaaaaB6
/- The law of the decodings. -/
set_option linter.unusedSimpArgs false
set_option linter.unusedVariables false
set_option maxRecDepth 8000
namespace Go.Proofs.Ytcilkhjadljaaaa
open Gx Go

theorem decT_can {L : Bs} {t : Lt} (h : decT L = some t) : (visT 1 0 t).1 = 0 ∧ encT t = L := by
  unfold decT at h
  split at h
  · rename_i hc
    cases h
    obtain ⟨h1, h2⟩ := hc
    refine ⟨h2, ?_⟩
    obtain ⟨p, e, ⟨r, h3⟩, h4⟩ := rT_span L 6 h2 (Prod.ext rfl h1 : rT L 6 (some 0) = ((rT L 6 (some 0)).1, some L.length))
    cases e
    rw [List.drop_zero] at h3
    have := congrArg List.length h3
    rw [List.length_append] at this
    have hr : r = [] := List.eq_nil_of_length_eq_zero (by omega)
    rw [hr, List.append_nil] at h3
    exact h3.symm
  · cases h

def decW (d : Option Lt) : Lt × Int := match d with
  | some t => (t, 0)
  | none => (Lt.zero, 2)

theorem ldecodes_ok {L : Bs} {a : Option Addr} {c : Nat} {H : Heap} (h : BsR H a L) (hc : L.length ≤ c) (hm : L.length ≤ maxLen) : HCalls Try.prog 8 #[.slice a L.length c] H fun r H' => r = .bool true ∧ Fr [] H H' := by
  refine calls_of_vc (args := [_]) Try.func8 c8ok (Nat.le_of_ble_eq_true rfl) ?_
  have hfr := Fr.refl [] H
  simp (implicitDefEqProofs := false) only [go_sem, c8]
  refine (awake_ok H).mono ?_
  rintro r Hc1 ⟨rfl, hfc1⟩
  replace hfr := hfr.trans hfc1
  replace h := h.ext hfc1
  by_cases hl : L.length ≤ 20000
  case neg =>
    have hl' : (20000 : Int) < (L.length : Int) := by omega
    simp (implicitDefEqProofs := false) only [go_sem, hl']
    exact hfr
  have hl' : ¬ (20000 : Int) < (L.length : Int) := by omega
  simp (implicitDefEqProofs := false) only [go_sem, hl']
  refine (decode_ok (c := c) h (by omega)).mono ?_
  obtain ⟨d, hd⟩ : ∃ d, decT L = d := ⟨_, rfl⟩
  have hdR : decR L = decW d := by rw [← hd]; rfl
  rw [hdR]
  rintro r H2 ⟨cs, rfl, hd2, hf2⟩
  replace hfr := hfr.trans hf2
  replace h := h.ext hf2
  obtain ⟨wn, wp, wr, rfl, _, _, _⟩ := LtA.open hd2
  simp (implicitDefEqProofs := false) only [go_sem]
  refine NewP_intro fun H4 hn4 hf4 hs4 => ?_
  simp (implicitDefEqProofs := false) only [go_sem]
  refine Sto_all hn4 rfl (LtA.one6 hd2) fun H5 hn5 hf5 hs5 => ?_
  have hfa := new_fr hf4 hf5
  replace hfr := hfr.trans hfa
  replace h := h.ext hfa
  replace hd2 := hd2.ext hfa
  simp (implicitDefEqProofs := false) only [go_sem]
  refine (fdecode_ok (c := c) h (by omega) hc ?_).mono ?_
  · intro b' o e hne
    rcases h with h | ⟨b1, o1, e1, h1⟩
    · exact absurd h hne
    · rw [e] at e1
      cases e1
      exact cellB_lt (h1 0 (List.length_pos_iff.2 hne))
  rw [hd]
  rintro r H6 ⟨cs6, rfl, hd6, hf6⟩
  replace hfr := hfr.trans hf6
  replace h := h.ext hf6
  replace hd2 := hd2.ext hf6
  have b5 := hn5.ext hf6
  obtain ⟨xn, xp, xr, rfl, _, _, _⟩ := LtA.open hd6
  simp (implicitDefEqProofs := false) only [go_sem]
  refine NewP_intro fun H7 hn7 hf7 hs7 => ?_
  simp (implicitDefEqProofs := false) only [go_sem]
  refine Sto_all hn7 rfl (LtA.one6 hd6) fun H8 hn8 hf8 hs8 => ?_
  have hfb := new_fr hf7 hf8
  replace hfr := hfr.trans hfb
  replace h := h.ext hfb
  replace hd2 := hd2.ext hfb
  replace hd6 := hd6.ext hfb
  replace b5 := b5.ext hfb
  have b8 := hn8
  match d, hd with
  | none, hd =>
    simp (implicitDefEqProofs := false) only [go_sem, decW]
    exact hfr
  | some t, hd =>
    simp only [decW] at hd2 ⊢
    obtain ⟨e0, eL⟩ := decT_can hd
    obtain ⟨okt, lt⟩ := enc_small e0
    simp only [Option.isSome_some, Option.getD_some] at hd2 hd6 ⊢
    have t9 := h.b2s c
    simp (implicitDefEqProofs := false) only [go_sem, b5.cell, b8.cell, t9]
    refine (fequal_ok _ t t (Nat.le_refl _) hd2 hd6).mono ?_
    rw [eqT_refl]
    rintro r H9 ⟨rfl, hf9⟩
    replace hfr := hfr.trans hf9
    replace h := h.ext hf9
    replace hd2 := hd2.ext hf9
    replace b5 := b5.ext hf9
    have t0 := h.b2s c
    simp (implicitDefEqProofs := false) only [go_sem, b5.cell, t0]
    refine (encode_ok hd2 okt (by omega)).mono ?_
    rintro r H10 ⟨ax, cx, gx, rfl, ox, nx, hf10⟩
    replace hfr := hfr.trans hf10
    have t1 := ox.bsR.b2s cx
    rw [eL] at t1
    have t2 := (h.ext hf10).b2s c
    simp (implicitDefEqProofs := false) only [go_sem, t1, t2, eL]
    exact hfr
end Go.Proofs.Ytcilkhjadljaaaa
