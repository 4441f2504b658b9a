/- not, if: contracts. -/
import Derived.Test.YtbgjgaaobnbijaaDoorPd
set_option linter.unusedSimpArgs false
set_option linter.unusedVariables false
set_option maxRecDepth 8000
namespace Go.Proofs.YtbgjgaaobnbijaaDoor
open Gx Go

theorem entP_0 {α β : Type} {s : Bs} {body : β → PP α} {ts : List Tk} (h : isB s ts = true) : entP none s body ts = .error (6, (hd ts).at_) := by simp only [entP, h, if_true]
theorem entP_s {α β : Type} {s : Bs} {x : β} {body : β → PP α} {ts : List Tk} (h : isB s ts = true) : entP (some x) s body ts = body x ts.tail := by simp only [entP, h, if_true]
theorem entP_no {α β : Type} {lo : Option β} {s : Bs} {body : β → PP α} {ts : List Tk} (h : isB s ts = false) : entP lo s body ts = .error (2, (hd ts).at_) := by simp only [entP, h, Bool.false_eq_true, if_false]

set_option maxHeartbeats 1000000 in
theorem not_ok {k : Nat} (hnot : ∀ j, k = j + 1 → POk j 74 [] (lev j).2 NdR) (hcmp : POk k 86 [] (cmpP (loK k)) NdR) : POk k 74 [] (notP (loK k)) NdR := by
  refine ⟨fun {X H ts} hs => ?_⟩
  refine pcalls_of_vc (args := [_]) Tryd.func74 c74ok (Nat.le_of_ble_eq_true rfl) ?_
  have hx0 : H.size ≠ X.b := by have := hs.lt; omega
  simp (implicitDefEqProofs := false) only [go_sem, c74]
  refine NewP_intro fun H0 hn0 hf0 hs0 => ?_
  have hA := is_ok (hs.ext hf0) [110, 111, 116]
  unfold sv at hA
  simp (implicitDefEqProofs := false) only [go_sem]
  refine hA.mono ?_
  rintro v H1 ⟨rfl, hf1⟩
  have hF1 := hf0.trans hf1
  have hs1 := hs.ext hF1
  have hr1 := hn0.ext hf1
  cases e : isB [110, 111, 116] ts with
  | false =>
    have hp : notP (loK k) ts = cmpP (loK k) ts := by simp only [notP, e, Bool.false_eq_true, if_false]
    simp (implicitDefEqProofs := false) only [go_sem]
    refine hcmp.use hs1 (fun e' H' he hf => ⟨e', by rw [hp]; exact he, rfl, (fr1 hF1).trans hf⟩) fun n r v H2 he hv hs2 hf2 => ?_
    obtain ⟨cs, rfl, hr⟩ := hv
    obtain ⟨k', t', n', a', ks'⟩ := n
    obtain ⟨kv, rfl, hkv⟩ := RepP.nd_open hr
    have hr2 := hr1.fr hf2 (by simpa using hx0)
    have := hf1.size
    simp (implicitDefEqProofs := false) only [go_sem]
    refine Sto_all hr2 rfl (one_agg (nd_one hkv)) fun H3 hn3 hf3 hs3 => ?_
    have hc3 := hn3.cell
    simp (implicitDefEqProofs := false) only [go_sem, hc3]
    exact ⟨_, r, by rw [hp]; exact he, ⟨_, rfl, RepP.nd (RepP.fr hkv hf3 (by simp; omega) fun x hx => by omega)⟩, Ps.on hs hs2 hf3 (by simp), ((fr1 hF1).trans hf2).trans' hf3 (by simp)⟩
  | true =>
    have hp : notP (loK k) ts = entP (loK k) [110, 111, 116] (fun x => bd x.2 fun n => ret (.mk 33 [] 0 (hd ts).at_ [n])) ts := by simp only [notP, e, if_true]
    cases k with
    | zero =>
      have hE := enter_no hs1 (s := [110, 111, 116]) (.inr rfl)
      unfold sv at hE
      simp (implicitDefEqProofs := false) only [go_sem]
      refine hE.mono (fun _ _ h => h.elim) ?_
      rintro ch H2 ⟨rfl, hf2⟩
      rw [e]
      exact ⟨(6, (hd ts).at_), by rw [hp]; exact entP_0 e, rfl, (fr1 hF1).trans hf2⟩
    | succ j =>
      have hE := enter_ok hs1 e
      unfold sv at hE
      have hj := hs.k64
      simp (implicitDefEqProofs := false) only [go_sem]
      refine hE.mono ?_
      rintro v H2 ⟨rfl, hs2, hf2⟩
      have hF2 := (fr1 hF1).trans hf2
      have hr2 := hr1.fr hf2 (by simpa using hx0)
      simp (implicitDefEqProofs := false) only [go_sem]
      refine NewP_intro fun H3 hn3 hf3 hsz3 => ?_
      simp (implicitDefEqProofs := false) only [go_sem]
      refine Sto_all hn3 rfl (one_agg (t := []) rfl) fun H4 hn4 hf4 hsz4 => ?_
      have hfn := new_fr hf3 hf4
      have hz2 := hF2.size
      have hz4 := hfn.size
      have hx2 : H2.size ≠ X.b := by have := hs2.lt; omega
      simp (implicitDefEqProofs := false) only [go_sem]
      refine (hnot j rfl).use (hs2.ext hfn) (fun e' H' he hf => ⟨e', by rw [hp]; exact (entP_s e).trans (bd_err he), rfl, (hF2.trans (fr1 hfn)).trans hf⟩) fun n r v H5 he hv hs5 hf5 => ?_
      obtain ⟨cs, rfl, hr⟩ := hv
      have hF5 := (hF2.trans (fr1 hfn)).trans hf5
      have hr5 := ((hr2.ext hfn).fr hf5 (by simpa using hx0))
      have hn5 := hn4.fr hf5 (by simpa using hx2)
      obtain ⟨k', t', n', a', ks'⟩ := n
      obtain ⟨kv, rfl, hkv⟩ := RepP.nd_open hr
      have hz5 := hf5.size
      simp (implicitDefEqProofs := false) only [go_sem]
      refine NewS_intro fun H6 hn6 hf6 hsz6 => ?_
      have hrow : RepP H6 (fun x => x < H.size ∨ x = H.size ∨ x = H2.size) (kidsD [.mk k' t' n' a' ks']) [.slice (some ⟨H5.size, 0, none⟩) 1 1] :=
        RepP.row1 (cx := [_, _, _, _, _]) hn6 (RepP.ext hr hf6 fun x hx => .inl (by omega)) rfl (by omega)
      simp (implicitDefEqProofs := false) only [go_sem]
      refine Sto_one (hn5.ext hf6) (by simp) rfl fun H7 hn7 hf7 hsz7 => ?_
      have hrow7 := RepP.fr hrow hf7 (B' := fun x => x < H.size ∨ x = H.size ∨ x = H2.size) (by simp) fun x hx => .inl hx
      have hz1 := hf1.size
      have hz2b := hf2.size
      have hz6 := hf6.size
      have hs7 := Ps.on hs (hs5.ext hf6) hf7 (by simp; omega)
      have hF7 : Fr [X.b] H H7 := (hF5.trans (fr1 hf6)).trans' hf7 (by simp; omega)
      have hr7 := (hr5.ext hf6).fr hf7 (by simp; omega)
      simp (implicitDefEqProofs := false) only [go_sem]
      refine (leave_ok hs7 (by omega)).mono ?_
      rintro v H8 ⟨hs8, hf8⟩
      have hn8 := hn7.fr hf8 (by simpa using hx2)
      have hr8 := hr7.fr hf8 (by simpa using hx0)
      have hc8 := hn8.cell
      have hrow8 := RepP.fr hrow7 hf8 (B' := fun x => x < H.size ∨ x = H.size) (by simp; have := hs.lt; omega) fun x hx => .inl (by omega)
      simp (implicitDefEqProofs := false) only [go_sem, hc8]
      refine Sto_all hr8 rfl (one_agg (t := []) rfl) fun H9 hn9 hf9 hsz9 => ?_
      have hc9 := hn9.cell
      simp (implicitDefEqProofs := false) only [go_sem, hc9]
      refine ⟨.mk 33 [] 0 (hd ts).at_ [.mk k' t' n' a' ks'], r, by rw [hp]; exact (entP_s e).trans (bd_ok he), ⟨_, rfl, RepP.nd (RepP.fr hrow8 hf9 (by simp) fun x hx => by omega)⟩, Ps.on hs hs8 hf9 (by simp), (hF7.trans hf8).trans' hf9 (by simp)⟩

set_option maxHeartbeats 2000000 in
theorem comparison_ok {k : Nat} {lo : Lo} (hl : LoDn lo) (hj : POk k 97 [] (joinP lo) NdR) : POk k 86 [] (cmpP lo) NdR := by
  refine ⟨fun {X H ts} hs => ?_⟩
  refine pcalls_of_vc (args := [_]) Tryd.func86 c86ok (Nat.le_of_ble_eq_true rfl) ?_
  have hx0 : H.size ≠ X.b := by have := hs.lt; omega
  have hblt := hs.lt
  simp (implicitDefEqProofs := false) only [go_sem, c86]
  refine NewP_intro fun H0 hn0 hf0 hs0 => ?_
  simp (implicitDefEqProofs := false) only [go_sem]
  refine hj.use (hs.ext hf0) (fun e H' he hf => ⟨e, bd_err he, rfl, (fr1 hf0).trans hf⟩) fun n r v H1 he hv hs1 hf1 => ?_
  obtain ⟨cs, rfl, hr1⟩ := hv
  obtain ⟨kk, tt, nn, aa, ks⟩ := n
  obtain ⟨kv, rfl, hkv⟩ := RepP.nd_open hr1
  have hF1 := (fr1 hf0).trans hf1
  have hz1 := hf1.size
  simp (implicitDefEqProofs := false) only [go_sem]
  refine NewP_intro fun H2 hn2 hf2 hsz2 => ?_
  simp (implicitDefEqProofs := false) only [go_sem]
  refine Sto_all hn2 rfl (one_agg (nd_one hkv)) fun H3 hn3 hf3 hsz3 => ?_
  have hfn := new_fr hf2 hf3
  obtain ⟨bn, hbn⟩ : ∃ bn, bn = H1.size := ⟨_, rfl⟩
  rw [← hbn] at hn3 ⊢
  have hr3 := (hn0.fr hf1 (by simpa using hx0)).ext hfn
  have hz3 := hfn.size
  simp (implicitDefEqProofs := false) only [go_sem]
  refine NewM_intro fun M1 hm1 hg1 hw1 => ?_
  simp (implicitDefEqProofs := false) only [go_sem]
  refine InsM_intro hm1 rfl fun M2 hm2 hg2 hw2 => ?_
  simp (implicitDefEqProofs := false) only [go_sem]
  refine InsM_intro hm2 rfl fun M3 hm3 hg3 hw3 => ?_
  simp (implicitDefEqProofs := false) only [go_sem]
  refine InsM_intro hm3 rfl fun M4 hm4 hg4 hw4 => ?_
  simp (implicitDefEqProofs := false) only [go_sem]
  refine InsM_intro hm4 rfl fun M5 hm5 hg5 hw5 => ?_
  simp (implicitDefEqProofs := false) only [go_sem]
  refine InsM_intro hm5 rfl fun H4 hm6 hg6 hw6 => ?_
  have hg : Fr [] H3 H4 := ((((hg1.trans' hg2 (by simp)).trans' hg3 (by simp)).trans' hg4 (by simp)).trans' hg5 (by simp)).trans' hg6 (by simp)
  have hs4 := (hs1.ext hfn).ext hg
  have hn4 := hn3.ext hg
  have hr4 := hr3.ext hg
  have hk4 : RepP H4 (fun x => x < H0.size ∨ x = bn) (kidsD ks) [kv] := RepP.ext (RepP.ext hkv hfn (B' := fun x => x < H0.size ∨ x = bn) fun x hx => by omega) hg fun x hx => .inl hx
  have hF4 : Fr [X.b] H H4 := (hF1.trans (fr1 hfn)).trans (fr1 hg)
  have hz4 := hg.size
  obtain ⟨cur, hcur⟩ : ∃ cur, cur = r := ⟨_, rfl⟩
  subst hcur
  have hcm : cmpP lo ts = if opAt kCmp cur then bd (joinP lo) (fun m => ret (.mk (kdOf kCmp (hd cur).text) [] 0 (hd cur).at_ [.mk kk tt nn aa ks, m])) cur.tail else .ok (.mk kk tt nn aa ks, cur) := by unfold cmpP; rw [bd_ok he]
  simp (implicitDefEqProofs := false) only [go_sem]
  refine (look_ok hs4).mono ?_
  rintro v H5 ⟨rfl, hf5⟩
  simp (implicitDefEqProofs := false) only [go_sem, tkC]
  refine NewP_intro fun H6 hn6 hf6 hsz6 => ?_
  simp (implicitDefEqProofs := false) only [go_sem]
  refine Sto_all hn6 rfl (one4' (hd cur)) fun H7 hn7 hf7 hsz7 => ?_
  have hc7 := hn7.cell
  have hfn7 := hf5.trans (new_fr hf6 hf7)
  have hs7 := hs4.ext hfn7
  have hm7 : MapH H7 H3.size kCmp := hm6.fr hfn7 (by simp)
  simp (implicitDefEqProofs := false) only [go_sem, hc7, sv]
  refine LkpM_intro hm7 ?_
  have hb7 := hn4.ext hfn7
  have hr7 := hr4.ext hfn7
  have hk7 := RepP.ext hk4 hfn7 (B' := fun x => x < H0.size ∨ x = bn) fun x hx => .inl hx
  have hF7 := hF4.trans (fr1 hfn7)
  have hz7 := hfn7.size
  have hz5 := hf5.size
  by_cases hz : kdOf kCmp (hd cur).text = 0
  · have hcb := hb7.cell
    simp (implicitDefEqProofs := false) only [go_sem, hz, hcb]
    refine Sto_all hr7 rfl (one_agg (nd_one hk7)) fun H8 hn8 hf8 hsz8 => ?_
    have hc8 := hn8.cell
    simp (implicitDefEqProofs := false) only [go_sem, hc8]
    refine ⟨.mk kk tt nn aa ks, cur, by rw [hcm]; simp [opAt, hz], ⟨_, rfl, ?_⟩, Ps.on hs hs7 hf8 (by simp), hF7.trans' hf8 (by simp)⟩
    exact RepP.nd (RepP.fr hk7 hf8 (by simp; omega) fun x hx => by omega)
  · have hA := accept_ok hs7 (hd cur).text
    unfold sv at hA
    simp (implicitDefEqProofs := false) only [go_sem, hz, hc7, sv]
    refine hA.mono ?_
    rintro v H8 ⟨rfl, hs8, hf8⟩
    have hbx : bn ≠ X.b := by omega
    have h5x : H5.size ≠ X.b := by omega
    have hb8 := hb7.fr hf8 (by simpa using hbx)
    have hr8 := hr7.fr hf8 (by simpa using hx0)
    have hn8 := hn7.fr hf8 (by simpa using h5x)
    have hk8 := RepP.fr hk7 hf8 (B' := fun x => x < H0.size ∨ x = bn) (by simp; omega) fun x hx => .inl hx
    have hF8 := hF7.trans hf8
    have hcb := hb8.cell
    have hz8 := hf8.size
    cases e : isB (hd cur).text cur with
    | false =>
      rw [e] at hs8
      simp (implicitDefEqProofs := false) only [go_sem, hcb]
      refine Sto_all hr8 rfl (one_agg (nd_one hk8)) fun H9 hn9 hf9 hsz9 => ?_
      have hc9 := hn9.cell
      simp (implicitDefEqProofs := false) only [go_sem, hc9]
      refine ⟨.mk kk tt nn aa ks, cur, by rw [hcm]; simp [opAt, e], ⟨_, rfl, ?_⟩, Ps.on hs hs8 hf9 (by simp), hF8.trans' hf9 (by simp)⟩
      exact RepP.nd (RepP.fr hk8 hf9 (by simp; omega) fun x hx => by omega)
    | true =>
      rw [e, if_pos rfl] at hs8
      have hop' : opAt kCmp cur = true := by simp [opAt, e, hz]
      rw [hop', if_pos rfl] at hcm
      have hcn := hn8.cell
      simp (implicitDefEqProofs := false) only [go_sem, hcb, hcn]
      refine hj.use hs8 (fun e' H' he' hf' => ⟨e', by rw [hcm]; exact bd_err he', rfl, hF8.trans hf'⟩) fun n' r' v H9 he' hv' hs9 hf9 => ?_
      obtain ⟨cs', rfl, hr9'⟩ := hv'
      obtain ⟨k', t', n', a', ks'⟩ := n'
      obtain ⟨kv', rfl, hkv'⟩ := RepP.nd_open hr9'
      have hb9 := hb8.fr hf9 (by simpa using hbx)
      have hr9 := hr8.fr hf9 (by simpa using hx0)
      have hn9 := hn8.fr hf9 (by simpa using h5x)
      have hk9 := RepP.fr hk8 hf9 (B' := fun x => x < H0.size ∨ x = bn) (by simp; omega) fun x hx => .inl hx
      have hF9 := hF8.trans hf9
      have hcb9 := hb9.cell
      have hcn9 := hn9.cell
      have hz9 := hf9.size
      simp (implicitDefEqProofs := false) only [go_sem, hcb9, hcn9]
      refine NewS_intro fun H10 hn10 hf10 hsz10 => ?_
      have hrow : RepP H10 (fun x => x < H0.size ∨ x = bn) (kidsD [.mk kk tt nn aa ks, .mk k' t' n' a' ks']) [.slice (some ⟨H9.size, 0, none⟩) 2 2] := by
        refine RepP.row2 (cx := [_, _, _, _, _]) (cy := [_, _, _, _, _]) hn10 (RepP.nd (RepP.ext hk9 hf10 fun x hx => .inl hx)) (RepP.ext hr9' hf10 fun x hx => .inl ?_) rfl rfl (by omega)
        omega
      have hcn10 := (hn9.ext hf10).cell
      simp (implicitDefEqProofs := false) only [go_sem, hcn10]
      refine Sto_all (hr9.ext hf10) rfl (one_agg (t := []) rfl) fun H11 hn11 hf11 hsz11 => ?_
      have hc11 := hn11.cell
      simp (implicitDefEqProofs := false) only [go_sem, hc11]
      refine ⟨.mk (kdOf kCmp (hd cur).text) [] 0 (hd cur).at_ [.mk kk tt nn aa ks, .mk k' t' n' a' ks'], r', by rw [hcm]; exact bd_ok he', ⟨_, rfl, RepP.nd ?_⟩, Ps.on hs (hs9.ext hf10) hf11 (by simp), (hF9.trans (fr1 hf10)).trans' hf11 (by simp)⟩
      exact RepP.fr hrow hf11 (by simp; omega) fun x hx => by omega

set_option maxHeartbeats 2000000 in
theorem expression_ok {k : Nat} (hex : ∀ j, k = j + 1 → POk j 26 [] (lev j).1 NdR) (hor : POk k 36 [] (orP (loK k)) NdR) : POk k 26 [] (exprP (loK k)) NdR := by
  refine ⟨fun {X H ts} hs => ?_⟩
  refine pcalls_of_vc (args := [_]) Tryd.func26 c26ok (Nat.le_of_ble_eq_true rfl) ?_
  have hx0 : H.size ≠ X.b := by have := hs.lt; omega
  have hblt := hs.lt
  simp (implicitDefEqProofs := false) only [go_sem, c26]
  refine NewP_intro fun H0 hn0 hf0 hs0 => ?_
  have hA := is_ok (hs.ext hf0) [105, 102]
  unfold sv at hA
  simp (implicitDefEqProofs := false) only [go_sem]
  refine hA.mono ?_
  rintro v H1 ⟨rfl, hf1⟩
  have hF1 := hf0.trans hf1
  have hs1 := hs.ext hF1
  have hr1 := hn0.ext hf1
  have hz1 := hf1.size
  cases e : isB [105, 102] ts with
  | false =>
    have hp : exprP (loK k) ts = orP (loK k) ts := by simp only [exprP, e, Bool.false_eq_true, if_false]
    simp (implicitDefEqProofs := false) only [go_sem]
    refine hor.use hs1 (fun e' H' he hf => ⟨e', by rw [hp]; exact he, rfl, (fr1 hF1).trans hf⟩) fun n r v H2 he hv hs2 hf2 => ?_
    obtain ⟨cs, rfl, hr⟩ := hv
    obtain ⟨k', t', n', a', ks'⟩ := n
    obtain ⟨kv, rfl, hkv⟩ := RepP.nd_open hr
    have hr2 := hr1.fr hf2 (by simpa using hx0)
    simp (implicitDefEqProofs := false) only [go_sem]
    refine Sto_all hr2 rfl (one_agg (nd_one hkv)) fun H3 hn3 hf3 hs3 => ?_
    have hc3 := hn3.cell
    simp (implicitDefEqProofs := false) only [go_sem, hc3]
    exact ⟨_, r, by rw [hp]; exact he, ⟨_, rfl, RepP.nd (RepP.fr hkv hf3 (by simp; omega) fun x hx => by omega)⟩, Ps.on hs hs2 hf3 (by simp), ((fr1 hF1).trans hf2).trans' hf3 (by simp)⟩
  | true =>
    have hp : exprP (loK k) ts = entP (loK k) [105, 102] (fun x => bd x.1 fun a => bd (expP [116, 104, 101, 110]) fun _ => bd x.1 fun b => bd (expP [101, 108, 115, 101]) fun _ => bd x.1 fun c => ret (.mk 30 [] 0 (hd ts).at_ [a, b, c])) ts := by simp only [exprP, e, if_true]
    cases k with
    | zero =>
      have hE := enter_no hs1 (s := [105, 102]) (.inr rfl)
      unfold sv at hE
      simp (implicitDefEqProofs := false) only [go_sem]
      refine hE.mono (fun _ _ h => h.elim) ?_
      rintro ch H2 ⟨rfl, hf2⟩
      rw [e]
      exact ⟨(6, (hd ts).at_), by rw [hp]; exact entP_0 e, rfl, (fr1 hF1).trans hf2⟩
    | succ j =>
      have hE := enter_ok hs1 e
      unfold sv at hE
      have hj := hs.k64
      have hx := hex j rfl
      have hps : exprP (loK (j + 1)) ts = _ := hp.trans (entP_s e)
      simp (implicitDefEqProofs := false) only [go_sem]
      refine hE.mono ?_
      rintro v H2 ⟨rfl, hs2, hf2⟩
      have hF2 := (fr1 hF1).trans hf2
      have hr2 := hr1.fr hf2 (by simpa using hx0)
      have hz2 := hf2.size
      simp (implicitDefEqProofs := false) only [go_sem]
      refine NewP_intro fun H3 hn3 hf3 hsz3 => ?_
      simp (implicitDefEqProofs := false) only [go_sem]
      refine Sto_all hn3 rfl (one_agg (t := []) rfl) fun H4 hn4 hf4 hsz4 => ?_
      have hfn := new_fr hf3 hf4
      have hz4 := hfn.size
      have hx2 : H2.size ≠ X.b := by omega
      have hF4 := hF2.trans (fr1 hfn)
      simp (implicitDefEqProofs := false) only [go_sem]
      refine hx.use (hs2.ext hfn) (fun e' H' he hf => ⟨e', by rw [hps]; exact bd_err he, rfl, hF4.trans hf⟩) fun n1 r1 v H5 he1 hv hs5 hf5 => ?_
      rw [bd_ok he1] at hps
      obtain ⟨cs, rfl, hra⟩ := hv
      have hF5 := hF4.trans hf5
      have hr5 := ((hr2.ext hfn).fr hf5 (by simpa using hx0))
      have hn5 := hn4.fr hf5 (by simpa using hx2)
      obtain ⟨k1, t1, n1, a1, ks1⟩ := n1
      obtain ⟨kv1, rfl, hkv1⟩ := RepP.nd_open hra
      have hz5 := hf5.size
      simp (implicitDefEqProofs := false) only [go_sem]
      refine NewP_intro fun H6 hn6 hf6 hsz6 => ?_
      simp (implicitDefEqProofs := false) only [go_sem]
      refine Sto_all hn6 rfl (one_agg (nd_one hkv1)) fun H7 hn7 hf7 hsz7 => ?_
      have hfn7 := new_fr hf6 hf7
      have hz7 := hfn7.size
      have hx5 : H5.size ≠ X.b := by omega
      simp (implicitDefEqProofs := false) only [go_sem]
      refine (expect_ok [116, 104, 101, 110]).use (hs5.ext hfn7) (fun e' H' he hf => ⟨e', by rw [hps]; exact bd_err he, rfl, (hF5.trans (fr1 hfn7)).trans hf⟩) fun _ r2 v H8 he2 hv hs8 hf8 => ?_
      rw [bd_ok he2] at hps
      have hF8 := (hF5.trans (fr1 hfn7)).trans hf8
      have hz8 := hf8.size
      simp (implicitDefEqProofs := false) only [go_sem]
      refine hx.use hs8 (fun e' H' he hf => ⟨e', by rw [hps]; exact bd_err he, rfl, hF8.trans hf⟩) fun n2 r3 v H9 he3 hv hs9 hf9 => ?_
      rw [bd_ok he3] at hps
      obtain ⟨cs, rfl, hrb⟩ := hv
      have hF9 := hF8.trans hf9
      obtain ⟨k2, t2, n2, a2, ks2⟩ := n2
      obtain ⟨kv2, rfl, hkv2⟩ := RepP.nd_open hrb
      have hz9 := hf9.size
      simp (implicitDefEqProofs := false) only [go_sem]
      refine NewP_intro fun H10 hn10 hf10 hsz10 => ?_
      simp (implicitDefEqProofs := false) only [go_sem]
      refine Sto_all hn10 rfl (one_agg (nd_one hkv2)) fun H11 hn11 hf11 hsz11 => ?_
      have hfn11 := new_fr hf10 hf11
      have hz11 := hfn11.size
      have hx9 : H9.size ≠ X.b := by omega
      simp (implicitDefEqProofs := false) only [go_sem]
      refine (expect_ok [101, 108, 115, 101]).use (hs9.ext hfn11) (fun e' H' he hf => ⟨e', by rw [hps]; exact bd_err he, rfl, (hF9.trans (fr1 hfn11)).trans hf⟩) fun _ r4 v H12 he4 hv hs12 hf12 => ?_
      rw [bd_ok he4] at hps
      have hF12 := (hF9.trans (fr1 hfn11)).trans hf12
      have hz12 := hf12.size
      have hA12 := ((((hn7.fr hf8 (by simpa using hx5)).fr hf9 (by simpa using hx5)).ext hfn11).fr hf12 (by simpa using hx5))
      have hB12 := hn11.fr hf12 (by simpa using hx9)
      have cA := hA12.cell
      have cB := hB12.cell
      simp (implicitDefEqProofs := false) only [go_sem, cA, cB]
      refine hx.use hs12 (fun e' H' he hf => ⟨e', by rw [hps]; exact bd_err he, rfl, hF12.trans hf⟩) fun n3 r5 v H13 he5 hv hs13 hf13 => ?_
      rw [bd_ok he5] at hps
      obtain ⟨cs, rfl, hrc⟩ := hv
      have hF13 := hF12.trans hf13
      obtain ⟨k3, t3, n3, a3, ks3⟩ := n3
      obtain ⟨kv3, rfl, hkv3⟩ := RepP.nd_open hrc
      have hz13 := hf13.size
      have cA13 := (hA12.fr hf13 (by simpa using hx5)).cell
      have cB13 := (hB12.fr hf13 (by simpa using hx9)).cell
      have toX : ∀ {A B : Heap}, Fr [X.b] A B → ∀ x ∈ [X.b], x < H.size ∨ x = H.size ∨ x = H2.size := fun _ x hx => by simp at hx; omega
      have gA : RepP H13 (fun x => x < H.size ∨ x = H.size ∨ x = H2.size) (Nd.dat (.mk k1 t1 n1 a1 ks1)) [.int .i64 k1, sv t1, .int .i64 n1, .int .i64 a1, kv1] := by
        have q7 := RepP.ext hra hfn7 (B' := fun x => x < H.size ∨ x = H.size ∨ x = H2.size) fun x hx => .inl (by omega)
        have q8 := RepP.fr q7 hf8 (B' := fun x => x < H.size ∨ x = H.size ∨ x = H2.size) (fun x hx => .inl (toX hf8 x hx)) fun x hx => .inl hx
        have q9 := RepP.fr q8 hf9 (B' := fun x => x < H.size ∨ x = H.size ∨ x = H2.size) (fun x hx => .inl (toX hf8 x hx)) fun x hx => .inl hx
        have q11 := RepP.ext q9 hfn11 (B' := fun x => x < H.size ∨ x = H.size ∨ x = H2.size) fun x hx => .inl hx
        have q12 := RepP.fr q11 hf12 (B' := fun x => x < H.size ∨ x = H.size ∨ x = H2.size) (fun x hx => .inl (toX hf8 x hx)) fun x hx => .inl hx
        exact RepP.fr q12 hf13 (fun x hx => .inl (toX hf8 x hx)) fun x hx => .inl hx
      have gB : RepP H13 (fun x => x < H.size ∨ x = H.size ∨ x = H2.size) (Nd.dat (.mk k2 t2 n2 a2 ks2)) [.int .i64 k2, sv t2, .int .i64 n2, .int .i64 a2, kv2] := by
        have q11 := RepP.ext hrb hfn11 (B' := fun x => x < H.size ∨ x = H.size ∨ x = H2.size) fun x hx => .inl (by omega)
        have q12 := RepP.fr q11 hf12 (B' := fun x => x < H.size ∨ x = H.size ∨ x = H2.size) (fun x hx => .inl (toX hf8 x hx)) fun x hx => .inl hx
        exact RepP.fr q12 hf13 (fun x hx => .inl (toX hf8 x hx)) fun x hx => .inl hx
      simp (implicitDefEqProofs := false) only [go_sem, cA13, cB13]
      refine NewS_intro fun H14 hn14 hf14 hsz14 => ?_
      have hrow : RepP H14 (fun x => x < H.size ∨ x = H.size ∨ x = H2.size) (kidsD [.mk k1 t1 n1 a1 ks1, .mk k2 t2 n2 a2 ks2, .mk k3 t3 n3 a3 ks3]) [.slice (some ⟨H13.size, 0, none⟩) 3 3] := by
        refine RepP.row3 (cx := [_, _, _, _, _]) (cy := [_, _, _, _, _]) (cz := [_, _, _, _, _]) hn14 (RepP.ext gA hf14 fun x hx => .inl hx) (RepP.ext gB hf14 fun x hx => .inl hx) (RepP.ext hrc hf14 fun x hx => .inl (by omega)) rfl rfl rfl (by omega)
      have hn14' := (((((hn5.ext hfn7).fr hf8 (by simpa using hx2)).fr hf9 (by simpa using hx2)).ext hfn11).fr hf12 (by simpa using hx2)).fr hf13 (by simpa using hx2)
      have hr14 := (((((hr5.ext hfn7).fr hf8 (by simpa using hx0)).fr hf9 (by simpa using hx0)).ext hfn11).fr hf12 (by simpa using hx0)).fr hf13 (by simpa using hx0)
      simp (implicitDefEqProofs := false) only [go_sem]
      refine Sto_one (hn14'.ext hf14) (by simp) rfl fun H15 hn15 hf15 hsz15 => ?_
      have hrow15 := RepP.fr hrow hf15 (B' := fun x => x < H.size ∨ x = H.size ∨ x = H2.size) (by simp) fun x hx => .inl hx
      have hs15 := Ps.on hs (hs13.ext hf14) hf15 (by simp; omega)
      have hF15 : Fr [X.b] H H15 := (hF13.trans (fr1 hf14)).trans' hf15 (by simp; omega)
      have hr15 := (hr14.ext hf14).fr hf15 (by simp; omega)
      simp (implicitDefEqProofs := false) only [go_sem]
      refine (leave_ok hs15 (by omega)).mono ?_
      rintro v H16 ⟨hs16, hf16⟩
      have hn16 := hn15.fr hf16 (by simpa using hx2)
      have hr16 := hr15.fr hf16 (by simpa using hx0)
      have hc16 := hn16.cell
      have hrow16 := RepP.fr hrow15 hf16 (B' := fun x => x < H.size ∨ x = H.size) (by simp; omega) fun x hx => .inl (by omega)
      simp (implicitDefEqProofs := false) only [go_sem, hc16]
      refine Sto_all hr16 rfl (one_agg (t := []) rfl) fun H17 hn17 hf17 hsz17 => ?_
      have hc17 := hn17.cell
      simp (implicitDefEqProofs := false) only [go_sem, hc17]
      refine ⟨.mk 30 [] 0 (hd ts).at_ [.mk k1 t1 n1 a1 ks1, .mk k2 t2 n2 a2 ks2, .mk k3 t3 n3 a3 ks3], r5, by rw [hps]; rfl, ⟨_, rfl, RepP.nd (RepP.fr hrow16 hf17 (by simp) fun x hx => by omega)⟩, Ps.on hs hs16 hf17 (by simp), (hF15.trans hf16).trans' hf17 (by simp)⟩
end Go.Proofs.YtbgjgaaobnbijaaDoor
