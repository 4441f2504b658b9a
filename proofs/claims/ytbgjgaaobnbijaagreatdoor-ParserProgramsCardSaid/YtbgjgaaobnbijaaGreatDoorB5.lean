import Derived.Test.YtbgjgaaobnbijaaGreatDoorB4
import Derived.Test.YtbgjgaaobnbijaaGreatDoorB3
import Derived.Test.YtbgjgaaobnbijaaGreatDoorB2
section
/- not, if: contracts. -/
set_option linter.unusedSimpArgs false
set_option linter.unusedVariables false
set_option maxRecDepth 8000
namespace Go.Proofs.YtbgjgaaobnbijaaGreatDoor
open Gx Go

theorem entP_0 {α β : Type} {s : Bs} {body : β → PP α} {ts : List Tk} (h : isB s ts = true) : entP none s body ts = .error (6, (hd ts).at_) := by simp only [entP, h, if_true]
theorem entP_s {α β : Type} {s : Bs} {x : β} {body : β → PP α} {ts : List Tk} (h : isB s ts = true) : entP (some x) s body ts = body x ts.tail := by simp only [entP, h, if_true]
theorem entP_no {α β : Type} {lo : Option β} {s : Bs} {body : β → PP α} {ts : List Tk} (h : isB s ts = false) : entP lo s body ts = .error (2, (hd ts).at_) := by simp only [entP, h, Bool.false_eq_true, if_false]

set_option maxHeartbeats 1000000 in
theorem not_ok {k : Nat} (hnot : ∀ j, k = j + 1 → POk j 66 [] (lev j).2 NdR) (hcmp : POk k 82 [] (cmpP (loK k)) NdR) : POk k 66 [] (notP (loK k)) NdR := by
  refine ⟨fun {X H ts} hs => ?_⟩
  refine pcalls_of_vc (args := [_]) Tryz.func66 c66ok (Nat.le_of_ble_eq_true rfl) ?_
  have hx0 : H.size ≠ X.b := by have := hs.lt; omega
  simp (implicitDefEqProofs := false) only [go_sem, c66]
  refine NewP_intro fun H0 hn0 hf0 hs0 => ?_
  have hA := is_ok (hs.ext hf0) [110, 111, 116]
  unfold sv at hA
  simp (implicitDefEqProofs := false) only [go_sem]
  refine hA.mono ?_
  rintro v H1 ⟨rfl, hf1⟩
  have hF1 := hf0.trans hf1
  have hs1 := hs.ext hF1
  have hr1 := hn0.ext hf1
  cases e : isB [110, 111, 116] ts with
  | false =>
    have hp : notP (loK k) ts = cmpP (loK k) ts := by simp only [notP, e, Bool.false_eq_true, if_false]
    simp (implicitDefEqProofs := false) only [go_sem]
    refine hcmp.use hs1 (fun e' H' he hf => ⟨e', by rw [hp]; exact he, rfl, (fr1 hF1).trans hf⟩) fun n r v H2 he hv hs2 hf2 => ?_
    obtain ⟨cs, rfl, hr⟩ := hv
    obtain ⟨k', t', n', a', ks'⟩ := n
    obtain ⟨kv, rfl, hkv⟩ := RepP.nd_open hr
    have hr2 := hr1.fr hf2 (by simpa using hx0)
    have := hf1.size
    simp (implicitDefEqProofs := false) only [go_sem]
    refine Sto_all hr2 rfl (one_agg (nd_one hkv)) fun H3 hn3 hf3 hs3 => ?_
    have hc3 := hn3.cell
    simp (implicitDefEqProofs := false) only [go_sem, hc3]
    exact ⟨_, r, by rw [hp]; exact he, ⟨_, rfl, RepP.nd (RepP.fr hkv hf3 (by simp; omega) fun x hx => by omega)⟩, Ps.on hs hs2 hf3 (by simp), ((fr1 hF1).trans hf2).trans' hf3 (by simp)⟩
  | true =>
    have hp : notP (loK k) ts = entP (loK k) [110, 111, 116] (fun x => bd x.2 fun n => ret (.mk 33 [] 0 (hd ts).at_ [n])) ts := by simp only [notP, e, if_true]
    cases k with
    | zero =>
      have hE := enter_no hs1 (s := [110, 111, 116]) (.inr rfl)
      unfold sv at hE
      simp (implicitDefEqProofs := false) only [go_sem]
      refine hE.mono (fun _ _ h => h.elim) ?_
      rintro ch H2 ⟨rfl, hf2⟩
      rw [e]
      exact ⟨(6, (hd ts).at_), by rw [hp]; exact entP_0 e, rfl, (fr1 hF1).trans hf2⟩
    | succ j =>
      have hE := enter_ok hs1 e
      unfold sv at hE
      have hj := hs.k64
      simp (implicitDefEqProofs := false) only [go_sem]
      refine hE.mono ?_
      rintro v H2 ⟨rfl, hs2, hf2⟩
      have hF2 := (fr1 hF1).trans hf2
      have hr2 := hr1.fr hf2 (by simpa using hx0)
      simp (implicitDefEqProofs := false) only [go_sem]
      refine NewP_intro fun H3 hn3 hf3 hsz3 => ?_
      simp (implicitDefEqProofs := false) only [go_sem]
      refine Sto_all hn3 rfl (one_agg (t := []) rfl) fun H4 hn4 hf4 hsz4 => ?_
      have hfn := new_fr hf3 hf4
      have hz2 := hF2.size
      have hz4 := hfn.size
      have hx2 : H2.size ≠ X.b := by have := hs2.lt; omega
      simp (implicitDefEqProofs := false) only [go_sem]
      refine (hnot j rfl).use (hs2.ext hfn) (fun e' H' he hf => ⟨e', by rw [hp]; exact (entP_s e).trans (bd_err he), rfl, (hF2.trans (fr1 hfn)).trans hf⟩) fun n r v H5 he hv hs5 hf5 => ?_
      obtain ⟨cs, rfl, hr⟩ := hv
      have hF5 := (hF2.trans (fr1 hfn)).trans hf5
      have hr5 := ((hr2.ext hfn).fr hf5 (by simpa using hx0))
      have hn5 := hn4.fr hf5 (by simpa using hx2)
      obtain ⟨k', t', n', a', ks'⟩ := n
      obtain ⟨kv, rfl, hkv⟩ := RepP.nd_open hr
      have hz5 := hf5.size
      simp (implicitDefEqProofs := false) only [go_sem]
      refine NewS_intro fun H6 hn6 hf6 hsz6 => ?_
      have hrow : RepP H6 (fun x => x < H.size ∨ x = H.size ∨ x = H2.size) (kidsD [.mk k' t' n' a' ks']) [.slice (some ⟨H5.size, 0, none⟩) 1 1] :=
        RepP.row1 (cx := [_, _, _, _, _]) hn6 (RepP.ext hr hf6 fun x hx => .inl (by omega)) rfl (by omega)
      simp (implicitDefEqProofs := false) only [go_sem]
      refine Sto_one (hn5.ext hf6) (by simp) rfl fun H7 hn7 hf7 hsz7 => ?_
      have hrow7 := RepP.fr hrow hf7 (B' := fun x => x < H.size ∨ x = H.size ∨ x = H2.size) (by simp) fun x hx => .inl hx
      have hz1 := hf1.size
      have hz2b := hf2.size
      have hz6 := hf6.size
      have hs7 := Ps.on hs (hs5.ext hf6) hf7 (by simp; omega)
      have hF7 : Fr [X.b] H H7 := (hF5.trans (fr1 hf6)).trans' hf7 (by simp; omega)
      have hr7 := (hr5.ext hf6).fr hf7 (by simp; omega)
      simp (implicitDefEqProofs := false) only [go_sem]
      refine (leave_ok hs7 (by omega)).mono ?_
      rintro v H8 ⟨hs8, hf8⟩
      have hn8 := hn7.fr hf8 (by simpa using hx2)
      have hr8 := hr7.fr hf8 (by simpa using hx0)
      have hc8 := hn8.cell
      have hrow8 := RepP.fr hrow7 hf8 (B' := fun x => x < H.size ∨ x = H.size) (by simp; have := hs.lt; omega) fun x hx => .inl (by omega)
      simp (implicitDefEqProofs := false) only [go_sem, hc8]
      refine Sto_all hr8 rfl (one_agg (t := []) rfl) fun H9 hn9 hf9 hsz9 => ?_
      have hc9 := hn9.cell
      simp (implicitDefEqProofs := false) only [go_sem, hc9]
      refine ⟨.mk 33 [] 0 (hd ts).at_ [.mk k' t' n' a' ks'], r, by rw [hp]; exact (entP_s e).trans (bd_ok he), ⟨_, rfl, RepP.nd (RepP.fr hrow8 hf9 (by simp) fun x hx => by omega)⟩, Ps.on hs hs8 hf9 (by simp), (hF7.trans hf8).trans' hf9 (by simp)⟩

set_option maxHeartbeats 2000000 in
theorem comparison_ok {k : Nat} {lo : Lo} (hl : LoDn lo) (hj : POk k 96 [] (joinP lo) NdR) : POk k 82 [] (cmpP lo) NdR := by
  refine ⟨fun {X H ts} hs => ?_⟩
  refine pcalls_of_vc (args := [_]) Tryz.func82 c82ok (Nat.le_of_ble_eq_true rfl) ?_
  have hx0 : H.size ≠ X.b := by have := hs.lt; omega
  have hblt := hs.lt
  simp (implicitDefEqProofs := false) only [go_sem, c82]
  refine NewP_intro fun H0 hn0 hf0 hs0 => ?_
  simp (implicitDefEqProofs := false) only [go_sem]
  refine hj.use (hs.ext hf0) (fun e H' he hf => ⟨e, bd_err he, rfl, (fr1 hf0).trans hf⟩) fun n r v H1 he hv hs1 hf1 => ?_
  obtain ⟨cs, rfl, hr1⟩ := hv
  obtain ⟨kk, tt, nn, aa, ks⟩ := n
  obtain ⟨kv, rfl, hkv⟩ := RepP.nd_open hr1
  have hF1 := (fr1 hf0).trans hf1
  have hz1 := hf1.size
  simp (implicitDefEqProofs := false) only [go_sem]
  refine NewP_intro fun H2 hn2 hf2 hsz2 => ?_
  simp (implicitDefEqProofs := false) only [go_sem]
  refine Sto_all hn2 rfl (one_agg (nd_one hkv)) fun H3 hn3 hf3 hsz3 => ?_
  have hfn := new_fr hf2 hf3
  obtain ⟨bn, hbn⟩ : ∃ bn, bn = H1.size := ⟨_, rfl⟩
  rw [← hbn] at hn3 ⊢
  have hr3 := (hn0.fr hf1 (by simpa using hx0)).ext hfn
  have hz3 := hfn.size
  simp (implicitDefEqProofs := false) only [go_sem]
  refine NewM_intro fun M1 hm1 hg1 hw1 => ?_
  simp (implicitDefEqProofs := false) only [go_sem]
  refine InsM_intro hm1 rfl fun M2 hm2 hg2 hw2 => ?_
  simp (implicitDefEqProofs := false) only [go_sem]
  refine InsM_intro hm2 rfl fun M3 hm3 hg3 hw3 => ?_
  simp (implicitDefEqProofs := false) only [go_sem]
  refine InsM_intro hm3 rfl fun M4 hm4 hg4 hw4 => ?_
  simp (implicitDefEqProofs := false) only [go_sem]
  refine InsM_intro hm4 rfl fun M5 hm5 hg5 hw5 => ?_
  simp (implicitDefEqProofs := false) only [go_sem]
  refine InsM_intro hm5 rfl fun H4 hm6 hg6 hw6 => ?_
  have hg : Fr [] H3 H4 := ((((hg1.trans' hg2 (by simp)).trans' hg3 (by simp)).trans' hg4 (by simp)).trans' hg5 (by simp)).trans' hg6 (by simp)
  have hs4 := (hs1.ext hfn).ext hg
  have hn4 := hn3.ext hg
  have hr4 := hr3.ext hg
  have hk4 : RepP H4 (fun x => x < H0.size ∨ x = bn) (kidsD ks) [kv] := RepP.ext (RepP.ext hkv hfn (B' := fun x => x < H0.size ∨ x = bn) fun x hx => by omega) hg fun x hx => .inl hx
  have hF4 : Fr [X.b] H H4 := (hF1.trans (fr1 hfn)).trans (fr1 hg)
  have hz4 := hg.size
  obtain ⟨cur, hcur⟩ : ∃ cur, cur = r := ⟨_, rfl⟩
  subst hcur
  have hcm : cmpP lo ts = if opAt kCmp cur then bd (joinP lo) (fun m => ret (.mk (kdOf kCmp (hd cur).text) [] 0 (hd cur).at_ [.mk kk tt nn aa ks, m])) cur.tail else .ok (.mk kk tt nn aa ks, cur) := by unfold cmpP; rw [bd_ok he]
  simp (implicitDefEqProofs := false) only [go_sem]
  refine (look_ok hs4).mono ?_
  rintro v H5 ⟨rfl, hf5⟩
  simp (implicitDefEqProofs := false) only [go_sem, tkC]
  refine NewP_intro fun H6 hn6 hf6 hsz6 => ?_
  simp (implicitDefEqProofs := false) only [go_sem]
  refine Sto_all hn6 rfl (one4' (hd cur)) fun H7 hn7 hf7 hsz7 => ?_
  have hc7 := hn7.cell
  have hfn7 := hf5.trans (new_fr hf6 hf7)
  have hs7 := hs4.ext hfn7
  have hm7 : MapH H7 H3.size kCmp := hm6.fr hfn7 (by simp)
  simp (implicitDefEqProofs := false) only [go_sem, hc7, sv]
  refine LkpM_intro hm7 ?_
  have hb7 := hn4.ext hfn7
  have hr7 := hr4.ext hfn7
  have hk7 := RepP.ext hk4 hfn7 (B' := fun x => x < H0.size ∨ x = bn) fun x hx => .inl hx
  have hF7 := hF4.trans (fr1 hfn7)
  have hz7 := hfn7.size
  have hz5 := hf5.size
  by_cases hz : kdOf kCmp (hd cur).text = 0
  · have hcb := hb7.cell
    simp (implicitDefEqProofs := false) only [go_sem, hz, hcb]
    refine Sto_all hr7 rfl (one_agg (nd_one hk7)) fun H8 hn8 hf8 hsz8 => ?_
    have hc8 := hn8.cell
    simp (implicitDefEqProofs := false) only [go_sem, hc8]
    refine ⟨.mk kk tt nn aa ks, cur, by rw [hcm]; simp [opAt, hz], ⟨_, rfl, ?_⟩, Ps.on hs hs7 hf8 (by simp), hF7.trans' hf8 (by simp)⟩
    exact RepP.nd (RepP.fr hk7 hf8 (by simp; omega) fun x hx => by omega)
  · have hA := accept_ok hs7 (hd cur).text
    unfold sv at hA
    simp (implicitDefEqProofs := false) only [go_sem, hz, hc7, sv]
    refine hA.mono ?_
    rintro v H8 ⟨rfl, hs8, hf8⟩
    have hbx : bn ≠ X.b := by omega
    have h5x : H5.size ≠ X.b := by omega
    have hb8 := hb7.fr hf8 (by simpa using hbx)
    have hr8 := hr7.fr hf8 (by simpa using hx0)
    have hn8 := hn7.fr hf8 (by simpa using h5x)
    have hk8 := RepP.fr hk7 hf8 (B' := fun x => x < H0.size ∨ x = bn) (by simp; omega) fun x hx => .inl hx
    have hF8 := hF7.trans hf8
    have hcb := hb8.cell
    have hz8 := hf8.size
    cases e : isB (hd cur).text cur with
    | false =>
      rw [e] at hs8
      simp (implicitDefEqProofs := false) only [go_sem, hcb]
      refine Sto_all hr8 rfl (one_agg (nd_one hk8)) fun H9 hn9 hf9 hsz9 => ?_
      have hc9 := hn9.cell
      simp (implicitDefEqProofs := false) only [go_sem, hc9]
      refine ⟨.mk kk tt nn aa ks, cur, by rw [hcm]; simp [opAt, e], ⟨_, rfl, ?_⟩, Ps.on hs hs8 hf9 (by simp), hF8.trans' hf9 (by simp)⟩
      exact RepP.nd (RepP.fr hk8 hf9 (by simp; omega) fun x hx => by omega)
    | true =>
      rw [e, if_pos rfl] at hs8
      have hop' : opAt kCmp cur = true := by simp [opAt, e, hz]
      rw [hop', if_pos rfl] at hcm
      have hcn := hn8.cell
      simp (implicitDefEqProofs := false) only [go_sem, hcb, hcn]
      refine hj.use hs8 (fun e' H' he' hf' => ⟨e', by rw [hcm]; exact bd_err he', rfl, hF8.trans hf'⟩) fun n' r' v H9 he' hv' hs9 hf9 => ?_
      obtain ⟨cs', rfl, hr9'⟩ := hv'
      obtain ⟨k', t', n', a', ks'⟩ := n'
      obtain ⟨kv', rfl, hkv'⟩ := RepP.nd_open hr9'
      have hb9 := hb8.fr hf9 (by simpa using hbx)
      have hr9 := hr8.fr hf9 (by simpa using hx0)
      have hn9 := hn8.fr hf9 (by simpa using h5x)
      have hk9 := RepP.fr hk8 hf9 (B' := fun x => x < H0.size ∨ x = bn) (by simp; omega) fun x hx => .inl hx
      have hF9 := hF8.trans hf9
      have hcb9 := hb9.cell
      have hcn9 := hn9.cell
      have hz9 := hf9.size
      simp (implicitDefEqProofs := false) only [go_sem, hcb9, hcn9]
      refine NewS_intro fun H10 hn10 hf10 hsz10 => ?_
      have hrow : RepP H10 (fun x => x < H0.size ∨ x = bn) (kidsD [.mk kk tt nn aa ks, .mk k' t' n' a' ks']) [.slice (some ⟨H9.size, 0, none⟩) 2 2] := by
        refine RepP.row2 (cx := [_, _, _, _, _]) (cy := [_, _, _, _, _]) hn10 (RepP.nd (RepP.ext hk9 hf10 fun x hx => .inl hx)) (RepP.ext hr9' hf10 fun x hx => .inl ?_) rfl rfl (by omega)
        omega
      have hcn10 := (hn9.ext hf10).cell
      simp (implicitDefEqProofs := false) only [go_sem, hcn10]
      refine Sto_all (hr9.ext hf10) rfl (one_agg (t := []) rfl) fun H11 hn11 hf11 hsz11 => ?_
      have hc11 := hn11.cell
      simp (implicitDefEqProofs := false) only [go_sem, hc11]
      refine ⟨.mk (kdOf kCmp (hd cur).text) [] 0 (hd cur).at_ [.mk kk tt nn aa ks, .mk k' t' n' a' ks'], r', by rw [hcm]; exact bd_ok he', ⟨_, rfl, RepP.nd ?_⟩, Ps.on hs (hs9.ext hf10) hf11 (by simp), (hF9.trans (fr1 hf10)).trans' hf11 (by simp)⟩
      exact RepP.fr hrow hf11 (by simp; omega) fun x hx => by omega

set_option maxHeartbeats 2000000 in
theorem expression_ok {k : Nat} (hex : ∀ j, k = j + 1 → POk j 17 [] (lev j).1 NdR) (hor : POk k 29 [] (orP (loK k)) NdR) : POk k 17 [] (exprP (loK k)) NdR := by
  refine ⟨fun {X H ts} hs => ?_⟩
  refine pcalls_of_vc (args := [_]) Tryz.func17 c17ok (Nat.le_of_ble_eq_true rfl) ?_
  have hx0 : H.size ≠ X.b := by have := hs.lt; omega
  have hblt := hs.lt
  simp (implicitDefEqProofs := false) only [go_sem, c17]
  refine NewP_intro fun H0 hn0 hf0 hs0 => ?_
  have hA := is_ok (hs.ext hf0) [105, 102]
  unfold sv at hA
  simp (implicitDefEqProofs := false) only [go_sem]
  refine hA.mono ?_
  rintro v H1 ⟨rfl, hf1⟩
  have hF1 := hf0.trans hf1
  have hs1 := hs.ext hF1
  have hr1 := hn0.ext hf1
  have hz1 := hf1.size
  cases e : isB [105, 102] ts with
  | false =>
    have hp : exprP (loK k) ts = orP (loK k) ts := by simp only [exprP, e, Bool.false_eq_true, if_false]
    simp (implicitDefEqProofs := false) only [go_sem]
    refine hor.use hs1 (fun e' H' he hf => ⟨e', by rw [hp]; exact he, rfl, (fr1 hF1).trans hf⟩) fun n r v H2 he hv hs2 hf2 => ?_
    obtain ⟨cs, rfl, hr⟩ := hv
    obtain ⟨k', t', n', a', ks'⟩ := n
    obtain ⟨kv, rfl, hkv⟩ := RepP.nd_open hr
    have hr2 := hr1.fr hf2 (by simpa using hx0)
    simp (implicitDefEqProofs := false) only [go_sem]
    refine Sto_all hr2 rfl (one_agg (nd_one hkv)) fun H3 hn3 hf3 hs3 => ?_
    have hc3 := hn3.cell
    simp (implicitDefEqProofs := false) only [go_sem, hc3]
    exact ⟨_, r, by rw [hp]; exact he, ⟨_, rfl, RepP.nd (RepP.fr hkv hf3 (by simp; omega) fun x hx => by omega)⟩, Ps.on hs hs2 hf3 (by simp), ((fr1 hF1).trans hf2).trans' hf3 (by simp)⟩
  | true =>
    have hp : exprP (loK k) ts = entP (loK k) [105, 102] (fun x => bd x.1 fun a => bd (expP [116, 104, 101, 110]) fun _ => bd x.1 fun b => bd (expP [101, 108, 115, 101]) fun _ => bd x.1 fun c => ret (.mk 30 [] 0 (hd ts).at_ [a, b, c])) ts := by simp only [exprP, e, if_true]
    cases k with
    | zero =>
      have hE := enter_no hs1 (s := [105, 102]) (.inr rfl)
      unfold sv at hE
      simp (implicitDefEqProofs := false) only [go_sem]
      refine hE.mono (fun _ _ h => h.elim) ?_
      rintro ch H2 ⟨rfl, hf2⟩
      rw [e]
      exact ⟨(6, (hd ts).at_), by rw [hp]; exact entP_0 e, rfl, (fr1 hF1).trans hf2⟩
    | succ j =>
      have hE := enter_ok hs1 e
      unfold sv at hE
      have hj := hs.k64
      have hx := hex j rfl
      have hps : exprP (loK (j + 1)) ts = _ := hp.trans (entP_s e)
      simp (implicitDefEqProofs := false) only [go_sem]
      refine hE.mono ?_
      rintro v H2 ⟨rfl, hs2, hf2⟩
      have hF2 := (fr1 hF1).trans hf2
      have hr2 := hr1.fr hf2 (by simpa using hx0)
      have hz2 := hf2.size
      simp (implicitDefEqProofs := false) only [go_sem]
      refine NewP_intro fun H3 hn3 hf3 hsz3 => ?_
      simp (implicitDefEqProofs := false) only [go_sem]
      refine Sto_all hn3 rfl (one_agg (t := []) rfl) fun H4 hn4 hf4 hsz4 => ?_
      have hfn := new_fr hf3 hf4
      have hz4 := hfn.size
      have hx2 : H2.size ≠ X.b := by omega
      have hF4 := hF2.trans (fr1 hfn)
      simp (implicitDefEqProofs := false) only [go_sem]
      refine hx.use (hs2.ext hfn) (fun e' H' he hf => ⟨e', by rw [hps]; exact bd_err he, rfl, hF4.trans hf⟩) fun n1 r1 v H5 he1 hv hs5 hf5 => ?_
      rw [bd_ok he1] at hps
      obtain ⟨cs, rfl, hra⟩ := hv
      have hF5 := hF4.trans hf5
      have hr5 := ((hr2.ext hfn).fr hf5 (by simpa using hx0))
      have hn5 := hn4.fr hf5 (by simpa using hx2)
      obtain ⟨k1, t1, n1, a1, ks1⟩ := n1
      obtain ⟨kv1, rfl, hkv1⟩ := RepP.nd_open hra
      have hz5 := hf5.size
      simp (implicitDefEqProofs := false) only [go_sem]
      refine NewP_intro fun H6 hn6 hf6 hsz6 => ?_
      simp (implicitDefEqProofs := false) only [go_sem]
      refine Sto_all hn6 rfl (one_agg (nd_one hkv1)) fun H7 hn7 hf7 hsz7 => ?_
      have hfn7 := new_fr hf6 hf7
      have hz7 := hfn7.size
      have hx5 : H5.size ≠ X.b := by omega
      simp (implicitDefEqProofs := false) only [go_sem]
      refine (expect_ok [116, 104, 101, 110]).use (hs5.ext hfn7) (fun e' H' he hf => ⟨e', by rw [hps]; exact bd_err he, rfl, (hF5.trans (fr1 hfn7)).trans hf⟩) fun _ r2 v H8 he2 hv hs8 hf8 => ?_
      rw [bd_ok he2] at hps
      have hF8 := (hF5.trans (fr1 hfn7)).trans hf8
      have hz8 := hf8.size
      simp (implicitDefEqProofs := false) only [go_sem]
      refine hx.use hs8 (fun e' H' he hf => ⟨e', by rw [hps]; exact bd_err he, rfl, hF8.trans hf⟩) fun n2 r3 v H9 he3 hv hs9 hf9 => ?_
      rw [bd_ok he3] at hps
      obtain ⟨cs, rfl, hrb⟩ := hv
      have hF9 := hF8.trans hf9
      obtain ⟨k2, t2, n2, a2, ks2⟩ := n2
      obtain ⟨kv2, rfl, hkv2⟩ := RepP.nd_open hrb
      have hz9 := hf9.size
      simp (implicitDefEqProofs := false) only [go_sem]
      refine NewP_intro fun H10 hn10 hf10 hsz10 => ?_
      simp (implicitDefEqProofs := false) only [go_sem]
      refine Sto_all hn10 rfl (one_agg (nd_one hkv2)) fun H11 hn11 hf11 hsz11 => ?_
      have hfn11 := new_fr hf10 hf11
      have hz11 := hfn11.size
      have hx9 : H9.size ≠ X.b := by omega
      simp (implicitDefEqProofs := false) only [go_sem]
      refine (expect_ok [101, 108, 115, 101]).use (hs9.ext hfn11) (fun e' H' he hf => ⟨e', by rw [hps]; exact bd_err he, rfl, (hF9.trans (fr1 hfn11)).trans hf⟩) fun _ r4 v H12 he4 hv hs12 hf12 => ?_
      rw [bd_ok he4] at hps
      have hF12 := (hF9.trans (fr1 hfn11)).trans hf12
      have hz12 := hf12.size
      have hA12 := ((((hn7.fr hf8 (by simpa using hx5)).fr hf9 (by simpa using hx5)).ext hfn11).fr hf12 (by simpa using hx5))
      have hB12 := hn11.fr hf12 (by simpa using hx9)
      have cA := hA12.cell
      have cB := hB12.cell
      simp (implicitDefEqProofs := false) only [go_sem, cA, cB]
      refine hx.use hs12 (fun e' H' he hf => ⟨e', by rw [hps]; exact bd_err he, rfl, hF12.trans hf⟩) fun n3 r5 v H13 he5 hv hs13 hf13 => ?_
      rw [bd_ok he5] at hps
      obtain ⟨cs, rfl, hrc⟩ := hv
      have hF13 := hF12.trans hf13
      obtain ⟨k3, t3, n3, a3, ks3⟩ := n3
      obtain ⟨kv3, rfl, hkv3⟩ := RepP.nd_open hrc
      have hz13 := hf13.size
      have cA13 := (hA12.fr hf13 (by simpa using hx5)).cell
      have cB13 := (hB12.fr hf13 (by simpa using hx9)).cell
      have toX : ∀ {A B : Heap}, Fr [X.b] A B → ∀ x ∈ [X.b], x < H.size ∨ x = H.size ∨ x = H2.size := fun _ x hx => by simp at hx; omega
      have gA : RepP H13 (fun x => x < H.size ∨ x = H.size ∨ x = H2.size) (Nd.dat (.mk k1 t1 n1 a1 ks1)) [.int .i64 k1, sv t1, .int .i64 n1, .int .i64 a1, kv1] := by
        have q7 := RepP.ext hra hfn7 (B' := fun x => x < H.size ∨ x = H.size ∨ x = H2.size) fun x hx => .inl (by omega)
        have q8 := RepP.fr q7 hf8 (B' := fun x => x < H.size ∨ x = H.size ∨ x = H2.size) (fun x hx => .inl (toX hf8 x hx)) fun x hx => .inl hx
        have q9 := RepP.fr q8 hf9 (B' := fun x => x < H.size ∨ x = H.size ∨ x = H2.size) (fun x hx => .inl (toX hf8 x hx)) fun x hx => .inl hx
        have q11 := RepP.ext q9 hfn11 (B' := fun x => x < H.size ∨ x = H.size ∨ x = H2.size) fun x hx => .inl hx
        have q12 := RepP.fr q11 hf12 (B' := fun x => x < H.size ∨ x = H.size ∨ x = H2.size) (fun x hx => .inl (toX hf8 x hx)) fun x hx => .inl hx
        exact RepP.fr q12 hf13 (fun x hx => .inl (toX hf8 x hx)) fun x hx => .inl hx
      have gB : RepP H13 (fun x => x < H.size ∨ x = H.size ∨ x = H2.size) (Nd.dat (.mk k2 t2 n2 a2 ks2)) [.int .i64 k2, sv t2, .int .i64 n2, .int .i64 a2, kv2] := by
        have q11 := RepP.ext hrb hfn11 (B' := fun x => x < H.size ∨ x = H.size ∨ x = H2.size) fun x hx => .inl (by omega)
        have q12 := RepP.fr q11 hf12 (B' := fun x => x < H.size ∨ x = H.size ∨ x = H2.size) (fun x hx => .inl (toX hf8 x hx)) fun x hx => .inl hx
        exact RepP.fr q12 hf13 (fun x hx => .inl (toX hf8 x hx)) fun x hx => .inl hx
      simp (implicitDefEqProofs := false) only [go_sem, cA13, cB13]
      refine NewS_intro fun H14 hn14 hf14 hsz14 => ?_
      have hrow : RepP H14 (fun x => x < H.size ∨ x = H.size ∨ x = H2.size) (kidsD [.mk k1 t1 n1 a1 ks1, .mk k2 t2 n2 a2 ks2, .mk k3 t3 n3 a3 ks3]) [.slice (some ⟨H13.size, 0, none⟩) 3 3] := by
        refine RepP.row3 (cx := [_, _, _, _, _]) (cy := [_, _, _, _, _]) (cz := [_, _, _, _, _]) hn14 (RepP.ext gA hf14 fun x hx => .inl hx) (RepP.ext gB hf14 fun x hx => .inl hx) (RepP.ext hrc hf14 fun x hx => .inl (by omega)) rfl rfl rfl (by omega)
      have hn14' := (((((hn5.ext hfn7).fr hf8 (by simpa using hx2)).fr hf9 (by simpa using hx2)).ext hfn11).fr hf12 (by simpa using hx2)).fr hf13 (by simpa using hx2)
      have hr14 := (((((hr5.ext hfn7).fr hf8 (by simpa using hx0)).fr hf9 (by simpa using hx0)).ext hfn11).fr hf12 (by simpa using hx0)).fr hf13 (by simpa using hx0)
      simp (implicitDefEqProofs := false) only [go_sem]
      refine Sto_one (hn14'.ext hf14) (by simp) rfl fun H15 hn15 hf15 hsz15 => ?_
      have hrow15 := RepP.fr hrow hf15 (B' := fun x => x < H.size ∨ x = H.size ∨ x = H2.size) (by simp) fun x hx => .inl hx
      have hs15 := Ps.on hs (hs13.ext hf14) hf15 (by simp; omega)
      have hF15 : Fr [X.b] H H15 := (hF13.trans (fr1 hf14)).trans' hf15 (by simp; omega)
      have hr15 := (hr14.ext hf14).fr hf15 (by simp; omega)
      simp (implicitDefEqProofs := false) only [go_sem]
      refine (leave_ok hs15 (by omega)).mono ?_
      rintro v H16 ⟨hs16, hf16⟩
      have hn16 := hn15.fr hf16 (by simpa using hx2)
      have hr16 := hr15.fr hf16 (by simpa using hx0)
      have hc16 := hn16.cell
      have hrow16 := RepP.fr hrow15 hf16 (B' := fun x => x < H.size ∨ x = H.size) (by simp; omega) fun x hx => .inl (by omega)
      simp (implicitDefEqProofs := false) only [go_sem, hc16]
      refine Sto_all hr16 rfl (one_agg (t := []) rfl) fun H17 hn17 hf17 hsz17 => ?_
      have hc17 := hn17.cell
      simp (implicitDefEqProofs := false) only [go_sem, hc17]
      refine ⟨.mk 30 [] 0 (hd ts).at_ [.mk k1 t1 n1 a1 ks1, .mk k2 t2 n2 a2 ks2, .mk k3 t3 n3 a3 ks3], r5, by rw [hps]; rfl, ⟨_, rfl, RepP.nd (RepP.fr hrow16 hf17 (by simp) fun x hx => by omega)⟩, Ps.on hs hs16 hf17 (by simp), (hF15.trans hf16).trans' hf17 (by simp)⟩
end Go.Proofs.YtbgjgaaobnbijaaGreatDoor
end
section
/- What follows a primary: contract. -/
set_option linter.unusedSimpArgs false
set_option linter.unusedVariables false
set_option maxRecDepth 8000
namespace Go.Proofs.YtbgjgaaobnbijaaGreatDoor
open Gx Go

set_option maxHeartbeats 4000000 in
theorem postfix_ok {k : Nat} (hex : ∀ j, k = j + 1 → POk j 17 [] (lev j).1 NdR) (hprim : POk k 118 [] (primP (loK k)) NdR) : POk k 116 [] (postP (loK k)) NdR := by
  refine ⟨fun {X H ts} hs => ?_⟩
  refine pcalls_of_vc (args := [_]) Tryz.func116 c116ok (Nat.le_of_ble_eq_true rfl) ?_
  have hblt := hs.lt
  have hx0 : H.size ≠ X.b := by omega
  simp (implicitDefEqProofs := false) only [go_sem, c116]
  refine NewP_intro fun H0 hn0 hf0 hs0 => ?_
  simp (implicitDefEqProofs := false) only [go_sem]
  refine hprim.use (hs.ext hf0) (fun e H' he hf => ⟨e, bd_err he, rfl, (fr1 hf0).trans hf⟩) fun n r v H1 he hv hs1 hf1 => ?_
  obtain ⟨cs, rfl, hr1⟩ := hv
  obtain ⟨kk, tt, nn, aa, ks⟩ := n
  obtain ⟨kv, rfl, hkv⟩ := RepP.nd_open hr1
  have hF1 := (fr1 hf0).trans hf1
  simp (implicitDefEqProofs := false) only [go_sem]
  refine NewP_intro fun H2 hn2 hf2 hsz2 => ?_
  simp (implicitDefEqProofs := false) only [go_sem]
  refine Sto_all hn2 rfl (one_agg (nd_one hkv)) fun H3 hn3 hf3 hsz3 => ?_
  have hfn := new_fr hf2 hf3
  obtain ⟨bn, hbn⟩ : ∃ bn, bn = H1.size := ⟨_, rfl⟩
  rw [← hbn] at hn3 ⊢
  have hsz1 := hf1.size
  have hr3 := (hn0.fr hf1 (by simpa using hx0)).ext hfn
  simp (implicitDefEqProofs := false) only [go_sem]
  refine vc_loop (fun (s : Nd × List Tk × Value) H' => ∃ f, s.2.1.length ≤ f ∧ postP (loK k) ts = postF (loK k) f s.1 s.2.1 ∧ Ps X H' s.2.1 k ∧ Fr [X.b] H H' ∧ H3.size ≤ H'.size ∧ Blk H' H.size 25 [.int .i64 0, sv [], .int .i64 0, .int .i64 0, .slice none 0 0] ∧
      ∃ kk tt nn aa ks, s.1 = .mk kk tt nn aa ks ∧ Blk H' bn 25 [.int .i64 kk, sv tt, .int .i64 nn, .int .i64 aa, s.2.2] ∧ RepP H' (fun x => x < H0.size ∨ x = bn) (kidsD ks) [s.2.2])
    (fun s => [(0, ptr X.b), (2, .pointer (some ⟨H.size, 0, none⟩)), (3, .pointer (some ⟨bn, 0, none⟩))]) (fun s => s.2.1.length) (.mk kk tt nn aa ks, r, kv) ?_ ?_ ?_
  · refine ⟨r.length, Nat.le_refl _, by unfold postP; rw [bd_ok he], hs1.ext hfn, hF1.trans (fr1 hfn), Nat.le_refl _, hr3, kk, tt, nn, aa, ks, rfl, hn3, ?_⟩
    exact hkv.ext hfn fun x hx => by omega
  · simp (implicitDefEqProofs := false) only [go_sem]
  · rintro ⟨n, cur, kv⟩ H4 ⟨f, hf, hch, hs4, hF4, hz4, hr4, kk, tt, nn, aa, ks, rfl, hb4, hk4⟩
    simp only at hf hch hs4 hF4 hb4 hk4 ⊢
    have hsz3' := hf3.size
    have hcur := List.length_pos_iff.2 hs4.nil
    have hct : cur.tail.length = cur.length - 1 := by simp
    obtain ⟨f, rfl⟩ : ∃ f', f = f' + 1 := ⟨f - 1, by omega⟩
    have hbx : bn ≠ X.b := by omega
    simp (implicitDefEqProofs := false) only [go_sem]
    refine (look_ok hs4).mono ?_
    rintro v H5 ⟨rfl, hf5⟩
    have hA := accept_ok (hs4.ext hf5) [46]
    unfold sv at hA
    simp (implicitDefEqProofs := false) only [go_sem, tkC]
    refine hA.mono ?_
    rintro v H6 ⟨rfl, hs6, hf6⟩
    have hb6 := (hb4.ext hf5).fr hf6 (by simpa using hbx)
    have hr6 := (hr4.ext hf5).fr hf6 (by simpa using hx0)
    have hz5 := hf5.size
    have hz6 := hf6.size
    have hk6 := RepP.fr (RepP.ext hk4 hf5 (B' := fun x => x < H0.size ∨ x = bn) fun x hx => .inl hx) hf6 (B' := fun x => x < H0.size ∨ x = bn) (by simp; omega) fun x hx => .inl hx
    have hF6 := (hF4.trans (fr1 hf5)).trans hf6
    have hcb := hb6.cell
    cases e : isB [46] cur with
    | true =>
      rw [e, if_pos rfl] at hs6
      have hst : postF (loK k) (f + 1) (.mk kk tt nn aa ks) cur = bd (takeP 1) (fun t => postF (loK k) f (.mk 42 t.text 0 (hd cur).at_ [.mk kk tt nn aa ks])) cur.tail := by simp only [postF, e, if_true]
      simp (implicitDefEqProofs := false) only [go_sem, hcb]
      refine ⟨?_, ?_⟩
      · refine (take_ok 1 (by decide)).use hs6 (fun e' H' he' hf' => ⟨e', by rw [hch, hst]; exact bd_err he', rfl, hF6.trans hf'⟩) fun t r' v H7 he' hv hs7 hf7 => ?_
        cases hv
        have hb7 := hb6.fr hf7 (by simpa using hbx)
        have hr7 := hr6.fr hf7 (by simpa using hx0)
        have hz7 := hf7.size
        have hk7 := RepP.fr hk6 hf7 (B' := fun x => x < H0.size ∨ x = bn) (by simp; omega) fun x hx => .inl hx
        have hcb7 := hb7.cell
        simp (implicitDefEqProofs := false) only [go_sem, tkC, hcb7]
        refine NewS_intro fun H8 hn8 hf8 hsz8 => ?_
        have hrow : RepP H8 (fun x => x < H0.size ∨ x = bn) (kidsD [.mk kk tt nn aa ks]) [.slice (some ⟨H7.size, 0, none⟩) 1 1] :=
          RepP.row1 (cx := [_, _, _, _, _]) hn8 (RepP.nd (RepP.ext hk7 hf8 fun x hx => .inl hx)) rfl (by omega)
        simp (implicitDefEqProofs := false) only [go_sem, sv]
        refine Sto_all (hb7.ext hf8) rfl (one_agg rfl) fun H9 hn9 hf9 hsz9 => ?_
        simp (implicitDefEqProofs := false) only [go_sem]
        have hle := (takeP_dn 1).of he'
        refine loopK_intro (.mk 42 t.text 0 (hd cur).at_ [.mk kk tt nn aa ks], r', .slice (some ⟨H7.size, 0, none⟩) 1 1) ?_ ?_ ?_
        · show r'.length < cur.length
          omega
        · simp (implicitDefEqProofs := false) only [go_sem]
        · refine ⟨f, show r'.length ≤ f by omega, by rw [hch, hst]; exact bd_ok he', Ps.on hs (hs7.ext hf8) hf9 (by simp; omega), ((hF6.trans hf7).trans (fr1 hf8)).trans' hf9 (by simp; omega), by omega, (hr7.ext hf8).fr hf9 (by simp; omega), _, _, _, _, _, rfl, hn9, ?_⟩
          exact RepP.fr hrow hf9 (by simp) fun x hx => .inl hx
      · refine NewS_intro fun H8 hn8 hf8 hsz8 => ?_
        have hrow : RepP H8 (fun x => x < H0.size ∨ x = bn) (kidsD [.mk kk tt nn aa ks]) [.slice (some ⟨H6.size, 0, none⟩) 1 1] :=
          RepP.row1 (cx := [_, _, _, _, _]) hn8 (RepP.nd (RepP.ext hk6 hf8 fun x hx => .inl hx)) rfl (by omega)
        have hb8 := hb6.ext hf8
        have hcb8 := hb8.cell
        simp (implicitDefEqProofs := false) only [go_sem, hcb8]
        refine (take_ok 1 (by decide)).use (hs6.ext hf8) (fun e' H' he' hf' => ⟨e', by rw [hch, hst]; exact bd_err he', rfl, (hF6.trans (fr1 hf8)).trans hf'⟩) fun t r' v H7 he' hv hs7 hf7 => ?_
        cases hv
        have hb7 := hb8.fr hf7 (by simpa using hbx)
        have hr7 := (hr6.ext hf8).fr hf7 (by simpa using hx0)
        have hz7 := hf7.size
        have hrow7 := RepP.fr hrow hf7 (B' := fun x => x < H0.size ∨ x = bn) (by simp; omega) fun x hx => .inl hx
        have hcb7 := hb7.cell
        simp (implicitDefEqProofs := false) only [go_sem, tkC, hcb7, sv]
        refine Sto_all hb7 rfl (one_agg rfl) fun H9 hn9 hf9 hsz9 => ?_
        simp (implicitDefEqProofs := false) only [go_sem]
        have hle := (takeP_dn 1).of he'
        refine loopK_intro (.mk 42 t.text 0 (hd cur).at_ [.mk kk tt nn aa ks], r', .slice (some ⟨H6.size, 0, none⟩) 1 1) ?_ ?_ ?_
        · show r'.length < cur.length
          omega
        · simp (implicitDefEqProofs := false) only [go_sem]
        · refine ⟨f, show r'.length ≤ f by omega, by rw [hch, hst]; exact bd_ok he', Ps.on hs hs7 hf9 (by simp; omega), ((hF6.trans (fr1 hf8)).trans hf7).trans' hf9 (by simp; omega), by omega, hr7.fr hf9 (by simp; omega), _, _, _, _, _, rfl, hn9, ?_⟩
          exact RepP.fr hrow7 hf9 (by simp) fun x hx => .inl hx
    | false =>
      rw [e, if_neg (by decide)] at hs6
      have hI := is_ok hs6 [91]
      unfold sv at hI
      simp (implicitDefEqProofs := false) only [go_sem]
      refine hI.mono ?_
      rintro v H7 ⟨rfl, hf7⟩
      have hb7 := hb6.ext hf7
      have hr7 := hr6.ext hf7
      have hk7 := RepP.ext hk6 hf7 (B' := fun x => x < H0.size ∨ x = bn) fun x hx => .inl hx
      have hs7 := hs6.ext hf7
      have hF7 := hF6.trans (fr1 hf7)
      have hz7 := hf7.size
      have hcb7 := hb7.cell
      cases e2 : isB [91] cur with
      | false =>
        simp (implicitDefEqProofs := false) only [go_sem, hcb7]
        refine Sto_all hr7 rfl (one_agg (nd_one hk7)) fun H9 hn9 hf9 hsz9 => ?_
        have hc9 := hn9.cell
        simp (implicitDefEqProofs := false) only [go_sem, hc9]
        refine ⟨.mk kk tt nn aa ks, cur, by rw [hch]; simp [postF, e, e2], ⟨_, rfl, ?_⟩, Ps.on hs hs7 hf9 (by simp), hF7.trans' hf9 (by simp)⟩
        exact RepP.nd (RepP.fr hk7 hf9 (by simp; omega) fun x hx => by omega)
      | true =>
        have hst : postF (loK k) (f + 1) (.mk kk tt nn aa ks) cur = entP (loK k) [91] (fun x => bd x.1 fun m => bd (expP [93]) fun _ => postF (loK k) f (.mk 43 [] 0 (hd cur).at_ [.mk kk tt nn aa ks, m])) cur := by simp only [postF, e, e2, if_true, Bool.false_eq_true, if_false]
        cases k with
        | zero =>
          have hE := enter_no hs7 (s := [91]) (.inr rfl)
          unfold sv at hE
          simp (implicitDefEqProofs := false) only [go_sem]
          refine hE.mono (fun _ _ h => h.elim) ?_
          rintro ch H8 ⟨rfl, hf8⟩
          rw [e2]
          exact ⟨(6, (hd cur).at_), by rw [hch, hst]; exact entP_0 e2, rfl, hF7.trans hf8⟩
        | succ j =>
          have hE := enter_ok hs7 e2
          unfold sv at hE
          have hj := hs.k64
          have hps := (hch.trans hst).trans (entP_s (x := lev j) e2)
          simp (implicitDefEqProofs := false) only [go_sem]
          refine hE.mono ?_
          rintro v H8 ⟨rfl, hs8, hf8⟩
          have hb8 := hb7.fr hf8 (by simpa using hbx)
          have hr8 := hr7.fr hf8 (by simpa using hx0)
          have hz8 := hf8.size
          have hk8 := RepP.fr hk7 hf8 (B' := fun x => x < H0.size ∨ x = bn) (by simp; omega) fun x hx => .inl hx
          have hF8 := hF7.trans hf8
          have hcb8 := hb8.cell
          simp (implicitDefEqProofs := false) only [go_sem, hcb8]
          refine (hex j rfl).use hs8 (fun e' H' he' hf' => ⟨e', by rw [hps]; exact bd_err he', rfl, hF8.trans hf'⟩) fun n' r' v H9 he' hv' hs9 hf9 => ?_
          rw [bd_ok he'] at hps
          obtain ⟨cs', rfl, hr9'⟩ := hv'
          obtain ⟨k', t', n', a', ks'⟩ := n'
          obtain ⟨kv', rfl, hkv'⟩ := RepP.nd_open hr9'
          have hb9 := hb8.fr hf9 (by simpa using hbx)
          have hr9 := hr8.fr hf9 (by simpa using hx0)
          have hz9 := hf9.size
          have hk9 := RepP.fr hk8 hf9 (B' := fun x => x < H0.size ∨ x = bn) (by simp; omega) fun x hx => .inl hx
          have hF9 := hF8.trans hf9
          have hcb9 := hb9.cell
          simp (implicitDefEqProofs := false) only [go_sem, hcb9]
          refine NewS_intro fun H10 hn10 hf10 hsz10 => ?_
          have hrow : RepP H10 (fun x => x < H0.size ∨ x = bn) (kidsD [.mk kk tt nn aa ks, .mk k' t' n' a' ks']) [.slice (some ⟨H9.size, 0, none⟩) 2 2] := by
            refine RepP.row2 (cx := [_, _, _, _, _]) (cy := [_, _, _, _, _]) hn10 (RepP.nd (RepP.ext hk9 hf10 fun x hx => .inl hx)) (RepP.ext hr9' hf10 fun x hx => .inl ?_) rfl rfl (by omega)
            omega
          simp (implicitDefEqProofs := false) only [go_sem]
          refine Sto_all (hb9.ext hf10) rfl (one_agg (t := []) rfl) fun H11 hn11 hf11 hsz11 => ?_
          have hrow11 := RepP.fr hrow hf11 (B' := fun x => x < H0.size ∨ x = bn) (by simp) fun x hx => .inl hx
          have hs11 := Ps.on hs (hs9.ext hf10) hf11 (by simp; omega)
          have hF11 : Fr [X.b] H H11 := (hF9.trans (fr1 hf10)).trans' hf11 (by simp; omega)
          have hr11 := (hr9.ext hf10).fr hf11 (by simp; omega)
          simp (implicitDefEqProofs := false) only [go_sem]
          refine (expect_ok [93]).use hs11 (fun e' H' he hf => ⟨e', by rw [hps]; exact bd_err he, rfl, hF11.trans hf⟩) fun _ r2 v H12 he2 hv hs12 hf12 => ?_
          rw [bd_ok he2] at hps
          have hz12 := hf12.size
          simp (implicitDefEqProofs := false) only [go_sem]
          refine (leave_ok hs12 (by omega)).mono ?_
          rintro v H13 ⟨hs13, hf13⟩
          have hz13 := hf13.size
          simp (implicitDefEqProofs := false) only [go_sem]
          have hle := (lev_dn j).1.of he'
          have hle2 := (expP_dn _).of he2
          have hrow12 := RepP.fr hrow11 hf12 (B' := fun x => x < H0.size ∨ x = bn) (by simp; omega) fun x hx => .inl hx
          refine loopK_intro (.mk 43 [] 0 (hd cur).at_ [.mk kk tt nn aa ks, .mk k' t' n' a' ks'], r2, .slice (some ⟨H9.size, 0, none⟩) 2 2) ?_ ?_ ?_
          · show r2.length < cur.length
            omega
          · simp (implicitDefEqProofs := false) only [go_sem]
          · refine ⟨f, show r2.length ≤ f by omega, hps, hs13, (hF11.trans hf12).trans hf13, by omega, (hr11.fr hf12 (by simpa using hx0)).fr hf13 (by simpa using hx0), _, _, _, _, _, rfl, (hn11.fr hf12 (by simpa using hbx)).fr hf13 (by simpa using hbx), ?_⟩
            exact RepP.fr hrow12 hf13 (by simp; omega) fun x hx => .inl hx
end Go.Proofs.YtbgjgaaobnbijaaGreatDoor
end
section
/- A walk's memory: blocks and rows of one's own, data built, a state that stays. -/
set_option linter.unusedSimpArgs false
set_option linter.unusedVariables false
namespace Gx
open Go

inductive Ent where
  | blk (b t : Nat) (cs : List Value)
  | row (e m : Nat) (v : Value) (ds : List Dat) (g : Option Nat)
def Ent.bs : Ent → List Nat
  | .blk b _ _ => [b]
  | .row _ _ _ _ g => g.toList
/-- What new data lie apart from. -/
def Lk (N : Nat) (O : List Nat) (l : List Ent) : Nat → Prop := fun x => x < N ∨ x ∈ O ∨ x ∈ l.flatMap Ent.bs
def Ent.ok (H : Heap) (B : Nat → Prop) : Ent → Prop
  | .blk b t cs => Blk H b t cs
  | .row e m v ds g => LsO H B e m v ds g

/-- From heap `H0`, where what may be written is `O0`, to heap `H`. -/
structure Lv (O0 : List Nat) (H0 : Heap) (O : List Nat) (S : Heap → Prop) (H : Heap) (l : List Ent) (ds : List (Dat × List Value)) : Prop where
  fr : Fr O0 H0 H
  own : ∀ x ∈ O, x < H.size ∧ (x ∈ O0 ∨ H0.size ≤ x)
  nd : (l.flatMap Ent.bs).Nodup
  lo : ∀ x ∈ l.flatMap Ent.bs, H0.size ≤ x ∧ x ∉ O ∧ x < H.size
  ok : ∀ p ∈ l, p.ok H (Lk H0.size O l)
  dat : ∀ p ∈ ds, RepP H (Lk H0.size O l) p.1 p.2
  stb : ∀ (M : List Nat) (H' : Heap), Fr M H H' → (∀ x ∈ M, H0.size ≤ x ∧ x ∉ O) → S H'

section
variable {O0 O O' M : List Nat} {b t e m : Nat} {v : Value} {cs : List Value} {dl : List Dat} {g : Option Nat} {S S' : Heap → Prop} {H0 H H' : Heap} {l l' : List Ent} {ds : List (Dat × List Value)}

theorem Lv.st (L : Lv O0 H0 O S H l ds) : S H := L.stb [] H (Fr.refl _ _) (by simp)
theorem Lv.start (hO : ∀ x ∈ O, x < H.size) (hS : ∀ (M : List Nat) (H' : Heap), Fr M H H' → (∀ x ∈ M, H.size ≤ x ∧ x ∉ O) → S H') : Lv O H O S H [] [] :=
  ⟨Fr.refl _ _, fun x hx => ⟨hO x hx, .inl hx⟩, by simp, by simp, by simp, by simp, hS⟩
theorem Ent.ok_step {e : Ent} {B B' : Nat → Prop} (h : e.ok H B) (hf : Fr M H H') (hm : ∀ x ∈ M, B x ∨ H.size ≤ x) (hg : ∀ x ∈ e.bs, x ∉ M) (hb : ∀ x, B' x → B x ∨ H.size ≤ x) : e.ok H' B' := by
  cases e with
  | blk b t cs => exact Blk.fr h hf (hg b (by simp [Ent.bs]))
  | row e m v ds g => exact LsO.fr h hf hm (fun b hb => hg b (by simp [Ent.bs, hb])) hb
theorem Ent.lt {e : Ent} {B : Nat → Prop} (h : e.ok H B) : ∀ x ∈ e.bs, x < H.size := by
  cases e with
  | blk b t cs => intro x hx; simp [Ent.bs] at hx; subst hx; exact Blk.lt h
  | row e m v ds g => intro x hx; simp [Ent.bs] at hx; exact LsO.lt h hx
/-- Writes to what may be written, or to new blocks. -/
theorem Lv.step (L : Lv O0 H0 O S H l ds) (hf : Fr M H H') (hM : ∀ x ∈ M, x ∈ O ∨ H.size ≤ x) (hO : ∀ x ∈ O', x < H'.size ∧ (x ∈ O ∨ H.size ≤ x))
    (hS : ∀ (M : List Nat) (H'' : Heap), Fr M H' H'' → (∀ x ∈ M, H0.size ≤ x ∧ x ∉ O') → S' H'') : Lv O0 H0 O' S' H' l ds := by
  have hsz := L.fr.size
  have hn : ∀ p ∈ l, ∀ x ∈ p.bs, x ∉ M := fun p hp x hx hm => by
    obtain ⟨_, h2, h3⟩ := L.lo x (List.mem_flatMap.2 ⟨p, hp, hx⟩)
    rcases hM x hm with q | q
    · exact h2 q
    · omega
  have hm : ∀ x ∈ M, Lk H0.size O l x ∨ H.size ≤ x := fun x hx => (hM x hx).imp (fun q => .inr (.inl q)) id
  have hb : ∀ x, Lk H0.size O' l x → Lk H0.size O l x ∨ H.size ≤ x := by
    rintro x (q | q | q)
    · exact .inl (.inl q)
    · exact (hO x q).2.imp (fun q => .inr (.inl q)) id
    · exact .inl (.inr (.inr q))
  refine ⟨L.fr.trans' hf fun x hx => ?_, fun x hx => ⟨(hO x hx).1, ?_⟩, L.nd, fun x hx => ?_, fun p hp => Ent.ok_step (L.ok p hp) hf hm (hn p hp) hb, fun p hp => RepP.fr (L.dat p hp) hf hm hb, hS⟩
  · rcases hM x hx with q | q
    · exact (L.own x q).2
    · exact .inr (by omega)
  · rcases (hO x hx).2 with q | q
    · exact (L.own x q).2
    · exact .inr (by omega)
  · obtain ⟨h1, h2, h3⟩ := L.lo x hx
    refine ⟨h1, fun q => ?_, Nat.lt_of_lt_of_le h3 hf.size⟩
    rcases (hO x q).2 with q | q
    · exact h2 q
    · omega
theorem Lv.stb_trans (L : Lv O0 H0 O S H l ds) (hf : Fr M H H') (hM : ∀ x ∈ M, H0.size ≤ x ∧ x ∉ O) : ∀ (M' : List Nat) (H'' : Heap), Fr M' H' H'' → (∀ x ∈ M', H0.size ≤ x ∧ x ∉ O) → S H'' := fun M' H'' hf' hM' => by
  refine L.stb (M ++ M') H'' ?_ fun x hx => (List.mem_append.1 hx).elim (hM x) (hM' x)
  exact (hf.mono fun x hx => .inl (by simp [hx])).trans (hf'.mono fun x hx => .inl (by simp [hx]))
theorem Lv.ext (L : Lv O0 H0 O S H l ds) (hf : Fr [] H H') : Lv O0 H0 O S H' l ds :=
  L.step hf (by simp) (fun x hx => ⟨Nat.lt_of_lt_of_le (L.own x hx).1 hf.size, .inl hx⟩) (L.stb_trans hf (by simp))
theorem Lv.call (L : Lv O0 H0 O S H l ds) (hf : Fr O H H') (hS : ∀ (M : List Nat) (H'' : Heap), Fr M H' H'' → (∀ x ∈ M, H0.size ≤ x ∧ x ∉ O) → S' H'') : Lv O0 H0 O S' H' l ds :=
  L.step hf (fun x hx => .inl hx) (fun x hx => ⟨Nat.lt_of_lt_of_le (L.own x hx).1 hf.size, .inl hx⟩) hS

/-- A new block. -/
theorem Lv.push (L : Lv O0 H0 O S H l ds) {t : Nat} {cs : List Value} (hf : Fr [] H H') (hn : Blk H' H.size t cs) : Lv O0 H0 O S H' (.blk H.size t cs :: l) ds := by
  have hsz := L.fr.size
  have hb : ∀ x, Lk H0.size O (.blk H.size t cs :: l) x → Lk H0.size O l x ∨ H.size ≤ x := by
    rintro x (q | q | q)
    · exact .inl (.inl q)
    · exact .inl (.inr (.inl q))
    · simp only [List.flatMap_cons, Ent.bs, List.cons_append, List.nil_append, List.mem_cons] at q
      rcases q with rfl | q
      · exact .inr (Nat.le_refl _)
      · exact .inl (.inr (.inr q))
  have hlt := hn.lt
  refine ⟨L.fr.trans' hf (by simp), fun x hx => ⟨Nat.lt_of_lt_of_le (L.own x hx).1 hf.size, (L.own x hx).2⟩, ?_, fun x hx => ?_, fun p hp => ?_, fun p hp => RepP.fr (L.dat p hp) hf (by simp) hb, L.stb_trans hf (by simp)⟩
  · simp only [List.flatMap_cons, Ent.bs, List.cons_append, List.nil_append, List.nodup_cons]
    exact ⟨fun q => by have := (L.lo _ q).2.2; omega, L.nd⟩
  · simp only [List.flatMap_cons, Ent.bs, List.cons_append, List.nil_append, List.mem_cons] at hx
    rcases hx with rfl | hx
    · exact ⟨hsz, fun q => by have := (L.own _ q).1; omega, hlt⟩
    · obtain ⟨h1, h2, h3⟩ := L.lo x hx
      exact ⟨h1, h2, by omega⟩
  · rcases List.mem_cons.1 hp with rfl | hp
    · exact hn
    · exact Ent.ok_step (L.ok p hp) hf (by simp) (by simp) hb
theorem Lv.newP (L : Lv O0 H0 O S H l ds) {t : Nat} {cs : List Value} {R : Value → Heap → Prop} (h : ∀ b H', Lv O0 H0 O S H' (.blk b t cs :: l) ds → R (.pointer (some ⟨b, 0, none⟩)) H') : NewP H t cs R :=
  NewP_intro fun H' hn hf _ => h _ H' (L.push hf hn)
theorem Lv.newS (L : Lv O0 H0 O S H l ds) {t n : Nat} {cs : List Value} {R : Value → Heap → Prop} (h : ∀ b H', Lv O0 H0 O S H' (.blk b t cs :: l) ds → R (.slice (some ⟨b, 0, none⟩) n n) H') : NewS H t n cs R :=
  NewS_intro fun H' hn hf _ => h _ H' (L.push hf hn)

/-- One entry changes. -/
theorem Lv.setE (L : Lv O0 H0 O S H l ds) {i : Nat} {e e' : Ent} (hi : l[i]? = some e) (hf : Fr M H H') (hM : ∀ x ∈ M, x ∈ e.bs) (hbs : ∀ x ∈ e'.bs, x ∈ e.bs ∨ H.size ≤ x) (hnd : e'.bs.Nodup)
    (hok : e'.ok H' (fun x => Lk H0.size O l x ∨ x ∈ e'.bs)) : Lv O0 H0 O S H' (l.set i e') ds := by
  have hsz := L.fr.size
  obtain ⟨hlt, hie⟩ := List.getElem?_eq_some_iff.1 hi
  obtain ⟨l1, l2, rfl, hs⟩ : ∃ l1 l2, l = l1 ++ e :: l2 ∧ l.set i e' = l1 ++ e' :: l2 := by
    refine ⟨l.take i, l.drop (i + 1), ?_, ?_⟩
    · rw [← hie, ← List.drop_eq_getElem_cons hlt, List.take_append_drop]
    · rw [List.set_eq_take_append_cons_drop, if_pos hlt]
  rw [hs]
  have hnd0 := L.nd
  simp only [List.flatMap_append, List.flatMap_cons, List.nodup_append] at hnd0
  obtain ⟨n1, ⟨n2, n3, n4⟩, n5⟩ := hnd0
  have hmem : ∀ x, x ∈ (l1 ++ e' :: l2).flatMap Ent.bs ↔ x ∈ l1.flatMap Ent.bs ∨ x ∈ e'.bs ∨ x ∈ l2.flatMap Ent.bs := by
    intro x; rw [List.flatMap_append, List.flatMap_cons, List.mem_append, List.mem_append]
  have hmem0 : ∀ x, x ∈ (l1 ++ e :: l2).flatMap Ent.bs ↔ x ∈ l1.flatMap Ent.bs ∨ x ∈ e.bs ∨ x ∈ l2.flatMap Ent.bs := by
    intro x; rw [List.flatMap_append, List.flatMap_cons, List.mem_append, List.mem_append]
  have hlk1 : ∀ x, Lk H0.size O (l1 ++ e' :: l2) x → Lk H0.size O (l1 ++ e :: l2) x ∨ x ∈ e'.bs := by
    rintro x (q | q | q)
    · exact .inl (.inl q)
    · exact .inl (.inr (.inl q))
    · rcases (hmem x).1 q with q | q | q
      · exact .inl (.inr (.inr ((hmem0 x).2 (.inl q))))
      · exact .inr q
      · exact .inl (.inr (.inr ((hmem0 x).2 (.inr (.inr q)))))
  have hlk : ∀ x, Lk H0.size O (l1 ++ e' :: l2) x → Lk H0.size O (l1 ++ e :: l2) x ∨ H.size ≤ x := fun x hx => by
    rcases hlk1 x hx with q | q
    · exact .inl q
    · exact (hbs x q).imp (fun q => .inr (.inr ((hmem0 x).2 (.inr (.inl q))))) id
  have hm : ∀ x ∈ M, Lk H0.size O (l1 ++ e :: l2) x ∨ H.size ≤ x := fun x hx => .inl (.inr (.inr ((hmem0 x).2 (.inr (.inl (hM x hx))))))
  have hloe : ∀ x ∈ e.bs, H0.size ≤ x ∧ x ∉ O ∧ x < H.size := fun x hx => L.lo x ((hmem0 x).2 (.inr (.inl hx)))
  have hlt' := Ent.lt hok
  have hoth : ∀ p ∈ l1 ++ l2, p.ok H' (Lk H0.size O (l1 ++ e' :: l2)) := fun p hp => by
    have hp0 : p ∈ l1 ++ e :: l2 := by
      rcases List.mem_append.1 hp with hp | hp
      · exact List.mem_append.2 (.inl hp)
      · exact List.mem_append.2 (.inr (List.mem_cons.2 (.inr hp)))
    refine Ent.ok_step (L.ok p hp0) hf hm (fun x hx hxm => ?_) hlk
    have hxe := hM x hxm
    rcases List.mem_append.1 hp with hp | hp
    · exact n5 x (List.mem_flatMap.2 ⟨p, hp, hx⟩) x (List.mem_append.2 (.inl hxe)) rfl
    · exact n4 x hxe x (List.mem_flatMap.2 ⟨p, hp, hx⟩) rfl
  refine ⟨L.fr.trans' hf fun x hx => .inr (hloe x (hM x hx)).1, fun x hx => ⟨Nat.lt_of_lt_of_le (L.own x hx).1 hf.size, (L.own x hx).2⟩, ?_, fun x hx => ?_, fun p hp => ?_, fun p hp => RepP.fr (L.dat p hp) hf hm hlk, L.stb_trans hf fun x hx => ⟨(hloe x (hM x hx)).1, (hloe x (hM x hx)).2.1⟩⟩
  · simp only [List.flatMap_append, List.flatMap_cons, List.nodup_append]
    refine ⟨n1, ⟨hnd, n3, fun a ha b hb => ?_⟩, fun a ha b hb => ?_⟩
    · rcases hbs a ha with q | q
      · exact n4 a q b hb
      · have := (L.lo b ((hmem0 b).2 (.inr (.inr hb)))).2.2
        omega
    · have hal := (L.lo a ((hmem0 a).2 (.inl ha))).2.2
      rcases List.mem_append.1 hb with hb | hb
      · rcases hbs b hb with q | q
        · exact n5 a ha b (List.mem_append.2 (.inl q))
        · omega
      · exact n5 a ha b (List.mem_append.2 (.inr hb))
  · rcases (hmem x).1 hx with q | q | q
    · obtain ⟨h1, h2, h3⟩ := L.lo x ((hmem0 x).2 (.inl q))
      exact ⟨h1, h2, Nat.lt_of_lt_of_le h3 hf.size⟩
    · have hl := hlt' x q
      rcases hbs x q with r | r
      · exact ⟨(hloe x r).1, (hloe x r).2.1, hl⟩
      · exact ⟨by omega, fun s => by have := (L.own x s).1; omega, hl⟩
    · obtain ⟨h1, h2, h3⟩ := L.lo x ((hmem0 x).2 (.inr (.inr q)))
      exact ⟨h1, h2, Nat.lt_of_lt_of_le h3 hf.size⟩
  · rcases List.mem_append.1 hp with hp | hp
    · exact hoth p (List.mem_append.2 (.inl hp))
    · rcases List.mem_cons.1 hp with rfl | hp
      · exact Ent.ok_step hok (Fr.refl [] H') (by simp) (by simp) fun x hx => .inl (hlk1 x hx)
      · exact hoth p (List.mem_append.2 (.inr hp))
theorem Lv.sto (L : Lv O0 H0 O S H l ds) (i : Nat) {b t : Nat} {cs cs' : List Value} (hi : l[i]? = some (.blk b t cs)) (hf : Fr [b] H H') (hn : Blk H' b t cs') : Lv O0 H0 O S H' (l.set i (.blk b t cs')) ds :=
  L.setE hi hf (by simp [Ent.bs]) (by simp [Ent.bs]) (by simp [Ent.bs]) hn
theorem Lv.get (L : Lv O0 H0 O S H l ds) (i : Nat) {b t : Nat} {cs : List Value} (hi : l[i]? = some (.blk b t cs)) : Blk H b t cs := L.ok _ (List.mem_of_getElem? hi)
theorem Lv.cell (L : Lv O0 H0 O S H l ds) (i : Nat) {b t : Nat} {cs : List Value} (hi : l[i]? = some (.blk b t cs)) (o : Nat) : cellB H b o = cs[o]? := (L.get i hi).cell o
theorem Lv.stoAll (L : Lv O0 H0 O S H l ds) (i : Nat) {b t : Nat} {cs vs : List Value} {R : Heap → Prop} (hi : l[i]? = some (.blk b t cs)) (hl : vs.length = cs.length) (h1 : ∀ v ∈ vs, v.oneCell' = true)
    (hR : ∀ H', Lv O0 H0 O S H' (l.set i (.blk b t vs)) ds → R H') : Sto H ⟨b, 0, none⟩ vs 0 R :=
  Sto_all (L.get i hi) hl h1 fun H' hn hf _ => hR H' (L.sto i hi hf hn)
theorem Lv.stoOne (L : Lv O0 H0 O S H l ds) (i : Nat) {b t o : Nat} {cs : List Value} {v : Value} {R : Heap → Prop} (hi : l[i]? = some (.blk b t cs)) (ho : o < cs.length) (h1 : v.oneCell' = true)
    (hR : ∀ H', Lv O0 H0 O S H' (l.set i (.blk b t (cs.set o v))) ds → R H') : Sto H ⟨b, o, none⟩ [v] 0 R :=
  Sto_one (L.get i hi) ho h1 fun H' hn hf _ => hR H' (L.sto i hi hf hn)
theorem Lv.stoMany (L : Lv O0 H0 O S H l ds) (i : Nat) {b t o : Nat} {cs vs : List Value} {R : Heap → Prop} (hi : l[i]? = some (.blk b t cs)) (ho : o + vs.length ≤ cs.length) (h1 : ∀ v ∈ vs, v.oneCell' = true)
    (hR : ∀ H', Lv O0 H0 O S H' (l.set i (.blk b t (setL cs o vs))) ds → R H') : Sto H ⟨b, o, none⟩ vs 0 R :=
  Sto_blk vs H cs o 0 (L.get i hi) (by omega) h1 fun H' hn hf _ => hR H' (L.sto i hi hf (by simpa using hn))

/-- Fewer blocks of one's own. -/
theorem Lv.sub (L : Lv O0 H0 O S H l ds) {l' : List Ent} (hs : l'.Sublist l) {ds' : List (Dat × List Value)} (hd : ∀ p ∈ ds', RepP H (Lk H0.size O l') p.1 p.2) : Lv O0 H0 O S H l' ds' := by
  have hfs : (l'.flatMap Ent.bs).Sublist (l.flatMap Ent.bs) := by
    clear hd L
    induction hs with
    | slnil => simp
    | cons a _ ih => rw [List.flatMap_cons]; exact ih.trans (List.sublist_append_right _ _)
    | cons_cons a _ ih => rw [List.flatMap_cons, List.flatMap_cons]; exact List.Sublist.append (List.Sublist.refl _) ih
  have hlk : ∀ x, Lk H0.size O l' x → Lk H0.size O l x ∨ H.size ≤ x := by
    rintro x (q | q | q)
    · exact .inl (.inl q)
    · exact .inl (.inr (.inl q))
    · exact .inl (.inr (.inr (hfs.subset q)))
  exact ⟨L.fr, L.own, hfs.nodup L.nd, fun x hx => L.lo x (hfs.subset hx), fun p hp => Ent.ok_step (L.ok p (hs.subset hp)) (Fr.refl [] _) (by simp) (by simp) hlk, hd, L.stb⟩
theorem Lv.lk_sub (L : Lv O0 H0 O S H l ds) {l' : List Ent} (hs : l'.Sublist l) {d : Dat} {cs : List Value} (h : RepP H (Lk H0.size O l) d cs) : RepP H (Lk H0.size O l') d cs := by
  refine h.more ?_
  rintro x (q | q | q)
  · exact .inl (.inl q)
  · exact .inl (.inr (.inl q))
  · refine .inl (.inr (.inr ?_))
    obtain ⟨p, hp, hx⟩ := List.mem_flatMap.1 q
    exact List.mem_flatMap.2 ⟨p, hs.subset hp, hx⟩
theorem Lv.drop (L : Lv O0 H0 O S H l ds) {l' : List Ent} (hs : l'.Sublist l) {ds' : List (Dat × List Value)} (hd : ∀ p ∈ ds', p ∈ ds) : Lv O0 H0 O S H l' ds' :=
  L.sub hs fun p hp => L.lk_sub hs (L.dat p (hd p hp))
/-- Data more. -/
theorem Lv.add (L : Lv O0 H0 O S H l ds) {d : Dat} {cs : List Value} (h : RepP H (Lk H0.size O l) d cs) : Lv O0 H0 O S H l ((d, cs) :: ds) :=
  ⟨L.fr, L.own, L.nd, L.lo, L.ok, fun p hp => by
    rcases List.mem_cons.1 hp with rfl | hp
    · exact h
    · exact L.dat p hp, L.stb⟩
/-- What a call has built. -/
theorem Lv.built (L : Lv O0 H0 O S H l ds) {d : Dat} {cs : List Value} (h : RepP H' (fun x => x < H.size) d cs) : RepP H' (Lk H0.size O l) d cs := by
  refine h.more ?_
  rintro x (q | q | q)
  · exact .inl (Nat.lt_of_lt_of_le q L.fr.size)
  · exact .inl (L.own x q).1
  · exact .inl (L.lo x q).2.2
/-- A block that becomes data. -/
theorem Lv.rowOf (L : Lv O0 H0 O S H (.blk b t cs :: l) ds) {m n : Nat} {dl : List Dat} {css : List (List Value)} (hcs : cs = css.flatten) (hl : ∀ x ∈ css, x.length = m) (hR : RepsP H (Lk H0.size O l) dl css) (hn : n = dl.length) (h63 : dl.length ≤ maxLen) :
    Lv O0 H0 O S H l ((.list m dl, [.slice (some ⟨b, 0, none⟩) n n]) :: ds) := by
  have hs : l.Sublist (.blk b t cs :: l) := List.sublist_cons_self _ _
  have hb := L.get 0 rfl
  subst hcs hn
  refine (L.drop hs fun p hp => hp).add fun M hM => ?_
  simp only [Rep]
  refine ⟨_, dl.length, css, rfl, Nat.le_refl _, h63, hR M hM, hl, .inr ⟨b, 0, rfl, fun hm => ?_, fun j hj => ?_⟩⟩
  · have hbl := L.lo b (by simp [Ent.bs])
    have hnd := L.nd
    simp only [List.flatMap_cons, Ent.bs, List.cons_append, List.nil_append, List.nodup_cons] at hnd
    rcases hM b hm with q | q | q
    · omega
    · exact hbl.2.1 q
    · exact hnd.1 q
  · rw [Nat.zero_add, hb.cell, List.getElem?_eq_getElem hj]
theorem Lv.row0 (L : Lv O0 H0 O S H l ds) (e m : Nat) : Lv O0 H0 O S H (.row e m (.slice none 0 0) [] none :: l) ds := by
  have hlk : ∀ x, Lk H0.size O (.row e m (.slice none 0 0) [] none :: l) x → Lk H0.size O l x ∨ H.size ≤ x := by
    rintro x (q | q | q)
    · exact .inl (.inl q)
    · exact .inl (.inr (.inl q))
    · exact .inl (.inr (.inr (by simpa [Ent.bs] using q)))
  refine ⟨L.fr, L.own, by simpa [Ent.bs] using L.nd, fun x hx => L.lo x (by simpa [Ent.bs] using hx), fun p hp => ?_, fun p hp => (L.dat p hp).more hlk, L.stb⟩
  rcases List.mem_cons.1 hp with rfl | hp
  · exact LsO.nil
  · exact Ent.ok_step (L.ok p hp) (Fr.refl [] _) (by simp) (by simp) hlk
theorem Lv.rowGet (L : Lv O0 H0 O S H l ds) (i : Nat) {e m : Nat} {v : Value} {dl : List Dat} {g : Option Nat} (hi : l[i]? = some (.row e m v dl g)) : LsO H (Lk H0.size O l) e m v dl g := L.ok _ (List.mem_of_getElem? hi)
/-- append to a row of one's own of what lies in the first block. -/
theorem Lv.app {P : Program} {t tx bytes tn nb n1 c1 m : Nat} {z : Value} {R : Value → Heap → Prop} {d : Dat} {cs : List Value} (L : Lv O0 H0 O S H (.blk nb tn cs :: l) ds) (hE : ElemOk P t e m bytes z) (i : Nat) {v : Value} {dl : List Dat} {g : Option Nat}
    (hi : l[i]? = some (.row e m v dl g)) {ex : Nat} (hk : P.underlying tx = some (.slice ex)) (hl : cs.length = m)
    (hc : ∀ u ∈ cs, u.oneCell' = true) (hd : RepP H (Lk H0.size O l) d cs) (h1 : n1 = 1) (h63 : dl.length + 1 ≤ maxLen) (hb : (dl.length + 1) * bytes ≤ 140737488355328)
    (hR : ∀ a c g' H', Lv O0 H0 O S H' (l.set i (.row e m (.slice a (dl.length + 1) c) (dl ++ [d]) g')) ds → R (.slice a (dl.length + 1) c) H') : App P t tx t H v (.slice (some ⟨nb, 0, none⟩) n1 c1) R := by
  have L' := L.drop (l' := l) (List.sublist_cons_self _ _) fun p hp => hp
  have hrow := L'.rowGet i hi
  have hmem := List.mem_of_getElem? hi
  refine App_ls (cs := cs) hE hrow hk (L.get 0 rfl) hl hc (hd.more fun x hx => .inl ?_) h1 h63 hb fun a c H' g' ho hf hg' => hR a c g' H' ?_
  · rcases hx with q | q
    · exact q
    · exact .inr (.inr (List.mem_flatMap.2 ⟨_, hmem, by simp [Ent.bs, q]⟩))
  · refine L'.setE hi hf (fun x hx => hx) (fun x hx => ?_) (by cases g' <;> simp [Ent.bs]) ?_
    · simp only [Ent.bs, Option.mem_toList] at hx ⊢
      exact hg' x hx
    · obtain ⟨css, q1, q2, q3⟩ := ho
      refine ⟨css, q1, q2, q3.more fun x hx => .inl ?_⟩
      simp only [Ent.bs, Option.mem_toList] at hx
      rcases hx with (hx | hx) | hx
      · exact .inl hx
      · exact .inr hx
      · exact .inr hx
/-- A row that becomes data. -/
theorem Lv.rowDone (L : Lv O0 H0 O S H l ds) (i : Nat) (hi : l[i]? = some (.row e m v dl g)) : Lv O0 H0 O S H (l.eraseIdx i) ((.list m dl, [v]) :: ds) := by
  have hs : (l.eraseIdx i).Sublist l := List.eraseIdx_sublist l i
  refine (L.drop hs fun p hp => hp).add ?_
  refine LsO.rep ((L.rowGet i hi).ext (Fr.refl [] _) (B' := Lk H0.size O (l.eraseIdx i)) ?_) fun b hb hB => ?_
  · rintro x (q | q | q)
    · exact .inl (.inl q)
    · exact .inl (.inr (.inl q))
    · exact .inl (.inr (.inr (List.mem_flatMap.2 (by obtain ⟨p, hp, hx⟩ := List.mem_flatMap.1 q; exact ⟨p, hs.subset hp, hx⟩))))
  · subst hb
    have hbl := L.lo b (List.mem_flatMap.2 ⟨_, List.mem_of_getElem? hi, by simp [Ent.bs]⟩)
    have hnd := L.nd
    obtain ⟨hlt, hie⟩ := List.getElem?_eq_some_iff.1 hi
    have hl : l = l.take i ++ .row e m v dl (some b) :: l.drop (i + 1) := by rw [← hie, ← List.drop_eq_getElem_cons hlt, List.take_append_drop]
    have he : l.eraseIdx i = l.take i ++ l.drop (i + 1) := List.eraseIdx_eq_take_drop_succ l i
    rw [hl] at hnd
    simp only [List.flatMap_append, List.flatMap_cons, Ent.bs, Option.toList_some, List.cons_append, List.nil_append, List.nodup_append, List.nodup_cons, List.mem_cons] at hnd
    rcases hB with q | q | q
    · omega
    · exact hbl.2.1 q
    · rw [he, List.flatMap_append, List.mem_append] at q
      rcases q with q | q
      · exact hnd.2.2 b q b (.inl rfl) rfl
      · exact hnd.2.1.1 q
/-- A block that becomes a row. -/
theorem Lv.rowOwn (L : Lv O0 H0 O S H (.blk b t cs :: l) ds) {n : Nat} {css : List (List Value)} (hcs : cs = css.flatten) (hl : ∀ x ∈ css, x.length = m) (hR : RepsP H (Lk H0.size O (.blk b t cs :: l)) dl css) (hn : n = dl.length) (h63 : dl.length ≤ maxLen) :
    Lv O0 H0 O S H (.row t m (.slice (some ⟨b, 0, none⟩) n n) dl (some b) :: l) ds := by
  have hb := L.get 0 rfl
  subst hcs hn
  have hlen : css.length = dl.length := Reps.length (hR [] (by simp))
  refine L.setE (i := 0) rfl (Fr.refl [] _) (by simp) (fun x hx => .inl (by simpa [Ent.bs] using hx)) (by simp [Ent.bs]) ?_
  refine ⟨css, Own.of_blk hb (by rw [flatten_len hl, hlen]) h63, hl, fun M hM => ?_⟩
  refine hR M fun x hx => ?_
  rcases hM x hx with (q | q) | q
  · exact q
  · exact .inr (.inr (by simpa [Ent.bs] using .inl (by simpa [Ent.bs] using q)))
  · exact .inr (.inr (by simpa [Ent.bs] using .inl (by simpa [eq_comm] using q)))
end
end Gx
end
section
/- Walks with the parser: what each small function does to a walk's memory. -/
set_option linter.unusedSimpArgs false
set_option linter.unusedVariables false
set_option maxRecDepth 8000
namespace Go.Proofs.YtbgjgaaobnbijaaGreatDoor
open Gx Go

/-- A walk's memory with the parser in it. -/
abbrev PLv (X : Cx) (H0 : Heap) (ts : List Tk) (k : Nat) (H : Heap) (l : List Ent) (ds : List (Dat × List Value)) : Prop := Lv [X.b] H0 [X.b] (fun H => Ps X H ts k) H l ds
/-- The fault that the walk ends with. -/
abbrev PEr {γ : Type} (X : Cx) (H0 : Heap) (P0 : Except Flt γ) : Chain → Heap → Prop := fun ch H' => ∃ e, P0 = .error e ∧ ch = flt e ∧ Fr [X.b] H0 H'

section
variable {X : Cx} {H0 H H' : Heap} {ts0 ts r : List Tk} {k0 k : Nat} {l : List Ent} {ds : List (Dat × List Value)} {γ : Type} {P0 : Except Flt (γ × List Tk)} {Q : Value → Heap → Prop} {E : Chain → Heap → Prop}
theorem Ps.walk (h : Ps X H ts k) : PLv X H ts k H [] [] := Lv.start (by simpa using h.lt) fun M H' hf hM => Ps.on h h hf fun x hx => (hM x hx).1
theorem _root_.Gx.Lv.ps (L : PLv X H0 ts k H l ds) : Ps X H ts k := Lv.st L
theorem _root_.Gx.Lv.pto {ts' : List Tk} {k' : Nat} (L : PLv X H0 ts k H l ds) (h0 : Ps X H0 ts0 k0) (hf : Fr [X.b] H H') (h : Ps X H' ts' k') : PLv X H0 ts' k' H' l ds :=
  Lv.call L hf fun M H'' hf' hM => Ps.on h0 h hf' fun x hx => (hM x hx).1

theorem POk.go {α : Type} {f : Nat} {av : List Value} {p : PP α} {R : α → Value → Heap → Heap → Prop} {g : α → PP γ} (h : POk k f av p R) (h0 : Ps X H0 ts0 k0) (L : PLv X H0 ts k H l ds) (hp : P0 = bd p g ts)
    (hR : ∀ a r v H', PLv X H0 r k H' l ds → P0 = g a r → p ts = .ok (a, r) → R a v H H' → Q v H') : PCalls Tryz.prog f (ptr X.b :: av).toArray H Q (PEr X H0 P0) :=
  h.use L.ps (fun e H' he hf => ⟨e, by rw [hp, bd_err he], rfl, L.fr.trans hf⟩) fun a r v H' he hv hs hf => hR a r v H' (L.pto h0 hf hs) (by rw [hp, bd_ok he]) he hv
theorem POk.goN {f : Nat} {av : List Value} {p : PP Nd} {g : Nd → PP γ} (h : POk k f av p NdR) (h0 : Ps X H0 ts0 k0) (L : PLv X H0 ts k H l ds) (hp : P0 = bd p g ts)
    (hR : ∀ kk tt nn aa ks kv r H', PLv X H0 r k H' l ((kidsD ks, [kv]) :: ds) → P0 = g (.mk kk tt nn aa ks) r → p ts = .ok (.mk kk tt nn aa ks, r) → Q (.agg #[.int .i64 kk, sv tt, .int .i64 nn, .int .i64 aa, kv]) H') :
    PCalls Tryz.prog f (ptr X.b :: av).toArray H Q (PEr X H0 P0) :=
  h.go h0 L hp fun a r v H' L' hp' he ⟨cs, hv, hr⟩ => by
    subst hv
    obtain ⟨kk, tt, nn, aa, ks⟩ := a
    obtain ⟨kv, rfl, hkv⟩ := RepP.nd_open hr
    exact hR kk tt nn aa ks kv r H' (L'.add (L.built hkv)) hp' he
theorem bd_bd {α β δ : Type} (p : PP α) (f : α → PP β) (g : β → PP δ) (ts : List Tk) : bd (bd p f) g ts = bd p (fun a => bd (f a) g) ts := by
  unfold bd
  cases p ts with
  | error e => rfl
  | ok x => rfl
theorem bd_ret {α : Type} (p : PP α) (ts : List Tk) : bd p ret ts = p ts := by
  unfold bd
  cases p ts with
  | error e => rfl
  | ok x => rfl
/-- The last call. -/
theorem POk.goL {f : Nat} {av : List Value} {p : PP Nd} {P0 : Except Flt (Nd × List Tk)} (h : POk k f av p NdR) (h0 : Ps X H0 ts0 k0) (L : PLv X H0 ts k H l ds) (hp : P0 = p ts)
    (hR : ∀ kk tt nn aa ks kv r H', PLv X H0 r k H' l ((kidsD ks, [kv]) :: ds) → P0 = .ok (.mk kk tt nn aa ks, r) → Q (.agg #[.int .i64 kk, sv tt, .int .i64 nn, .int .i64 aa, kv]) H') :
    PCalls Tryz.prog f (ptr X.b :: av).toArray H Q (PEr X H0 P0) :=
  h.goN h0 L (hp.trans (bd_ret p ts).symm) fun kk tt nn aa ks kv r H' L' hp' he => hR kk tt nn aa ks kv r H' L' (by rw [hp, he])
theorem look_go (L : PLv X H0 ts k H l ds) (hR : ∀ H', PLv X H0 ts k H' l ds → Q (.agg (tkC (hd ts)).toArray) H') : PCalls Tryz.prog 23 #[ptr X.b] H Q E :=
  (look_ok L.ps).mono fun v H' ⟨hv, hf⟩ => hv ▸ hR H' (L.ext hf)
theorem is_go (L : PLv X H0 ts k H l ds) (s : Bs) (hR : ∀ H', PLv X H0 ts k H' l ds → Q (.bool (isB s ts)) H') : PCalls Tryz.prog 28 #[ptr X.b, sv s] H Q E :=
  (is_ok L.ps s).mono fun v H' ⟨hv, hf⟩ => hv ▸ hR H' (L.ext hf)
theorem accept_go (h0 : Ps X H0 ts0 k0) (L : PLv X H0 ts k H l ds) (s : Bs) (hT : isB s ts = true → ∀ H', PLv X H0 ts.tail k H' l ds → Q (.bool true) H') (hF : isB s ts = false → ∀ H', PLv X H0 ts k H' l ds → Q (.bool false) H') : PCalls Tryz.prog 40 #[ptr X.b, sv s] H Q E :=
  (accept_ok L.ps s).mono fun v H' ⟨hv, hs, hf⟩ => by
    subst hv
    cases e : isB s ts with
    | true => rw [e, if_pos rfl] at hs; exact hT e H' (L.pto h0 hf hs)
    | false => rw [e, if_neg (by decide)] at hs; exact hF e H' (L.pto h0 hf hs)
theorem accept_u (h0 : Ps X H0 ts0 k0) (L : PLv X H0 ts k H l ds) (s : Bs) (hR : ∀ H', PLv X H0 (if isB s ts then ts.tail else ts) k H' l ds → Q (.bool (isB s ts)) H') : PCalls Tryz.prog 40 #[ptr X.b, sv s] H Q E :=
  (accept_ok L.ps s).mono fun v H' ⟨hv, hs, hf⟩ => hv ▸ hR H' (L.pto h0 hf hs)
theorem fail_go (L : PLv X H0 ts k H l ds) {c : Int} (hp : P0 = .error (c, (hd ts).at_)) : PCalls Tryz.prog 27 #[ptr X.b, .int .i64 c] H Q (PEr X H0 P0) :=
  (fail_ok L.ps c).mono (fun _ _ h => h.elim) fun ch H' ⟨hc, hf⟩ => ⟨_, hp, hc, L.fr.trans (fr1 hf)⟩
theorem leave_go {k' : Nat} (h0 : Ps X H0 ts0 k0) (L : PLv X H0 ts k H l ds) (hk : k' = k + 1) (h64 : k' ≤ 64) (hR : ∀ v H', PLv X H0 ts k' H' l ds → Q v H') : PCalls Tryz.prog 32 #[ptr X.b] H Q E :=
  (leave_ok L.ps (by omega)).mono fun v H' ⟨hs, hf⟩ => hR v H' (L.pto h0 hf (hk ▸ hs))
theorem enter_go {α β : Type} {lo : Nat → Option β} {s : Bs} {body : β → PP α} {P0 : Except Flt (α × List Tk)} (h0 : Ps X H0 ts0 k0) (L : PLv X H0 ts k H l ds) (hlo : lo 0 = none) (hlo' : ∀ j, ∃ x, lo (j + 1) = some x) (hp : P0 = entP (lo k) s body ts)
    (hR : ∀ j x H', k = j + 1 → lo (j + 1) = some x → PLv X H0 ts.tail j H' l ds → isB s ts = true → P0 = body x ts.tail → Q (.int .i64 (hd ts).at_) H') : PCalls Tryz.prog 30 #[ptr X.b, sv s] H Q (PEr X H0 P0) := by
  cases e : isB s ts with
  | false =>
    refine (enter_no L.ps (s := s) (.inl e)).mono (fun _ _ h => h.elim) fun ch H' ⟨hc, hf⟩ => ?_
    rw [e, if_neg (by decide)] at hc
    exact ⟨_, by rw [hp, entP_no e], hc, L.fr.trans hf⟩
  | true =>
    cases k with
    | zero =>
      refine (enter_no L.ps (s := s) (.inr rfl)).mono (fun _ _ h => h.elim) fun ch H' ⟨hc, hf⟩ => ?_
      rw [e, if_pos rfl] at hc
      exact ⟨_, by rw [hp, hlo, entP_0 e], hc, L.fr.trans hf⟩
    | succ j =>
      obtain ⟨x, hx⟩ := hlo' j
      refine (enter_ok L.ps e).mono fun v H' ⟨hv, hs, hf⟩ => ?_
      subst hv
      exact hR j x H' rfl hx (L.pto h0 hf hs) e (by rw [hp, hx, entP_s e])
/-- A node is returned. -/
theorem _root_.Gx.Lv.fin {P0 : Except Flt (Nd × List Tk)} {kk nn aa : Int} {tt : Bs} {ks : List Nd} {kv : Value} (L : PLv X H0 r k H l ds) (hp : P0 = ret (.mk kk tt nn aa ks) r) (hk : (kidsD ks, [kv]) ∈ ds ∨ (ks = [] ∧ kv = .slice none 0 0)) :
    ∃ a r, P0 = .ok (a, r) ∧ NdR a (.agg #[.int .i64 kk, sv tt, .int .i64 nn, .int .i64 aa, kv]) H0 H ∧ Ps X H r k ∧ Fr [X.b] H0 H := by
  suffices hq : RepP H (Lk H0.size [X.b] l) (kidsD ks) [kv] by
    exact ⟨_, r, hp, ⟨_, rfl, RepP.nd (hq.more fun x hx => .inl (.inl hx))⟩, L.ps, L.fr⟩
  rcases hk with hk | ⟨rfl, rfl⟩
  · exact L.dat _ hk
  · exact zeroKids
/-- A row of trees is finished. -/
theorem _root_.Gx.Lv.rowN (L : PLv X H0 r k H l ds) (i : Nat) (ns : List Nd) {v : Value} {g : Option Nat} (hi : l[i]? = some (.row 25 5 v (ns.map Nd.dat) g)) : PLv X H0 r k H (l.eraseIdx i) ((kidsD ns, [v]) :: ds) := Lv.rowDone L i hi
theorem _root_.Gx.Lv.one (L : PLv X H0 r k H l ds) {ks : List Nd} {kv : Value} (h : (kidsD ks, [kv]) ∈ ds) : kv.oneCell' = true := nd_one (L.dat _ h)
/-- A row of trees. -/
theorem _root_.Gx.Lv.row {n : Nat} {css : List (List Value)} {cs : List Value} {R : Value → Heap → Prop} (L : PLv X H0 r k H l ds) (ks : List Nd) (hcs : cs = css.flatten) (hl : ∀ x ∈ css, x.length = 5) (hR : RepsP H (Lk H0.size [X.b] l) (ks.map Nd.dat) css) (hn : n = ks.length) (h63 : ks.length ≤ maxLen)
    (h : ∀ b H', PLv X H0 r k H' l ((kidsD ks, [.slice (some ⟨b, 0, none⟩) n n]) :: ds) → R (.slice (some ⟨b, 0, none⟩) n n) H') : NewS H 25 n cs R :=
  NewS_intro fun H' hb hf _ => h _ H' (Lv.rowOf (L.push hf hb) hcs hl (hR.to (StaysP.ext hf fun x hx => .inl hx)) (by simpa using hn) (by simpa using h63))
theorem _root_.Gx.Lv.ndr (L : PLv X H0 r k H l ds) {kk nn aa : Int} {tt : Bs} {ks : List Nd} {kv : Value} (h : (kidsD ks, [kv]) ∈ ds) : RepP H (Lk H0.size [X.b] l) (Nd.dat (.mk kk tt nn aa ks)) [.int .i64 kk, sv tt, .int .i64 nn, .int .i64 aa, kv] := RepP.nd (L.dat _ h)
end
/-- A row of one tree that may grow. -/
theorem _root_.Gx.Lv.rowN1 {X : Cx} {H0 H : Heap} {r : List Tk} {k : Nat} {l : List Ent} {ds : List (Dat × List Value)} {b : Nat} {kk nn aa : Int} {tt : Bs} {ks : List Nd} {kv : Value} (L : PLv X H0 r k H (.blk b 25 [.int .i64 kk, sv tt, .int .i64 nn, .int .i64 aa, kv] :: l) ds) (hk : (kidsD ks, [kv]) ∈ ds) :
    PLv X H0 r k H (.row 25 5 (.slice (some ⟨b, 0, none⟩) 1 1) ([Nd.mk kk tt nn aa ks].map Nd.dat) (some b) :: l) ds :=
  Lv.rowOwn L (css := [[.int .i64 kk, sv tt, .int .i64 nn, .int .i64 aa, kv]]) (by simp) (by simp) (RepsP.nil.cons (L.ndr hk)) (by simp) (by simp [maxLen])
theorem ENd : ElemOk Tryz.prog 23 25 5 64 (.agg #[.int .i64 0, .string ⟨⟨[]⟩⟩, .int .i64 0, .int .i64 0, .slice none 0 0]) := ⟨Tryz.underlying23, by kernel_rfl, rfl, by decide⟩
end Go.Proofs.YtbgjgaaobnbijaaGreatDoor
end
section
/- Arguments; primaries: contracts. -/
set_option linter.unusedSimpArgs false
set_option linter.unusedVariables false
set_option maxRecDepth 8000
namespace Go.Proofs.YtbgjgaaobnbijaaGreatDoor
open Gx Go

section
variable {X : Cx} {H0 H H' : Heap} {ts0 ts r : List Tk} {k0 k : Nat} {l : List Ent} {ds : List (Dat × List Value)}
/-- A tree more in a row of trees. -/
theorem _root_.Gx.Lv.appN {nb tn : Nat} {R : Value → Heap → Prop} {kk nn aa : Int} {tt : Bs} {ks : List Nd} {kv v : Value} {g : Option Nat} {ns : List Nd} (L : PLv X H0 ts k H (.blk nb tn [.int .i64 kk, sv tt, .int .i64 nn, .int .i64 aa, kv] :: l) ds)
    (i : Nat) (hi : l[i]? = some (.row 25 5 v (ns.map Nd.dat) g)) (hk : (kidsD ks, [kv]) ∈ ds) (h63 : ns.length + 1 ≤ 1048576)
    (hR : ∀ a c g' H', PLv X H0 ts k H' (l.set i (.row 25 5 (.slice a (ns ++ [Nd.mk kk tt nn aa ks]).length c) ((ns ++ [Nd.mk kk tt nn aa ks]).map Nd.dat) g')) ds → R (.slice a (ns ++ [Nd.mk kk tt nn aa ks]).length c) H') :
    App Tryz.prog 23 23 23 H v (.slice (some ⟨nb, 0, none⟩) 1 1) R := by
  have L1 : PLv X H0 ts k H l ds := Lv.drop L (List.sublist_cons_self _ _) fun p hp => hp
  refine Lv.app L ENd i hi Tryz.underlying23 rfl (one_agg (L.one hk)) (d := Nd.dat (.mk kk tt nn aa ks)) (L1.ndr hk) rfl (by simp [maxLen]; omega) (by simp; omega) fun a c g' H' L' => ?_
  have e : ns.map Nd.dat ++ [Nd.dat (.mk kk tt nn aa ks)] = (ns ++ [Nd.mk kk tt nn aa ks]).map Nd.dat := by simp
  have e2 : (ns.map Nd.dat).length + 1 = (ns ++ [Nd.mk kk tt nn aa ks]).length := by simp
  rw [e, e2] at L'
  rw [e2]
  exact hR a c g' H' L'
end

theorem argument_ok {k : Nat} {e : PP Nd} (hex : POk k 17 [] e NdR) (fn : Bs) : POk k 121 [sv fn] (argP e fn) NdR := by
  refine ⟨fun {X H ts} hs => ?_⟩
  refine pcalls_of_vc (args := [_, _]) Tryz.func121 c121ok (Nat.le_of_ble_eq_true rfl) ?_
  have L := hs.walk
  unfold sv
  simp (implicitDefEqProofs := false) only [go_sem, c121]
  refine L.newP fun b1 H1 L => ?_
  simp (implicitDefEqProofs := false) only [go_sem]
  refine look_go L fun H2 L => ?_
  simp (implicitDefEqProofs := false) only [go_sem, tkC]
  refine L.newP fun b2 H3 L => ?_
  simp (implicitDefEqProofs := false) only [go_sem]
  refine L.stoAll 0 rfl rfl (one_agg (t := []) rfl) fun H4 L => ?_
  simp only [List.set_cons_zero, List.set_cons_succ, List.set_nil, List.eraseIdx_cons_zero, List.eraseIdx_cons_succ] at L
  by_cases e1 : fn = [114, 101, 99]
  · subst e1
    have hp : argP e [114, 101, 99] ts = bd (takeP 1) (fun t => bd (expP [58]) fun _ => bd e fun x => ret (.mk 52 t.text 0 (hd ts).at_ [x])) ts := by simp only [argP, if_true]
    simp (implicitDefEqProofs := false) only [go_sem, ba_eq]
    refine (take_ok 1 (by decide)).go hs L hp fun t r v H5 L hp _ hv => ?_
    cases hv
    simp (implicitDefEqProofs := false) only [go_sem, tkC, sv]
    refine L.stoOne 0 rfl (by simp) rfl fun H6 L => ?_
    simp only [List.set_cons_zero, List.set_cons_succ, List.set_nil, List.eraseIdx_cons_zero, List.eraseIdx_cons_succ] at L
    simp (implicitDefEqProofs := false) only [go_sem]
    refine (expect_ok [58]).go hs L hp fun _ r v H7 L hp _ _ => ?_
    have L := L.row0 25 5
    have c := L.cell 1 rfl
    simp (implicitDefEqProofs := false) only [go_sem, c]
    refine hex.goN hs L hp fun kk tt nn aa ks kv r H8 L hp he => ?_
    have c := L.cell 1 rfl
    simp (implicitDefEqProofs := false) only [go_sem, c]
    refine L.newS fun b3 H9 L => ?_
    have c := L.cell 2 rfl
    simp (implicitDefEqProofs := false) only [go_sem, c]
    refine L.appN (ns := []) (ks := ks) 0 rfl (by simp) (by decide) fun a c g' H10 L => ?_
    simp only [List.set_cons_zero, List.set_cons_succ, List.set_nil, List.eraseIdx_cons_zero, List.eraseIdx_cons_succ] at L
    simp (implicitDefEqProofs := false) only [go_sem]
    refine L.stoOne 1 rfl (by simp) rfl fun H11 L => ?_
    simp only [List.set_cons_zero, List.set_cons_succ, List.set_nil, List.eraseIdx_cons_zero, List.eraseIdx_cons_succ] at L
    have L := L.rowN 0 [.mk kk tt nn aa ks] rfl
    simp only [List.set_cons_zero, List.set_cons_succ, List.set_nil, List.eraseIdx_cons_zero, List.eraseIdx_cons_succ] at L
    have c := L.cell 0 rfl
    simp (implicitDefEqProofs := false) only [go_sem, c]
    refine L.stoAll 1 rfl rfl (one_agg rfl) fun HZ L => ?_
    simp only [List.set_cons_zero, List.set_cons_succ, List.set_nil, List.eraseIdx_cons_zero, List.eraseIdx_cons_succ] at L
    have c := L.cell 1 rfl
    simp (implicitDefEqProofs := false) only [go_sem, c]
    exact L.fin hp (.inl (by simp))
  · by_cases e2 : fn = [109, 97, 112]
    · subst e2
      have hp : argP e [109, 97, 112] ts = bd e (fun x => bd (expP [58]) fun _ => bd e fun y => ret (.mk 52 [] 0 (hd ts).at_ [x, y])) ts := by simp [argP]
      simp (implicitDefEqProofs := false) only [go_sem, ba_eq, e1]
      refine hex.goN hs L hp fun kk tt nn aa ks kv r H5 L hp _ => ?_
      simp (implicitDefEqProofs := false) only [go_sem]
      refine L.newS fun b3 H6 L => ?_
      have L := L.rowN1 (ks := ks) (by simp)
      simp (implicitDefEqProofs := false) only [go_sem]
      refine L.stoOne 1 rfl (by simp) rfl fun H7 L => ?_
      simp only [List.set_cons_zero, List.set_cons_succ, List.set_nil, List.eraseIdx_cons_zero, List.eraseIdx_cons_succ] at L
      simp (implicitDefEqProofs := false) only [go_sem]
      refine (expect_ok [58]).go hs L hp fun _ r v H8 L hp _ _ => ?_
      have c := L.cell 1 rfl
      simp (implicitDefEqProofs := false) only [go_sem, c]
      refine hex.goN hs L hp fun kk' tt' nn' aa' ks' kv' r H9 L hp _ => ?_
      have c := L.cell 1 rfl
      simp (implicitDefEqProofs := false) only [go_sem, c]
      refine L.newS fun b4 H10 L => ?_
      have c := L.cell 2 rfl
      simp (implicitDefEqProofs := false) only [go_sem, c]
      refine L.appN (ns := [.mk kk tt nn aa ks]) (ks := ks') 0 rfl (by simp) (by simp) fun a c g' H11 L => ?_
      simp only [List.set_cons_zero, List.set_cons_succ, List.set_nil, List.eraseIdx_cons_zero, List.eraseIdx_cons_succ] at L
      simp (implicitDefEqProofs := false) only [go_sem]
      refine L.stoOne 1 rfl (by simp) rfl fun H12 L => ?_
      simp only [List.set_cons_zero, List.set_cons_succ, List.set_nil, List.eraseIdx_cons_zero, List.eraseIdx_cons_succ] at L
      have L := L.rowN 0 [.mk kk tt nn aa ks, .mk kk' tt' nn' aa' ks'] rfl
      simp only [List.set_cons_zero, List.set_cons_succ, List.set_nil, List.eraseIdx_cons_zero, List.eraseIdx_cons_succ] at L
      have c := L.cell 0 rfl
      simp (implicitDefEqProofs := false) only [go_sem, c]
      refine L.stoAll 1 rfl rfl (one_agg (t := []) rfl) fun HZ L => ?_
      simp only [List.set_cons_zero, List.set_cons_succ, List.set_nil, List.eraseIdx_cons_zero, List.eraseIdx_cons_succ] at L
      have c := L.cell 1 rfl
      simp (implicitDefEqProofs := false) only [go_sem, c]
      exact L.fin hp (.inl (by simp))
    · have hp : argP e fn ts = e ts := by simp only [argP, e1, e2, if_false]
      simp (implicitDefEqProofs := false) only [go_sem, ba_eq, e1, e2]
      refine hex.goL hs L hp fun kk tt nn aa ks kv r H5 L hp => ?_
      simp (implicitDefEqProofs := false) only [go_sem]
      refine L.stoAll 1 rfl rfl (one_agg (L.one (ks := ks) (by simp))) fun H6 L => ?_
      simp only [List.set_cons_zero, List.set_cons_succ, List.set_nil, List.eraseIdx_cons_zero, List.eraseIdx_cons_succ] at L
      have c := L.cell 1 rfl
      simp (implicitDefEqProofs := false) only [go_sem, c]
      exact L.fin hp (.inl (by simp))

theorem functions_ok (s : Bs) (H : Heap) : HCalls Tryz.prog 120 #[sv s] H fun v H' => v = .bool (decide (s ∈ fnList)) ∧ Fr [] H H' := by
  refine calls_of_vc (args := [_]) Tryz.func120 c120ok (Nat.le_of_ble_eq_true rfl) ?_
  unfold sv
  by_cases h : s ∈ fnList
  · rw [decide_eq_true h]
    simp only [fnList, List.mem_cons, List.not_mem_nil, or_false] at h
    rcases h with rfl | rfl | rfl | rfl | rfl | rfl | rfl | rfl | rfl | rfl | rfl | rfl | rfl | rfl | rfl | rfl | rfl <;>
      · simp (implicitDefEqProofs := false) only [go_sem, c120, ba_eq]
        simp [Fr.refl]
  · rw [decide_eq_false h]
    simp only [fnList, List.mem_cons, List.not_mem_nil, or_false, not_or] at h
    obtain ⟨h1, h2, h3, h4, h5, h6, h7, h8, h9, h10, h11, h12, h13, h14, h15, h16, h17⟩ := h
    simp (implicitDefEqProofs := false) only [go_sem, c120, ba_eq, h1, h2, h3, h4, h5, h6, h7, h8, h9, h10, h11, h12, h13, h14, h15, h16, h17]
    exact Fr.refl _ _

theorem comma_lt {ts r : List Tk} (h : commaP ts = .ok (true, r)) (hn : ts ≠ []) : r.length < ts.length := by
  unfold commaP at h
  split at h
  · cases h
    have := List.length_pos_iff.2 hn
    simp; omega
  · unfold bd at h
    split at h
    · cases h
    · simp [ret] at h
theorem lo_0 : loK 0 = none := rfl
theorem lo_s (j : Nat) : ∃ x, loK (j + 1) = some x := ⟨_, rfl⟩
set_option maxHeartbeats 2000000 in
theorem primary_ok {k : Nat} (hex : ∀ j, k = j + 1 → POk j 17 [] (lev j).1 NdR) : POk k 118 [] (primP (loK k)) NdR := by
  refine ⟨fun {X H ts} hs => ?_⟩
  refine pcalls_of_vc (args := [_]) Tryz.func118 c118ok (Nat.le_of_ble_eq_true rfl) ?_
  have L := hs.walk
  simp (implicitDefEqProofs := false) only [go_sem, c118]
  refine L.newP fun b1 H1 L => ?_
  simp (implicitDefEqProofs := false) only [go_sem]
  refine look_go L fun H2 L => ?_
  simp (implicitDefEqProofs := false) only [go_sem, tkC]
  refine L.newP fun b2 H3 L => ?_
  simp (implicitDefEqProofs := false) only [go_sem]
  refine L.stoAll 0 rfl rfl (one4' (hd ts)) fun H4 L => ?_
  simp only [List.set_cons_zero, List.set_cons_succ, List.set_nil, List.eraseIdx_cons_zero, List.eraseIdx_cons_succ] at L
  have c := L.cell 0 rfl
  simp (implicitDefEqProofs := false) only [go_sem, c]
  refine L.newP fun b3 H5 L => ?_
  simp (implicitDefEqProofs := false) only [go_sem]
  refine L.stoAll 0 rfl rfl (one_agg (t := []) rfl) fun H6 L => ?_
  simp only [List.set_cons_zero, List.set_cons_succ, List.set_nil, List.eraseIdx_cons_zero, List.eraseIdx_cons_succ] at L
  have c := L.cell 1 rfl
  obtain ⟨hp, _⟩ : primP (loK k) ts = primP (loK k) ts ∧ True := ⟨rfl, trivial⟩
  conv at hp => rhs; unfold primP
  by_cases k3 : (hd ts).kind = 3
  · rw [if_pos (.inl k3)] at hp
    simp (implicitDefEqProofs := false) only [go_sem, c, k3]
    refine integer_ok.goL hs L hp fun kk tt nn aa ks kv r H5 L hp => ?_
    simp (implicitDefEqProofs := false) only [go_sem]
    refine L.stoAll 2 rfl rfl (one_agg (L.one (ks := ks) (by simp))) fun HZ L => ?_
    simp only [List.set_cons_zero, List.set_cons_succ, List.set_nil, List.eraseIdx_cons_zero, List.eraseIdx_cons_succ] at L
    have c := L.cell 2 rfl
    simp (implicitDefEqProofs := false) only [go_sem, c]
    exact L.fin hp (.inl (by simp))
  simp (implicitDefEqProofs := false) only [go_sem, c, k3]
  refine is_go L [45] fun H7 L => ?_
  cases e45 : isB [45] ts with
  | true =>
    rw [if_pos (.inr e45)] at hp
    simp (implicitDefEqProofs := false) only [go_sem]
    refine integer_ok.goL hs L hp fun kk tt nn aa ks kv r H5 L hp => ?_
    simp (implicitDefEqProofs := false) only [go_sem]
    refine L.stoAll 2 rfl rfl (one_agg (L.one (ks := ks) (by simp))) fun HZ L => ?_
    simp only [List.set_cons_zero, List.set_cons_succ, List.set_nil, List.eraseIdx_cons_zero, List.eraseIdx_cons_succ] at L
    have c := L.cell 2 rfl
    simp (implicitDefEqProofs := false) only [go_sem, c]
    exact L.fin hp (.inl (by simp))
  | false =>
  rw [if_neg (by rw [e45]; simp [k3])] at hp
  have c := L.cell 1 rfl
  by_cases k4 : (hd ts).kind = 4
  · rw [if_pos k4] at hp
    simp (implicitDefEqProofs := false) only [go_sem, c, k4]
    refine quote_ok.goL hs L hp fun kk tt nn aa ks kv r H5 L hp => ?_
    simp (implicitDefEqProofs := false) only [go_sem]
    refine L.stoAll 2 rfl rfl (one_agg (L.one (ks := ks) (by simp))) fun HZ L => ?_
    simp only [List.set_cons_zero, List.set_cons_succ, List.set_nil, List.eraseIdx_cons_zero, List.eraseIdx_cons_succ] at L
    have c := L.cell 2 rfl
    simp (implicitDefEqProofs := false) only [go_sem, c]
    exact L.fin hp (.inl (by simp))
  rw [if_neg k4] at hp
  by_cases k1 : (hd ts).kind = 1
  · rw [if_pos k1] at hp
    simp (implicitDefEqProofs := false) only [go_sem, c, k4, k1]
    refine (named_ok 48).goL hs L hp fun kk tt nn aa ks kv r H5 L hp => ?_
    simp (implicitDefEqProofs := false) only [go_sem]
    refine L.stoAll 2 rfl rfl (one_agg (L.one (ks := ks) (by simp))) fun HZ L => ?_
    simp only [List.set_cons_zero, List.set_cons_succ, List.set_nil, List.eraseIdx_cons_zero, List.eraseIdx_cons_succ] at L
    have c := L.cell 2 rfl
    simp (implicitDefEqProofs := false) only [go_sem, c]
    exact L.fin hp (.inl (by simp))
  rw [if_neg k1] at hp
  simp (implicitDefEqProofs := false) only [go_sem, c, k4, k1]
  refine accept_go hs L [116, 114, 117, 101] (fun e H7 L => ?_) fun e H7 L => ?_
  · rw [if_pos e] at hp
    simp (implicitDefEqProofs := false) only [go_sem]
    refine L.stoOne 0 rfl (by simp) rfl fun H8 L => ?_
    simp only [List.set_cons_zero, List.set_cons_succ, List.set_nil, List.eraseIdx_cons_zero, List.eraseIdx_cons_succ] at L
    simp (implicitDefEqProofs := false) only [go_sem]
    have c := L.cell 0 rfl
    simp (implicitDefEqProofs := false) only [go_sem, c]
    refine L.stoAll 2 rfl rfl (one_agg (t := []) rfl) fun HZ L => ?_
    simp only [List.set_cons_zero, List.set_cons_succ, List.set_nil, List.eraseIdx_cons_zero, List.eraseIdx_cons_succ] at L
    have c := L.cell 2 rfl
    simp (implicitDefEqProofs := false) only [go_sem, c]
    exact L.fin hp (.inr ⟨rfl, rfl⟩)
  rw [if_neg (by rw [e]; decide)] at hp
  simp (implicitDefEqProofs := false) only [go_sem]
  refine accept_go hs L [102, 97, 108, 115, 101] (fun e H7 L => ?_) fun e H7 L => ?_
  · rw [if_pos e] at hp
    simp (implicitDefEqProofs := false) only [go_sem]
    refine L.stoOne 0 rfl (by simp) rfl fun H8 L => ?_
    simp only [List.set_cons_zero, List.set_cons_succ, List.set_nil, List.eraseIdx_cons_zero, List.eraseIdx_cons_succ] at L
    simp (implicitDefEqProofs := false) only [go_sem]
    have c := L.cell 0 rfl
    simp (implicitDefEqProofs := false) only [go_sem, c]
    refine L.stoAll 2 rfl rfl (one_agg (t := []) rfl) fun HZ L => ?_
    simp only [List.set_cons_zero, List.set_cons_succ, List.set_nil, List.eraseIdx_cons_zero, List.eraseIdx_cons_succ] at L
    have c := L.cell 2 rfl
    simp (implicitDefEqProofs := false) only [go_sem, c]
    exact L.fin hp (.inr ⟨rfl, rfl⟩)
  rw [if_neg (by rw [e]; decide)] at hp
  simp (implicitDefEqProofs := false) only [go_sem]
  refine accept_go hs L [115] (fun e H7 L => ?_) fun e H7 L => ?_
  · rw [if_pos e] at hp
    simp (implicitDefEqProofs := false) only [go_sem]
    refine L.stoOne 0 rfl (by simp) rfl fun H8 L => ?_
    simp only [List.set_cons_zero, List.set_cons_succ, List.set_nil, List.eraseIdx_cons_zero, List.eraseIdx_cons_succ] at L
    simp (implicitDefEqProofs := false) only [go_sem]
    have c := L.cell 0 rfl
    simp (implicitDefEqProofs := false) only [go_sem, c]
    refine L.stoAll 2 rfl rfl (one_agg (t := []) rfl) fun HZ L => ?_
    simp only [List.set_cons_zero, List.set_cons_succ, List.set_nil, List.eraseIdx_cons_zero, List.eraseIdx_cons_succ] at L
    have c := L.cell 2 rfl
    simp (implicitDefEqProofs := false) only [go_sem, c]
    exact L.fin hp (.inr ⟨rfl, rfl⟩)
  rw [if_neg (by rw [e]; decide)] at hp
  simp (implicitDefEqProofs := false) only [go_sem]
  refine accept_go hs L [98, 111, 116, 116, 111, 109] (fun e H7 L => ?_) fun e H7 L => ?_
  · rw [if_pos e] at hp
    simp (implicitDefEqProofs := false) only [go_sem]
    refine L.stoOne 0 rfl (by simp) rfl fun H8 L => ?_
    simp only [List.set_cons_zero, List.set_cons_succ, List.set_nil, List.eraseIdx_cons_zero, List.eraseIdx_cons_succ] at L
    simp (implicitDefEqProofs := false) only [go_sem]
    have c := L.cell 0 rfl
    simp (implicitDefEqProofs := false) only [go_sem, c]
    refine L.stoAll 2 rfl rfl (one_agg (t := []) rfl) fun HZ L => ?_
    simp only [List.set_cons_zero, List.set_cons_succ, List.set_nil, List.eraseIdx_cons_zero, List.eraseIdx_cons_succ] at L
    have c := L.cell 2 rfl
    simp (implicitDefEqProofs := false) only [go_sem, c]
    exact L.fin hp (.inr ⟨rfl, rfl⟩)
  rw [if_neg (by rw [e]; decide)] at hp
  simp (implicitDefEqProofs := false) only [go_sem]
  refine is_go L [40] fun H7 L => ?_
  cases e40 : isB [40] ts with
  | true =>
    rw [if_pos e40] at hp
    simp (implicitDefEqProofs := false) only [go_sem]
    refine enter_go (lo := loK) hs L lo_0 lo_s hp fun j x H8 hj hx L _ hp => ?_
    cases hx
    simp (implicitDefEqProofs := false) only [go_sem]
    refine (hex j hj).goN hs L hp fun kk tt nn aa ks kv r H9 L hp _ => ?_
    simp (implicitDefEqProofs := false) only [go_sem]
    refine L.stoAll 0 rfl rfl (one_agg (L.one (ks := ks) (by simp))) fun H10 L => ?_
    simp only [List.set_cons_zero, List.set_cons_succ, List.set_nil, List.eraseIdx_cons_zero, List.eraseIdx_cons_succ] at L
    simp (implicitDefEqProofs := false) only [go_sem]
    refine (expect_ok [41]).go hs L hp fun _ r v H11 L hp _ _ => ?_
    simp (implicitDefEqProofs := false) only [go_sem]
    refine leave_go hs L hj hs.k64 fun _ H12 L => ?_
    have c := L.cell 0 rfl
    simp (implicitDefEqProofs := false) only [go_sem, c]
    refine L.stoAll 2 rfl rfl (one_agg (L.one (ks := ks) (by simp))) fun HZ L => ?_
    simp only [List.set_cons_zero, List.set_cons_succ, List.set_nil, List.eraseIdx_cons_zero, List.eraseIdx_cons_succ] at L
    have c := L.cell 2 rfl
    simp (implicitDefEqProofs := false) only [go_sem, c]
    exact L.fin hp (.inl (by simp))
  | false =>
  rw [if_neg (by rw [e40]; decide)] at hp
  have c := L.cell 1 rfl
  by_cases k2 : (hd ts).kind = 2
  · simp (implicitDefEqProofs := false) only [go_sem, c, k2]
    refine (functions_ok (hd ts).text _).mono ?_
    rintro v H8 ⟨rfl, hf8⟩
    have L := L.ext hf8
    by_cases hfn : (hd ts).text ∈ fnList
    · rw [if_pos ⟨k2, hfn⟩] at hp
      obtain ⟨i, hb, hw, hnext⟩ := L.ps.step (by omega)
      have hc := hb.cell
      have c := L.cell 1 rfl
      unfold ptr
      simp (implicitDefEqProofs := false) only [go_sem, hfn, hc, hw]
      refine Sto_one hb (by simp) rfl fun H9 hn9 hf9 _ => ?_
      have L := L.pto hs hf9 (hnext H9 hn9 hf9)
      have c := L.cell 1 rfl
      simp (implicitDefEqProofs := false) only [go_sem, c]
      refine L.stoOne 0 rfl (by simp) rfl fun H10 L => ?_
      simp only [List.set_cons_zero, List.set_cons_succ, List.set_nil, List.eraseIdx_cons_zero, List.eraseIdx_cons_succ] at L
      have c := L.cell 1 rfl
      simp (implicitDefEqProofs := false) only [go_sem, c, sv]
      refine L.stoOne 0 rfl (by simp) rfl fun H11 L => ?_
      simp only [List.set_cons_zero, List.set_cons_succ, List.set_nil, List.eraseIdx_cons_zero, List.eraseIdx_cons_succ] at L
      have L : PLv X H ts.tail k H11 [.blk b3 25 [.int .i64 51, sv (hd ts).text, .int .i64 0, .int .i64 (hd ts).at_, .slice none 0 0], .blk b2 41 (tkC (hd ts)), .blk b1 25 [.int .i64 0, sv [], .int .i64 0, .int .i64 0, .slice none 0 0]] [] := L
      simp (implicitDefEqProofs := false) only [go_sem]
      refine enter_go (lo := loK) hs L lo_0 lo_s hp fun j x H12 hj hx L _ hp => ?_
      cases hx
      have hcap := hs.cap
      have hlen : ts.tail.tail.length ≤ 1048576 := by
        obtain ⟨i', _, e', _⟩ := L.ps.ex
        rw [e', List.length_drop]; omega
      have L := L.row0 25 5
      have hdn : Dn (argP (lev j).1 (hd ts).text) := argP_dn (lev_dn j).1 _
      obtain ⟨cur0, hcur0⟩ : ∃ cur, cur = ts.tail.tail := ⟨_, rfl⟩
      rw [← hcur0] at L hp hlen
      simp (implicitDefEqProofs := false) only [go_sem]
      refine accept_u hs L [41] fun H13 L => ?_
      simp (implicitDefEqProofs := false) only [go_sem]
      refine vc_loop (fun (s : Bool × List Tk × List Nd × Value) H' => ∃ g f, PLv X H s.2.1 j H' [.row 25 5 s.2.2.2 (s.2.2.1.map Nd.dat) g, .blk b3 25 [.int .i64 51, sv (hd ts).text, .int .i64 0, .int .i64 (hd ts).at_, s.2.2.2], .blk b2 41 (tkC (hd ts)), .blk b1 25 [.int .i64 0, sv [], .int .i64 0, .int .i64 0, .slice none 0 0]] [] ∧
        (s.1 = true → primP (loK k) ts = bd (listF (argP (lev j).1 (hd ts).text) f s.2.2.1) (fun l => ret (.mk 51 (hd ts).text 0 (hd ts).at_ l)) s.2.1 ∧ s.2.1.length ≤ f ∧ s.2.2.1.length + s.2.1.length ≤ 1048576) ∧
        (s.1 = false → primP (loK k) ts = ret (Nd.mk 51 (hd ts).text 0 (hd ts).at_ s.2.2.1) s.2.1))
        (fun s => [(0, ptr X.b), (2, .pointer (some ⟨b1, 0, none⟩)), (3, .pointer (some ⟨b2, 0, none⟩)), (4, .pointer (some ⟨b3, 0, none⟩)), (5, .bool s.1)]) (fun s => if s.1 then s.2.1.length + 1 else 0) (!(isB [41] cur0), (if isB [41] cur0 then cur0.tail else cur0), [], .slice none 0 0) ?_ ?_ ?_
      · refine ⟨none, cur0.length, L, fun h => ?_, fun h => ?_⟩
        · have e : isB [41] cur0 = false := by simpa using h
          simp only [e, Bool.false_eq_true, if_false]
          rw [hp]
          refine ⟨?_, Nat.le_refl _, by simpa using hlen⟩
          unfold bd listP; simp only [e, Bool.false_eq_true, if_false]
        · have e : isB [41] cur0 = true := by simpa using h
          simp only [e, if_true]
          rw [hp]
          unfold bd listP; simp only [e, if_true]
      · simp (implicitDefEqProofs := false) only [go_sem, ptr]
      · rintro ⟨more, cur, ns, v⟩ H14 ⟨g, f, L, hT, hF⟩
        simp only at L hT hF ⊢
        cases more with
        | false =>
          have hp := hF rfl
          simp (implicitDefEqProofs := false) only [go_sem]
          refine leave_go hs L hj hs.k64 fun _ H15 L => ?_
          have L := L.rowN 0 ns rfl
          simp only [List.set_cons_zero, List.set_cons_succ, List.set_nil, List.eraseIdx_cons_zero, List.eraseIdx_cons_succ] at L
          have c := L.cell 0 rfl
          simp (implicitDefEqProofs := false) only [go_sem, c]
          refine L.stoAll 2 rfl rfl (one_agg (L.one (ks := ns) (by simp))) fun HZ L => ?_
          simp only [List.set_cons_zero, List.set_cons_succ, List.set_nil, List.eraseIdx_cons_zero, List.eraseIdx_cons_succ] at L
          have c := L.cell 2 rfl
          simp (implicitDefEqProofs := false) only [go_sem, c]
          exact L.fin hp (.inl (by simp))
        | true =>
          obtain ⟨hp, hf, hle⟩ := hT rfl
          have hcur := List.length_pos_iff.2 L.ps.nil
          obtain ⟨f, rfl⟩ : ∃ f', f = f' + 1 := ⟨f - 1, by omega⟩
          have hp : primP (loK k) ts = bd (argP (lev j).1 (hd ts).text) (fun a => bd (bd commaP fun m => if m then listF (argP (lev j).1 (hd ts).text) f (ns ++ [a]) else ret (ns ++ [a])) (fun l => ret (.mk 51 (hd ts).text 0 (hd ts).at_ l))) cur := by
            rw [hp]; simp only [listF, bd_bd]
          have c := L.cell 1 rfl
          have c2 := L.cell 2 rfl
          simp (implicitDefEqProofs := false) only [go_sem, c, c2, tkC]
          refine (argument_ok (hex j hj) _).goN hs L hp fun kk tt nn aa ks kv r1 H15 L hp he => ?_
          have hle1 := hdn.of he
          have hne1 := L.ps.nil
          simp only [bd_bd] at hp
          have c := L.cell 1 rfl
          simp (implicitDefEqProofs := false) only [go_sem, c]
          refine L.newS fun bA HA L => ?_
          have c := L.cell 2 rfl
          simp (implicitDefEqProofs := false) only [go_sem, c]
          refine L.appN (ns := ns) (ks := ks) 0 rfl (by simp) (by omega) fun a c g' HB L => ?_
          simp only [List.set_cons_zero, List.set_cons_succ, List.set_nil, List.eraseIdx_cons_zero, List.eraseIdx_cons_succ] at L
          simp (implicitDefEqProofs := false) only [go_sem]
          refine L.stoOne 1 rfl (by simp) rfl fun HC L => ?_
          simp only [List.set_cons_zero, List.set_cons_succ, List.set_nil, List.eraseIdx_cons_zero, List.eraseIdx_cons_succ] at L
          simp (implicitDefEqProofs := false) only [go_sem]
          refine comma_ok.go hs L hp fun m r2 v HD L hp hcm hv => ?_
          cases hv
          have L := L.drop (ds' := []) (List.Sublist.refl _) (by simp)
          simp (implicitDefEqProofs := false) only [go_sem]
          refine loopK_intro (m, r2, ns ++ [.mk kk tt nn aa ks], .slice a (ns ++ [Nd.mk kk tt nn aa ks]).length c) ?_ ?_ ⟨g', f, L, fun h => ?_, fun h => ?_⟩
          · have := commaP_dn.of hcm
            cases m
            · show 0 < cur.length + 1
              omega
            · have := comma_lt hcm hne1
              show r2.length + 1 < cur.length + 1
              omega
          · simp (implicitDefEqProofs := false) only [go_sem]
          · simp only at h; subst h
            have := comma_lt hcm hne1
            refine ⟨hp, show r2.length ≤ f by omega, ?_⟩
            simp only [List.length_append, List.length_cons, List.length_nil]; omega
          · simp only at h; subst h
            exact hp
    · rw [if_neg (fun h => hfn h.2)] at hp
      simp (implicitDefEqProofs := false) only [go_sem, hfn]
      exact fail_go L hp
  · rw [if_neg (fun h => k2 h.1)] at hp
    simp (implicitDefEqProofs := false) only [go_sem, c, k2]
    exact fail_go L hp
end Go.Proofs.YtbgjgaaobnbijaaGreatDoor
end
section
/- Expressions at all levels; lattices, declarations and programs: the grammar as functions on tokens. -/
set_option linter.unusedSimpArgs false
set_option linter.unusedVariables false
set_option maxRecDepth 8000
namespace Go.Proofs.YtbgjgaaobnbijaaGreatDoor
open Gx Go

theorem lev_ok : ∀ k : Nat, POk k 17 [] (exprP (loK k)) NdR ∧ POk k 66 [] (notP (loK k)) NdR := by
  have key : ∀ k : Nat, (∀ j, k = j + 1 → POk j 17 [] (lev j).1 NdR ∧ POk j 66 [] (lev j).2 NdR) → POk k 17 [] (exprP (loK k)) NdR ∧ POk k 66 [] (notP (loK k)) NdR := fun k h => by
    have hl := loK_dn k
    have h1 := primary_ok fun j hj => (h j hj).1
    have h2 := postfix_ok (fun j hj => (h j hj).1) h1
    have h3 := sum_ok hl h2
    have h4 := joined_ok hl h3
    have h5 := comparison_ok hl h4
    have h6 := not_ok (fun j hj => (h j hj).2) h5
    have h7 := and_ok hl h6
    have h8 := or_ok hl h7
    exact ⟨expression_ok (fun j hj => (h j hj).1) h8, h6⟩
  intro k
  induction k with
  | zero => exact key 0 fun j hj => by omega
  | succ k ih =>
    refine key (k + 1) fun j hj => ?_
    obtain rfl : j = k := by omega
    rw [lev_eq]; exact ih

/-! ### lattices -/
def quotesF : Nat → List Nd → PP (List Nd)
  | 0, l => ret l
  | f + 1, l => fun ts => if isB [44] ts then bd quoteP (fun q => quotesF f (l ++ [q])) ts.tail else .ok (l, ts)
def quotesP : PP (List Nd) := bd quoteP fun q r => quotesF r.length [q] r
def allowedP : PP (List Nd) := fun ts => if isB [40] ts then bd quotesP (fun l => bd (expP [41]) fun _ => ret l) ts.tail else .ok ([], ts)
def twoP (p : PP Nd) : PP (List Nd) := bd (expP [40]) fun _ => bd p fun a => bd (expP [44]) fun _ => bd p fun b => bd (expP [41]) fun _ => ret [a, b]
def optQ : PP (List Nd) := fun ts => if (hd ts).kind = 4 then quotesP ts else .ok ([], ts)
def ruleP : PP Nd := fun ts => bd optQ (fun q => bd (expP [61, 62]) fun _ => bd quoteP fun c => ret (.mk 20 [] 0 (hd ts).at_ (q ++ [c]))) ts
def rulesF : Nat → List Nd → PP (List Nd)
  | 0, l => ret l
  | f + 1, l => fun ts => if isB [59] ts then bd ruleP (fun r => rulesF f (l ++ [r])) ts.tail else .ok (l, ts)
def closedP : PP (List Nd) := bd (expP [40]) fun _ => bd optQ fun l ts => bd (rulesF ts.length l) (fun l => bd (expP [41]) fun _ => ret l) ts
def memP (x : PP Nd) : PP Nd := bd (takeP 1) fun t => bd (expP [58]) fun _ => bd x fun y => ret (.mk 22 t.text 0 t.at_ [y])
def memF (x : PP Nd) : Nat → List Nd → PP (List Nd)
  | 0, l => ret l
  | f + 1, l => bd (memP x) fun m ts => if isB [44] ts then memF x f (l ++ [m]) ts.tail else .ok (l ++ [m], ts)
def memsP (x : PP Nd) : PP (List Nd) := fun ts => bd (memF x (ts.length + 1) []) (fun l => bd (expP [125]) fun _ => ret l) ts
abbrev LLo := Option (PP Nd)
def latP (lo : LLo) : PP Nd := fun ts =>
  if (hd ts).kind = 1 then namedP 21 ts
  else if isB [102, 108, 97, 103] ts then .ok (.mk 10 [] 0 (hd ts).at_ [], ts.tail)
  else if isB [114, 101, 103, 105, 115, 116, 101, 114] ts then .ok (.mk 18 [] 0 (hd ts).at_ [], ts.tail)
  else if isB [115, 101, 116] ts then bd allowedP (fun l => ret (.mk 13 [] 0 (hd ts).at_ l)) ts.tail
  else if isB [102, 108, 97, 116] ts then bd allowedP (fun l => ret (.mk 17 [] 0 (hd ts).at_ l)) ts.tail
  else if isB [109, 97, 112] ts then entP lo [109, 97, 112] (fun x => bd allowedP fun l => bd x fun y => ret (.mk 14 [] 0 (hd ts).at_ (l ++ [y]))) ts
  else if isB [109, 97, 120] ts then bd (twoP intP) (fun l => ret (.mk 11 [] 0 (hd ts).at_ l)) ts.tail
  else if isB [109, 105, 110] ts then bd (twoP intP) (fun l => ret (.mk 12 [] 0 (hd ts).at_ l)) ts.tail
  else if isB [108, 101, 120] ts then entP lo [108, 101, 120] (fun x => bd (twoP x) fun l => ret (.mk 16 [] 0 (hd ts).at_ l)) ts
  else if isB [123] ts then entP lo [123] (fun x => bd (memsP x) fun l => ret (.mk 15 [] 0 (hd ts).at_ l)) ts
  else if isB [99, 108, 111, 115, 101, 100] ts then bd closedP (fun l => ret (.mk 19 [] 0 (hd ts).at_ l)) ts.tail
  else .error (2, (hd ts).at_)
def levL : Nat → PP Nd
  | 0 => latP none
  | k + 1 => latP (some (levL k))
def loL : Nat → LLo
  | 0 => none
  | k + 1 => some (levL k)
theorem levL_eq (k : Nat) : levL k = latP (loL k) := by cases k <;> rfl

/-! ### declarations -/
def sortP : PP Int := fun ts =>
  if isB [105, 110, 116] ts then .ok (1, ts.tail)
  else if isB [98, 111, 111, 108] ts then .ok (2, ts.tail)
  else if isB [110, 97, 109, 101] ts then .ok (3, ts.tail)
  else if isB [110, 97, 109, 101, 115] ts then .ok (4, ts.tail)
  else .error (2, (hd ts).at_)
def paramP : PP Nd := bd (takeP 1) fun t => bd (expP [58]) fun _ => bd sortP fun s => ret (.mk 6 t.text s t.at_ [])
/-- What stands behind "update" or "query". -/
def funcP (at_ kind : Int) : PP Nd := bd (takeP 1) fun t => bd (expP [40]) fun _ => bd (listP paramP) fun ps => bd (expP [111, 110]) fun _ => bd (namedP 48) fun o =>
  bd (if kind = 5 then bd (expP [58]) fun _ => sortP else ret 0) fun n => bd (expP [61]) fun _ => bd (exprP (loK 64)) fun e => bd (expP [59]) fun _ => ret (.mk kind t.text n at_ (ps ++ [o] ++ [e]))
def latD (at_ kind : Int) (s : Bs) : PP Nd := bd (takeP 1) fun t => bd (expP s) fun _ => bd (levL 64) fun x => bd (expP [59]) fun _ => ret (.mk kind t.text 0 at_ [x])
def declP : PP Nd := fun ts =>
  if isB [108, 97, 116, 116, 105, 99, 101] ts then latD (hd ts).at_ 2 [61] ts.tail
  else if isB [111, 98, 106, 101, 99, 116] ts then latD (hd ts).at_ 3 [58] ts.tail
  else if isB [117, 112, 100, 97, 116, 101] ts then funcP (hd ts).at_ 4 ts.tail
  else if isB [113, 117, 101, 114, 121] ts then funcP (hd ts).at_ 5 ts.tail
  else .error (2, (hd ts).at_)
def progF : Nat → List Nd → PP (List Nd)
  | 0, l => ret l
  | f + 1, l => fun ts => if (hd ts).kind = 6 then .ok (l, ts) else bd declP (fun d => progF f (l ++ [d])) ts
def progP : PP Nd := fun ts => bd (progF (ts.length + 1) []) (fun l => ret (.mk 1 [] 0 0 l)) ts
/-- The whole of the tokens. -/
def topP (p : PP Nd) (ts : List Tk) : Except Flt Nd := match p ts with
  | .error e => .error e
  | .ok (n, r) => if (hd r).kind = 6 then .ok n else .error (2, (hd r).at_)

/-! ### nothing is read but in front -/
theorem quotesF_dn : ∀ f l, Dn (quotesF f l)
  | 0, l => Dn.ret l
  | f + 1, l => by
    intro ts r b hb
    simp only [quotesF] at hb
    split at hb
    · exact Dn.tl (quoteP_dn.bnd fun m => quotesF_dn f _) hb
    · cases hb; exact Nat.le_refl _
theorem quotesP_dn : Dn quotesP := quoteP_dn.bnd' fun n ts r b hb => (quotesF_dn _ _).of hb
theorem allowedP_dn : Dn allowedP := by
  intro ts r b hb
  unfold allowedP at hb
  split at hb
  · exact Dn.tl (quotesP_dn.bnd fun _ => (expP_dn _).bnd fun _ => Dn.ret _) hb
  · cases hb; exact Nat.le_refl _
theorem twoP_dn {p : PP Nd} (h : Dn p) : Dn (twoP p) := (expP_dn _).bnd fun _ => h.bnd fun _ => (expP_dn _).bnd fun _ => h.bnd fun _ => (expP_dn _).bnd fun _ => Dn.ret _
theorem optQ_dn : Dn optQ := by
  intro ts r b hb
  unfold optQ at hb
  split at hb
  · exact quotesP_dn.of hb
  · cases hb; exact Nat.le_refl _
theorem ruleP_dn : Dn ruleP := by
  intro ts r b hb
  unfold ruleP at hb
  exact Dn.of (optQ_dn.bnd fun _ => (expP_dn _).bnd fun _ => quoteP_dn.bnd fun _ => Dn.ret _) hb
theorem rulesF_dn : ∀ f l, Dn (rulesF f l)
  | 0, l => Dn.ret l
  | f + 1, l => by
    intro ts r b hb
    simp only [rulesF] at hb
    split at hb
    · exact Dn.tl (ruleP_dn.bnd fun m => rulesF_dn f _) hb
    · cases hb; exact Nat.le_refl _
theorem closedP_dn : Dn closedP := (expP_dn _).bnd fun _ => optQ_dn.bnd' fun l ts r b hb => Dn.of ((rulesF_dn _ l).bnd fun _ => (expP_dn _).bnd fun _ => Dn.ret _) hb
theorem memP_dn {x : PP Nd} (h : Dn x) : Dn (memP x) := (takeP_dn 1).bnd fun _ => (expP_dn _).bnd fun _ => h.bnd fun _ => Dn.ret _
theorem memF_dn {x : PP Nd} (h : Dn x) : ∀ f l, Dn (memF x f l)
  | 0, l => Dn.ret l
  | f + 1, l => (memP_dn h).bnd' fun m ts r b hb => by
    split at hb
    · exact Dn.tl (memF_dn h f _) hb
    · cases hb; exact Nat.le_refl _
theorem memsP_dn {x : PP Nd} (h : Dn x) : Dn (memsP x) := by
  intro ts r b hb
  unfold memsP at hb
  exact Dn.of ((memF_dn h _ _).bnd fun _ => (expP_dn _).bnd fun _ => Dn.ret _) hb
theorem ite_le {α : Type} {c : Prop} [Decidable c] {x y : Except Flt (α × List Tk)} {n : Nat} (hx : ∀ b r, x = .ok (b, r) → r.length ≤ n) (hy : ∀ b r, y = .ok (b, r) → r.length ≤ n) : ∀ b r, (if c then x else y) = .ok (b, r) → r.length ≤ n := by
  intro b r h
  by_cases hc : c
  · rw [if_pos hc] at h; exact hx b r h
  · rw [if_neg hc] at h; exact hy b r h
theorem ok_le {α : Type} {n : α} {ts : List Tk} : ∀ b r, (Except.ok (n, ts.tail) : Except Flt (α × List Tk)) = .ok (b, r) → r.length ≤ ts.length := by
  intro b r h; cases h; exact tail_le _
theorem latP_dn {lo : LLo} (hl : ∀ x, lo = some x → Dn x) : Dn (latP lo) := by
  intro ts r b hb
  unfold latP at hb
  revert b r
  suffices h : ∀ b r, latP lo ts = .ok (b, r) → r.length ≤ ts.length from fun r b hb => h b r hb
  unfold latP
  refine ite_le (fun b r h => (namedP_dn _).of h) (ite_le ok_le (ite_le ok_le (ite_le (fun b r h => Dn.tl (allowedP_dn.bnd fun _ => Dn.ret _) h) (ite_le (fun b r h => Dn.tl (allowedP_dn.bnd fun _ => Dn.ret _) h) (ite_le ?_ (ite_le (fun b r h => Dn.tl ((twoP_dn intP_dn).bnd fun _ => Dn.ret _) h) (ite_le (fun b r h => Dn.tl ((twoP_dn intP_dn).bnd fun _ => Dn.ret _) h) (ite_le ?_ (ite_le ?_ (ite_le (fun b r h => Dn.tl (closedP_dn.bnd fun _ => Dn.ret _) h) fun b r h => ?_))))))))))
  · intro b r h; exact Dn.of (entP_dn fun x hx => allowedP_dn.bnd fun _ => (hl x hx).bnd fun _ => Dn.ret _) h
  · intro b r h; exact Dn.of (entP_dn fun x hx => (twoP_dn (hl x hx)).bnd fun _ => Dn.ret _) h
  · intro b r h; exact Dn.of (entP_dn fun x hx => (memsP_dn (hl x hx)).bnd fun _ => Dn.ret _) h
  · cases h
theorem levL_dn : ∀ k, Dn (levL k)
  | 0 => latP_dn fun x hx => by cases hx
  | k + 1 => latP_dn fun x hx => by cases hx; exact levL_dn k
theorem loL_dn (k : Nat) : ∀ x, loL k = some x → Dn x := by
  intro x hx
  cases k with
  | zero => cases hx
  | succ k => cases hx; exact levL_dn k
theorem sortP_dn : Dn sortP := by
  intro ts r b hb
  unfold sortP at hb
  split at hb
  · cases hb; exact tail_le _
  split at hb
  · cases hb; exact tail_le _
  split at hb
  · cases hb; exact tail_le _
  split at hb
  · cases hb; exact tail_le _
  · cases hb
theorem paramP_dn : Dn paramP := (takeP_dn 1).bnd fun _ => (expP_dn _).bnd fun _ => sortP_dn.bnd fun _ => Dn.ret _
theorem funcP_dn (a k : Int) : Dn (funcP a k) := (takeP_dn 1).bnd fun _ => (expP_dn _).bnd fun _ => (listP_dn paramP_dn).bnd fun _ => (expP_dn _).bnd fun _ => (namedP_dn _).bnd fun _ => Dn.bnd (by
  split
  · exact (expP_dn _).bnd fun _ => sortP_dn
  · exact Dn.ret _) fun _ => (expP_dn _).bnd fun _ => (exprP_dn (loK_dn 64)).bnd fun _ => (expP_dn _).bnd fun _ => Dn.ret _
theorem latD_dn (a k : Int) (s : Bs) : Dn (latD a k s) := (takeP_dn 1).bnd fun _ => (expP_dn _).bnd fun _ => (levL_dn 64).bnd fun _ => (expP_dn _).bnd fun _ => Dn.ret _
/-- A declaration reads a token at least. -/
theorem declP_lt {ts r : List Tk} {n : Nd} (h : declP ts = .ok (n, r)) (hn : ts ≠ []) : r.length < ts.length := by
  have hp := List.length_pos_iff.2 hn
  have ht : ts.tail.length = ts.length - 1 := by simp
  unfold declP at h
  split at h
  · have := (latD_dn _ _ _).of h; omega
  split at h
  · have := (latD_dn _ _ _).of h; omega
  split at h
  · have := (funcP_dn _ _).of h; omega
  split at h
  · have := (funcP_dn _ _).of h; omega
  · cases h
end Go.Proofs.YtbgjgaaobnbijaaGreatDoor
end
section
/- Parts of lattices: contracts. -/
set_option linter.unusedSimpArgs false
set_option linter.unusedVariables false
set_option maxRecDepth 8000
namespace Go.Proofs.YtbgjgaaobnbijaaGreatDoor
open Gx Go
theorem nb {s : Bs} {ts : List Tk} (h : isB s ts = false) : ¬ isB s ts = true := by rw [h]; decide
/-- A row of trees of one's own. -/
def KdR (ns : List Nd) (v : Value) (H H' : Heap) : Prop := ∃ g, LsO H' (fun x => x < H.size) 25 5 v (ns.map Nd.dat) g ∧ ∀ b, g = some b → H.size ≤ b
/-- What a call leaves with a row of its own. -/
theorem _root_.Gx.Lv.callRow {O0 O : List Nat} {S S' : Heap → Prop} {H0 H H' : Heap} {l : List Ent} {ds : List (Dat × List Value)} {e m : Nat} {v : Value} {dl : List Dat} {g : Option Nat} (L : Lv O0 H0 O S H l ds) (hf : Fr O H H')
    (hS : ∀ (M : List Nat) (H'' : Heap), Fr M H' H'' → (∀ x ∈ M, H0.size ≤ x ∧ x ∉ O) → S' H'') (hr : LsO H' (fun x => x < H.size) e m v dl g) (hg : ∀ b, g = some b → H.size ≤ b) : Lv O0 H0 O S' H' (.row e m v dl g :: l) ds := by
  have L' := Lv.call L hf hS
  have hsz := L.fr.size
  have hb : ∀ x, Lk H0.size O (.row e m v dl g :: l) x → Lk H0.size O l x ∨ H.size ≤ x := by
    rintro x (q | q | q)
    · exact .inl (.inl q)
    · exact .inl (.inr (.inl q))
    · simp only [List.flatMap_cons, Ent.bs, List.mem_append, Option.mem_toList] at q
      rcases q with q | q
      · exact .inr (hg x q)
      · exact .inl (.inr (.inr q))
  have hold : ∀ x, Lk H0.size O l x → x < H.size := by
    rintro x (q | q | q)
    · omega
    · exact (L.own x q).1
    · exact (L.lo x q).2.2
  refine ⟨L'.fr, L'.own, ?_, fun x hx => ?_, fun p hp => ?_, fun p hp => ?_, hS⟩
  · simp only [List.flatMap_cons, Ent.bs, List.nodup_append]
    refine ⟨by cases g <;> simp, L.nd, fun a ha b hb => ?_⟩
    have h1 := hg a (by simpa using ha)
    have h2 := (L.lo b hb).2.2
    omega
  · simp only [List.flatMap_cons, Ent.bs, List.mem_append, Option.mem_toList] at hx
    rcases hx with hx | hx
    · have := hg x hx
      exact ⟨by omega, fun q => by have := (L.own x q).1; omega, LsO.lt hr hx⟩
    · exact L'.lo x hx
  · rcases List.mem_cons.1 hp with rfl | hp
    · obtain ⟨css, h1, h2, h3⟩ := hr
      refine ⟨css, h1, h2, h3.more fun x hx => .inl ?_⟩
      rcases hx with (q | q | q) | q
      · exact .inl (by omega)
      · exact .inl (L.own x q).1
      · simp only [List.flatMap_cons, Ent.bs, List.mem_append, Option.mem_toList] at q
        rcases q with q | q
        · exact .inr q
        · exact .inl (L.lo x q).2.2
      · exact .inr q
    · refine Ent.ok_step (L.ok p hp) hf (fun x hx => .inl (.inr (.inl hx))) (fun x hx hm => ?_) hb
      exact (L.lo x (List.mem_flatMap.2 ⟨p, hp, hx⟩)).2.1 hm
  · exact RepP.fr (L.dat p hp) hf (fun x hx => .inl (.inr (.inl hx))) hb
section
variable {X : Cx} {H0 H H' : Heap} {ts0 ts r : List Tk} {k0 k : Nat} {l : List Ent} {ds : List (Dat × List Value)} {γ : Type} {P0 : Except Flt (γ × List Tk)} {Q : Value → Heap → Prop}
theorem POk.goR {f : Nat} {av : List Value} {p : PP (List Nd)} {g : List Nd → PP γ} (h : POk k f av p KdR) (h0 : Ps X H0 ts0 k0) (L : PLv X H0 ts k H l ds) (hp : P0 = bd p g ts)
    (hR : ∀ ns a c gb r H', PLv X H0 r k H' (.row 25 5 (.slice a ns.length c) (ns.map Nd.dat) gb :: l) ds → P0 = g ns r → p ts = .ok (ns, r) → Q (.slice a ns.length c) H') : PCalls Tryz.prog f (ptr X.b :: av).toArray H Q (PEr X H0 P0) :=
  h.use L.ps (fun e H' he hf => ⟨e, by rw [hp, bd_err he], rfl, L.fr.trans hf⟩) fun ns r v H' he ⟨gb, h1, h2⟩ hs hf => by
    obtain ⟨a, c, hv, _⟩ := h1.slice
    rw [List.length_map] at hv
    subst hv
    exact hR ns a c gb r H' (L.callRow hf (fun M H'' hf' hM => Ps.on h0 hs hf' fun x hx => (hM x hx).1) h1 h2) (by rw [hp, bd_ok he]) he
/-- A row is returned. -/
theorem _root_.Gx.Lv.finR {P0 : Except Flt (List Nd × List Tk)} {ns : List Nd} {v : Value} {g : Option Nat} (L : PLv X H0 r k H l ds) (hp : P0 = ret ns r) (i : Nat) (hi : l[i]? = some (.row 25 5 v (ns.map Nd.dat) g)) :
    ∃ a r, P0 = .ok (a, r) ∧ KdR a v H0 H ∧ Ps X H r k ∧ Fr [X.b] H0 H :=
  ⟨ns, r, hp, ⟨g, (L.rowGet i hi).ext (Fr.refl [] _) fun x hx => .inl (.inl hx), fun b hb => (L.lo b (List.mem_flatMap.2 ⟨_, List.mem_of_getElem? hi, by simp [Ent.bs, hb]⟩)).1⟩, L.ps, L.fr⟩
end

theorem quotes_ok {k : Nat} : POk k 62 [] quotesP KdR := by
  refine ⟨fun {X H ts} hs => ?_⟩
  refine pcalls_of_vc (args := [_]) Tryz.func62 c62ok (Nat.le_of_ble_eq_true rfl) ?_
  have L := hs.walk
  have hcap := hs.cap
  simp (implicitDefEqProofs := false) only [go_sem, c62]
  refine quote_ok.goN hs L (P0 := quotesP ts) rfl fun kk tt nn aa ks kv r H1 L hp he => ?_
  simp (implicitDefEqProofs := false) only [go_sem]
  refine L.newS fun b1 H2 L => ?_
  have L := L.rowN1 (ks := ks) (by simp)
  have hlen : r.length ≤ 1048576 := by
    obtain ⟨i', _, e', _⟩ := L.ps.ex
    rw [e', List.length_drop]; omega
  simp (implicitDefEqProofs := false) only [go_sem]
  refine vc_loop (fun (s : List Tk × List Nd × Value) H' => ∃ g f, PLv X H s.1 k H' [.row 25 5 s.2.2 (s.2.1.map Nd.dat) g] [] ∧ quotesP ts = quotesF f s.2.1 s.1 ∧ s.1.length ≤ f ∧ s.2.1.length + s.1.length ≤ 1048577)
    (fun s => [(0, ptr X.b), (3, s.2.2)]) (fun s => s.1.length) (r, [.mk kk tt nn aa ks], .slice (some ⟨b1, 0, none⟩) 1 1) ?_ ?_ ?_
  · exact ⟨_, r.length, L.drop (List.Sublist.refl _) (by simp), hp, Nat.le_refl _, by simp; omega⟩
  · simp (implicitDefEqProofs := false) only [go_sem, ptr]
  · rintro ⟨cur, ns, v⟩ H3 ⟨g, f, L, hp, hf, hle⟩
    simp only at L hp hf hle ⊢
    have hcur := List.length_pos_iff.2 L.ps.nil
    obtain ⟨f, rfl⟩ : ∃ f', f = f' + 1 := ⟨f - 1, by omega⟩
    have htl : cur.tail.length = cur.length - 1 := by simp
    conv at hp => rhs; unfold quotesF
    simp (implicitDefEqProofs := false) only [go_sem]
    refine accept_go hs L [44] (fun e H4 L => ?_) fun e H4 L => ?_
    · rw [if_pos e] at hp
      have hct := List.length_pos_iff.2 L.ps.nil
      simp (implicitDefEqProofs := false) only [go_sem]
      refine quote_ok.goN hs L hp fun kk tt nn aa ks kv r' H5 L hp he => ?_
      have hle1 := quoteP_dn.of he
      simp (implicitDefEqProofs := false) only [go_sem]
      refine L.newS fun bA HA L => ?_
      simp (implicitDefEqProofs := false) only [go_sem]
      refine L.appN (ns := ns) (ks := ks) 0 rfl (by simp) (by omega) fun a c g' HB L => ?_
      simp only [List.set_cons_zero, List.set_cons_succ, List.set_nil, List.eraseIdx_cons_zero, List.eraseIdx_cons_succ] at L
      simp (implicitDefEqProofs := false) only [go_sem]
      refine loopK_intro (r', ns ++ [.mk kk tt nn aa ks], .slice a (ns ++ [Nd.mk kk tt nn aa ks]).length c) ?_ ?_ ⟨g', f, L.drop (List.Sublist.refl _) (by simp), hp, show r'.length ≤ f by omega, ?_⟩
      · show r'.length < cur.length
        omega
      · simp (implicitDefEqProofs := false) only [go_sem]
      · simp only [List.length_append, List.length_cons, List.length_nil]; omega
    · rw [if_neg (nb e)] at hp
      simp (implicitDefEqProofs := false) only [go_sem]
      exact L.finR hp 0 rfl
theorem allowed_ok {k : Nat} : POk k 41 [] allowedP KdR := by
  refine ⟨fun {X H ts} hs => ?_⟩
  refine pcalls_of_vc (args := [_]) Tryz.func41 c41ok (Nat.le_of_ble_eq_true rfl) ?_
  have L := hs.walk
  obtain ⟨hp, _⟩ : allowedP ts = allowedP ts ∧ True := ⟨rfl, trivial⟩
  conv at hp => rhs; unfold allowedP
  simp (implicitDefEqProofs := false) only [go_sem, c41]
  refine accept_go hs L [40] (fun e H1 L => ?_) fun e H1 L => ?_
  · rw [if_pos e] at hp
    simp (implicitDefEqProofs := false) only [go_sem]
    refine quotes_ok.goR hs L hp fun ns a c gb r H2 L hp _ => ?_
    simp (implicitDefEqProofs := false) only [go_sem]
    refine (expect_ok [41]).go hs L hp fun _ r v H3 L hp _ _ => ?_
    simp (implicitDefEqProofs := false) only [go_sem]
    exact L.finR hp 0 rfl
  · rw [if_neg (nb e)] at hp
    simp (implicitDefEqProofs := false) only [go_sem]
    exact (L.row0 25 5).finR (ns := []) hp 0 rfl

theorem two_ok {k g : Nat} {p : PP Nd} (hg : hasBody Tryz.prog g = true) (hop : POk k g [] p NdR) {X : Cx} {H : Heap} {ts : List Tk} (hs : Ps X H ts k) :
    PCalls Tryz.prog 42 #[ptr X.b, .func (.func g) #[ptr X.b] #[]] H (fun v H' => ∃ a r, twoP p ts = .ok (a, r) ∧ KdR a v H H' ∧ Ps X H' r k ∧ Fr [X.b] H H') (PEr X H (twoP p ts)) := by
  refine pcalls_of_vc (args := [_, _]) Tryz.func42 c42ok (Nat.le_of_ble_eq_true rfl) ?_
  have L := hs.walk
  simp (implicitDefEqProofs := false) only [go_sem, c42]
  refine (expect_ok [40]).go hs L (P0 := twoP p ts) rfl fun _ r v H1 L hp _ _ => ?_
  simp (implicitDefEqProofs := false) only [go_sem]
  refine ⟨hg, hop.goN hs L hp fun kk tt nn aa ks kv r H2 L hp _ => ?_⟩
  simp (implicitDefEqProofs := false) only [go_sem]
  refine L.newP fun b1 H3 L => ?_
  simp (implicitDefEqProofs := false) only [go_sem]
  refine L.stoAll 0 rfl rfl (one_agg (L.one (ks := ks) (by simp))) fun H4 L => ?_
  simp only [List.set_cons_zero, List.set_cons_succ, List.set_nil, List.eraseIdx_cons_zero, List.eraseIdx_cons_succ] at L
  simp (implicitDefEqProofs := false) only [go_sem]
  refine (expect_ok [44]).go hs L hp fun _ r v H5 L hp _ _ => ?_
  simp (implicitDefEqProofs := false) only [go_sem]
  refine ⟨hg, hop.goN hs L hp fun kk' tt' nn' aa' ks' kv' r H6 L hp _ => ?_⟩
  simp (implicitDefEqProofs := false) only [go_sem]
  refine L.newP fun b2 H7 L => ?_
  simp (implicitDefEqProofs := false) only [go_sem]
  refine L.stoAll 0 rfl rfl (one_agg (L.one (ks := ks') (by simp))) fun H8 L => ?_
  simp only [List.set_cons_zero, List.set_cons_succ, List.set_nil, List.eraseIdx_cons_zero, List.eraseIdx_cons_succ] at L
  simp (implicitDefEqProofs := false) only [go_sem]
  refine (expect_ok [41]).go hs L hp fun _ r v H9 L hp _ _ => ?_
  have c := L.cell 0 rfl
  have c' := L.cell 1 rfl
  simp (implicitDefEqProofs := false) only [go_sem, c, c']
  refine L.newS fun b3 H10 L => ?_
  simp (implicitDefEqProofs := false) only [go_sem]
  have L := L.rowOwn (dl := [Nd.mk kk tt nn aa ks, Nd.mk kk' tt' nn' aa' ks'].map Nd.dat) (m := 5) (n := 2) (css := [[.int .i64 kk, sv tt, .int .i64 nn, .int .i64 aa, kv], [.int .i64 kk', sv tt', .int .i64 nn', .int .i64 aa', kv']]) (by simp only [List.flatten_cons, List.flatten_nil, List.append_nil, List.cons_append, List.nil_append]) (by simp) ((RepsP.nil.cons (L.ndr (ks := ks') (by simp))).cons (L.ndr (ks := ks) (by simp))) rfl (by simp [maxLen])
  exact L.finR hp 0 rfl

theorem nth4 {α : Type} {a b c d : α} {P : Nat → α → Prop} (h0 : P 0 a) (h1 : P 1 b) (h2 : P 2 c) (h3 : P 3 d) : ∀ i x, [a, b, c, d][i]? = some x → P i x := by
  intro i x h
  match i, h with
  | 0, h => cases h; exact h0
  | 1, h => cases h; exact h1
  | 2, h => cases h; exact h2
  | 3, h => cases h; exact h3
def sorts : List Bs := [[105, 110, 116], [98, 111, 111, 108], [110, 97, 109, 101], [110, 97, 109, 101, 115]]
theorem sort_ok {k : Nat} : POk k 48 [] sortP IntR' := by
  refine ⟨fun {X H ts} hs => ?_⟩
  refine pcalls_of_vc (args := [_]) Tryz.func48 c48ok (Nat.le_of_ble_eq_true rfl) ?_
  have L := hs.walk
  obtain ⟨hp, _⟩ : sortP ts = sortP ts ∧ True := ⟨rfl, trivial⟩
  conv at hp => rhs; unfold sortP
  simp (implicitDefEqProofs := false) only [go_sem, c48]
  refine L.newS fun b1 H1 L => ?_
  simp (implicitDefEqProofs := false) only [go_sem]
  refine vc_loop (fun (i : Nat) H' => i ≤ 4 ∧ PLv X H ts k H' [.blk b1 9 [.string ⟨⟨[105, 110, 116]⟩⟩, .string ⟨⟨[98, 111, 111, 108]⟩⟩, .string ⟨⟨[110, 97, 109, 101]⟩⟩, .string ⟨⟨[110, 97, 109, 101, 115]⟩⟩]] [] ∧ ∀ j s, j < i → sorts[j]? = some s → isB s ts = false)
    (fun i => [(0, ptr X.b), (5, .slice (some ⟨b1, 0, none⟩) 4 4), (6, .int .i64 4), (7, .int .i64 i)]) (fun i => 4 - i) 0 ?_ ?_ ?_
  · exact ⟨by decide, L, fun j s h => by omega⟩
  · simp (implicitDefEqProofs := false) only [go_sem, ptr]
  · rintro i H2 ⟨hi, L, hno⟩
    have h5 : i = 0 ∨ i = 1 ∨ i = 2 ∨ i = 3 ∨ i = 4 := by omega
    rcases h5 with rfl | rfl | rfl | rfl | rfl
    · have c := L.cell 0 rfl
      have w : IntKind.i64.wrap 1 = 1 := rfl
      simp (implicitDefEqProofs := false) only [go_sem, c]
      refine accept_go hs L [105, 110, 116] (fun e H3 L => ?_) fun e H3 L => ?_
      · skip
        rw [if_pos e] at hp
        simp (implicitDefEqProofs := false) only [go_sem, w]
        exact ⟨1, ts.tail, hp, rfl, L.ps, L.fr⟩
      · simp (implicitDefEqProofs := false) only [go_sem]
        refine loopK_intro (1 : Nat) (by simp) ?_ ⟨by simp, L, fun j s hj hsj => ?_⟩
        · simp (implicitDefEqProofs := false) only [go_sem, w]
        · rcases Nat.lt_or_ge j (1 - 1) with q | q
          · exact hno j s (by omega) hsj
          · obtain rfl : j = 1 - 1 := by omega
            simp [sorts] at hsj
            subst hsj; exact e
    · have c := L.cell 0 rfl
      have w : IntKind.i64.wrap 2 = 2 := rfl
      simp (implicitDefEqProofs := false) only [go_sem, c]
      refine accept_go hs L [98, 111, 111, 108] (fun e H3 L => ?_) fun e H3 L => ?_
      · rw [if_neg (nb (hno 0 _ (by omega) rfl))] at hp
        rw [if_pos e] at hp
        simp (implicitDefEqProofs := false) only [go_sem, w]
        exact ⟨2, ts.tail, hp, rfl, L.ps, L.fr⟩
      · simp (implicitDefEqProofs := false) only [go_sem]
        refine loopK_intro (2 : Nat) (by simp) ?_ ⟨by simp, L, fun j s hj hsj => ?_⟩
        · simp (implicitDefEqProofs := false) only [go_sem, w]
        · rcases Nat.lt_or_ge j (2 - 1) with q | q
          · exact hno j s (by omega) hsj
          · obtain rfl : j = 2 - 1 := by omega
            simp [sorts] at hsj
            subst hsj; exact e
    · have c := L.cell 0 rfl
      have w : IntKind.i64.wrap 3 = 3 := rfl
      simp (implicitDefEqProofs := false) only [go_sem, c]
      refine accept_go hs L [110, 97, 109, 101] (fun e H3 L => ?_) fun e H3 L => ?_
      · rw [if_neg (nb (hno 0 _ (by omega) rfl)), if_neg (nb (hno 1 _ (by omega) rfl))] at hp
        rw [if_pos e] at hp
        simp (implicitDefEqProofs := false) only [go_sem, w]
        exact ⟨3, ts.tail, hp, rfl, L.ps, L.fr⟩
      · simp (implicitDefEqProofs := false) only [go_sem]
        refine loopK_intro (3 : Nat) (by simp) ?_ ⟨by simp, L, fun j s hj hsj => ?_⟩
        · simp (implicitDefEqProofs := false) only [go_sem, w]
        · rcases Nat.lt_or_ge j (3 - 1) with q | q
          · exact hno j s (by omega) hsj
          · obtain rfl : j = 3 - 1 := by omega
            simp [sorts] at hsj
            subst hsj; exact e
    · have c := L.cell 0 rfl
      have w : IntKind.i64.wrap 4 = 4 := rfl
      simp (implicitDefEqProofs := false) only [go_sem, c]
      refine accept_go hs L [110, 97, 109, 101, 115] (fun e H3 L => ?_) fun e H3 L => ?_
      · rw [if_neg (nb (hno 0 _ (by omega) rfl)), if_neg (nb (hno 1 _ (by omega) rfl)), if_neg (nb (hno 2 _ (by omega) rfl))] at hp
        rw [if_pos e] at hp
        simp (implicitDefEqProofs := false) only [go_sem, w]
        exact ⟨4, ts.tail, hp, rfl, L.ps, L.fr⟩
      · simp (implicitDefEqProofs := false) only [go_sem]
        refine loopK_intro (4 : Nat) (by simp) ?_ ⟨by simp, L, fun j s hj hsj => ?_⟩
        · simp (implicitDefEqProofs := false) only [go_sem, w]
        · rcases Nat.lt_or_ge j (4 - 1) with q | q
          · exact hno j s (by omega) hsj
          · obtain rfl : j = 4 - 1 := by omega
            simp [sorts] at hsj
            subst hsj; exact e
    · rw [if_neg (nb (hno 0 _ (by omega) rfl)), if_neg (nb (hno 1 _ (by omega) rfl)), if_neg (nb (hno 2 _ (by omega) rfl)), if_neg (nb (hno 3 _ (by omega) rfl))] at hp
      simp (implicitDefEqProofs := false) only [go_sem]
      exact fail_go L hp
end Go.Proofs.YtbgjgaaobnbijaaGreatDoor
end
section
/- Lattices: contracts. -/
set_option linter.unusedSimpArgs false
set_option linter.unusedVariables false
set_option maxRecDepth 8000
namespace Go.Proofs.YtbgjgaaobnbijaaGreatDoor
open Gx Go

theorem takeP_eq {k : Int} {ts r : List Tk} {t : Tk} (h : takeP k ts = .ok (t, r)) : t = hd ts ∧ t.kind = k ∧ r = ts.tail := by
  unfold takeP at h
  split at h
  · cases h; exact ⟨rfl, by assumption, rfl⟩
  · cases h
theorem quoteP_eq {ts r : List Tk} {n : Nd} (h : quoteP ts = .ok (n, r)) : n = .mk 47 (hd ts).text 0 (hd ts).at_ [] ∧ (hd ts).kind = 4 ∧ r = ts.tail := by
  unfold quoteP bd at h
  split at h
  · cases h
  · rename_i t q hq
    obtain ⟨rfl, h2, rfl⟩ := takeP_eq hq
    cases h; exact ⟨rfl, h2, rfl⟩
theorem hd_pos {ts : List Tk} {k : Int} (h : (hd ts).kind = k) (hk : k ≠ 6) : 0 < ts.length := by
  cases ts with
  | nil => exact absurd h.symm hk
  | cons t r => simp
theorem quotesF_len : ∀ (f : Nat) (l ns : List Nd) (ts r : List Tk), quotesF f l ts = .ok (ns, r) → ns.length + r.length ≤ l.length + ts.length
  | 0, l, ns, ts, r, h => by
    simp only [quotesF, ret, Except.ok.injEq, Prod.mk.injEq] at h
    obtain ⟨rfl, rfl⟩ := h; exact Nat.le_refl _
  | f + 1, l, ns, ts, r, h => by
    simp only [quotesF] at h
    split at h
    · unfold bd at h
      split at h
      · cases h
      · rename_i a q hq
        have h1 := quotesF_len f _ _ _ _ h
        have h2 := (quoteP_eq hq).2
        have h3 := hd_pos h2.1 (by decide)
        rw [h2.2] at h1
        simp only [List.length_append, List.length_cons, List.length_nil, List.length_tail] at h1 h3
        omega
    · cases h; exact Nat.le_refl _
theorem quotesP_len {ns : List Nd} {ts r : List Tk} (h : quotesP ts = .ok (ns, r)) : ns.length + r.length ≤ ts.length := by
  unfold quotesP bd at h
  split at h
  · cases h
  · rename_i a q hq
    have h1 := quotesF_len _ _ _ _ _ h
    have h2 := (quoteP_eq hq).2
    have h3 := hd_pos h2.1 (by decide)
    rw [h2.2] at h1
    simp only [List.length_cons, List.length_nil, List.length_tail] at h1
    omega
theorem _root_.Gx.Lv.len {X : Cx} {H0 H : Heap} {ts : List Tk} {k : Nat} {l : List Ent} {ds : List (Dat × List Value)} (L : PLv X H0 ts k H l ds) : ts.length ≤ 1048576 := by
  obtain ⟨i', _, e', _⟩ := L.ps.ex
  have := L.ps.cap
  rw [e', List.length_drop]; omega

theorem param_ok {k : Nat} : POk k 47 [] paramP NdR := by
  refine ⟨fun {X H ts} hs => ?_⟩
  refine pcalls_of_vc (args := [_]) Tryz.func47 c47ok (Nat.le_of_ble_eq_true rfl) ?_
  have L := hs.walk
  have hp : paramP ts = bd (namedP 6) (fun n => match n with | .mk kk tt nn aa ks => bd (expP [58]) fun _ => bd sortP fun s => ret (.mk kk tt s aa ks)) ts := by
    unfold paramP namedP
    rw [bd_bd]; rfl
  simp (implicitDefEqProofs := false) only [go_sem, c47]
  refine L.newP fun b1 H1 L => ?_
  simp (implicitDefEqProofs := false) only [go_sem]
  refine (named_ok 6).goN hs L hp fun kk tt nn aa ks kv r H2 L hp _ => ?_
  simp only at hp
  simp (implicitDefEqProofs := false) only [go_sem]
  refine L.newP fun b2 H3 L => ?_
  simp (implicitDefEqProofs := false) only [go_sem]
  refine L.stoAll 0 rfl rfl (one_agg (L.one (ks := ks) (by simp))) fun H4 L => ?_
  simp only [List.set_cons_zero, List.set_cons_succ, List.set_nil, List.eraseIdx_cons_zero, List.eraseIdx_cons_succ] at L
  simp (implicitDefEqProofs := false) only [go_sem]
  refine (expect_ok [58]).go hs L hp fun _ r v H5 L hp _ _ => ?_
  simp (implicitDefEqProofs := false) only [go_sem]
  refine sort_ok.go hs L hp fun n r v H6 L hp _ hv => ?_
  cases hv
  simp (implicitDefEqProofs := false) only [go_sem]
  refine L.stoOne 0 rfl (by simp) rfl fun H7 L => ?_
  simp only [List.set_cons_zero, List.set_cons_succ, List.set_nil, List.eraseIdx_cons_zero, List.eraseIdx_cons_succ] at L
  have c := L.cell 0 rfl
  simp (implicitDefEqProofs := false) only [go_sem, c]
  refine L.stoAll 1 rfl rfl (one_agg (L.one (ks := ks) (by simp))) fun HZ L => ?_
  simp only [List.set_cons_zero, List.set_cons_succ, List.set_nil, List.eraseIdx_cons_zero, List.eraseIdx_cons_succ] at L
  have c := L.cell 1 rfl
  simp (implicitDefEqProofs := false) only [go_sem, c]
  exact L.fin hp (.inl (by simp))

/-- A rule, behind its premises. -/
theorem rule_rest {k : Nat} {X : Cx} {H H1 : Heap} {ts r : List Tk} {b : Nat} {ns qs : List Nd} {v w : Value} {g gq : Option Nat} {aa : Int} {γ : Type} {P0 : Except Flt (γ × List Tk)} {G : Nd → PP γ} {x1 x4 x5 x6 : Option Value} {Q : Post} (hs : Ps X H ts k)
    (L : PLv X H r k H1 [.row 25 5 w (qs.map Nd.dat) gq, .blk b 25 [.int .i64 20, sv [], .int .i64 0, .int .i64 aa, w], .row 25 5 v (ns.map Nd.dat) g] []) (hl : qs.length + 1 ≤ 1048576) (hl2 : ns.length + 1 ≤ 1048576)
    (hp : P0 = bd (bd (expP [61, 62]) fun _ => bd quoteP fun c => ret (.mk 20 [] 0 aa (qs ++ [c]))) G r)
    (hQ : ∀ a c g' H' r' n, PLv X H r' k H' [.row 25 5 (.slice a (ns.length + 1) c) ((ns ++ [n]).map Nd.dat) g'] [] → P0 = G n r' → r'.length ≤ r.length → Q .nrm [some (ptr X.b), x1, some (.slice a (ns.length + 1) c), some (.pointer (some ⟨b, 0, none⟩)), x4, x5, x6] H') :
    vc Tryz.prog (PEr X H P0) c44s17 [some (ptr X.b), x1, some v, some (.pointer (some ⟨b, 0, none⟩)), x4, x5, x6] H1 Q := by
  rw [c44s17eq]
  simp only [bd_bd] at hp
  simp (implicitDefEqProofs := false) only [go_sem]
  refine (expect_ok [61, 62]).go hs L hp fun _ r1 v H2 L hp he _ => ?_
  have hle1 := (expP_dn _).of he
  rw [bd_bd] at hp
  have c := L.cell 1 rfl
  simp (implicitDefEqProofs := false) only [go_sem, c]
  refine quote_ok.goN hs L hp fun kk tt nn aa' ks kv r2 H3 L hp he => ?_
  have hle2 := quoteP_dn.of he
  have c := L.cell 1 rfl
  simp (implicitDefEqProofs := false) only [go_sem, c]
  refine L.newS fun bA HA L => ?_
  have c := L.cell 2 rfl
  simp (implicitDefEqProofs := false) only [go_sem, c]
  refine L.appN (ns := qs) (ks := ks) 0 rfl (by simp) hl fun a c g' HB L => ?_
  simp only [List.set_cons_zero, List.set_cons_succ, List.set_nil, List.eraseIdx_cons_zero, List.eraseIdx_cons_succ] at L
  simp (implicitDefEqProofs := false) only [go_sem]
  refine L.stoOne 1 rfl (by simp) rfl fun HC L => ?_
  simp only [List.set_cons_zero, List.set_cons_succ, List.set_nil, List.eraseIdx_cons_zero, List.eraseIdx_cons_succ] at L
  have L := L.rowN 0 (qs ++ [.mk kk tt nn aa' ks]) rfl
  simp only [List.set_cons_zero, List.set_cons_succ, List.set_nil, List.eraseIdx_cons_zero, List.eraseIdx_cons_succ] at L
  have c := L.cell 0 rfl
  simp (implicitDefEqProofs := false) only [go_sem, c]
  refine L.newS fun bD HD L => ?_
  simp (implicitDefEqProofs := false) only [go_sem]
  refine L.appN (kk := 20) (tt := []) (nn := 0) (aa := aa) (ns := ns) (ks := qs ++ [.mk kk tt nn aa' ks]) 1 rfl (by simp) hl2 fun a c g' HB L => ?_
  simp only [List.set_cons_zero, List.set_cons_succ, List.set_nil, List.eraseIdx_cons_zero, List.eraseIdx_cons_succ] at L
  have e : (ns ++ [Nd.mk 20 [] 0 aa (qs ++ [.mk kk tt nn aa' ks])]).length = ns.length + 1 := by simp
  rw [e] at L ⊢
  simp (implicitDefEqProofs := false) only [go_sem]
  exact hQ a c g' HB r2 _ (L.drop (by simp) (by simp)) hp (by omega)

theorem ruleP_bd {γ : Type} {G : Nd → PP γ} {ts : List Tk} : bd ruleP G ts = bd optQ (fun q => bd (bd (expP [61, 62]) fun _ => bd quoteP fun c => ret (.mk 20 [] 0 (hd ts).at_ (q ++ [c]))) G) ts := by
  have e : ruleP ts = bd optQ (fun q => bd (expP [61, 62]) fun _ => bd quoteP fun c => ret (.mk 20 [] 0 (hd ts).at_ (q ++ [c]))) ts := rfl
  rw [← bd_bd]
  unfold bd at e ⊢
  rw [e]
theorem optQ_y {γ : Type} {G : List Nd → PP γ} {ts : List Tk} (h : (hd ts).kind = 4) : bd optQ G ts = bd quotesP G ts := by
  unfold bd optQ; rw [if_pos h]
theorem optQ_n {γ : Type} {G : List Nd → PP γ} {ts : List Tk} (h : (hd ts).kind ≠ 4) : bd optQ G ts = G [] ts := by
  unfold bd optQ; rw [if_neg h]
set_option maxHeartbeats 1000000 in
theorem closed_rest {k : Nat} {X : Cx} {H H1 : Heap} {ts r : List Tk} {ns : List Nd} {v : Value} {g : Option Nat} {P0 : Except Flt (List Nd × List Tk)} {x1 x3 x4 x5 x6 : Option Value} (hs : Ps X H ts k)
    (L : PLv X H r k H1 [.row 25 5 v (ns.map Nd.dat) g] []) (hl : ns.length + r.length ≤ 1048577)
    (hp : P0 = bd (rulesF r.length ns) (fun l => bd (expP [41]) fun _ => ret l) r) :
    vc Tryz.prog (PEr X H P0) c44s25 [some (ptr X.b), x1, some v, x3, x4, x5, x6] H1 (finQ c44.res fun v H' => ∃ a r, P0 = .ok (a, r) ∧ KdR a v H H' ∧ Ps X H' r k ∧ Fr [X.b] H H') := by
  rw [c44s25eq]
  simp (implicitDefEqProofs := false) only [go_sem, c44]
  refine vc_loop (fun (s : List Tk × List Nd × Value) H' => ∃ g f, PLv X H s.1 k H' [.row 25 5 s.2.2 (s.2.1.map Nd.dat) g] [] ∧ P0 = bd (rulesF f s.2.1) (fun l => bd (expP [41]) fun _ => ret l) s.1 ∧ s.1.length ≤ f ∧ s.2.1.length + s.1.length ≤ 1048577)
    (fun s => [(0, ptr X.b), (3, s.2.2)]) (fun s => s.1.length) (r, ns, v) ?_ ?_ ?_
  · exact ⟨g, _, L, hp, Nat.le_refl _, hl⟩
  · simp (implicitDefEqProofs := false) only [go_sem]
  · rintro ⟨cur, ns, v⟩ H3 ⟨g, f, L, hp, hf, hle⟩
    simp only at L hp hf hle ⊢
    have hcur := List.length_pos_iff.2 L.ps.nil
    obtain ⟨f, rfl⟩ : ∃ f', f = f' + 1 := ⟨f - 1, by omega⟩
    have htl : cur.tail.length = cur.length - 1 := by simp
    have hp : P0 = if isB [59] cur then bd ruleP (fun x => bd (rulesF f (ns ++ [x])) (fun l => bd (expP [41]) fun _ => ret l)) cur.tail else bd (expP [41]) (fun _ => ret ns) cur := by
      rw [hp]
      conv => lhs; unfold bd rulesF
      by_cases e : isB [59] cur = true
      · simp only [e, if_true]
        rw [← bd_bd]; rfl
      · simp only [e, if_false]; rfl
    simp (implicitDefEqProofs := false) only [go_sem]
    refine accept_go hs L [59] (fun e H4 L => ?_) fun e H4 L => ?_
    · rw [if_pos e, ruleP_bd] at hp
      have hct := List.length_pos_iff.2 L.ps.nil
      simp (implicitDefEqProofs := false) only [go_sem]
      refine look_go L fun H5 L => ?_
      simp (implicitDefEqProofs := false) only [go_sem, tkC]
      refine L.newP fun b H6 L => ?_
      simp (implicitDefEqProofs := false) only [go_sem]
      refine L.stoAll 0 rfl rfl (one_agg (t := []) rfl) fun H7 L => ?_
      simp only [List.set_cons_zero, List.set_cons_succ, List.set_nil, List.eraseIdx_cons_zero, List.eraseIdx_cons_succ] at L
      simp (implicitDefEqProofs := false) only [go_sem]
      refine look_go L fun H8 L => ?_
      by_cases k4 : (hd cur.tail).kind = 4
      · rw [optQ_y k4] at hp
        simp (implicitDefEqProofs := false) only [go_sem, tkC, k4]
        refine quotes_ok.goR hs L hp fun qs aw cw gq r1 H9 L hp he => ?_
        have hql := quotesP_len he
        simp (implicitDefEqProofs := false) only [go_sem]
        refine L.stoOne 1 rfl (by simp) rfl fun H10 L => ?_
        simp only [List.set_cons_zero, List.set_cons_succ, List.set_nil, List.eraseIdx_cons_zero, List.eraseIdx_cons_succ] at L
        simp (implicitDefEqProofs := false) only [go_sem]
        refine rule_rest hs L (by have := List.length_pos_iff.2 L.ps.nil; omega) (by omega) hp fun a c g' H' r' n L hp hle' => ?_
        simp (implicitDefEqProofs := false) only [go_sem]
        refine loopK_intro (r', ns ++ [n], .slice a (ns.length + 1) c) ?_ ?_ ⟨g', f, L, hp, show r'.length ≤ f by omega, ?_⟩
        · show r'.length < cur.length
          omega
        · simp (implicitDefEqProofs := false) only [go_sem]
        · simp only [List.length_append, List.length_cons, List.length_nil]; omega
      · rw [optQ_n k4] at hp
        simp (implicitDefEqProofs := false) only [go_sem, tkC, k4]
        have L := L.row0 25 5
        refine rule_rest hs (qs := []) L (by decide) (by omega) hp fun a c g' H' r' n L hp hle' => ?_
        simp (implicitDefEqProofs := false) only [go_sem]
        refine loopK_intro (r', ns ++ [n], .slice a (ns.length + 1) c) ?_ ?_ ⟨g', f, L, hp, show r'.length ≤ f by omega, ?_⟩
        · show r'.length < cur.length
          omega
        · simp (implicitDefEqProofs := false) only [go_sem]
        · simp only [List.length_append, List.length_cons, List.length_nil]; omega
    · rw [if_neg (nb e)] at hp
      simp (implicitDefEqProofs := false) only [go_sem]
      refine (expect_ok [41]).go hs L hp fun _ r v H3 L hp _ _ => ?_
      simp (implicitDefEqProofs := false) only [go_sem]
      exact L.finR hp 0 rfl
theorem closed_ok {k : Nat} : POk k 44 [] closedP KdR := by
  refine ⟨fun {X H ts} hs => ?_⟩
  refine pcalls_of_vc (args := [_]) Tryz.func44 c44ok (Nat.le_of_ble_eq_true rfl) ?_
  have L := hs.walk
  simp (implicitDefEqProofs := false) only [go_sem, c44]
  refine (expect_ok [40]).go hs L (P0 := closedP ts) rfl fun _ r v H1 L hp _ _ => ?_
  have hlen := L.len
  simp (implicitDefEqProofs := false) only [go_sem]
  refine look_go L fun H2 L => ?_
  by_cases k4 : (hd r).kind = 4
  · rw [optQ_y k4] at hp
    simp (implicitDefEqProofs := false) only [go_sem, tkC, k4]
    refine quotes_ok.goR hs L hp fun qs aw cw gq r1 H3 L hp he => ?_
    have hql := quotesP_len he
    simp (implicitDefEqProofs := false) only [go_sem]
    exact closed_rest hs L (by omega) hp
  · rw [optQ_n k4] at hp
    simp (implicitDefEqProofs := false) only [go_sem, tkC, k4]
    exact closed_rest (ns := []) hs (L.row0 25 5) (by simp; omega) hp
end Go.Proofs.YtbgjgaaobnbijaaGreatDoor
end
section
/- Lattices: the contract. -/
set_option linter.unusedSimpArgs false
set_option linter.unusedVariables false
set_option maxRecDepth 8000
namespace Go.Proofs.YtbgjgaaobnbijaaGreatDoor
open Gx Go
section
variable {X : Cx} {H0 H H' : Heap} {ts0 ts r : List Tk} {k0 k : Nat} {l : List Ent} {ds : List (Dat × List Value)} {γ : Type} {P0 : Except Flt (γ × List Tk)} {Q : Value → Heap → Prop}
theorem two_go {g : Nat} {p : PP Nd} {G : List Nd → PP γ} (hg : hasBody Tryz.prog g = true) (hop : POk k g [] p NdR) (h0 : Ps X H0 ts0 k0) (L : PLv X H0 ts k H l ds) (hp : P0 = bd (twoP p) G ts)
    (hR : ∀ ns a c gb r H', PLv X H0 r k H' (.row 25 5 (.slice a ns.length c) (ns.map Nd.dat) gb :: l) ds → P0 = G ns r → Q (.slice a ns.length c) H') : PCalls Tryz.prog 42 #[ptr X.b, .func (.func g) #[ptr X.b] #[]] H Q (PEr X H0 P0) :=
  PCalls.mono (two_ok hg hop L.ps) (fun v H' ⟨ns, r, he, ⟨gb, h1, h2⟩, hs, hf⟩ => by
    obtain ⟨a, c, hv, _⟩ := h1.slice
    rw [List.length_map] at hv
    subst hv
    exact hR ns a c gb r H' (L.callRow hf (fun M H'' hf' hM => Ps.on h0 hs hf' fun x hx => (hM x hx).1) h1 h2) (by rw [hp, bd_ok he])) fun ch H' ⟨e, h1, h2, h3⟩ => ⟨e, by rw [hp, bd_err h1], h2, L.fr.trans h3⟩
end
theorem memP_eq (x : PP Nd) : memP x = bd (namedP 22) (fun n => match n with | .mk kk tt nn aa ks => bd (expP [58]) fun _ => bd x fun y => ret (.mk kk tt nn aa [y])) := by
  funext ts
  unfold memP namedP
  rw [bd_bd]; rfl
theorem allowedP_len {ns : List Nd} {ts r : List Tk} (h : allowedP ts = .ok (ns, r)) : ns.length + r.length ≤ ts.length := by
  unfold allowedP bd at h
  split at h
  · split at h
    · cases h
    · rename_i a q hq
      have h1 := quotesP_len hq
      simp only [List.length_tail] at h1
      replace h : bd (expP [41]) (fun _ => ret a) q = .ok (ns, r) := h
      cases hq2 : expP [41] q with
      | error e => rw [bd_err hq2] at h; cases h
      | ok x =>
        have h2 := (expP_dn [41]).of (a := x.1) (r := x.2) hq2
        rw [bd_ok (a := x.1) (r := x.2) hq2] at h
        simp only [ret, Except.ok.injEq, Prod.mk.injEq] at h
        obtain ⟨rfl, rfl⟩ := h
        omega
  · cases h; simp
theorem lo_0' : loL 0 = none := rfl
theorem lo_s' (j : Nat) : ∃ x, loL (j + 1) = some x := ⟨_, rfl⟩

set_option maxHeartbeats 2000000 in
theorem lattice_ok {k : Nat} (hlat : ∀ j, k = j + 1 → POk j 21 [] (levL j) NdR) : POk k 21 [] (latP (loL k)) NdR := by
  refine ⟨fun {X H ts} hs => ?_⟩
  refine pcalls_of_vc (args := [_]) Tryz.func21 c21ok (Nat.le_of_ble_eq_true rfl) ?_
  have L := hs.walk
  obtain ⟨hp, _⟩ : latP (loL k) ts = latP (loL k) ts ∧ True := ⟨rfl, trivial⟩
  conv at hp => rhs; unfold latP
  simp (implicitDefEqProofs := false) only [go_sem, c21]
  refine L.newP fun b1 H1 L => ?_
  simp (implicitDefEqProofs := false) only [go_sem]
  refine look_go L fun H2 L => ?_
  simp (implicitDefEqProofs := false) only [go_sem, tkC]
  refine L.newP fun b2 H3 L => ?_
  simp (implicitDefEqProofs := false) only [go_sem]
  refine L.stoAll 0 rfl rfl (one4' (hd ts)) fun H4 L => ?_
  simp only [List.set_cons_zero, List.set_cons_succ, List.set_nil, List.eraseIdx_cons_zero, List.eraseIdx_cons_succ] at L
  have c := L.cell 0 rfl
  simp (implicitDefEqProofs := false) only [go_sem, c]
  refine L.newP fun b3 H5 L => ?_
  simp (implicitDefEqProofs := false) only [go_sem]
  refine L.stoAll 0 rfl rfl (one_agg (t := []) rfl) fun H6 L => ?_
  simp only [List.set_cons_zero, List.set_cons_succ, List.set_nil, List.eraseIdx_cons_zero, List.eraseIdx_cons_succ] at L
  have c := L.cell 1 rfl
  by_cases k1 : (hd ts).kind = 1
  · rw [if_pos k1] at hp
    simp (implicitDefEqProofs := false) only [go_sem, c, k1]
    refine (named_ok 21).goL hs L hp fun kk tt nn aa ks kv r H5 L hp => ?_
    simp (implicitDefEqProofs := false) only [go_sem]
    refine L.stoAll 2 rfl rfl (one_agg (L.one (ks := ks) (by simp))) fun HZ L => ?_
    simp only [List.set_cons_zero, List.set_cons_succ, List.set_nil, List.eraseIdx_cons_zero, List.eraseIdx_cons_succ] at L
    have c := L.cell 2 rfl
    simp (implicitDefEqProofs := false) only [go_sem, c]
    exact L.fin hp (.inl (by simp))
  rw [if_neg k1] at hp
  simp (implicitDefEqProofs := false) only [go_sem, c, k1]
  refine accept_go hs L [102, 108, 97, 103] (fun e H7 L => ?_) fun e H7 L => ?_
  · rw [if_pos e] at hp
    simp (implicitDefEqProofs := false) only [go_sem]
    refine L.stoOne 0 rfl (by simp) rfl fun H8 L => ?_
    simp only [List.set_cons_zero, List.set_cons_succ, List.set_nil, List.eraseIdx_cons_zero, List.eraseIdx_cons_succ] at L
    simp (implicitDefEqProofs := false) only [go_sem]
    have c := L.cell 0 rfl
    simp (implicitDefEqProofs := false) only [go_sem, c]
    refine L.stoAll 2 rfl rfl (one_agg (t := []) rfl) fun HZ L => ?_
    simp only [List.set_cons_zero, List.set_cons_succ, List.set_nil, List.eraseIdx_cons_zero, List.eraseIdx_cons_succ] at L
    have c := L.cell 2 rfl
    simp (implicitDefEqProofs := false) only [go_sem, c]
    exact L.fin hp (.inr ⟨rfl, rfl⟩)
  rw [if_neg (nb e)] at hp
  simp (implicitDefEqProofs := false) only [go_sem]
  refine accept_go hs L [114, 101, 103, 105, 115, 116, 101, 114] (fun e H7 L => ?_) fun e H7 L => ?_
  · rw [if_pos e] at hp
    simp (implicitDefEqProofs := false) only [go_sem]
    refine L.stoOne 0 rfl (by simp) rfl fun H8 L => ?_
    simp only [List.set_cons_zero, List.set_cons_succ, List.set_nil, List.eraseIdx_cons_zero, List.eraseIdx_cons_succ] at L
    simp (implicitDefEqProofs := false) only [go_sem]
    have c := L.cell 0 rfl
    simp (implicitDefEqProofs := false) only [go_sem, c]
    refine L.stoAll 2 rfl rfl (one_agg (t := []) rfl) fun HZ L => ?_
    simp only [List.set_cons_zero, List.set_cons_succ, List.set_nil, List.eraseIdx_cons_zero, List.eraseIdx_cons_succ] at L
    have c := L.cell 2 rfl
    simp (implicitDefEqProofs := false) only [go_sem, c]
    exact L.fin hp (.inr ⟨rfl, rfl⟩)
  rw [if_neg (nb e)] at hp
  simp (implicitDefEqProofs := false) only [go_sem]
  refine accept_go hs L [115, 101, 116] (fun e H7 L => ?_) fun e H7 L => ?_
  · rw [if_pos e] at hp
    simp (implicitDefEqProofs := false) only [go_sem]
    refine allowed_ok.goR hs L hp fun ns a cw gb r H8 L hp _ => ?_
    simp (implicitDefEqProofs := false) only [go_sem]
    refine L.stoOne 1 rfl (by simp) rfl fun HA L => ?_
    simp only [List.set_cons_zero, List.set_cons_succ, List.set_nil, List.eraseIdx_cons_zero, List.eraseIdx_cons_succ] at L
    simp (implicitDefEqProofs := false) only [go_sem]
    refine L.stoOne 1 rfl (by simp) rfl fun HB L => ?_
    simp only [List.set_cons_zero, List.set_cons_succ, List.set_nil, List.eraseIdx_cons_zero, List.eraseIdx_cons_succ] at L
    have L := L.rowN 0 ns rfl
    simp only [List.set_cons_zero, List.set_cons_succ, List.set_nil, List.eraseIdx_cons_zero, List.eraseIdx_cons_succ] at L
    simp (implicitDefEqProofs := false) only [go_sem]
    have c := L.cell 0 rfl
    simp (implicitDefEqProofs := false) only [go_sem, c]
    refine L.stoAll 2 rfl rfl (one_agg (t := []) rfl) fun HZ L => ?_
    simp only [List.set_cons_zero, List.set_cons_succ, List.set_nil, List.eraseIdx_cons_zero, List.eraseIdx_cons_succ] at L
    have c := L.cell 2 rfl
    simp (implicitDefEqProofs := false) only [go_sem, c]
    exact L.fin hp (.inl (by simp))
  rw [if_neg (nb e)] at hp
  simp (implicitDefEqProofs := false) only [go_sem]
  refine accept_go hs L [102, 108, 97, 116] (fun e H7 L => ?_) fun e H7 L => ?_
  · rw [if_pos e] at hp
    simp (implicitDefEqProofs := false) only [go_sem]
    refine allowed_ok.goR hs L hp fun ns a cw gb r H8 L hp _ => ?_
    simp (implicitDefEqProofs := false) only [go_sem]
    refine L.stoOne 1 rfl (by simp) rfl fun HA L => ?_
    simp only [List.set_cons_zero, List.set_cons_succ, List.set_nil, List.eraseIdx_cons_zero, List.eraseIdx_cons_succ] at L
    simp (implicitDefEqProofs := false) only [go_sem]
    refine L.stoOne 1 rfl (by simp) rfl fun HB L => ?_
    simp only [List.set_cons_zero, List.set_cons_succ, List.set_nil, List.eraseIdx_cons_zero, List.eraseIdx_cons_succ] at L
    have L := L.rowN 0 ns rfl
    simp only [List.set_cons_zero, List.set_cons_succ, List.set_nil, List.eraseIdx_cons_zero, List.eraseIdx_cons_succ] at L
    simp (implicitDefEqProofs := false) only [go_sem]
    have c := L.cell 0 rfl
    simp (implicitDefEqProofs := false) only [go_sem, c]
    refine L.stoAll 2 rfl rfl (one_agg (t := []) rfl) fun HZ L => ?_
    simp only [List.set_cons_zero, List.set_cons_succ, List.set_nil, List.eraseIdx_cons_zero, List.eraseIdx_cons_succ] at L
    have c := L.cell 2 rfl
    simp (implicitDefEqProofs := false) only [go_sem, c]
    exact L.fin hp (.inl (by simp))
  rw [if_neg (nb e)] at hp
  simp (implicitDefEqProofs := false) only [go_sem]
  refine is_go L [109, 97, 112] fun H7 L => ?_
  cases e : isB [109, 97, 112] ts with
  | true =>
    rw [if_pos e] at hp
    simp (implicitDefEqProofs := false) only [go_sem]
    refine enter_go (lo := loL) hs L lo_0' lo_s' hp fun j x H8 hj hx L _ hp => ?_
    cases hx
    simp (implicitDefEqProofs := false) only [go_sem]
    have hlen := L.len
    refine allowed_ok.goR hs L hp fun ns a cw gb r H8 L hp he => ?_
    have hlen2 := allowedP_len he
    have hlen3 := List.length_pos_iff.2 L.ps.nil
    simp (implicitDefEqProofs := false) only [go_sem]
    refine L.stoOne 1 rfl (by simp) rfl fun HA L => ?_
    simp only [List.set_cons_zero, List.set_cons_succ, List.set_nil, List.eraseIdx_cons_zero, List.eraseIdx_cons_succ] at L
    simp (implicitDefEqProofs := false) only [go_sem]
    refine L.stoOne 1 rfl (by simp) rfl fun HB L => ?_
    simp only [List.set_cons_zero, List.set_cons_succ, List.set_nil, List.eraseIdx_cons_zero, List.eraseIdx_cons_succ] at L
    have c := L.cell 1 rfl
    simp (implicitDefEqProofs := false) only [go_sem, c]
    refine (hlat j hj).goN hs L hp fun kk tt nn aa ks kv r H9 L hp _ => ?_
    have c := L.cell 1 rfl
    simp (implicitDefEqProofs := false) only [go_sem, c]
    refine L.newS fun b4 H10 L => ?_
    have c := L.cell 2 rfl
    simp (implicitDefEqProofs := false) only [go_sem, c]
    refine L.appN (ns := ns) (ks := ks) 0 rfl (by simp) (by omega) fun a c g' H11 L => ?_
    simp only [List.set_cons_zero, List.set_cons_succ, List.set_nil, List.eraseIdx_cons_zero, List.eraseIdx_cons_succ] at L
    simp (implicitDefEqProofs := false) only [go_sem]
    refine L.stoOne 1 rfl (by simp) rfl fun H12 L => ?_
    simp only [List.set_cons_zero, List.set_cons_succ, List.set_nil, List.eraseIdx_cons_zero, List.eraseIdx_cons_succ] at L
    have L := L.rowN 0 (ns ++ [.mk kk tt nn aa ks]) rfl
    simp only [List.set_cons_zero, List.set_cons_succ, List.set_nil, List.eraseIdx_cons_zero, List.eraseIdx_cons_succ] at L
    simp (implicitDefEqProofs := false) only [go_sem]
    refine leave_go hs L hj hs.k64 fun _ H13 L => ?_
    have c := L.cell 0 rfl
    simp (implicitDefEqProofs := false) only [go_sem, c]
    refine L.stoAll 2 rfl rfl (one_agg (t := []) rfl) fun HZ L => ?_
    simp only [List.set_cons_zero, List.set_cons_succ, List.set_nil, List.eraseIdx_cons_zero, List.eraseIdx_cons_succ] at L
    have c := L.cell 2 rfl
    simp (implicitDefEqProofs := false) only [go_sem, c]
    exact L.fin hp (.inl (by simp))
  | false =>
  rw [if_neg (nb e)] at hp
  simp (implicitDefEqProofs := false) only [go_sem]
  refine accept_go hs L [109, 97, 120] (fun e H7 L => ?_) fun e H7 L => ?_
  · rw [if_pos e] at hp
    simp (implicitDefEqProofs := false) only [go_sem]
    refine two_go (by kernel_rfl) integer_ok hs L hp fun ns a cw gb r H8 L hp => ?_
    simp (implicitDefEqProofs := false) only [go_sem]
    refine L.stoOne 1 rfl (by simp) rfl fun HA L => ?_
    simp only [List.set_cons_zero, List.set_cons_succ, List.set_nil, List.eraseIdx_cons_zero, List.eraseIdx_cons_succ] at L
    simp (implicitDefEqProofs := false) only [go_sem]
    refine L.stoOne 1 rfl (by simp) rfl fun HB L => ?_
    simp only [List.set_cons_zero, List.set_cons_succ, List.set_nil, List.eraseIdx_cons_zero, List.eraseIdx_cons_succ] at L
    have L := L.rowN 0 ns rfl
    simp only [List.set_cons_zero, List.set_cons_succ, List.set_nil, List.eraseIdx_cons_zero, List.eraseIdx_cons_succ] at L
    simp (implicitDefEqProofs := false) only [go_sem]
    have c := L.cell 0 rfl
    simp (implicitDefEqProofs := false) only [go_sem, c]
    refine L.stoAll 2 rfl rfl (one_agg (t := []) rfl) fun HZ L => ?_
    simp only [List.set_cons_zero, List.set_cons_succ, List.set_nil, List.eraseIdx_cons_zero, List.eraseIdx_cons_succ] at L
    have c := L.cell 2 rfl
    simp (implicitDefEqProofs := false) only [go_sem, c]
    exact L.fin hp (.inl (by simp))
  rw [if_neg (nb e)] at hp
  simp (implicitDefEqProofs := false) only [go_sem]
  refine accept_go hs L [109, 105, 110] (fun e H7 L => ?_) fun e H7 L => ?_
  · rw [if_pos e] at hp
    simp (implicitDefEqProofs := false) only [go_sem]
    refine two_go (by kernel_rfl) integer_ok hs L hp fun ns a cw gb r H8 L hp => ?_
    simp (implicitDefEqProofs := false) only [go_sem]
    refine L.stoOne 1 rfl (by simp) rfl fun HA L => ?_
    simp only [List.set_cons_zero, List.set_cons_succ, List.set_nil, List.eraseIdx_cons_zero, List.eraseIdx_cons_succ] at L
    simp (implicitDefEqProofs := false) only [go_sem]
    refine L.stoOne 1 rfl (by simp) rfl fun HB L => ?_
    simp only [List.set_cons_zero, List.set_cons_succ, List.set_nil, List.eraseIdx_cons_zero, List.eraseIdx_cons_succ] at L
    have L := L.rowN 0 ns rfl
    simp only [List.set_cons_zero, List.set_cons_succ, List.set_nil, List.eraseIdx_cons_zero, List.eraseIdx_cons_succ] at L
    simp (implicitDefEqProofs := false) only [go_sem]
    have c := L.cell 0 rfl
    simp (implicitDefEqProofs := false) only [go_sem, c]
    refine L.stoAll 2 rfl rfl (one_agg (t := []) rfl) fun HZ L => ?_
    simp only [List.set_cons_zero, List.set_cons_succ, List.set_nil, List.eraseIdx_cons_zero, List.eraseIdx_cons_succ] at L
    have c := L.cell 2 rfl
    simp (implicitDefEqProofs := false) only [go_sem, c]
    exact L.fin hp (.inl (by simp))
  rw [if_neg (nb e)] at hp
  simp (implicitDefEqProofs := false) only [go_sem]
  refine is_go L [108, 101, 120] fun H7 L => ?_
  cases e : isB [108, 101, 120] ts with
  | true =>
    rw [if_pos e] at hp
    simp (implicitDefEqProofs := false) only [go_sem]
    refine enter_go (lo := loL) hs L lo_0' lo_s' hp fun j x H8 hj hx L _ hp => ?_
    cases hx
    simp (implicitDefEqProofs := false) only [go_sem]
    refine two_go (by kernel_rfl) (hlat j hj) hs L hp fun ns a cw gb r H8 L hp => ?_
    simp (implicitDefEqProofs := false) only [go_sem]
    refine L.stoOne 1 rfl (by simp) rfl fun HA L => ?_
    simp only [List.set_cons_zero, List.set_cons_succ, List.set_nil, List.eraseIdx_cons_zero, List.eraseIdx_cons_succ] at L
    simp (implicitDefEqProofs := false) only [go_sem]
    refine L.stoOne 1 rfl (by simp) rfl fun HB L => ?_
    simp only [List.set_cons_zero, List.set_cons_succ, List.set_nil, List.eraseIdx_cons_zero, List.eraseIdx_cons_succ] at L
    have L := L.rowN 0 ns rfl
    simp only [List.set_cons_zero, List.set_cons_succ, List.set_nil, List.eraseIdx_cons_zero, List.eraseIdx_cons_succ] at L
    simp (implicitDefEqProofs := false) only [go_sem]
    refine leave_go hs L hj hs.k64 fun _ H13 L => ?_
    have c := L.cell 0 rfl
    simp (implicitDefEqProofs := false) only [go_sem, c]
    refine L.stoAll 2 rfl rfl (one_agg (t := []) rfl) fun HZ L => ?_
    simp only [List.set_cons_zero, List.set_cons_succ, List.set_nil, List.eraseIdx_cons_zero, List.eraseIdx_cons_succ] at L
    have c := L.cell 2 rfl
    simp (implicitDefEqProofs := false) only [go_sem, c]
    exact L.fin hp (.inl (by simp))
  | false =>
  rw [if_neg (nb e)] at hp
  simp (implicitDefEqProofs := false) only [go_sem]
  refine is_go L [123] fun H7 L => ?_
  cases e : isB [123] ts with
  | true =>
    rw [if_pos e] at hp
    simp (implicitDefEqProofs := false) only [go_sem]
    refine enter_go (lo := loL) hs L lo_0' lo_s' hp fun j x H8 hj hx L _ hp => ?_
    cases hx
    have hlen := L.len
    have hdn := memP_dn (levL_dn j)
    have L := L.row0 25 5
    obtain ⟨cur0, hcur0⟩ : ∃ cur, cur = ts.tail := ⟨_, rfl⟩
    rw [← hcur0] at L hp hlen
    have hp : latP (loL k) ts = bd (memF (levL j) (cur0.length + 1) []) (fun l => bd (expP [125]) fun _ => ret (.mk 15 [] 0 (hd ts).at_ l)) cur0 := by
      rw [hp]
      have e : memsP (levL j) cur0 = bd (memF (levL j) (cur0.length + 1) []) (fun l => bd (expP [125]) fun _ => ret l) cur0 := rfl
      unfold bd at e ⊢
      rw [e]
      cases memF (levL j) (cur0.length + 1) [] cur0 with
      | error e => rfl
      | ok x =>
        simp only
        cases expP [125] x.2 <;> rfl
    simp (implicitDefEqProofs := false) only [go_sem]
    refine L.stoOne 1 rfl (by simp) rfl fun H9 L => ?_
    simp only [List.set_cons_zero, List.set_cons_succ, List.set_nil, List.eraseIdx_cons_zero, List.eraseIdx_cons_succ] at L
    simp (implicitDefEqProofs := false) only [go_sem]
    refine vc_loop (fun (s : Bool × List Tk × List Nd × Value) H' => ∃ g f, PLv X H s.2.1 j H' [.row 25 5 s.2.2.2 (s.2.2.1.map Nd.dat) g, .blk b3 25 [.int .i64 15, sv [], .int .i64 0, .int .i64 (hd ts).at_, s.2.2.2], .blk b2 41 (tkC (hd ts)), .blk b1 25 [.int .i64 0, sv [], .int .i64 0, .int .i64 0, .slice none 0 0]] [] ∧ (∃ a n c, s.2.2.2 = .slice a n c) ∧
      (s.1 = true → latP (loL k) ts = bd (memF (levL j) (f + 1) s.2.2.1) (fun l => bd (expP [125]) fun _ => ret (.mk 15 [] 0 (hd ts).at_ l)) s.2.1 ∧ s.2.1.length ≤ f ∧ s.2.2.1.length + s.2.1.length ≤ 1048576) ∧
      (s.1 = false → latP (loL k) ts = bd (expP [125]) (fun _ => ret (Nd.mk 15 [] 0 (hd ts).at_ s.2.2.1)) s.2.1))
      (fun s => [(0, ptr X.b), (2, .pointer (some ⟨b1, 0, none⟩)), (3, .pointer (some ⟨b2, 0, none⟩)), (4, .pointer (some ⟨b3, 0, none⟩)), (5, .bool s.1)]) (fun s => if s.1 then s.2.1.length + 1 else 0) (true, cur0, [], .slice none 0 0) ?_ ?_ ?_
    · exact ⟨none, cur0.length, L, ⟨_, _, _, rfl⟩, fun _ => ⟨hp, Nat.le_refl _, by simp; omega⟩, fun h => by cases h⟩
    · simp (implicitDefEqProofs := false) only [go_sem, ptr]
    · rintro ⟨more, cur, ns, v⟩ H10 ⟨g, f, L, ⟨va, vn, vc, hv⟩, hT, hF⟩
      simp only at L hT hF hv ⊢
      subst hv
      cases more with
      | false =>
        have hp := hF rfl
        simp (implicitDefEqProofs := false) only [go_sem]
        refine (expect_ok [125]).go hs L hp fun _ r v H11 L hp _ _ => ?_
        simp (implicitDefEqProofs := false) only [go_sem]
        refine leave_go hs L hj hs.k64 fun _ H12 L => ?_
        have L := L.rowN 0 ns rfl
        simp only [List.set_cons_zero, List.set_cons_succ, List.set_nil, List.eraseIdx_cons_zero, List.eraseIdx_cons_succ] at L
        have c := L.cell 0 rfl
        simp (implicitDefEqProofs := false) only [go_sem, c]
        refine L.stoAll 2 rfl rfl (one_agg (L.one (ks := ns) (by simp))) fun HZ L => ?_
        simp only [List.set_cons_zero, List.set_cons_succ, List.set_nil, List.eraseIdx_cons_zero, List.eraseIdx_cons_succ] at L
        have c := L.cell 2 rfl
        simp (implicitDefEqProofs := false) only [go_sem, c]
        exact L.fin hp (.inl (by simp))
      | true =>
        obtain ⟨hp, hf, hle⟩ := hT rfl
        have hcur := List.length_pos_iff.2 L.ps.nil
        have hp : latP (loL k) ts = bd (memP (levL j)) (fun m => bd (fun ts => if isB [44] ts then memF (levL j) f (ns ++ [m]) ts.tail else .ok (ns ++ [m], ts)) (fun l => bd (expP [125]) fun _ => ret (.mk 15 [] 0 (hd ts).at_ l))) cur := by
          rw [hp]; simp only [memF, bd_bd]
        rw [memP_eq, bd_bd] at hp
        simp (implicitDefEqProofs := false) only [go_sem]
        refine (named_ok 22).goN hs L hp fun kk tt nn aa ks kv r1 H11 L hp he => ?_
        have hle1 := (namedP_dn 22).of he
        simp only [bd_bd] at hp
        simp (implicitDefEqProofs := false) only [go_sem]
        refine L.newP fun b4 H12 L => ?_
        simp (implicitDefEqProofs := false) only [go_sem]
        refine L.stoAll 0 rfl rfl (one_agg (L.one (ks := ks) (by simp))) fun H13 L => ?_
        simp only [List.set_cons_zero, List.set_cons_succ, List.set_nil, List.eraseIdx_cons_zero, List.eraseIdx_cons_succ] at L
        simp (implicitDefEqProofs := false) only [go_sem]
        refine (expect_ok [58]).go hs L hp fun _ r2 v H14 L hp he _ => ?_
        have hle2 := (expP_dn _).of he
        rw [bd_bd] at hp
        simp (implicitDefEqProofs := false) only [go_sem]
        refine (hlat j hj).goN hs L hp fun kk' tt' nn' aa' ks' kv' r3 H15 L hp he => ?_
        have hle3 := (levL_dn j).of he
        simp (implicitDefEqProofs := false) only [go_sem]
        refine L.newS fun b5 H16 L => ?_
        have L := L.rowN1 (ks := ks') (by simp)
        have L := L.rowN 0 [.mk kk' tt' nn' aa' ks'] rfl
        simp only [List.set_cons_zero, List.set_cons_succ, List.set_nil, List.eraseIdx_cons_zero, List.eraseIdx_cons_succ] at L
        simp (implicitDefEqProofs := false) only [go_sem]
        refine L.stoOne 0 rfl (by simp) rfl fun H17 L => ?_
        simp only [List.set_cons_zero, List.set_cons_succ, List.set_nil, List.eraseIdx_cons_zero, List.eraseIdx_cons_succ] at L
        have c := L.cell 2 rfl
        have c' := L.cell 0 rfl
        simp (implicitDefEqProofs := false) only [go_sem, c, c']
        refine L.newS fun b6 H18 L => ?_
        simp (implicitDefEqProofs := false) only [go_sem]
        refine L.appN (ns := ns) (ks := [.mk kk' tt' nn' aa' ks']) 1 rfl (by simp) (by have := List.length_pos_iff.2 L.ps.nil; omega) fun a c g' H19 L => ?_
        simp only [List.set_cons_zero, List.set_cons_succ, List.set_nil, List.eraseIdx_cons_zero, List.eraseIdx_cons_succ] at L
        simp (implicitDefEqProofs := false) only [go_sem]
        refine L.stoOne 2 rfl (by simp) rfl fun H20 L => ?_
        simp only [List.set_cons_zero, List.set_cons_succ, List.set_nil, List.eraseIdx_cons_zero, List.eraseIdx_cons_succ] at L
        have hnil := List.length_pos_iff.2 L.ps.nil
        simp (implicitDefEqProofs := false) only [go_sem]
        refine accept_u hs L [44] fun H21 L => ?_
        have L := L.drop (l' := [_, _, _, _]) (List.sublist_cons_self _ _) (ds' := []) (by simp)
        simp (implicitDefEqProofs := false) only [go_sem]
        refine loopK_intro (isB [44] r3, (if isB [44] r3 then r3.tail else r3), ns ++ [.mk kk tt nn aa [.mk kk' tt' nn' aa' ks']], .slice a (ns ++ [Nd.mk kk tt nn aa [.mk kk' tt' nn' aa' ks']]).length c) ?_ ?_ ⟨g', f - 1, L, ⟨_, _, _, rfl⟩, fun h => ?_, fun h => ?_⟩
        · cases e4 : isB [44] r3 with
          | false => show 0 < cur.length + 1; omega
          | true =>
            show r3.tail.length + 1 < cur.length + 1
            rw [List.length_tail]; omega
        · simp (implicitDefEqProofs := false) only [go_sem]
        · simp only at h
          rw [h] at L ⊢
          simp only [if_true] at L ⊢
          have hnt := List.length_pos_iff.2 L.ps.nil
          rw [List.length_tail] at hnt
          refine ⟨?_, by rw [List.length_tail]; omega, by simp only [List.length_append, List.length_cons, List.length_nil, List.length_tail]; omega⟩
          rw [hp, show f - 1 + 1 = f by omega]
          conv => lhs; unfold bd ret
          simp only [h, if_true]; rfl
        · simp only at h
          rw [h]
          rw [hp]
          conv => lhs; unfold bd ret
          simp only [h, Bool.false_eq_true, if_false]; rfl
  | false =>
  rw [if_neg (nb e)] at hp
  simp (implicitDefEqProofs := false) only [go_sem]
  refine accept_go hs L [99, 108, 111, 115, 101, 100] (fun e H7 L => ?_) fun e H7 L => ?_
  · rw [if_pos e] at hp
    simp (implicitDefEqProofs := false) only [go_sem]
    refine closed_ok.goR hs L hp fun ns a cw gb r H8 L hp _ => ?_
    simp (implicitDefEqProofs := false) only [go_sem]
    refine L.stoOne 1 rfl (by simp) rfl fun HA L => ?_
    simp only [List.set_cons_zero, List.set_cons_succ, List.set_nil, List.eraseIdx_cons_zero, List.eraseIdx_cons_succ] at L
    simp (implicitDefEqProofs := false) only [go_sem]
    refine L.stoOne 1 rfl (by simp) rfl fun HB L => ?_
    simp only [List.set_cons_zero, List.set_cons_succ, List.set_nil, List.eraseIdx_cons_zero, List.eraseIdx_cons_succ] at L
    have L := L.rowN 0 ns rfl
    simp only [List.set_cons_zero, List.set_cons_succ, List.set_nil, List.eraseIdx_cons_zero, List.eraseIdx_cons_succ] at L
    simp (implicitDefEqProofs := false) only [go_sem]
    have c := L.cell 0 rfl
    simp (implicitDefEqProofs := false) only [go_sem, c]
    refine L.stoAll 2 rfl rfl (one_agg (t := []) rfl) fun HZ L => ?_
    simp only [List.set_cons_zero, List.set_cons_succ, List.set_nil, List.eraseIdx_cons_zero, List.eraseIdx_cons_succ] at L
    have c := L.cell 2 rfl
    simp (implicitDefEqProofs := false) only [go_sem, c]
    exact L.fin hp (.inl (by simp))
  rw [if_neg (nb e)] at hp
  simp (implicitDefEqProofs := false) only [go_sem]
  exact fail_go L hp
end Go.Proofs.YtbgjgaaobnbijaaGreatDoor
end
section
/- Declarations: contract. -/
set_option linter.unusedSimpArgs false
set_option linter.unusedVariables false
set_option maxRecDepth 8000
namespace Go.Proofs.YtbgjgaaobnbijaaGreatDoor
open Gx Go

theorem lat_ok : ∀ k : Nat, POk k 21 [] (latP (loL k)) NdR := by
  intro k
  induction k with
  | zero => exact lattice_ok fun j hj => by omega
  | succ k ih =>
    refine lattice_ok fun j hj => ?_
    obtain rfl : j = k := by omega
    rw [levL_eq]; exact ih
theorem isB_pos {s : Bs} {ts : List Tk} (h : isB s ts = true) : 0 < ts.length := by
  cases ts with
  | nil => exact absurd rfl (isB_kind h)
  | cons t r => simp
theorem expP_lt {s : Bs} {ts r : List Tk} {a : Int} (h : expP s ts = .ok (a, r)) : r.length < ts.length := by
  unfold expP at h
  split at h
  · rename_i e
    cases h
    have := isB_pos e
    rw [List.length_tail]; omega
  · cases h
theorem comma_lt' {ts r : List Tk} {b : Bool} (h : commaP ts = .ok (b, r)) : r.length < ts.length := by
  unfold commaP at h
  split at h
  · rename_i e
    cases h
    have := isB_pos e
    rw [List.length_tail]; omega
  · unfold bd at h
    split at h
    · cases h
    · rename_i a q hq
      have := expP_lt hq
      simp only [ret, Except.ok.injEq, Prod.mk.injEq] at h
      rw [← h.2]; exact this
theorem namedP_lt {k : Int} {ts r : List Tk} {a : Nd} (h : namedP k ts = .ok (a, r)) : r.length < ts.length := by
  unfold namedP bd at h
  split at h
  · cases h
  · rename_i t q hq
    obtain ⟨rfl, h2, rfl⟩ := takeP_eq hq
    have := hd_pos h2 (by decide)
    simp only [ret, Except.ok.injEq, Prod.mk.injEq] at h
    rw [← h.2, List.length_tail]; omega

/-- The last expression of an update or a query. -/
theorem func_end {X : Cx} {H H1 : Heap} {ts r : List Tk} {b b1 : Nat} {ns : List Nd} {v : Value} {g : Option Nat} {K n aa : Int} {nm : Bs} {γ : Type} {P0 : Except Flt (γ × List Tk)} {G : List Nd → PP γ} {x3 x4 x5 x6 x7 x8 x9 x10 x11 x12 : Option Value} {Q : Post} {cs1 : List Value} (hs : Ps X H ts 64)
    (L : PLv X H r 64 H1 [.row 25 5 v (ns.map Nd.dat) g, .blk b 25 [.int .i64 K, sv nm, .int .i64 n, .int .i64 aa, v], .blk b1 25 cs1] []) (hl : ns.length + 1 ≤ 1048576)
    (hp : P0 = bd (expP [61]) (fun _ => bd (exprP (loK 64)) fun e => G (ns ++ [e])) r)
    (hQ : ∀ a c g' H' r' m, PLv X H r' 64 H' [.row 25 5 (.slice a (ns ++ [m]).length c) ((ns ++ [m]).map Nd.dat) g', .blk b 25 [.int .i64 K, sv nm, .int .i64 n, .int .i64 aa, .slice a (ns ++ [m]).length c], .blk b1 25 cs1] [] → P0 = G (ns ++ [m]) r' →
      Q .nrm [some (ptr X.b), some (.pointer (some ⟨b1, 0, none⟩)), some (.pointer (some ⟨b, 0, none⟩)), x3, x4, x5, x6, x7, x8, x9, x10, x11, x12] H') :
    vc Tryz.prog (PEr X H P0) c24s51 [some (ptr X.b), some (.pointer (some ⟨b1, 0, none⟩)), some (.pointer (some ⟨b, 0, none⟩)), x3, x4, x5, x6, x7, x8, x9, x10, x11, x12] H1 Q := by
  rw [c24s51eq]
  simp (implicitDefEqProofs := false) only [go_sem]
  refine (expect_ok [61]).go hs L hp fun _ r1 v H2 L hp he _ => ?_
  have c := L.cell 1 rfl
  simp (implicitDefEqProofs := false) only [go_sem, c]
  refine (lev_ok 64).1.goN hs L hp fun kk tt nn aa' ks kv r2 H3 L hp he => ?_
  have c := L.cell 1 rfl
  simp (implicitDefEqProofs := false) only [go_sem, c]
  refine L.newS fun bA HA L => ?_
  have c := L.cell 2 rfl
  simp (implicitDefEqProofs := false) only [go_sem, c]
  refine L.appN (ns := ns) (ks := ks) 0 rfl (by simp) hl fun a c g' HB L => ?_
  simp only [List.set_cons_zero, List.set_cons_succ, List.set_nil, List.eraseIdx_cons_zero, List.eraseIdx_cons_succ] at L
  simp (implicitDefEqProofs := false) only [go_sem]
  refine L.stoOne 1 rfl (by simp) rfl fun HC L => ?_
  simp only [List.set_cons_zero, List.set_cons_succ, List.set_nil, List.eraseIdx_cons_zero, List.eraseIdx_cons_succ] at L
  simp (implicitDefEqProofs := false) only [go_sem]
  exact hQ a c g' HC r2 _ (L.drop (List.Sublist.refl _) (by simp)) hp

/-- An update or a query, behind its name. -/
theorem func_rest {X : Cx} {H H1 : Heap} {ts r : List Tk} {b b1 : Nat} {K aa : Int} {nm : Bs} {γ : Type} {P0 : Except Flt (γ × List Tk)} {G : List Nd → Int → PP γ} {x3 x4 x5 x6 x7 x8 x9 x10 x11 x12 : Option Value} {Q : Post} {cs1 : List Value} (hs : Ps X H ts 64)
    (L : PLv X H r 64 H1 [.blk b 25 [.int .i64 K, sv nm, .int .i64 0, .int .i64 aa, .slice none 0 0], .blk b1 25 cs1] [])
    (hp : P0 = bd (expP [40]) (fun _ => bd (listP paramP) fun ps => bd (expP [111, 110]) fun _ => bd (namedP 48) fun o => bd (if K = 5 then bd (expP [58]) fun _ => sortP else ret 0) fun n => bd (expP [61]) fun _ => bd (exprP (loK 64)) fun e => G (ps ++ [o] ++ [e]) n) r)
    (hQ : ∀ a c g' H' r' ns n x3 x4 x5 x6 x7 x8 x9 x10 x11 x12, PLv X H r' 64 H' [.row 25 5 (.slice a ns.length c) (ns.map Nd.dat) g', .blk b 25 [.int .i64 K, sv nm, .int .i64 n, .int .i64 aa, .slice a ns.length c], .blk b1 25 cs1] [] → P0 = G ns n r' →
      Q .nrm [some (ptr X.b), some (.pointer (some ⟨b1, 0, none⟩)), some (.pointer (some ⟨b, 0, none⟩)), x3, x4, x5, x6, x7, x8, x9, x10, x11, x12] H') :
    vc Tryz.prog (PEr X H P0) c24s56 [some (ptr X.b), some (.pointer (some ⟨b1, 0, none⟩)), some (.pointer (some ⟨b, 0, none⟩)), x3, x4, x5, x6, x7, x8, x9, x10, x11, x12] H1 Q := by
  rw [c24s56eq]
  simp (implicitDefEqProofs := false) only [go_sem]
  refine (expect_ok [40]).go hs L hp fun _ r1 v H2 L hp he _ => ?_
  have hlen := L.len
  obtain ⟨cur0, hcur0⟩ : ∃ cur, cur = r1 := ⟨_, rfl⟩
  rw [← hcur0] at L hp hlen
  have L := L.row0 25 5
  simp (implicitDefEqProofs := false) only [go_sem]
  refine accept_u hs L [41] fun H3 L => ?_
  simp (implicitDefEqProofs := false) only [go_sem]
  refine vc_loop (fun (s : Bool × List Tk × List Nd × (Option Addr × Nat)) H' => ∃ g f, PLv X H s.2.1 64 H' [.row 25 5 (.slice s.2.2.2.1 s.2.2.1.length s.2.2.2.2) (s.2.2.1.map Nd.dat) g, .blk b 25 [.int .i64 K, sv nm, .int .i64 0, .int .i64 aa, .slice s.2.2.2.1 s.2.2.1.length s.2.2.2.2], .blk b1 25 cs1] [] ∧ s.2.2.1.length + s.2.1.length ≤ 1048576 ∧
    (s.1 = true → P0 = bd (listF paramP f s.2.2.1) (fun ps => bd (expP [111, 110]) (fun _ => bd (namedP 48) fun o => bd (if K = 5 then bd (expP [58]) fun _ => sortP else ret 0) fun n => bd (expP [61]) fun _ => bd (exprP (loK 64)) fun e => G (ps ++ [o] ++ [e]) n)) s.2.1 ∧ s.2.1.length ≤ f) ∧
    (s.1 = false → P0 = bd (expP [111, 110]) (fun _ => bd (namedP 48) fun o => bd (if K = 5 then bd (expP [58]) fun _ => sortP else ret 0) fun n => bd (expP [61]) fun _ => bd (exprP (loK 64)) fun e => G (s.2.2.1 ++ [o] ++ [e]) n) s.2.1))
    (fun s => [(0, ptr X.b), (2, .pointer (some ⟨b1, 0, none⟩)), (3, .pointer (some ⟨b, 0, none⟩)), (4, .bool s.1)]) (fun s => if s.1 then s.2.1.length + 1 else 0) (!(isB [41] cur0), (if isB [41] cur0 then cur0.tail else cur0), [], (none, 0)) ?_ ?_ ?_
  · refine ⟨none, cur0.length, L, ?_, fun h => ?_, fun h => ?_⟩
    · simp only [List.length_nil, Nat.zero_add]
      split
      · rw [List.length_tail]; omega
      · exact hlen
    · have e : isB [41] cur0 = false := by simpa using h
      simp only [e, Bool.false_eq_true, if_false]
      rw [hp]
      refine ⟨?_, Nat.le_refl _⟩
      conv => lhs; unfold bd listP
      simp only [e, Bool.false_eq_true, if_false]; rfl
    · have e : isB [41] cur0 = true := by simpa using h
      simp only [e, if_true]
      rw [hp]
      conv => lhs; unfold bd listP
      simp only [e, if_true]; rfl
  · simp (implicitDefEqProofs := false) only [go_sem, ptr]
  · rintro ⟨more, cur, ns, va, vc⟩ H4 ⟨g, f, L, hle, hT, hF⟩
    simp only at L hT hF hle ⊢
    cases more with
    | false =>
      have hp := hF rfl
      simp (implicitDefEqProofs := false) only [go_sem]
      refine (expect_ok [111, 110]).go hs L hp fun _ r1 v H5 L hp he _ => ?_
      have hl1 := expP_lt he
      have c := L.cell 1 rfl
      simp (implicitDefEqProofs := false) only [go_sem, c]
      refine (named_ok 48).goN hs L hp fun kk tt nn aa' ks kv r2 H6 L hp he => ?_
      have hl2 := namedP_lt he
      have c := L.cell 1 rfl
      simp (implicitDefEqProofs := false) only [go_sem, c]
      refine L.newS fun bA HA L => ?_
      have c := L.cell 2 rfl
      simp (implicitDefEqProofs := false) only [go_sem, c]
      refine L.appN (ns := ns) (ks := ks) 0 rfl (by simp) (by omega) fun a c g' HB L => ?_
      simp only [List.set_cons_zero, List.set_cons_succ, List.set_nil, List.eraseIdx_cons_zero, List.eraseIdx_cons_succ] at L
      simp (implicitDefEqProofs := false) only [go_sem]
      refine L.stoOne 1 rfl (by simp) rfl fun HC L => ?_
      simp only [List.set_cons_zero, List.set_cons_succ, List.set_nil, List.eraseIdx_cons_zero, List.eraseIdx_cons_succ] at L
      have c := L.cell 1 rfl
      have L := L.drop (List.Sublist.refl _) (ds' := []) (by simp)
      by_cases hK : K = 5
      · rw [if_pos hK, bd_bd] at hp
        simp (implicitDefEqProofs := false) only [go_sem, c, hK]
        refine (expect_ok [58]).go hs L hp fun _ r3 v H7 L hp he _ => ?_
        have hl3 := expP_lt he
        simp (implicitDefEqProofs := false) only [go_sem]
        refine sort_ok.go hs L hp fun n r4 v H8 L hp he hv => ?_
        have hl4 := sortP_dn.of he
        cases hv
        simp (implicitDefEqProofs := false) only [go_sem]
        refine L.stoOne 1 rfl (by simp) rfl fun H9 L => ?_
        simp only [List.set_cons_zero, List.set_cons_succ, List.set_nil, List.eraseIdx_cons_zero, List.eraseIdx_cons_succ] at L
        simp (implicitDefEqProofs := false) only [go_sem]
        refine func_end (G := fun l => G l n) hs L (by simp; omega) hp fun a c g' H' r' m L hp => ?_
        exact hQ a c g' H' r' _ n _ _ _ _ _ _ _ _ _ _ L hp
      · rw [if_neg hK] at hp
        replace hp : P0 = bd (expP [61]) (fun _ => bd (exprP (loK 64)) fun e => G (ns ++ [.mk kk tt nn aa' ks] ++ [e]) 0) r2 := hp
        simp (implicitDefEqProofs := false) only [go_sem, c, hK]
        refine func_end (G := fun l => G l 0) hs L (by simp; omega) hp fun a c g' H' r' m L hp => ?_
        exact hQ a c g' H' r' _ 0 _ _ _ _ _ _ _ _ _ _ L hp
    | true =>
      obtain ⟨hp, hf⟩ := hT rfl
      have hcur := List.length_pos_iff.2 L.ps.nil
      obtain ⟨f, rfl⟩ : ∃ f', f = f' + 1 := ⟨f - 1, by omega⟩
      simp only [listF, bd_bd] at hp
      have c := L.cell 1 rfl
      simp (implicitDefEqProofs := false) only [go_sem, c]
      refine param_ok.goN hs L hp fun kk tt nn aa' ks kv r1 H5 L hp he => ?_
      have hl1 := paramP_dn.of he
      rw [bd_bd] at hp
      have c := L.cell 1 rfl
      simp (implicitDefEqProofs := false) only [go_sem, c]
      refine L.newS fun bA HA L => ?_
      have c := L.cell 2 rfl
      simp (implicitDefEqProofs := false) only [go_sem, c]
      refine L.appN (ns := ns) (ks := ks) 0 rfl (by simp) (by omega) fun a c g' HB L => ?_
      simp only [List.set_cons_zero, List.set_cons_succ, List.set_nil, List.eraseIdx_cons_zero, List.eraseIdx_cons_succ] at L
      simp (implicitDefEqProofs := false) only [go_sem]
      refine L.stoOne 1 rfl (by simp) rfl fun HC L => ?_
      simp only [List.set_cons_zero, List.set_cons_succ, List.set_nil, List.eraseIdx_cons_zero, List.eraseIdx_cons_succ] at L
      simp (implicitDefEqProofs := false) only [go_sem]
      refine comma_ok.go hs L hp fun m r2 v HD L hp hcm hv => ?_
      cases hv
      have hl2 := comma_lt' hcm
      have L := L.drop (ds' := []) (List.Sublist.refl _) (by simp)
      simp (implicitDefEqProofs := false) only [go_sem]
      refine loopK_intro (m, r2, ns ++ [.mk kk tt nn aa' ks], (a, c)) ?_ ?_ ⟨g', f, L, ?_, fun h => ?_, fun h => ?_⟩
      · cases m
        · show 0 < cur.length + 1
          omega
        · show r2.length + 1 < cur.length + 1
          omega
      · simp (implicitDefEqProofs := false) only [go_sem]
      · simp only [List.length_append, List.length_cons, List.length_nil]; omega
      · simp only at h; subst h
        exact ⟨hp, show r2.length ≤ f by omega⟩
      · simp only at h; subst h
        exact hp

set_option maxHeartbeats 1000000 in
theorem declaration_ok : POk 64 24 [] declP NdR := by
  refine ⟨fun {X H ts} hs => ?_⟩
  refine pcalls_of_vc (args := [_]) Tryz.func24 c24ok (Nat.le_of_ble_eq_true rfl) ?_
  have L := hs.walk
  obtain ⟨hp, _⟩ : declP ts = declP ts ∧ True := ⟨rfl, trivial⟩
  conv at hp => rhs; unfold declP
  simp (implicitDefEqProofs := false) only [go_sem, c24]
  refine L.newP fun b1 H1 L => ?_
  simp (implicitDefEqProofs := false) only [go_sem]
  refine look_go L fun H2 L => ?_
  simp (implicitDefEqProofs := false) only [go_sem, tkC]
  refine L.newP fun b H3 L => ?_
  simp (implicitDefEqProofs := false) only [go_sem]
  refine L.stoAll 0 rfl rfl (one_agg (t := []) rfl) fun H4 L => ?_
  simp only [List.set_cons_zero, List.set_cons_succ, List.set_nil, List.eraseIdx_cons_zero, List.eraseIdx_cons_succ] at L
  simp (implicitDefEqProofs := false) only [go_sem]
  refine accept_go hs L [108, 97, 116, 116, 105, 99, 101] (fun e H5 L => ?_) fun e H5 L => ?_
  · rw [if_pos e] at hp
    simp (implicitDefEqProofs := false) only [go_sem]
    refine L.stoOne 0 rfl (by simp) rfl fun H6 L => ?_
    simp only [List.set_cons_zero, List.set_cons_succ, List.set_nil, List.eraseIdx_cons_zero, List.eraseIdx_cons_succ] at L
    simp (implicitDefEqProofs := false) only [go_sem]
    refine (take_ok 1 (by decide)).go hs L hp fun t r v H7 L hp _ hv => ?_
    cases hv
    simp (implicitDefEqProofs := false) only [go_sem, tkC, sv]
    refine L.stoOne 0 rfl (by simp) rfl fun H8 L => ?_
    simp only [List.set_cons_zero, List.set_cons_succ, List.set_nil, List.eraseIdx_cons_zero, List.eraseIdx_cons_succ] at L
    have c := L.cell 0 rfl
    simp (implicitDefEqProofs := false) only [go_sem, c]
    refine (expect_ok [61]).go hs L hp fun _ r v H9 L hp _ _ => ?_
    simp (implicitDefEqProofs := false) only [go_sem]
    refine (levL_eq 64 ▸ lat_ok 64).goN hs L hp fun kk tt nn aa ks kv r HA L hp _ => ?_
    simp (implicitDefEqProofs := false) only [go_sem]
    refine L.newS fun b5 HB L => ?_
    have L := L.rowN1 (ks := ks) (by simp)
    have L := L.rowN 0 [.mk kk tt nn aa ks] rfl
    simp only [List.set_cons_zero, List.set_cons_succ, List.set_nil, List.eraseIdx_cons_zero, List.eraseIdx_cons_succ] at L
    simp (implicitDefEqProofs := false) only [go_sem]
    refine L.stoOne 0 rfl (by simp) rfl fun HC L => ?_
    simp only [List.set_cons_zero, List.set_cons_succ, List.set_nil, List.eraseIdx_cons_zero, List.eraseIdx_cons_succ] at L
    simp (implicitDefEqProofs := false) only [go_sem]
    refine (expect_ok [59]).go hs L hp fun _ r v HD L hp _ _ => ?_
    have c := L.cell 0 rfl
    simp (implicitDefEqProofs := false) only [go_sem, c]
    refine L.stoAll 1 rfl rfl (one_agg rfl) fun HZ L => ?_
    simp only [List.set_cons_zero, List.set_cons_succ, List.set_nil, List.eraseIdx_cons_zero, List.eraseIdx_cons_succ] at L
    have c := L.cell 1 rfl
    simp (implicitDefEqProofs := false) only [go_sem, c]
    exact L.fin hp (.inl (by simp))
  rw [if_neg (nb e)] at hp
  simp (implicitDefEqProofs := false) only [go_sem]
  refine accept_go hs L [111, 98, 106, 101, 99, 116] (fun e H5 L => ?_) fun e H5 L => ?_
  · rw [if_pos e] at hp
    simp (implicitDefEqProofs := false) only [go_sem]
    refine L.stoOne 0 rfl (by simp) rfl fun H6 L => ?_
    simp only [List.set_cons_zero, List.set_cons_succ, List.set_nil, List.eraseIdx_cons_zero, List.eraseIdx_cons_succ] at L
    simp (implicitDefEqProofs := false) only [go_sem]
    refine (take_ok 1 (by decide)).go hs L hp fun t r v H7 L hp _ hv => ?_
    cases hv
    simp (implicitDefEqProofs := false) only [go_sem, tkC, sv]
    refine L.stoOne 0 rfl (by simp) rfl fun H8 L => ?_
    simp only [List.set_cons_zero, List.set_cons_succ, List.set_nil, List.eraseIdx_cons_zero, List.eraseIdx_cons_succ] at L
    have c := L.cell 0 rfl
    simp (implicitDefEqProofs := false) only [go_sem, c]
    refine (expect_ok [58]).go hs L hp fun _ r v H9 L hp _ _ => ?_
    simp (implicitDefEqProofs := false) only [go_sem]
    refine (levL_eq 64 ▸ lat_ok 64).goN hs L hp fun kk tt nn aa ks kv r HA L hp _ => ?_
    simp (implicitDefEqProofs := false) only [go_sem]
    refine L.newS fun b5 HB L => ?_
    have L := L.rowN1 (ks := ks) (by simp)
    have L := L.rowN 0 [.mk kk tt nn aa ks] rfl
    simp only [List.set_cons_zero, List.set_cons_succ, List.set_nil, List.eraseIdx_cons_zero, List.eraseIdx_cons_succ] at L
    simp (implicitDefEqProofs := false) only [go_sem]
    refine L.stoOne 0 rfl (by simp) rfl fun HC L => ?_
    simp only [List.set_cons_zero, List.set_cons_succ, List.set_nil, List.eraseIdx_cons_zero, List.eraseIdx_cons_succ] at L
    simp (implicitDefEqProofs := false) only [go_sem]
    refine (expect_ok [59]).go hs L hp fun _ r v HD L hp _ _ => ?_
    have c := L.cell 0 rfl
    simp (implicitDefEqProofs := false) only [go_sem, c]
    refine L.stoAll 1 rfl rfl (one_agg rfl) fun HZ L => ?_
    simp only [List.set_cons_zero, List.set_cons_succ, List.set_nil, List.eraseIdx_cons_zero, List.eraseIdx_cons_succ] at L
    have c := L.cell 1 rfl
    simp (implicitDefEqProofs := false) only [go_sem, c]
    exact L.fin hp (.inl (by simp))
  rw [if_neg (nb e)] at hp
  simp (implicitDefEqProofs := false) only [go_sem]
  refine accept_go hs L [117, 112, 100, 97, 116, 101] (fun e H5 L => ?_) fun e H5 L => ?_
  · rw [if_pos e] at hp
    simp (implicitDefEqProofs := false) only [go_sem]
    refine L.stoOne 0 rfl (by simp) rfl fun H6 L => ?_
    simp only [List.set_cons_zero, List.set_cons_succ, List.set_nil, List.eraseIdx_cons_zero, List.eraseIdx_cons_succ] at L
    simp (implicitDefEqProofs := false) only [go_sem]
    refine (take_ok 1 (by decide)).go hs L hp fun t r v H7 L hp _ hv => ?_
    cases hv
    simp (implicitDefEqProofs := false) only [go_sem, tkC, sv]
    refine L.stoOne 0 rfl (by simp) rfl fun H8 L => ?_
    simp only [List.set_cons_zero, List.set_cons_succ, List.set_nil, List.eraseIdx_cons_zero, List.eraseIdx_cons_succ] at L
    have c := L.cell 0 rfl
    simp (implicitDefEqProofs := false) only [go_sem, c]
    refine func_rest (nm := t.text) (G := fun l n => bd (expP [59]) fun _ => ret (.mk 4 t.text n (hd ts).at_ l)) hs L hp fun a c g' H' r' ns n x3 x4 x5 x6 x7 x8 x9 x10 x11 x12 L hp => ?_
    simp (implicitDefEqProofs := false) only [go_sem]
    refine (expect_ok [59]).go hs L hp fun _ r v HD L hp _ _ => ?_
    have L := L.rowN 0 ns rfl
    simp only [List.set_cons_zero, List.set_cons_succ, List.set_nil, List.eraseIdx_cons_zero, List.eraseIdx_cons_succ] at L
    have c := L.cell 0 rfl
    simp (implicitDefEqProofs := false) only [go_sem, c]
    refine L.stoAll 1 rfl rfl (one_agg rfl) fun HZ L => ?_
    simp only [List.set_cons_zero, List.set_cons_succ, List.set_nil, List.eraseIdx_cons_zero, List.eraseIdx_cons_succ] at L
    have c := L.cell 1 rfl
    simp (implicitDefEqProofs := false) only [go_sem, c]
    exact L.fin hp (.inl (by simp))
  rw [if_neg (nb e)] at hp
  simp (implicitDefEqProofs := false) only [go_sem]
  refine accept_go hs L [113, 117, 101, 114, 121] (fun e H5 L => ?_) fun e H5 L => ?_
  · rw [if_pos e] at hp
    simp (implicitDefEqProofs := false) only [go_sem]
    refine L.stoOne 0 rfl (by simp) rfl fun H6 L => ?_
    simp only [List.set_cons_zero, List.set_cons_succ, List.set_nil, List.eraseIdx_cons_zero, List.eraseIdx_cons_succ] at L
    simp (implicitDefEqProofs := false) only [go_sem]
    refine (take_ok 1 (by decide)).go hs L hp fun t r v H7 L hp _ hv => ?_
    cases hv
    simp (implicitDefEqProofs := false) only [go_sem, tkC, sv]
    refine L.stoOne 0 rfl (by simp) rfl fun H8 L => ?_
    simp only [List.set_cons_zero, List.set_cons_succ, List.set_nil, List.eraseIdx_cons_zero, List.eraseIdx_cons_succ] at L
    have c := L.cell 0 rfl
    simp (implicitDefEqProofs := false) only [go_sem, c]
    refine func_rest (nm := t.text) (G := fun l n => bd (expP [59]) fun _ => ret (.mk 5 t.text n (hd ts).at_ l)) hs L hp fun a c g' H' r' ns n x3 x4 x5 x6 x7 x8 x9 x10 x11 x12 L hp => ?_
    simp (implicitDefEqProofs := false) only [go_sem]
    refine (expect_ok [59]).go hs L hp fun _ r v HD L hp _ _ => ?_
    have L := L.rowN 0 ns rfl
    simp only [List.set_cons_zero, List.set_cons_succ, List.set_nil, List.eraseIdx_cons_zero, List.eraseIdx_cons_succ] at L
    have c := L.cell 0 rfl
    simp (implicitDefEqProofs := false) only [go_sem, c]
    refine L.stoAll 1 rfl rfl (one_agg rfl) fun HZ L => ?_
    simp only [List.set_cons_zero, List.set_cons_succ, List.set_nil, List.eraseIdx_cons_zero, List.eraseIdx_cons_succ] at L
    have c := L.cell 1 rfl
    simp (implicitDefEqProofs := false) only [go_sem, c]
    exact L.fin hp (.inl (by simp))
  rw [if_neg (nb e)] at hp
  simp (implicitDefEqProofs := false) only [go_sem]
  exact fail_go L hp
end Go.Proofs.YtbgjgaaobnbijaaGreatDoor
end
section
/- The whole of a source: contracts. -/
set_option linter.unusedSimpArgs false
set_option linter.unusedVariables false
set_option maxRecDepth 8000
namespace Go.Proofs.YtbgjgaaobnbijaaGreatDoor
open Gx Go

/-! ### the tokens of a source -/
theorem lexF_len : ∀ (f : Nat) (s : Bs) (o : Nat) (T : List Tk), lexF f s o = .ok T → T.length ≤ f ∧ T ≠ [] ∧ ∀ i t r, T.drop i = t :: r → t.kind ≠ 6 → r ≠ []
  | 0, s, o, T, h => by simp [lexF] at h
  | f + 1, s, o, T, h => by
    unfold lexF at h
    split at h
    · cases h
    · split at h
      · rename_i k t n m _ hk
        cases h
        refine ⟨by simp, by simp, fun i t' r hi hn => ?_⟩
        cases i with
        | zero => simp only [List.drop_zero, List.cons.injEq] at hi; obtain ⟨rfl, rfl⟩ := hi; exact absurd hk hn
        | succ i => simp at hi
      · rename_i k t n m _ hk
        cases e : lexF f (s.drop (skB false s + m)) (o + skB false s + m) with
        | bad c j => rw [e] at h; cases h
        | ok T' =>
          rw [e] at h
          simp only [LR.cons, LR.ok.injEq] at h
          subst h
          obtain ⟨h1, h2, h3⟩ := lexF_len f _ _ _ e
          refine ⟨by simp; omega, by simp, fun i t' r hi hn => ?_⟩
          cases i with
          | zero => simp only [List.drop_zero, List.cons.injEq] at hi; obtain ⟨rfl, rfl⟩ := hi; exact h2
          | succ i => exact h3 i t' r (by simpa using hi) hn
theorem lexT_len {s : Bs} {T : List Tk} (h : lexT s = .ok T) : T.length ≤ 65537 ∧ T ≠ [] ∧ ∀ i t r, T.drop i = t :: r → t.kind ≠ 6 → r ≠ [] := by
  unfold lexT at h
  split at h
  · cases h
  · unfold lexA at h
    obtain ⟨h1, h2, h3⟩ := lexF_len _ _ _ _ h
    exact ⟨by omega, h2, h3⟩
theorem lexF_bad : ∀ (f : Nat) (s : Bs) (o : Nat) (c : Int) (k : Nat), s.length < f → lexF f s o = .bad c k → c ≠ 0
  | 0, s, o, c, k, hl, h => by omega
  | f + 1, s, o, c, k, hl, h => by
    unfold lexF at h
    split at h
    · rename_i e he
      cases h
      exact bad_code he
    · rename_i kd t n m he
      split at h
      · cases h
      · rename_i hk
        cases e : lexF f (s.drop (skB false s + m)) (o + skB false s + m) with
        | ok T' => rw [e] at h; cases h
        | bad c' j =>
          rw [e] at h
          simp only [LR.cons, LR.bad.injEq] at h
          obtain ⟨rfl, rfl⟩ := h
          refine lexF_bad f _ _ _ _ ?_ e
          obtain ⟨h1, h2, h3⟩ := tokS_len he
          have hne : s.drop (skB false s) ≠ [] := fun q => hk (h3 q)
          have := (h2 hne).1
          have h5 := List.length_pos_iff.2 hne
          simp only [List.length_drop] at h1 h5 ⊢
          omega
theorem lexT_bad {s : Bs} {c : Int} {k : Nat} (h : lexT s = .bad c k) : c ≠ 0 := by
  unfold lexT at h
  split at h
  · cases h; decide
  · exact lexF_bad _ _ _ _ _ (by simp) h

/-- What the parser answers. -/
def srcP (p : PP Nd) (s : Bs) : Except Flt Nd := match lexT s with
  | .bad c k => .error (c, k)
  | .ok T => topP p T
def zeroN : List Value := [.int .i64 0, sv [], .int .i64 0, .int .i64 0, .slice none 0 0]
def ResR (R : Except Flt Nd) (v : Value) (H H' : Heap) : Prop := match R with
  | .error e => v = .tuple #[.agg zeroN.toArray, .agg #[.int .i64 e.1, .int .i64 e.2]]
  | .ok n => ∃ cs, v = .tuple #[.agg cs.toArray, .agg #[.int .i64 0, .int .i64 0]] ∧ RepP H' (fun x => x < H.size) n.dat cs
theorem Ps.keep {X : Cx} {H H' : Heap} {ts : List Tk} {k : Nat} {M : List Nat} (h : Ps X H ts k) (hf : Fr M H H') (hb : X.b ∉ M) (ha : ∀ b o, X.a = some ⟨b, o, none⟩ → b ∉ M) : Ps X H' ts k := by
  obtain ⟨i, h1, h2, h3⟩ := h.ex
  exact ⟨⟨i, h1.fr hf hb, h2, h3⟩, h.row.fr hf ha, h.ne, h.k64, h.cap, h.fin⟩

def pP (x : Nat) : Value := .pointer (some ⟨x, 0, none⟩)
theorem rec_ret {x y : Nat} (H : Heap) : DCalls Tryz.prog 26 #[pP x, pP y] .returning .returning H fun H'' => H'' = H := by
  refine dcalls_of_rec (args := [_, _]) (u := .returning) (m := .returning) (v := .nilIface) Tryz.func26 c26ok (Nat.le_of_ble_eq_true rfl) rfl ?_
  simp (implicitDefEqProofs := false) only [go_sem, c26, c26b, cD, posOf, putS]
theorem rec_panic {H : Heap} {x y : Nat} {xs ys : List Value} {e : Flt} (hx : Blk H x 28 xs) (hxl : xs.length = 2) (hy : Blk H y 25 ys) (hyl : ys.length = 5) (hxy : x ≠ y) :
    DCalls Tryz.prog 26 #[pP x, pP y] (.panicking (flt e)) .returning H fun H'' => Blk H'' x 28 [.int .i64 e.1, .int .i64 e.2] ∧ Blk H'' y 25 zeroN ∧ Fr [x, y] H H'' := by
  refine dcalls_of_rec (args := [_, _]) (u := .panicking (flt e)) (m := .panicking [{ v := .iface 28 (.agg #[.int .i64 e.1, .int .i64 e.2]), recovered := true }]) (v := .iface 28 (.agg #[.int .i64 e.1, .int .i64 e.2])) Tryz.func26 c26ok (Nat.le_of_ble_eq_true rfl) rfl ?_
  simp (implicitDefEqProofs := false) only [go_sem, c26, c26b, pP, cD, posOf, putS]
  refine Sto_all hx (by simp [hxl]) (by simp [Value.oneCell']) fun H1 hx1 hf1 hs1 => ?_
  have hy1 := hy.fr hf1 (by simp; omega)
  simp (implicitDefEqProofs := false) only [go_sem]
  refine Sto_all hy1 (by simp [hyl]) (by simp [Value.oneCell', sv]) fun H2 hy2 hf2 hs2 => ?_
  have hx2 := hx1.fr hf2 (by simp; omega)
  simp (implicitDefEqProofs := false) only [go_sem]
  exact ⟨hx2, hy2, (hf1.mono (by simp)).trans (hf2.mono (by simp))⟩

set_option maxHeartbeats 1000000 in
theorem prun_ok {g : Nat} {p : PP Nd} (hg : hasBody Tryz.prog g = true) (hop : POk 64 g [] p NdR) (s : Bs) (hl : s.length ≤ maxLen) {H : Heap} (hG : GlobH H) :
    HCalls Tryz.prog 15 #[sv s, .func (.func g) #[] #[]] H fun v H' => ResR (srcP p s) v H H' ∧ Fr [] H H' := by
  refine calls_of_defers (args := [_, _]) Tryz.func15 c15ok (Nat.le_of_ble_eq_true rfl) ?_
  have L : Lv [] H [] (fun _ => True) H [] [] := Lv.start (by simp) (fun _ _ _ _ => trivial)
  simp (implicitDefEqProofs := false) only [go_sem, c15, c15a]
  refine L.newP fun b1 H1 L => ?_
  simp (implicitDefEqProofs := false) only [go_sem]
  refine L.newP fun b2 H2 L => ?_
  simp (implicitDefEqProofs := false) only [go_sem]
  refine (lex_ok s hl (hG.ext L.fr)).mono ?_
  rintro r H3 ⟨hr, hf3⟩
  have L := L.ext hf3
  cases hlex : lexT s with
  | bad c k =>
    rw [hlex] at hr
    simp only [LexR] at hr
    subst hr
    have hc := lexT_bad hlex
    have hsp : srcP p s = .error (c, k) := by unfold srcP; rw [hlex]
    rw [hsp]
    simp (implicitDefEqProofs := false) only [go_sem, ftV]
    refine L.newP fun b3 H4 L => ?_
    simp (implicitDefEqProofs := false) only [go_sem]
    refine L.stoAll 0 rfl rfl (by simp [Value.oneCell']) fun H5 L => ?_
    simp only [List.set_cons_zero, List.set_cons_succ, List.set_nil, List.eraseIdx_cons_zero, List.eraseIdx_cons_succ] at L
    have c0 := L.cell 0 rfl
    have c1 := L.cell 1 rfl
    have c2 := L.cell 2 rfl
    simp (implicitDefEqProofs := false) only [go_sem, c0, hc]
    refine L.stoAll 2 rfl rfl (by simp [Value.oneCell', sv]) fun H6 L => ?_
    simp only [List.set_cons_zero, List.set_cons_succ, List.set_nil, List.eraseIdx_cons_zero, List.eraseIdx_cons_succ] at L
    have c0 := L.cell 0 rfl
    simp (implicitDefEqProofs := false) only [go_sem, c0]
    refine L.stoAll 1 rfl rfl (by simp [Value.oneCell']) fun H7 L => ?_
    simp only [List.set_cons_zero, List.set_cons_succ, List.set_nil, List.eraseIdx_cons_zero, List.eraseIdx_cons_succ] at L
    have c1 := L.cell 1 rfl
    have c2 := L.cell 2 rfl
    simp (implicitDefEqProofs := false) only [go_sem, c1, c2, defQ]
    exact ⟨by simp [ResR, zeroN, sv], L.fr⟩
  | ok T =>
    rw [hlex] at hr
    simp only [LexR] at hr
    obtain ⟨a, cT, rfl, hcap1, hcap2, hrow⟩ := hr
    have hsp : srcP p s = topP p T := by unfold srcP; rw [hlex]
    rw [hsp]
    obtain ⟨hT1, hT2, hT3⟩ := lexT_len hlex
    simp (implicitDefEqProofs := false) only [go_sem, ftV]
    obtain ⟨rb, ro, ha, hget⟩ := RowR.get hrow tkC_len (T.length - 1) (by have := List.length_pos_iff.2 hT2; omega) (by decide)
    have hk6 : (T[T.length - 1]'(by have := List.length_pos_iff.2 hT2; omega)).kind = 6 := by
      have hlt : T.length - 1 < T.length := by have := List.length_pos_iff.2 hT2; omega
      refine Decidable.byContradiction fun hn => ?_
      exact hT3 (T.length - 1) _ _ (List.drop_eq_getElem_cons hlt) hn (List.drop_eq_nil_of_le (by omega))
    have h6 := hget 0 (by decide)
    rw [Nat.add_zero] at h6
    simp only [tkC, List.getElem?_cons_zero, hk6] at h6
    have hne1 : rb ≠ b1 := by
      rintro rfl
      have c := L.cell 1 rfl
      rw [c] at h6
      have := List.mem_of_getElem? h6
      simp [sv] at this
    have hne2 : rb ≠ b2 := by
      rintro rfl
      have c := L.cell 0 rfl
      rw [c] at h6
      have := List.mem_of_getElem? h6
      simp at this
    have hrlt := cellB_lt h6
    refine NewP_intro fun H4 hn4 hf4 hs4 => ?_
    have L := L.push hf4 hn4
    simp (implicitDefEqProofs := false) only [go_sem]
    refine Sto_all hn4 rfl (by simp [Value.oneCell']) fun H5 hn5 hf5 hs5 => ?_
    have L := L.sto 0 rfl hf5 hn5
    simp only [List.set_cons_zero, List.set_cons_succ, List.set_nil, List.eraseIdx_cons_zero, List.eraseIdx_cons_succ] at L
    have hrow5 : RowR tkC H5 a T := (hrow.ext hf4).fr hf5 fun b o e hm => by
      rw [ha] at e; cases e
      simp only [List.mem_singleton] at hm
      omega
    have c := L.cell 0 rfl
    simp (implicitDefEqProofs := false) only [go_sem, c]
    refine NewP_intro fun H6 hn6 hf6 hs6 => ?_
    have hsz4 := hf4.size
    have hsz5 := hf5.size
    have hsz0 := L.fr.size
    have hps : Ps ⟨H5.size, a, cT, T⟩ H6 T 64 := ⟨⟨0, hn6, rfl, List.length_pos_iff.2 hT2⟩, hrow5.ext hf6, fun b o e => by rw [ha] at e; cases e; show rb ≠ H5.size; omega, Nat.le_refl _, by show T.length ≤ _; omega, hT3⟩
    obtain ⟨O, hO1, hO2, hO3⟩ : ∃ O : List Nat, H5.size ∈ O ∧ (∀ x ∈ O, x = H5.size ∨ (x = rb ∧ H.size ≤ rb)) ∧ (H.size ≤ rb → rb ∈ O) := by
      by_cases q : H.size ≤ rb
      · exact ⟨[H5.size, rb], by simp, fun x hx => by simp at hx; rcases hx with h | h; exact .inl h; exact .inr ⟨h, q⟩, fun _ => by simp⟩
      · exact ⟨[H5.size], by simp, fun x hx => by simp at hx; exact .inl hx, fun h => absurd h q⟩
    have hstb : ∀ {A : Heap} {ts : List Tk}, Ps ⟨H5.size, a, cT, T⟩ A ts 64 → ∀ (M : List Nat) (B : Heap), Fr M A B → (∀ x ∈ M, H.size ≤ x ∧ x ∉ O) → Ps ⟨H5.size, a, cT, T⟩ B ts 64 := fun h M B hf hM => by
      refine h.keep hf (fun hm => (hM _ hm).2 hO1) fun b o e hm => ?_
      replace e : a = some ⟨b, o, none⟩ := e
      rw [ha] at e; cases e
      exact (hM _ hm).2 (hO3 (hM _ hm).1)
    have hbs : rb ∉ [Ent.blk H3.size 28 [.int .i64 0, .int .i64 0], .blk b2 28 [.int .i64 0, .int .i64 0], .blk b1 25 [.int .i64 0, sv [], .int .i64 0, .int .i64 0, .slice none 0 0]].flatMap Ent.bs := by
      simp [Ent.bs]; omega
    have L6 : Lv [] H O (fun A => Ps ⟨H5.size, a, cT, T⟩ A T 64) H6 [.blk H3.size 28 [.int .i64 0, .int .i64 0], .blk b2 28 [.int .i64 0, .int .i64 0], .blk b1 25 [.int .i64 0, sv [], .int .i64 0, .int .i64 0, .slice none 0 0]] [] := by
      have hlo5 := fun x hx => (L.lo x hx).2.2
      have L := L.ext hf6
      refine ⟨L.fr, fun x hx => ?_, L.nd, fun x hx => ?_, fun p hp => ?_, by simp, hstb hps⟩
      · rcases hO2 x hx with q | ⟨q, q2⟩
        · subst q; exact ⟨hn6.lt, .inr (by omega)⟩
        · subst q; exact ⟨by have := hf6.size; omega, .inr q2⟩
      · obtain ⟨h1, h2, h3⟩ := L.lo x hx
        refine ⟨h1, fun hm => ?_, h3⟩
        rcases hO2 x hm with q | ⟨q, q2⟩
        · have := hlo5 x hx; omega
        · subst q; exact hbs hx
      · have h := L.ok p hp
        simp only [List.mem_cons, List.not_mem_nil, or_false] at hp
        rcases hp with rfl | rfl | rfl <;> exact h
    have step : ∀ {A B : Heap} {ts ts' : List Tk} {l : List Ent} {ds : List (Dat × List Value)}, Lv [] H O (fun A => Ps ⟨H5.size, a, cT, T⟩ A ts 64) A l ds → Fr [H5.size] A B → Ps ⟨H5.size, a, cT, T⟩ B ts' 64 → Lv [] H O (fun A => Ps ⟨H5.size, a, cT, T⟩ A ts' 64) B l ds := fun L hf h =>
      L.call (hf.mono fun x hx => .inl (by simp only [List.mem_singleton] at hx; subst hx; exact hO1)) (hstb h)
    have over : ∀ {A : Heap} {ts : List Tk} {e : Flt} {xs ys : List Value} {ds : List (Dat × List Value)} {B : Heap}, Lv [] H O (fun A => Ps ⟨H5.size, a, cT, T⟩ A ts 64) A [.blk H3.size 28 xs, .blk b2 28 [.int .i64 0, .int .i64 0], .blk b1 25 ys] ds → ys.length = 5 → topP p T = .error e → Fr [H5.size] A B →
        DCalls Tryz.prog 26 #[pP b2, pP b1] (.panicking (flt e)) .returning B fun H'' => finN (fun v H' => ResR (topP p T) v H H' ∧ Fr [] H H') H'' (resV [some (pP b1), some (pP b2)] H'' [.cell S0 (some 5), .cell S1 (some 2)]) := by
      intro A ts e xs ys ds B L hy he hf
      have L : Lv [] H O (fun _ => True) B _ ds := L.call (hf.mono fun x hx => .inl (by simp only [List.mem_singleton] at hx; subst hx; exact hO1)) (fun _ _ _ _ => trivial)
      have hne : b2 ≠ b1 := by
        have := L.nd
        simp only [List.flatMap_cons, List.flatMap_nil, Ent.bs, List.cons_append, List.nil_append, List.nodup_cons, List.mem_cons, List.not_mem_nil, or_false] at this
        exact this.2.1
      refine (rec_panic (L.get 1 rfl) rfl (L.get 2 rfl) hy hne).mono ?_
      rintro H2 ⟨hx2, hy2, hf2⟩
      have cx := hx2.cell
      have cy := hy2.cell
      have hlo := L.lo
      rw [he]
      unfold pP
      simp (implicitDefEqProofs := false) only [go_sem, cx, cy, zeroN]
      refine ⟨by simp [ResR, zeroN], L.fr.trans' hf2 fun x hx => .inr ?_⟩
      simp only [List.mem_cons, List.not_mem_nil, or_false] at hx
      rcases hx with rfl | rfl
      · exact (hlo x (by simp [Ent.bs])).1
      · exact (hlo x (by simp [Ent.bs])).1
    simp (implicitDefEqProofs := false) only [go_sem]
    refine ⟨_, _, rfl, rfl, ?_⟩
    simp (implicitDefEqProofs := false) only [go_sem, c15, c15b]
    refine ⟨hg, PCalls.mono (hop.ok hps) ?_ ?_⟩
    · rintro v H7 ⟨n, r, hp, ⟨cs, rfl, hr⟩, hs7, hf7⟩
      obtain ⟨kk, tt, nn, aa, ks⟩ := n
      obtain ⟨kv, rfl, hkv⟩ := RepP.nd_open hr
      have L := (step L6 hf7 hs7).add (L6.built hkv)
      simp (implicitDefEqProofs := false) only [go_sem]
      refine L.stoAll 2 rfl rfl (one_agg (nd_one (L.dat (kidsD ks, [kv]) (by simp)))) fun H8 L => ?_
      simp only [List.set_cons_zero, List.set_cons_succ, List.set_nil, List.eraseIdx_cons_zero, List.eraseIdx_cons_succ] at L
      simp (implicitDefEqProofs := false) only [go_sem]
      refine (look_ok L.st).mono ?_
      rintro v H9 ⟨rfl, hf9⟩
      have L := L.ext hf9
      have c2 := L.cell 2 rfl
      have c1 := L.cell 1 rfl
      by_cases k6 : (hd r).kind = 6
      · simp (implicitDefEqProofs := false) only [go_sem, tkC, k6, c2]
        refine L.stoAll 2 rfl rfl (one_agg (nd_one (L.dat (kidsD ks, [kv]) (by simp)))) fun HA L => ?_
        simp only [List.set_cons_zero, List.set_cons_succ, List.set_nil, List.eraseIdx_cons_zero, List.eraseIdx_cons_succ] at L
        simp (implicitDefEqProofs := false) only [go_sem]
        refine L.stoAll 1 rfl rfl (by simp [Value.oneCell']) fun HB L => ?_
        simp only [List.set_cons_zero, List.set_cons_succ, List.set_nil, List.eraseIdx_cons_zero, List.eraseIdx_cons_succ] at L
        simp (implicitDefEqProofs := false) only [go_sem]
        refine (rec_ret (x := b2) (y := b1) HB).mono ?_
        rintro H2 rfl
        have c2 := L.cell 2 rfl
        have c1 := L.cell 1 rfl
        simp (implicitDefEqProofs := false) only [go_sem, c1, c2]
        have ht : topP p T = .ok (.mk kk tt nn aa ks) := by unfold topP; rw [hp]; simp only [k6, if_true]
        rw [ht]
        have hk := L.dat (kidsD ks, [kv]) (by simp)
        exact ⟨⟨_, rfl, RepP.nd (hk.more fun x hx => .inl (.inl hx))⟩, L.fr⟩
      · simp (implicitDefEqProofs := false) only [go_sem, tkC, k6]
        refine (fail_ok L.st 2).mono (fun _ _ h => h.elim) ?_
        rintro ch HA ⟨rfl, hfA⟩
        refine over L rfl ?_ (fr1 hfA)
        unfold topP; rw [hp]; simp only [k6, if_false]
    · rintro ch H7 ⟨e, hp, rfl, hf7⟩
      exact over L6 rfl (by unfold topP; rw [hp]) hf7

theorem pexpr1_ok : POk 64 16 [] (exprP (loK 64)) NdR := by
  refine ⟨fun {X H ts} hs => ?_⟩
  refine pcalls_of_vc (args := [_]) Tryz.func16 c16ok (Nat.le_of_ble_eq_true rfl) ?_
  have L := hs.walk
  simp (implicitDefEqProofs := false) only [go_sem, c16]
  refine L.newP fun b1 H1 L => ?_
  simp (implicitDefEqProofs := false) only [go_sem]
  refine (lev_ok 64).1.goL hs L (P0 := exprP (loK 64) ts) rfl fun kk tt nn aa ks kv r H5 L hp => ?_
  simp (implicitDefEqProofs := false) only [go_sem]
  refine L.stoAll 0 rfl rfl (one_agg (L.one (ks := ks) (by simp))) fun HZ L => ?_
  simp only [List.set_cons_zero, List.set_cons_succ, List.set_nil, List.eraseIdx_cons_zero, List.eraseIdx_cons_succ] at L
  have c := L.cell 0 rfl
  simp (implicitDefEqProofs := false) only [go_sem, c]
  exact L.fin hp (.inl (by simp))
theorem plat1_ok : POk 64 20 [] (latP (loL 64)) NdR := by
  refine ⟨fun {X H ts} hs => ?_⟩
  refine pcalls_of_vc (args := [_]) Tryz.func20 c20ok (Nat.le_of_ble_eq_true rfl) ?_
  have L := hs.walk
  simp (implicitDefEqProofs := false) only [go_sem, c20]
  refine L.newP fun b1 H1 L => ?_
  simp (implicitDefEqProofs := false) only [go_sem]
  refine (lat_ok 64).goL hs L (P0 := latP (loL 64) ts) rfl fun kk tt nn aa ks kv r H5 L hp => ?_
  simp (implicitDefEqProofs := false) only [go_sem]
  refine L.stoAll 0 rfl rfl (one_agg (L.one (ks := ks) (by simp))) fun HZ L => ?_
  simp only [List.set_cons_zero, List.set_cons_succ, List.set_nil, List.eraseIdx_cons_zero, List.eraseIdx_cons_succ] at L
  have c := L.cell 0 rfl
  simp (implicitDefEqProofs := false) only [go_sem, c]
  exact L.fin hp (.inl (by simp))
theorem pparse1_ok : POk 64 22 [] progP NdR := by
  refine ⟨fun {X H ts} hs => ?_⟩
  refine pcalls_of_vc (args := [_]) Tryz.func22 c22ok (Nat.le_of_ble_eq_true rfl) ?_
  have L := hs.walk
  have hlen := L.len
  simp (implicitDefEqProofs := false) only [go_sem, c22]
  refine L.newP fun b1 H1 L => ?_
  simp (implicitDefEqProofs := false) only [go_sem]
  refine L.newP fun b2 H2 L => ?_
  simp (implicitDefEqProofs := false) only [go_sem]
  refine L.stoAll 0 rfl rfl (one_agg (t := []) rfl) fun H3 L => ?_
  simp only [List.set_cons_zero, List.set_cons_succ, List.set_nil, List.eraseIdx_cons_zero, List.eraseIdx_cons_succ] at L
  have L := L.row0 25 5
  simp (implicitDefEqProofs := false) only [go_sem]
  refine vc_loop (fun (s : List Tk × List Nd × (Option Addr × Nat)) H' => ∃ g f, PLv X H s.1 64 H' [.row 25 5 (.slice s.2.2.1 s.2.1.length s.2.2.2) (s.2.1.map Nd.dat) g, .blk b2 25 [.int .i64 1, sv [], .int .i64 0, .int .i64 0, .slice s.2.2.1 s.2.1.length s.2.2.2], .blk b1 25 [.int .i64 0, sv [], .int .i64 0, .int .i64 0, .slice none 0 0]] [] ∧ s.2.1.length + s.1.length ≤ 1048576 ∧
    progP ts = bd (progF (f + 1) s.2.1) (fun l => ret (.mk 1 [] 0 0 l)) s.1 ∧ s.1.length ≤ f)
    (fun s => [(0, ptr X.b), (2, .pointer (some ⟨b1, 0, none⟩)), (3, .pointer (some ⟨b2, 0, none⟩))]) (fun s => s.1.length) (ts, [], (none, 0)) ?_ ?_ ?_
  · exact ⟨none, ts.length, L, by simpa using hlen, rfl, Nat.le_refl _⟩
  · simp (implicitDefEqProofs := false) only [go_sem, ptr]
  · rintro ⟨cur, ns, va, vc⟩ H4 ⟨g, f, L, hle, hp, hf⟩
    simp only at L hp hf hle ⊢
    have hne := L.ps.nil
    have hcur := List.length_pos_iff.2 hne
    have hp : progP ts = if (hd cur).kind = 6 then ret (Nd.mk 1 [] 0 0 ns) cur else bd declP (fun d => bd (progF f (ns ++ [d])) (fun l => ret (.mk 1 [] 0 0 l))) cur := by
      rw [hp]
      conv => lhs; unfold bd progF
      by_cases e : (hd cur).kind = 6
      · simp only [e, if_true]
      · simp only [e, if_false]
        rw [← bd_bd]; rfl
    simp (implicitDefEqProofs := false) only [go_sem]
    refine look_go L fun H5 L => ?_
    by_cases k6 : (hd cur).kind = 6
    · rw [if_pos k6] at hp
      simp (implicitDefEqProofs := false) only [go_sem, tkC, k6]
      have L := L.rowN 0 ns rfl
      simp only [List.set_cons_zero, List.set_cons_succ, List.set_nil, List.eraseIdx_cons_zero, List.eraseIdx_cons_succ] at L
      have c := L.cell 0 rfl
      simp (implicitDefEqProofs := false) only [go_sem, c]
      refine L.stoAll 1 rfl rfl (one_agg (t := []) rfl) fun HZ L => ?_
      simp only [List.set_cons_zero, List.set_cons_succ, List.set_nil, List.eraseIdx_cons_zero, List.eraseIdx_cons_succ] at L
      have c := L.cell 1 rfl
      simp (implicitDefEqProofs := false) only [go_sem, c]
      exact L.fin hp (.inl (by simp))
    · rw [if_neg k6] at hp
      have c := L.cell 1 rfl
      simp (implicitDefEqProofs := false) only [go_sem, tkC, k6, c]
      refine declaration_ok.goN hs L hp fun kk tt nn aa ks kv r1 H6 L hp he => ?_
      have hlt := declP_lt he hne
      have c := L.cell 1 rfl
      simp (implicitDefEqProofs := false) only [go_sem, c]
      refine L.newS fun bA HA L => ?_
      have c := L.cell 2 rfl
      simp (implicitDefEqProofs := false) only [go_sem, c]
      refine L.appN (ns := ns) (ks := ks) 0 rfl (by simp) (by omega) fun a c g' HB L => ?_
      simp only [List.set_cons_zero, List.set_cons_succ, List.set_nil, List.eraseIdx_cons_zero, List.eraseIdx_cons_succ] at L
      simp (implicitDefEqProofs := false) only [go_sem]
      refine L.stoOne 1 rfl (by simp) rfl fun HC L => ?_
      simp only [List.set_cons_zero, List.set_cons_succ, List.set_nil, List.eraseIdx_cons_zero, List.eraseIdx_cons_succ] at L
      simp (implicitDefEqProofs := false) only [go_sem]
      obtain ⟨f, rfl⟩ : ∃ f', f = f' + 1 := ⟨f - 1, by omega⟩
      refine loopK_intro (r1, ns ++ [.mk kk tt nn aa ks], (a, c)) ?_ ?_ ⟨g', f, L.drop (List.Sublist.refl _) (by simp), ?_, hp, show r1.length ≤ f by omega⟩
      · show r1.length < cur.length
        omega
      · simp (implicitDefEqProofs := false) only [go_sem]
      · simp only [List.length_append, List.length_cons, List.length_nil]; omega

section
variable (s : Bs) (hl : s.length ≤ maxLen) {H : Heap} (hG : GlobH H)
include hl hG
theorem pexpr_ok : HCalls Tryz.prog 7 #[sv s] H fun v H' => ResR (srcP (exprP (loK 64)) s) v H H' ∧ Fr [] H H' := by
  refine calls_of_vc (args := [_]) Tryz.func7 c7ok (Nat.le_of_ble_eq_true rfl) ?_
  have L : Lv [] H [] (fun _ => True) H [] [] := Lv.start (by simp) (fun _ _ _ _ => trivial)
  simp (implicitDefEqProofs := false) only [go_sem, c7]
  refine L.newP fun b1 H1 L => ?_
  simp (implicitDefEqProofs := false) only [go_sem]
  refine L.newP fun b2 H2 L => ?_
  simp (implicitDefEqProofs := false) only [go_sem]
  refine (prun_ok (g := 16) (by kernel_rfl) pexpr1_ok s hl (hG.ext L.fr)).mono ?_
  rintro v H3 ⟨hv, hf3⟩
  cases e : srcP (exprP (loK 64)) s with
  | error e =>
    rw [e] at hv
    simp only [ResR] at hv
    subst hv
    have L := L.ext hf3
    simp (implicitDefEqProofs := false) only [go_sem, zeroN, sv]
    refine L.stoAll 1 rfl rfl (by simp [Value.oneCell']) fun H4 L => ?_
    simp only [List.set_cons_zero, List.set_cons_succ, List.set_nil, List.eraseIdx_cons_zero, List.eraseIdx_cons_succ] at L
    simp (implicitDefEqProofs := false) only [go_sem]
    refine L.stoAll 0 rfl rfl (by simp [Value.oneCell']) fun H5 L => ?_
    simp only [List.set_cons_zero, List.set_cons_succ, List.set_nil, List.eraseIdx_cons_zero, List.eraseIdx_cons_succ] at L
    have c0 := L.cell 0 rfl
    have c1 := L.cell 1 rfl
    simp (implicitDefEqProofs := false) only [go_sem, c0, c1]
    exact ⟨by simp [ResR, zeroN, sv], L.fr⟩
  | ok n =>
    rw [e] at hv
    simp only [ResR] at hv
    obtain ⟨cs, rfl, hr⟩ := hv
    obtain ⟨kk, tt, nn, aa, ks⟩ := n
    obtain ⟨kv, rfl, hkv⟩ := RepP.nd_open hr
    have L := (L.ext hf3).add (L.built hkv)
    simp (implicitDefEqProofs := false) only [go_sem]
    refine L.stoAll 1 rfl rfl (one_agg (nd_one (L.dat (kidsD ks, [kv]) (by simp)))) fun H4 L => ?_
    simp only [List.set_cons_zero, List.set_cons_succ, List.set_nil, List.eraseIdx_cons_zero, List.eraseIdx_cons_succ] at L
    simp (implicitDefEqProofs := false) only [go_sem]
    refine L.stoAll 0 rfl rfl (by simp [Value.oneCell']) fun H5 L => ?_
    simp only [List.set_cons_zero, List.set_cons_succ, List.set_nil, List.eraseIdx_cons_zero, List.eraseIdx_cons_succ] at L
    have c0 := L.cell 0 rfl
    have c1 := L.cell 1 rfl
    simp (implicitDefEqProofs := false) only [go_sem, c0, c1]
    exact ⟨⟨_, rfl, RepP.nd ((L.dat (kidsD ks, [kv]) (by simp)).more fun x hx => .inl (.inl hx))⟩, L.fr⟩
theorem plat_ok : HCalls Tryz.prog 10 #[sv s] H fun v H' => ResR (srcP (latP (loL 64)) s) v H H' ∧ Fr [] H H' := by
  refine calls_of_vc (args := [_]) Tryz.func10 c10ok (Nat.le_of_ble_eq_true rfl) ?_
  have L : Lv [] H [] (fun _ => True) H [] [] := Lv.start (by simp) (fun _ _ _ _ => trivial)
  simp (implicitDefEqProofs := false) only [go_sem, c10]
  refine L.newP fun b1 H1 L => ?_
  simp (implicitDefEqProofs := false) only [go_sem]
  refine L.newP fun b2 H2 L => ?_
  simp (implicitDefEqProofs := false) only [go_sem]
  refine (prun_ok (g := 20) (by kernel_rfl) plat1_ok s hl (hG.ext L.fr)).mono ?_
  rintro v H3 ⟨hv, hf3⟩
  cases e : srcP (latP (loL 64)) s with
  | error e =>
    rw [e] at hv
    simp only [ResR] at hv
    subst hv
    have L := L.ext hf3
    simp (implicitDefEqProofs := false) only [go_sem, zeroN, sv]
    refine L.stoAll 1 rfl rfl (by simp [Value.oneCell']) fun H4 L => ?_
    simp only [List.set_cons_zero, List.set_cons_succ, List.set_nil, List.eraseIdx_cons_zero, List.eraseIdx_cons_succ] at L
    simp (implicitDefEqProofs := false) only [go_sem]
    refine L.stoAll 0 rfl rfl (by simp [Value.oneCell']) fun H5 L => ?_
    simp only [List.set_cons_zero, List.set_cons_succ, List.set_nil, List.eraseIdx_cons_zero, List.eraseIdx_cons_succ] at L
    have c0 := L.cell 0 rfl
    have c1 := L.cell 1 rfl
    simp (implicitDefEqProofs := false) only [go_sem, c0, c1]
    exact ⟨by simp [ResR, zeroN, sv], L.fr⟩
  | ok n =>
    rw [e] at hv
    simp only [ResR] at hv
    obtain ⟨cs, rfl, hr⟩ := hv
    obtain ⟨kk, tt, nn, aa, ks⟩ := n
    obtain ⟨kv, rfl, hkv⟩ := RepP.nd_open hr
    have L := (L.ext hf3).add (L.built hkv)
    simp (implicitDefEqProofs := false) only [go_sem]
    refine L.stoAll 1 rfl rfl (one_agg (nd_one (L.dat (kidsD ks, [kv]) (by simp)))) fun H4 L => ?_
    simp only [List.set_cons_zero, List.set_cons_succ, List.set_nil, List.eraseIdx_cons_zero, List.eraseIdx_cons_succ] at L
    simp (implicitDefEqProofs := false) only [go_sem]
    refine L.stoAll 0 rfl rfl (by simp [Value.oneCell']) fun H5 L => ?_
    simp only [List.set_cons_zero, List.set_cons_succ, List.set_nil, List.eraseIdx_cons_zero, List.eraseIdx_cons_succ] at L
    have c0 := L.cell 0 rfl
    have c1 := L.cell 1 rfl
    simp (implicitDefEqProofs := false) only [go_sem, c0, c1]
    exact ⟨⟨_, rfl, RepP.nd ((L.dat (kidsD ks, [kv]) (by simp)).more fun x hx => .inl (.inl hx))⟩, L.fr⟩
theorem pparse_ok : HCalls Tryz.prog 12 #[sv s] H fun v H' => ResR (srcP progP s) v H H' ∧ Fr [] H H' := by
  refine calls_of_vc (args := [_]) Tryz.func12 c12ok (Nat.le_of_ble_eq_true rfl) ?_
  have L : Lv [] H [] (fun _ => True) H [] [] := Lv.start (by simp) (fun _ _ _ _ => trivial)
  simp (implicitDefEqProofs := false) only [go_sem, c12]
  refine L.newP fun b1 H1 L => ?_
  simp (implicitDefEqProofs := false) only [go_sem]
  refine L.newP fun b2 H2 L => ?_
  simp (implicitDefEqProofs := false) only [go_sem]
  refine (prun_ok (g := 22) (by kernel_rfl) pparse1_ok s hl (hG.ext L.fr)).mono ?_
  rintro v H3 ⟨hv, hf3⟩
  cases e : srcP progP s with
  | error e =>
    rw [e] at hv
    simp only [ResR] at hv
    subst hv
    have L := L.ext hf3
    simp (implicitDefEqProofs := false) only [go_sem, zeroN, sv]
    refine L.stoAll 1 rfl rfl (by simp [Value.oneCell']) fun H4 L => ?_
    simp only [List.set_cons_zero, List.set_cons_succ, List.set_nil, List.eraseIdx_cons_zero, List.eraseIdx_cons_succ] at L
    simp (implicitDefEqProofs := false) only [go_sem]
    refine L.stoAll 0 rfl rfl (by simp [Value.oneCell']) fun H5 L => ?_
    simp only [List.set_cons_zero, List.set_cons_succ, List.set_nil, List.eraseIdx_cons_zero, List.eraseIdx_cons_succ] at L
    have c0 := L.cell 0 rfl
    have c1 := L.cell 1 rfl
    simp (implicitDefEqProofs := false) only [go_sem, c0, c1]
    exact ⟨by simp [ResR, zeroN, sv], L.fr⟩
  | ok n =>
    rw [e] at hv
    simp only [ResR] at hv
    obtain ⟨cs, rfl, hr⟩ := hv
    obtain ⟨kk, tt, nn, aa, ks⟩ := n
    obtain ⟨kv, rfl, hkv⟩ := RepP.nd_open hr
    have L := (L.ext hf3).add (L.built hkv)
    simp (implicitDefEqProofs := false) only [go_sem]
    refine L.stoAll 1 rfl rfl (one_agg (nd_one (L.dat (kidsD ks, [kv]) (by simp)))) fun H4 L => ?_
    simp only [List.set_cons_zero, List.set_cons_succ, List.set_nil, List.eraseIdx_cons_zero, List.eraseIdx_cons_succ] at L
    simp (implicitDefEqProofs := false) only [go_sem]
    refine L.stoAll 0 rfl rfl (by simp [Value.oneCell']) fun H5 L => ?_
    simp only [List.set_cons_zero, List.set_cons_succ, List.set_nil, List.eraseIdx_cons_zero, List.eraseIdx_cons_succ] at L
    have c0 := L.cell 0 rfl
    have c1 := L.cell 1 rfl
    simp (implicitDefEqProofs := false) only [go_sem, c0, c1]
    exact ⟨⟨_, rfl, RepP.nd ((L.dat (kidsD ks, [kv]) (by simp)).more fun x hx => .inl (.inl hx))⟩, L.fr⟩
end
end Go.Proofs.YtbgjgaaobnbijaaGreatDoor
end
section
/- Trees compared and counted: contracts. -/
set_option linter.unusedSimpArgs false
set_option linter.unusedVariables false
set_option maxRecDepth 8000
namespace Go.Proofs.YtbgjgaaobnbijaaGreatDoor
open Gx Go

mutual
def sameN : Nd → Nd → Bool
  | .mk k t n _ ks, .mk k' t' n' _ ks' => decide (k = k') && decide (t = t') && decide (n = n') && decide (ks.length = ks'.length) && sameL ks ks'
def sameL : List Nd → List Nd → Bool
  | x :: xs, y :: ys => sameN x y && sameL xs ys
  | _, _ => true
end
mutual
def eqN : Nd → Nd → Bool
  | .mk k t n a ks, .mk k' t' n' a' ks' => decide (k = k') && decide (t = t') && decide (n = n') && decide (a = a') && decide (ks.length = ks'.length) && eqL ks ks'
def eqL : List Nd → List Nd → Bool
  | x :: xs, y :: ys => eqN x y && eqL xs ys
  | _, _ => true
end
mutual
def sizeN : Nd → Nat
  | .mk _ _ _ _ ks => sizeL ks + 1
def sizeL : List Nd → Nat
  | [] => 0
  | x :: xs => sizeN x + sizeL xs
end
theorem sizeL_get : ∀ (l : List Nd) (i : Nat) (h : i < l.length), sizeN l[i] ≤ sizeL l
  | x :: xs, 0, _ => by simp only [List.getElem_cons_zero, sizeL]; omega
  | x :: xs, i + 1, h => by
    have := sizeL_get xs i (by simpa using h)
    simp only [List.getElem_cons_succ, sizeL]; omega
/-- The cells of a tree, in memory that is read. -/
def NA (H : Heap) (n : Nd) (v : Value) : Prop := ∃ cs, v = .agg cs.toArray ∧ Rep H [] n.dat cs
theorem NA.ext {H H' : Heap} {n : Nd} {v : Value} (h : NA H n v) (hf : Fr [] H H') : NA H' n v := by
  obtain ⟨cs, h1, h2⟩ := h
  exact ⟨cs, h1, h2.ext hf⟩
theorem NA.open {H : Heap} {k n a : Int} {t : Bs} {ks : List Nd} {v : Value} (h : NA H (.mk k t n a ks) v) : ∃ kv, v = .agg #[.int .i64 k, sv t, .int .i64 n, .int .i64 a, kv] ∧ Rep H [] (kidsD ks) [kv] := by
  obtain ⟨cs, rfl, h2⟩ := h
  obtain ⟨kv, rfl, h3⟩ := nd_rep.1 h2
  exact ⟨kv, rfl, h3⟩
/-- A child in its row. -/
theorem kid_at {H : Heap} {ks : List Nd} {v : Value} (h : Rep H [] (kidsD ks) [v]) (j : Nat) (hj : j < ks.length) :
    ∃ b o c k t n a kks kv, v = .slice (some ⟨b, o, none⟩) ks.length c ∧ ks[j] = .mk k t n a kks ∧ (cellB H b (o + j * 5 + 0) = some (.int .i64 k) ∧ cellB H b (o + j * 5 + 1) = some (sv t) ∧ cellB H b (o + j * 5 + 2) = some (.int .i64 n) ∧ cellB H b (o + j * 5 + 3) = some (.int .i64 a) ∧ cellB H b (o + j * 5 + 4) = some kv) ∧ Rep H [] (kidsD kks) [kv] := by
  obtain ⟨b, o, c, x, h1, _, h3, h4, h5⟩ := Rep.at h j (by simpa using hj) (by decide)
  rw [List.getElem_map] at h5
  rw [List.length_map] at h1
  cases e : ks[j] with
  | mk k t n a kks =>
    rw [e] at h5
    obtain ⟨kv, rfl, h6⟩ := nd_rep.1 h5
    exact ⟨b, o, c, k, t, n, a, kks, kv, h1, rfl, ⟨h4 0 (by decide), h4 1 (by decide), h4 2 (by decide), h4 3 (by decide), h4 4 (by decide)⟩, h6⟩
theorem NA.mk {H : Heap} {k n a : Int} {t : Bs} {ks : List Nd} {kv : Value} (h : Rep H [] (kidsD ks) [kv]) : NA H (.mk k t n a ks) (.agg #[.int .i64 k, sv t, .int .i64 n, .int .i64 a, kv]) := ⟨_, rfl, nd_rep.2 ⟨kv, rfl, h⟩⟩
theorem kids_len {H : Heap} {ks : List Nd} {v : Value} (h : Rep H [] (kidsD ks) [v]) : ∃ a c, v = .slice a ks.length c ∧ ks.length ≤ c ∧ ks.length ≤ maxLen := by
  obtain ⟨a, c, h1, h2, h3⟩ := Rep.slice h
  simp only [List.length_map] at h1 h2
  exact ⟨a, c, h1, h2, by omega⟩
theorem wrap_add (a b : Int) : IntKind.i64.wrap (IntKind.i64.wrap a + IntKind.i64.wrap b) = IntKind.i64.wrap (a + b) := by
  simp only [IntKind.wrap, IntKind.bits, IntKind.signed]
  simp
  omega
theorem wrap_at {i n : Nat} (h : i < n) (hn : n ≤ maxLen) : IntKind.i64.wrap ((i : Int) + 1) = ((i + 1 : Nat) : Int) := by
  unfold maxLen at hn
  rw [wrap_i64_id _ (by omega) (by omega)]; omega
theorem L0 (H : Heap) : Lv [] H [] (fun _ => True) H [] [] := Lv.start (by simp) (fun _ _ _ _ => trivial)

theorem sameL_drop : ∀ (l m : List Nd) (i : Nat), (∀ j (h : j < l.length) (h' : j < m.length), j < i → sameN l[j] m[j] = true) → sameL l m = sameL (l.drop i) (m.drop i)
  | l, m, 0, _ => rfl
  | [], m, i + 1, _ => by simp [sameL]
  | x :: l, [], i + 1, _ => by simp [sameL]
  | x :: l, y :: m, i + 1, h => by
    have h0 := h 0 (by simp) (by simp) (by omega)
    simp only [List.getElem_cons_zero] at h0
    simp only [sameL, h0, Bool.true_and, List.drop_succ_cons]
    exact sameL_drop l m i fun j h1 h2 h3 => by
      have := h (j + 1) (by simp; omega) (by simp; omega) (by omega)
      simpa using this

theorem eqL_drop : ∀ (l m : List Nd) (i : Nat), (∀ j (h : j < l.length) (h' : j < m.length), j < i → eqN l[j] m[j] = true) → eqL l m = eqL (l.drop i) (m.drop i)
  | l, m, 0, _ => rfl
  | [], m, i + 1, _ => by simp [eqL]
  | x :: l, [], i + 1, _ => by simp [eqL]
  | x :: l, y :: m, i + 1, h => by
    have h0 := h 0 (by simp) (by simp) (by omega)
    simp only [List.getElem_cons_zero] at h0
    simp only [eqL, h0, Bool.true_and, List.drop_succ_cons]
    exact eqL_drop l m i fun j h1 h2 h3 => by
      have := h (j + 1) (by simp; omega) (by simp; omega) (by omega)
      simpa using this



theorem equal_ok : ∀ (N : Nat) (x y : Nd), sizeN x ≤ N → ∀ {H : Heap} {vx vy : Value}, NA H x vx → NA H y vy → HCalls Tryz.prog 19 #[vx, vy] H fun v H' => v = .bool (eqN x y) ∧ Fr [] H H' := by
  intro N
  induction N with
  | zero =>
    intro x y hx
    cases x; simp only [sizeN] at hx; omega
  | succ N ih =>
  intro x y hx H vx vy hax hay
  obtain ⟨k, t, n, a, ks⟩ := x
  obtain ⟨k', t', n', a', ks'⟩ := y
  obtain ⟨kv, rfl, hk⟩ := hax.open
  obtain ⟨kv', rfl, hk'⟩ := hay.open
  obtain ⟨aa, cc, rfl, hcc, hmx⟩ := kids_len hk
  obtain ⟨aa', cc', rfl, hcc', hmx'⟩ := kids_len hk'
  refine calls_of_vc (args := [_, _]) Tryz.func19 c19ok (Nat.le_of_ble_eq_true rfl) ?_
  have L := L0 H
  simp (implicitDefEqProofs := false) only [go_sem, c19]
  refine L.newP fun bx H1 L => ?_
  simp (implicitDefEqProofs := false) only [go_sem]
  refine L.newP fun bb H2 L => ?_
  have ca := L.cell 1 rfl
  have cb := L.cell 0 rfl
  by_cases ek : k = k'
  case neg =>
    have hs : eqN (.mk k t n a ks) (.mk k' t' n' a' ks') = false := by simp [eqN, ek]
    rw [hs]
    simp (implicitDefEqProofs := false) only [go_sem, ca, cb, ba_eq, ek, sv]
    exact L.fr
  by_cases et : t = t'
  case neg =>
    have hs : eqN (.mk k t n a ks) (.mk k' t' n' a' ks') = false := by simp [eqN, et]
    rw [hs]
    simp (implicitDefEqProofs := false) only [go_sem, ca, cb, ek, ba_eq, et, sv]
    exact L.fr
  by_cases en : n = n'
  case neg =>
    have hs : eqN (.mk k t n a ks) (.mk k' t' n' a' ks') = false := by simp [eqN, en]
    rw [hs]
    simp (implicitDefEqProofs := false) only [go_sem, ca, cb, ek, et, ba_eq, en, sv]
    exact L.fr
  by_cases ea : a = a'
  case neg =>
    have hs : eqN (.mk k t n a ks) (.mk k' t' n' a' ks') = false := by simp [eqN, ea]
    rw [hs]
    simp (implicitDefEqProofs := false) only [go_sem, ca, cb, ek, et, en, ba_eq, ea, sv]
    exact L.fr
  by_cases el : ks.length = ks'.length
  case neg =>
    have hs : eqN (.mk k t n a ks) (.mk k' t' n' a' ks') = false := by simp [eqN, el]
    rw [hs]
    have el' : ¬ ((ks.length : Int) = (ks'.length : Int)) := by omega
    simp (implicitDefEqProofs := false) only [go_sem, ca, cb, ek, et, en, ea, ba_eq, el', sv]
    exact L.fr
  have hs : eqN (.mk k t n a ks) (.mk k' t' n' a' ks') = eqL ks ks' := by simp [eqN, ek, et, en, ea, el]
  rw [hs]
  have el' : (ks.length : Int) = (ks'.length : Int) := by omega
  simp (implicitDefEqProofs := false) only [go_sem, ca, cb, ek, et, en, ea, ba_eq, el', sv]
  refine vc_loop (fun (i : Nat) H' => i ≤ ks.length ∧ Lv [] H [] (fun _ => True) H' [.blk bb 25 [.int .i64 k', sv t', .int .i64 n', .int .i64 a', .slice aa' ks'.length cc'], .blk bx 25 [.int .i64 k, sv t, .int .i64 n, .int .i64 a, .slice aa ks.length cc]] [] ∧ ∀ j (h : j < ks.length) (h' : j < ks'.length), j < i → eqN ks[j] ks'[j] = true)
    (fun i => [(2, .pointer (some ⟨bx, 0, none⟩)), (3, .pointer (some ⟨bb, 0, none⟩)), (5, .int .i64 i)]) (fun i => ks.length - i) 0 ?_ ?_ ?_
  · refine ⟨Nat.zero_le _, ?_, fun j _ _ h => by omega⟩
    exact L
  · simp (implicitDefEqProofs := false) only [go_sem, el']
  · rintro i H3 ⟨hi, L, hall⟩
    have ca := L.cell 1 rfl
    have cb := L.cell 0 rfl
    rcases Nat.lt_or_ge i ks.length with hlt | hge
    · have h0 : (0 : Int) ≤ (i : Int) := by omega
      have h1 : (i : Int) < (ks.length : Int) := by omega
      have h2 : (i : Int) < (ks'.length : Int) := by omega
      have hw := wrap_at hlt hmx
      obtain ⟨b, o, c, k1, t1, n1, a1, kks, kv1, e1, e2, ⟨q0, q1, q2, q3, q4⟩, hr⟩ := kid_at (hk.ext L.fr) i hlt
      obtain ⟨b', o', c', k2, t2, n2, a2, kks', kv2, e1', e2', ⟨p0, p1, p2, p3, p4⟩, hr'⟩ := kid_at (hk'.ext L.fr) i (by omega)
      cases e1; cases e1'
      simp only [Nat.add_zero] at q0 p0
      have hsz := sizeL_get ks i hlt
      simp only [sizeN] at hx
      have hcall := ih ks[i] ks'[i] (by omega) (H := H3) (e2 ▸ NA.mk hr) (e2' ▸ NA.mk hr')
      unfold sv at *
      simp (implicitDefEqProofs := false) only [go_sem, h0, h1, h2, ca, cb, q0, q1, q2, q3, q4, p0, p1, p2, p3, p4]
      refine hcall.mono ?_
      rintro v H4 ⟨rfl, hf⟩
      have L := L.ext hf
      cases e : eqN ks[i] ks'[i] with
      | false =>
        have hno : eqL ks ks' = false := by
          rw [eqL_drop ks ks' i fun j h h' hj => hall j h h' hj, List.drop_eq_getElem_cons hlt, List.drop_eq_getElem_cons (by omega : i < ks'.length)]
          simp [eqL, e]
        rw [hno]
        simp (implicitDefEqProofs := false) only [go_sem]
        exact L.fr
      | true =>
        simp (implicitDefEqProofs := false) only [go_sem, hw]
        refine loopK_intro (i + 1) ?_ ?_ ⟨by omega, L, fun j h h' hj => ?_⟩
        · show ks.length - (i + 1) < ks.length - i
          omega
        · simp (implicitDefEqProofs := false) only [go_sem, hw]
        · rcases Nat.lt_or_ge j i with q | q
          · exact hall j h h' q
          · obtain rfl : j = i := by omega
            exact e
    · have hfin : eqL ks ks' = true := by
        rw [eqL_drop ks ks' i fun j h h' hj => hall j h h' hj, List.drop_eq_nil_of_le hge]
        simp [eqL]
      rw [hfin]
      have h1 : ¬ ((i : Int) < (ks.length : Int)) := by omega
      have h2 : ¬ ((i : Int) < (ks'.length : Int)) := by omega
      simp (implicitDefEqProofs := false) only [go_sem, h1, h2, ca, cb]
      exact L.fr

theorem sizeL_take (l : List Nd) (i : Nat) (h : i < l.length) : sizeL (l.take (i + 1)) = sizeL (l.take i) + sizeN l[i] := by
  induction l generalizing i with
  | nil => simp at h
  | cons x xs ih =>
    cases i with
    | zero => simp [sizeL]
    | succ i =>
      have := ih i (by simpa using h)
      simp only [List.take_succ_cons, sizeL, List.getElem_cons_succ, this]; omega
theorem sizeL_all (l : List Nd) : sizeL (l.take l.length) = sizeL l := by rw [List.take_length]

theorem sizeL_le (l : List Nd) (i : Nat) : sizeL (l.take i) ≤ sizeL l := by
  induction l generalizing i with
  | nil => simp
  | cons x xs ih =>
    cases i with
    | zero => simp [sizeL]
    | succ i =>
      have := ih i
      simp only [List.take_succ_cons, sizeL]; omega

theorem size_ok : ∀ (N : Nat) (x : Nd), sizeN x ≤ N → ∀ {H : Heap} {vx : Value}, NA H x vx → HCalls Tryz.prog 14 #[vx] H fun v H' => v = .int .i64 (IntKind.i64.wrap (sizeN x)) ∧ Fr [] H H' := by
  intro N
  induction N with
  | zero =>
    intro x hx
    cases x; simp only [sizeN] at hx; omega
  | succ N ih =>
  intro x hx H vx hax
  obtain ⟨k, t, n, a, ks⟩ := x
  obtain ⟨kv, rfl, hk⟩ := hax.open
  obtain ⟨aa, cc, rfl, hcc, hmx⟩ := kids_len hk
  refine calls_of_vc (args := [_]) Tryz.func14 c14ok (Nat.le_of_ble_eq_true rfl) ?_
  have L := L0 H
  simp (implicitDefEqProofs := false) only [go_sem, c14]
  refine L.newP fun bx H1 L => ?_
  have ca := L.cell 0 rfl
  simp (implicitDefEqProofs := false) only [go_sem, ca]
  refine vc_loop (fun (i : Nat) H' => i ≤ ks.length ∧ Lv [] H [] (fun _ => True) H' [.blk bx 25 [.int .i64 k, sv t, .int .i64 n, .int .i64 a, .slice aa ks.length cc]] [])
    (fun i => [(3, .int .i64 (IntKind.i64.wrap ((1 + sizeL (ks.take i) : Nat) : Int))), (7, .slice aa ks.length cc), (8, .int .i64 ks.length), (9, .int .i64 i)]) (fun i => ks.length - i) 0 ?_ ?_ ?_
  · exact ⟨Nat.zero_le _, L⟩
  · simp (implicitDefEqProofs := false) only [go_sem, sizeL, List.take_zero]
    exact rfl
  · rintro i H3 ⟨hi, L⟩
    have ca := L.cell 0 rfl
    rcases Nat.lt_or_ge i ks.length with hlt | hge
    · have h0 : (0 : Int) ≤ (i : Int) := by omega
      have h1 : (i : Int) < (ks.length : Int) := by omega
      have hw := wrap_at hlt hmx
      obtain ⟨b, o, c, k1, t1, n1, a1, kks, kv1, e1, e2, ⟨q0, q1, q2, q3, q4⟩, hr⟩ := kid_at (hk.ext L.fr) i hlt
      cases e1
      simp only [Nat.add_zero] at q0
      have hsz := sizeL_get ks i hlt
      simp only [sizeN] at hx
      unfold sv at *
      simp (implicitDefEqProofs := false) only [go_sem, h0, h1, ca, q0, q1, q2, q3, q4]
      refine NewP_intro fun H5 hn5 hf5 _ => ?_
      have L5 := L.push hf5 hn5
      simp (implicitDefEqProofs := false) only [go_sem]
      refine Sto_all hn5 rfl (one_agg (nd_one (RepP.of_rep hr))) fun H6 hn6 hf6 _ => ?_
      have L := L5.sto 0 rfl hf6 hn6
      simp only [List.set_cons_zero, List.set_cons_succ, List.set_nil, List.eraseIdx_cons_zero, List.eraseIdx_cons_succ] at L
      have hr' := hr.ext (hf5.trans' hf6 (by simp) : Fr [] H3 H6)
      have ck := L.cell 0 rfl
      have hcall := ih ks[i] (by omega) (H := H6) (e2 ▸ (NA.mk hr').ext (Fr.refl [] _))
      unfold sv at *
      simp (implicitDefEqProofs := false) only [go_sem, ck]
      refine hcall.mono ?_
      rintro v H4 ⟨rfl, hf⟩
      have L := L.ext hf
      have hs := sizeL_take ks i hlt
      have hwa := wrap_add (1 + sizeL (ks.take i) : Nat) (sizeN ks[i])
      have hsum : ((1 + sizeL (ks.take i) : Nat) : Int) + (sizeN ks[i] : Int) = ((1 + sizeL (ks.take (i + 1)) : Nat) : Int) := by rw [hs]; omega
      rw [hsum] at hwa
      simp (implicitDefEqProofs := false) only [go_sem, hw, hwa]
      refine loopK_intro (i + 1) ?_ ?_ ⟨by omega, L.drop (List.sublist_cons_self _ _) (by simp)⟩
      · show ks.length - (i + 1) < ks.length - i
        omega
      · simp (implicitDefEqProofs := false) only [go_sem, hw, hwa]
    · have h1 : ¬ ((i : Int) < (ks.length : Int)) := by omega
      obtain rfl : i = ks.length := by omega
      simp (implicitDefEqProofs := false) only [go_sem, h1, ca]
      rw [sizeL_all]
      refine ⟨?_, L.fr⟩
      have e : 1 + sizeL ks = sizeL ks + 1 := by omega
      simp only [sizeN, e]


end Go.Proofs.YtbgjgaaobnbijaaGreatDoor
end
section
/- Readings of trees; the example. -/
set_option linter.unusedSimpArgs false
set_option linter.unusedVariables false
set_option maxRecDepth 8000
namespace Go.Proofs.YtbgjgaaobnbijaaGreatDoor
open Gx Go

def OpensF (P : Program) (F : Nat) (t : TypeId) {α : Type} (R : α → List Value → Heap → Prop) : Prop :=
  ∀ {H : Type} {enc : TypeId × Value → H} {W : World} {base : Nat} {sp : Nat → Bool} {held : Bool} {fuel : Nat} {cs : List Value} {x : DataW H × List MemPlace},
    fuel ≤ F → DataW.trod enc P W base sp held fuel t cs = some x → ∃ a, R a cs W.heap
theorem Opens.at {P : Program} {t : TypeId} {α : Type} {R : α → List Value → Heap → Prop} (h : Opens P t R) (F : Nat) : OpensF P F t R := by
  intro H enc W base sp held fuel cs x _ hx
  exact h hx

section
variable {P : Program}
theorem opensF_slice {t e m F : Nat} {α : Type} {R : α → List Value → Heap → Prop} (ht : P.underlying t = some (.slice e)) (hc : P.cellsOf e = m) (hm : 0 < m) (he : OpensF P F e R) : OpensF P (F + 1) t (SlR R m) := by
  intro H enc W base sp held fuel cs x hF h
  rcases DataW.trod_slice ht h with ⟨h0, _⟩ | ⟨a, len, cap, elems, rest, n, hn, rfl, rfl, hb, hl, hmx, hlen, hel, _, _⟩
  · exact ⟨[], none, 0, h0, by simp, by simp [maxLen], .inl rfl⟩
  · have hi : ∀ i, i < len → ∃ y : α, ∃ vs, vs.length = m ∧ (∀ j, j < m → cellAt W.heap (a.add (i * m + j)) = vs[j]?) ∧ R y vs W.heap := by
      intro i hi
      have h1 := hel i hi
      have h2 : elems[i]? = some elems[i] := List.getElem?_eq_getElem (by omega)
      rw [h2, Option.bind_eq_some_iff] at h1
      obtain ⟨vs, hv, hr⟩ := h1
      obtain ⟨h3, h4, h5⟩ := World.cells?_some hv
      obtain ⟨y, hy⟩ := he (by omega) hr
      rw [hc] at h4 h5 hv
      refine ⟨y, vs, h4, fun j hj => ?_, hy⟩
      have := h5 j hj
      rw [← this]
      show _ = cellAt W.heap _
      congr 1
      simp only [Addr.add]
      repeat' split
      all_goals first | rfl | omega | simp_all [Nat.add_assoc]
    obtain ⟨l, hl1, hl2⟩ := list_of (β := Unit) hi
    refine ⟨l, some a, cap, by rw [hl1], by omega, hmx, ?_⟩
    rcases Nat.eq_zero_or_pos l.length with h0 | h0
    · exact .inl (List.eq_nil_of_length_eq_zero h0)
    · have hspot : a.spot = none := by
        obtain ⟨vs, h1, h2, _⟩ := hl2 0 h0
        have h3 := h2 0 hm
        rw [List.getElem?_eq_getElem (by omega)] at h3
        unfold cellAt at h3
        split at h3
        · split at h3
          · cases h3
          · rename_i hs; simpa [Addr.add] using hs
        · cases h3
      obtain ⟨b, o, s⟩ := a
      simp only at hspot
      subst hspot
      refine .inr ⟨b, o, rfl, fun j hj => ?_⟩
      obtain ⟨vs, h1, h2, h3⟩ := hl2 j hj
      refine ⟨vs, h1, fun i hi => ?_, h3⟩
      rw [← h2 i hi, add_mk, cellAt_mk, Nat.add_assoc]

theorem structF_fields {H : Type} {enc : TypeId × Value → H} {W : World} {base : Nat} {sp : Nat → Bool} {held : Bool} {fuel F : Nat} {t : TypeId} {cs : List Value} {x : DataW H × List MemPlace} {fs : Array Field} (ht : P.underlying t = some (.struct fs))
    (hF : fuel ≤ F + 1) (h : DataW.trod enc P W base sp held fuel t cs = some x) : cs.length = P.cellsOf t ∧
      ∀ (i : Nat) (f : Field), fs[i]? = some f → ∀ {α : Type} {R : α → List Value → Heap → Prop} {m : Nat}, P.cellsOf f.type = m → OpensF P F f.type R → ∃ a, R a ((cs.drop f.offset).take m) W.heap := by
  obtain ⟨xs, n, hn, _, hl, hx, hf⟩ := DataW.trod_struct ht h
  refine ⟨hl, fun i f hi α R m hm ho => ?_⟩
  have h1 := hf i f hi
  have hlt : i < xs.length := by
    rw [hx]; exact (Array.getElem?_eq_some_iff.1 hi).1
  rw [List.getElem?_eq_getElem hlt, hm] at h1
  exact ho (by omega) h1
end

theorem Reps.of {H : Heap} {M : List Nat} : ∀ {ds : List Dat} {css : List (List Value)}, css.length = ds.length → (∀ (i : Nat) (h : i < css.length) (h' : i < ds.length), Rep H M ds[i] css[i]) → Reps H M ds css
  | [], [], _, _ => by simp [Reps]
  | d :: ds, c :: css, hl, h => by
    simp only [Reps]
    exact ⟨c, css, rfl, h 0 (by simp) (by simp), Reps.of (by simpa using hl) fun i hi hi' => h (i + 1) (by simpa using hi) (by simpa using hi')⟩
  | [], _ :: _, hl, _ => by simp at hl
  | _ :: _, [], hl, _ => by simp at hl
theorem flat_get {m : Nat} {css : List (List Value)} (h : ∀ x ∈ css, x.length = m) {q r : Nat} (hq : q < css.length) (hr : r < m) : css.flatten[q * m + r]? = css[q][r]? := by
  have h1 := flatten_drop q h
  have h2 : css.flatten[q * m + r]? = (css.flatten.drop (q * m))[r]? := by simp
  rw [h2, h1, List.drop_eq_getElem_cons hq, List.flatten_cons, List.getElem?_append_left (by rw [h _ (List.getElem_mem hq)]; exact hr)]
theorem rep_of_SlR {α : Type} {R : α → List Value → Heap → Prop} {D : α → Dat} {m : Nat} (h0 : 0 < m) {H : Heap} (hR : ∀ x vs, R x vs H → Rep H [] (D x) vs) {l : List α} {cs : List Value} (h : SlR R m l cs H) : Rep H [] (.list m (l.map D)) cs := by
  obtain ⟨a, c, rfl, h1, h2, h3⟩ := h
  simp only [Rep]
  rcases h3 with h3 | ⟨b, o, h4, h5⟩
  · subst h3
    exact ⟨a, c, [], rfl, by simp, h2, by simp [Reps], by simp, .inl rfl⟩
  · have hq : ∀ i, i < l.length → ∃ vs : List Value, vs.length = m ∧ (∀ k, k < m → cellB H b (o + i * m + k) = vs[k]?) ∧ ∀ hi : i < l.length, Rep H [] (D l[i]) vs := fun i hi => by
      obtain ⟨vs, q1, q2, q3⟩ := h5 i hi
      exact ⟨vs, q1, q2, fun _ => hR _ _ q3⟩
    obtain ⟨css, e1, e2⟩ := list_of (β := Unit) hq
    have hm : ∀ x ∈ css, x.length = m := fun x hx => by
      obtain ⟨i, hi, rfl⟩ := List.getElem_of_mem hx
      exact (e2 i hi).1
    refine ⟨a, c, css, by simp, by simpa using h1, h2, Reps.of (by simpa using e1) fun i hi hi' => ?_, hm, .inr ⟨b, o, h4, by simp, fun j hj => ?_⟩⟩
    · rw [List.getElem_map]
      exact (e2 i hi).2.2 (by omega)
    · have hlen : css.flatten.length = css.length * m := flatten_len hm
      have hqj : j / m < css.length := by rw [hlen] at hj; exact (Nat.div_lt_iff_lt_mul h0).2 hj
      have hrj : j % m < m := Nat.mod_lt _ h0
      have e : j = j / m * m + j % m := by rw [Nat.mul_comm, Nat.div_add_mod]
      have h8 := (e2 _ hqj).2.1 _ hrj
      rw [← flat_get hm hqj hrj, ← e, Nat.add_assoc, ← e] at h8
      rw [h8, List.getElem?_eq_getElem hj]


theorem opens_nd_F : ∀ F : Nat, OpensF Tryz.prog F 25 (fun (n : Nd) cs H => Rep H [] n.dat cs) := by
  intro F
  induction F using Nat.strongRecOn with
  | _ F ihF =>
  match F, ihF with
  | 0, _ =>
    intro H enc W base sp held fuel cs x hF h
    obtain rfl : fuel = 0 := by omega
    simp [DataW.trod] at h
  | 1, _ =>
    intro H enc W base sp held fuel cs x hF h
    obtain ⟨xs, n, hn, _, hl, hx, hf⟩ := DataW.trod_struct Tryz.underlying25 h
    obtain rfl : n = 0 := by omega
    have := hf 0 _ rfl
    have hx0 : 0 < xs.length := by rw [hx]; decide
    rw [List.getElem?_eq_getElem hx0] at this
    simp [DataW.trod] at this
  | F + 2, ihF =>
    have ih : OpensF Tryz.prog F 25 (fun (n : Nd) cs H => Rep H [] n.dat cs) := ihF F (by omega)
    intro H enc W base sp held fuel cs x hF h
    obtain ⟨hl, hf⟩ := structF_fields (F := F + 1) Tryz.underlying25 hF h
    have hc : Tryz.prog.cellsOf 25 = 5 := by kernel_rfl
    rw [hc] at hl
    obtain ⟨k, hk⟩ := hf 0 _ rfl (m := 1) (by kernel_rfl) (Opens.at (opens_int (k := .i64) Tryz.underlying3) _)
    obtain ⟨t, ht⟩ := hf 1 _ rfl (m := 1) (by kernel_rfl) (Opens.at (opens_str Tryz.underlying9) _)
    obtain ⟨n, hn⟩ := hf 2 _ rfl (m := 1) (by kernel_rfl) (Opens.at (opens_int (k := .i64) Tryz.underlying2) _)
    obtain ⟨a, ha⟩ := hf 3 _ rfl (m := 1) (by kernel_rfl) (Opens.at (opens_int (k := .i64) Tryz.underlying3) _)
    obtain ⟨ks, hks⟩ := hf 4 _ rfl (m := 1) (by kernel_rfl) (opensF_slice (R := fun (n : Nd) cs H => Rep H [] n.dat cs) (m := 5) Tryz.underlying23 (by kernel_rfl) (by decide) ih)
    match cs, hl with
    | [v0, v1, v2, v3, v4], _ =>
      obtain ⟨e0, _⟩ := hk
      obtain ⟨e1, _⟩ := ht
      obtain ⟨e2, _⟩ := hn
      obtain ⟨e3, _⟩ := ha
      change [v0] = _ at e0
      change [v1] = _ at e1
      change [v2] = _ at e2
      change [v3] = _ at e3
      cases e0; cases e1; cases e2; cases e3
      change SlR _ 5 ks [v4] _ at hks
      exact ⟨.mk k t n a ks, nd_rep.2 ⟨v4, rfl, rep_of_SlR (D := Nd.dat) (by decide) (fun x vs hx => hx) hks⟩⟩
theorem opens_nd : Opens Tryz.prog 25 (fun (n : Nd) cs H => Rep H [] n.dat cs) := by
  intro H enc W base sp held fuel cs x h
  exact opens_nd_F fuel (Nat.le_refl _) h

def exT : Nd := .mk 40 [] 0 6 [.mk 41 [] 0 2 [.mk 48 [97] 0 0 [], .mk 44 [] 1 4 []], .mk 49 [] 0 8 []]
theorem ex_ok : srcP (exprP (loK 64)) [97, 32, 45, 32, 49, 32, 43, 32, 115] = .ok exT := by rfl
theorem awake_ok {H : Heap} (hG : GlobH H) : HCalls Tryz.prog 6 #[] H fun v H' => v = .bool true ∧ Fr [] H H' := by
  refine calls_of_vc (args := []) Tryz.func6 c6ok (Nat.le_of_ble_eq_true rfl) ?_
  have L := L0 H
  have hx := pexpr_ok [97, 32, 45, 32, 49, 32, 43, 32, 115] (by decide) hG
  rw [ex_ok] at hx
  unfold sv at hx
  simp (implicitDefEqProofs := false) only [go_sem, c6]
  refine hx.mono ?_
  rintro v H1 ⟨⟨cs, rfl, hr⟩, hf⟩
  have L := L.ext hf
  unfold exT at hr
  obtain ⟨kv, rfl, hkv⟩ := RepP.nd_open hr
  simp (implicitDefEqProofs := false) only [go_sem]
  have L := L.add ((L0 H).built hkv)
  refine L.newP fun b1 H2 L => ?_
  simp (implicitDefEqProofs := false) only [go_sem]
  refine L.newP fun b2 H3 L => ?_
  simp (implicitDefEqProofs := false) only [go_sem]
  refine L.stoAll 1 rfl rfl (one_agg (t := []) (nd_one hkv)) fun H4 L => ?_
  simp only [List.set_cons_zero, List.set_cons_succ, List.set_nil, List.eraseIdx_cons_zero, List.eraseIdx_cons_succ] at L
  simp (implicitDefEqProofs := false) only [go_sem]
  refine L.stoAll 0 rfl rfl (by simp [Value.oneCell']) fun H5 L => ?_
  simp only [List.set_cons_zero, List.set_cons_succ, List.set_nil, List.eraseIdx_cons_zero, List.eraseIdx_cons_succ] at L
  have hr5 := (L.dat _ (List.mem_cons_self)).rep
  obtain ⟨aa, cc, rfl, _, _⟩ := kids_len hr5
  obtain ⟨b, o, c, k, t, n, a, kks, kv1, e1, e2, ⟨q0, q1, q2, q3, q4⟩, hr⟩ := kid_at hr5 0 (by decide)
  cases e1
  simp only [List.getElem_cons_zero, Nd.mk.injEq] at e2
  obtain ⟨rfl, rfl, rfl, rfl, rfl⟩ := e2
  have c0 := L.cell 0 rfl
  have c1 := L.cell 1 rfl
  simp only [Nat.zero_mul, Nat.add_zero] at q0
  have hs := size_ok _ exT (Nat.le_refl _) (H := H5) (NA.mk hr5)
  have e5 : IntKind.i64.wrap (sizeN exT) = 5 := by rfl
  rw [e5] at hs
  unfold sv at *
  simp (implicitDefEqProofs := false) only [go_sem, c0, c1, q0, List.length_cons, List.length_nil]
  refine hs.mono ?_
  rintro v H6 ⟨rfl, hf6⟩
  simp (implicitDefEqProofs := false) only [go_sem]
  exact L.fr.trans hf6
end Go.Proofs.YtbgjgaaobnbijaaGreatDoor
end
