/- What follows a primary: contract. -/
import Derived.Test.YtbgjgaaobnbijaaDoorPe
set_option linter.unusedSimpArgs false
set_option linter.unusedVariables false
set_option maxRecDepth 8000
namespace Go.Proofs.YtbgjgaaobnbijaaDoor
open Gx Go

set_option maxHeartbeats 4000000 in
theorem postfix_ok {k : Nat} (hex : ∀ j, k = j + 1 → POk j 26 [] (lev j).1 NdR) (hprim : POk k 108 [] (primP (loK k)) NdR) : POk k 107 [] (postP (loK k)) NdR := by
  refine ⟨fun {X H ts} hs => ?_⟩
  refine pcalls_of_vc (args := [_]) Tryd.func107 c107ok (Nat.le_of_ble_eq_true rfl) ?_
  have hblt := hs.lt
  have hx0 : H.size ≠ X.b := by omega
  simp (implicitDefEqProofs := false) only [go_sem, c107]
  refine NewP_intro fun H0 hn0 hf0 hs0 => ?_
  simp (implicitDefEqProofs := false) only [go_sem]
  refine hprim.use (hs.ext hf0) (fun e H' he hf => ⟨e, bd_err he, rfl, (fr1 hf0).trans hf⟩) fun n r v H1 he hv hs1 hf1 => ?_
  obtain ⟨cs, rfl, hr1⟩ := hv
  obtain ⟨kk, tt, nn, aa, ks⟩ := n
  obtain ⟨kv, rfl, hkv⟩ := RepP.nd_open hr1
  have hF1 := (fr1 hf0).trans hf1
  simp (implicitDefEqProofs := false) only [go_sem]
  refine NewP_intro fun H2 hn2 hf2 hsz2 => ?_
  simp (implicitDefEqProofs := false) only [go_sem]
  refine Sto_all hn2 rfl (one_agg (nd_one hkv)) fun H3 hn3 hf3 hsz3 => ?_
  have hfn := new_fr hf2 hf3
  obtain ⟨bn, hbn⟩ : ∃ bn, bn = H1.size := ⟨_, rfl⟩
  rw [← hbn] at hn3 ⊢
  have hsz1 := hf1.size
  have hr3 := (hn0.fr hf1 (by simpa using hx0)).ext hfn
  simp (implicitDefEqProofs := false) only [go_sem]
  refine vc_loop (fun (s : Nd × List Tk × Value) H' => ∃ f, s.2.1.length ≤ f ∧ postP (loK k) ts = postF (loK k) f s.1 s.2.1 ∧ Ps X H' s.2.1 k ∧ Fr [X.b] H H' ∧ H3.size ≤ H'.size ∧ Blk H' H.size 24 [.int .i64 0, sv [], .int .i64 0, .int .i64 0, .slice none 0 0] ∧
      ∃ kk tt nn aa ks, s.1 = .mk kk tt nn aa ks ∧ Blk H' bn 24 [.int .i64 kk, sv tt, .int .i64 nn, .int .i64 aa, s.2.2] ∧ RepP H' (fun x => x < H0.size ∨ x = bn) (kidsD ks) [s.2.2])
    (fun s => [(0, ptr X.b), (2, .pointer (some ⟨H.size, 0, none⟩)), (3, .pointer (some ⟨bn, 0, none⟩))]) (fun s => s.2.1.length) (.mk kk tt nn aa ks, r, kv) ?_ ?_ ?_
  · refine ⟨r.length, Nat.le_refl _, by unfold postP; rw [bd_ok he], hs1.ext hfn, hF1.trans (fr1 hfn), Nat.le_refl _, hr3, kk, tt, nn, aa, ks, rfl, hn3, ?_⟩
    exact hkv.ext hfn fun x hx => by omega
  · simp (implicitDefEqProofs := false) only [go_sem]
  · rintro ⟨n, cur, kv⟩ H4 ⟨f, hf, hch, hs4, hF4, hz4, hr4, kk, tt, nn, aa, ks, rfl, hb4, hk4⟩
    simp only at hf hch hs4 hF4 hb4 hk4 ⊢
    have hsz3' := hf3.size
    have hcur := List.length_pos_iff.2 hs4.nil
    have hct : cur.tail.length = cur.length - 1 := by simp
    obtain ⟨f, rfl⟩ : ∃ f', f = f' + 1 := ⟨f - 1, by omega⟩
    have hbx : bn ≠ X.b := by omega
    simp (implicitDefEqProofs := false) only [go_sem]
    refine (look_ok hs4).mono ?_
    rintro v H5 ⟨rfl, hf5⟩
    have hA := accept_ok (hs4.ext hf5) [46]
    unfold sv at hA
    simp (implicitDefEqProofs := false) only [go_sem, tkC]
    refine hA.mono ?_
    rintro v H6 ⟨rfl, hs6, hf6⟩
    have hb6 := (hb4.ext hf5).fr hf6 (by simpa using hbx)
    have hr6 := (hr4.ext hf5).fr hf6 (by simpa using hx0)
    have hz5 := hf5.size
    have hz6 := hf6.size
    have hk6 := RepP.fr (RepP.ext hk4 hf5 (B' := fun x => x < H0.size ∨ x = bn) fun x hx => .inl hx) hf6 (B' := fun x => x < H0.size ∨ x = bn) (by simp; omega) fun x hx => .inl hx
    have hF6 := (hF4.trans (fr1 hf5)).trans hf6
    have hcb := hb6.cell
    cases e : isB [46] cur with
    | true =>
      rw [e, if_pos rfl] at hs6
      have hst : postF (loK k) (f + 1) (.mk kk tt nn aa ks) cur = bd (takeP 1) (fun t => postF (loK k) f (.mk 42 t.text 0 (hd cur).at_ [.mk kk tt nn aa ks])) cur.tail := by simp only [postF, e, if_true]
      simp (implicitDefEqProofs := false) only [go_sem, hcb]
      refine ⟨?_, ?_⟩
      · refine (take_ok 1 (by decide)).use hs6 (fun e' H' he' hf' => ⟨e', by rw [hch, hst]; exact bd_err he', rfl, hF6.trans hf'⟩) fun t r' v H7 he' hv hs7 hf7 => ?_
        cases hv
        have hb7 := hb6.fr hf7 (by simpa using hbx)
        have hr7 := hr6.fr hf7 (by simpa using hx0)
        have hz7 := hf7.size
        have hk7 := RepP.fr hk6 hf7 (B' := fun x => x < H0.size ∨ x = bn) (by simp; omega) fun x hx => .inl hx
        have hcb7 := hb7.cell
        simp (implicitDefEqProofs := false) only [go_sem, tkC, hcb7]
        refine NewS_intro fun H8 hn8 hf8 hsz8 => ?_
        have hrow : RepP H8 (fun x => x < H0.size ∨ x = bn) (kidsD [.mk kk tt nn aa ks]) [.slice (some ⟨H7.size, 0, none⟩) 1 1] :=
          RepP.row1 (cx := [_, _, _, _, _]) hn8 (RepP.nd (RepP.ext hk7 hf8 fun x hx => .inl hx)) rfl (by omega)
        simp (implicitDefEqProofs := false) only [go_sem, sv]
        refine Sto_all (hb7.ext hf8) rfl (one_agg rfl) fun H9 hn9 hf9 hsz9 => ?_
        simp (implicitDefEqProofs := false) only [go_sem]
        have hle := (takeP_dn 1).of he'
        refine loopK_intro (.mk 42 t.text 0 (hd cur).at_ [.mk kk tt nn aa ks], r', .slice (some ⟨H7.size, 0, none⟩) 1 1) ?_ ?_ ?_
        · show r'.length < cur.length
          omega
        · simp (implicitDefEqProofs := false) only [go_sem]
        · refine ⟨f, show r'.length ≤ f by omega, by rw [hch, hst]; exact bd_ok he', Ps.on hs (hs7.ext hf8) hf9 (by simp; omega), ((hF6.trans hf7).trans (fr1 hf8)).trans' hf9 (by simp; omega), by omega, (hr7.ext hf8).fr hf9 (by simp; omega), _, _, _, _, _, rfl, hn9, ?_⟩
          exact RepP.fr hrow hf9 (by simp) fun x hx => .inl hx
      · refine NewS_intro fun H8 hn8 hf8 hsz8 => ?_
        have hrow : RepP H8 (fun x => x < H0.size ∨ x = bn) (kidsD [.mk kk tt nn aa ks]) [.slice (some ⟨H6.size, 0, none⟩) 1 1] :=
          RepP.row1 (cx := [_, _, _, _, _]) hn8 (RepP.nd (RepP.ext hk6 hf8 fun x hx => .inl hx)) rfl (by omega)
        have hb8 := hb6.ext hf8
        have hcb8 := hb8.cell
        simp (implicitDefEqProofs := false) only [go_sem, hcb8]
        refine (take_ok 1 (by decide)).use (hs6.ext hf8) (fun e' H' he' hf' => ⟨e', by rw [hch, hst]; exact bd_err he', rfl, (hF6.trans (fr1 hf8)).trans hf'⟩) fun t r' v H7 he' hv hs7 hf7 => ?_
        cases hv
        have hb7 := hb8.fr hf7 (by simpa using hbx)
        have hr7 := (hr6.ext hf8).fr hf7 (by simpa using hx0)
        have hz7 := hf7.size
        have hrow7 := RepP.fr hrow hf7 (B' := fun x => x < H0.size ∨ x = bn) (by simp; omega) fun x hx => .inl hx
        have hcb7 := hb7.cell
        simp (implicitDefEqProofs := false) only [go_sem, tkC, hcb7, sv]
        refine Sto_all hb7 rfl (one_agg rfl) fun H9 hn9 hf9 hsz9 => ?_
        simp (implicitDefEqProofs := false) only [go_sem]
        have hle := (takeP_dn 1).of he'
        refine loopK_intro (.mk 42 t.text 0 (hd cur).at_ [.mk kk tt nn aa ks], r', .slice (some ⟨H6.size, 0, none⟩) 1 1) ?_ ?_ ?_
        · show r'.length < cur.length
          omega
        · simp (implicitDefEqProofs := false) only [go_sem]
        · refine ⟨f, show r'.length ≤ f by omega, by rw [hch, hst]; exact bd_ok he', Ps.on hs hs7 hf9 (by simp; omega), ((hF6.trans (fr1 hf8)).trans hf7).trans' hf9 (by simp; omega), by omega, hr7.fr hf9 (by simp; omega), _, _, _, _, _, rfl, hn9, ?_⟩
          exact RepP.fr hrow7 hf9 (by simp) fun x hx => .inl hx
    | false =>
      rw [e, if_neg (by decide)] at hs6
      have hI := is_ok hs6 [91]
      unfold sv at hI
      simp (implicitDefEqProofs := false) only [go_sem]
      refine hI.mono ?_
      rintro v H7 ⟨rfl, hf7⟩
      have hb7 := hb6.ext hf7
      have hr7 := hr6.ext hf7
      have hk7 := RepP.ext hk6 hf7 (B' := fun x => x < H0.size ∨ x = bn) fun x hx => .inl hx
      have hs7 := hs6.ext hf7
      have hF7 := hF6.trans (fr1 hf7)
      have hz7 := hf7.size
      have hcb7 := hb7.cell
      cases e2 : isB [91] cur with
      | false =>
        simp (implicitDefEqProofs := false) only [go_sem, hcb7]
        refine Sto_all hr7 rfl (one_agg (nd_one hk7)) fun H9 hn9 hf9 hsz9 => ?_
        have hc9 := hn9.cell
        simp (implicitDefEqProofs := false) only [go_sem, hc9]
        refine ⟨.mk kk tt nn aa ks, cur, by rw [hch]; simp [postF, e, e2], ⟨_, rfl, ?_⟩, Ps.on hs hs7 hf9 (by simp), hF7.trans' hf9 (by simp)⟩
        exact RepP.nd (RepP.fr hk7 hf9 (by simp; omega) fun x hx => by omega)
      | true =>
        have hst : postF (loK k) (f + 1) (.mk kk tt nn aa ks) cur = entP (loK k) [91] (fun x => bd x.1 fun m => bd (expP [93]) fun _ => postF (loK k) f (.mk 43 [] 0 (hd cur).at_ [.mk kk tt nn aa ks, m])) cur := by simp only [postF, e, e2, if_true, Bool.false_eq_true, if_false]
        cases k with
        | zero =>
          have hE := enter_no hs7 (s := [91]) (.inr rfl)
          unfold sv at hE
          simp (implicitDefEqProofs := false) only [go_sem]
          refine hE.mono (fun _ _ h => h.elim) ?_
          rintro ch H8 ⟨rfl, hf8⟩
          rw [e2]
          exact ⟨(6, (hd cur).at_), by rw [hch, hst]; exact entP_0 e2, rfl, hF7.trans hf8⟩
        | succ j =>
          have hE := enter_ok hs7 e2
          unfold sv at hE
          have hj := hs.k64
          have hps := (hch.trans hst).trans (entP_s (x := lev j) e2)
          simp (implicitDefEqProofs := false) only [go_sem]
          refine hE.mono ?_
          rintro v H8 ⟨rfl, hs8, hf8⟩
          have hb8 := hb7.fr hf8 (by simpa using hbx)
          have hr8 := hr7.fr hf8 (by simpa using hx0)
          have hz8 := hf8.size
          have hk8 := RepP.fr hk7 hf8 (B' := fun x => x < H0.size ∨ x = bn) (by simp; omega) fun x hx => .inl hx
          have hF8 := hF7.trans hf8
          have hcb8 := hb8.cell
          simp (implicitDefEqProofs := false) only [go_sem, hcb8]
          refine (hex j rfl).use hs8 (fun e' H' he' hf' => ⟨e', by rw [hps]; exact bd_err he', rfl, hF8.trans hf'⟩) fun n' r' v H9 he' hv' hs9 hf9 => ?_
          rw [bd_ok he'] at hps
          obtain ⟨cs', rfl, hr9'⟩ := hv'
          obtain ⟨k', t', n', a', ks'⟩ := n'
          obtain ⟨kv', rfl, hkv'⟩ := RepP.nd_open hr9'
          have hb9 := hb8.fr hf9 (by simpa using hbx)
          have hr9 := hr8.fr hf9 (by simpa using hx0)
          have hz9 := hf9.size
          have hk9 := RepP.fr hk8 hf9 (B' := fun x => x < H0.size ∨ x = bn) (by simp; omega) fun x hx => .inl hx
          have hF9 := hF8.trans hf9
          have hcb9 := hb9.cell
          simp (implicitDefEqProofs := false) only [go_sem, hcb9]
          refine NewS_intro fun H10 hn10 hf10 hsz10 => ?_
          have hrow : RepP H10 (fun x => x < H0.size ∨ x = bn) (kidsD [.mk kk tt nn aa ks, .mk k' t' n' a' ks']) [.slice (some ⟨H9.size, 0, none⟩) 2 2] := by
            refine RepP.row2 (cx := [_, _, _, _, _]) (cy := [_, _, _, _, _]) hn10 (RepP.nd (RepP.ext hk9 hf10 fun x hx => .inl hx)) (RepP.ext hr9' hf10 fun x hx => .inl ?_) rfl rfl (by omega)
            omega
          simp (implicitDefEqProofs := false) only [go_sem]
          refine Sto_all (hb9.ext hf10) rfl (one_agg (t := []) rfl) fun H11 hn11 hf11 hsz11 => ?_
          have hrow11 := RepP.fr hrow hf11 (B' := fun x => x < H0.size ∨ x = bn) (by simp) fun x hx => .inl hx
          have hs11 := Ps.on hs (hs9.ext hf10) hf11 (by simp; omega)
          have hF11 : Fr [X.b] H H11 := (hF9.trans (fr1 hf10)).trans' hf11 (by simp; omega)
          have hr11 := (hr9.ext hf10).fr hf11 (by simp; omega)
          simp (implicitDefEqProofs := false) only [go_sem]
          refine (expect_ok [93]).use hs11 (fun e' H' he hf => ⟨e', by rw [hps]; exact bd_err he, rfl, hF11.trans hf⟩) fun _ r2 v H12 he2 hv hs12 hf12 => ?_
          rw [bd_ok he2] at hps
          have hz12 := hf12.size
          simp (implicitDefEqProofs := false) only [go_sem]
          refine (leave_ok hs12 (by omega)).mono ?_
          rintro v H13 ⟨hs13, hf13⟩
          have hz13 := hf13.size
          simp (implicitDefEqProofs := false) only [go_sem]
          have hle := (lev_dn j).1.of he'
          have hle2 := (expP_dn _).of he2
          have hrow12 := RepP.fr hrow11 hf12 (B' := fun x => x < H0.size ∨ x = bn) (by simp; omega) fun x hx => .inl hx
          refine loopK_intro (.mk 43 [] 0 (hd cur).at_ [.mk kk tt nn aa ks, .mk k' t' n' a' ks'], r2, .slice (some ⟨H9.size, 0, none⟩) 2 2) ?_ ?_ ?_
          · show r2.length < cur.length
            omega
          · simp (implicitDefEqProofs := false) only [go_sem]
          · refine ⟨f, show r2.length ≤ f by omega, hps, hs13, (hF11.trans hf12).trans hf13, by omega, (hr11.fr hf12 (by simpa using hx0)).fr hf13 (by simpa using hx0), _, _, _, _, _, rfl, (hn11.fr hf12 (by simpa using hbx)).fr hf13 (by simpa using hbx), ?_⟩
            exact RepP.fr hrow12 hf13 (by simp; omega) fun x hx => .inl hx
end Go.Proofs.YtbgjgaaobnbijaaDoor
