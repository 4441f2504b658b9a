/- Lists read. -/
import Derived.Test.YtdhlibkdcldioaaGreatFq
set_option linter.unusedSimpArgs false
set_option linter.unusedVariables false
set_option maxRecDepth 8000
namespace Go.Proofs.YtdhlibkdcldioaaGreat
open Gx Go

theorem EReadID : ElemOk Tryz.prog 30 92 3 40 (.agg #[.int .i64 0, .int .i64 0, .slice none 0 0]) := ⟨Tryz.underlying30, by kernel_rfl, rfl, by decide⟩
set_option maxHeartbeats 1000000 in
theorem elemsReadID_ok {f : Nat} {t : Ty} {k : Nat → Value} (hw : wid t = 3) (hp : ∀ cs, argOf t cs = .agg cs.toArray) (hf : ROk f t k) {H : Heap} {b : Nat} {L : Bs} {s : Pl} {g : Option Nat} (hL : L.length < 2^36) (h : RdO H b L s g) :
    PCalls Tryz.prog 134 #[pR b, .func (.func f) #[k b] #[]] H (RdR H b L s g (.list t)) (RdE H b L s (.list t)) := by
  refine pcalls_of_vc (args := [_, _]) Tryz.func134 c134ok (Nat.le_of_ble_eq_true rfl) ?_
  simp (implicitDefEqProofs := false) only [go_sem, c134, pR]
  refine NewP_intro fun H1 hn1 hf1 hs1 => ?_
  have hc1 := hn1.cell
  have hbx : H.size ≠ b := by have := h.lt; omega
  have hbH : b < H.size := h.lt
  simp (implicitDefEqProofs := false) only [go_sem, hc1]
  refine (rcount_o (h.ext hf1)).mono ?_
  rintro v H2 ⟨rfl, h2, hf2⟩
  have hb2 := hn1.fr hf2 (by simpa using hbx)
  have hc2 := hb2.cell
  simp (implicitDefEqProofs := false) only [go_sem, hc2]
  have hck := check_ok h2
  rw [pR] at hck
  refine PCalls.mono hck ?_ ?_
  rotate_left
  · rintro c H3 ⟨rfl, hn, hf3⟩
    refine ⟨rfl, ?_, (hf1.mono (by simp)).trans (hf2.trans (hf3.mono (by simp)))⟩
    simp only [dT, hn, repO_none]
  rintro v H3 ⟨rfl, hs, h3, hf3⟩
  obtain ⟨p, hp'⟩ := Option.isSome_iff_exists.1 hs
  obtain ⟨n, hn⟩ : ∃ n, n = (countO L s).1 := ⟨_, rfl⟩
  have hnL : n ≤ L.length := by rw [hn]; exact countO_le L s
  have hD : dT L (.list t) s = repO (dT L t) n (some p) := by simp only [dT, ← hp', hn]
  rw [hp'] at h3
  rw [← hn]
  have hf13 : Fr [b] H1 H3 := hf2.trans (hf3.mono (by simp))
  simp (implicitDefEqProofs := false) only [go_sem]
  refine vc_loop (fun (x : Nat × List (den t) × Nat × Value × Option Nat) H' => x.1 ≤ n ∧ x.2.1.length = x.1 ∧ LsO H' (fun y => y < H1.size) 92 3 x.2.2.2.1 (x.2.1.map (datT t)) x.2.2.2.2 ∧ (∀ k, x.2.2.2.2 = some k → H1.size ≤ k) ∧ RdO H' b L (some x.2.2.1) g ∧ Fr [b] H1 H' ∧
      repO (dT L t) n (some p) = (x.2.1 ++ (repO (dT L t) (n - x.1) (some x.2.2.1)).1, (repO (dT L t) (n - x.1) (some x.2.2.1)).2))
    (fun x => [(1, .func (.func f) #[k b] #[]), (2, .pointer (some ⟨H.size, 0, none⟩)), (5, x.2.2.2.1), (12, .int .i64 n), (13, .int .i64 x.1)]) (fun x => n - x.1) (0, [], p, .slice none 0 0, none) ?_ ?_ ?_
  · exact ⟨Nat.zero_le _, rfl, LsO.nil, by simp, h3, hf13, by simp⟩
  · simp (implicitDefEqProofs := false) only [go_sem]
  · rintro ⟨i, ds, q, vo, go⟩ H' ⟨hi, hdl, hls, hgo, hrd, hfr, hrep⟩
    simp only at hi hdl hls hgo hrd hfr hrep
    rcases Nat.lt_or_ge i n with hlt | hge
    · have hlt' : (i : Int) < (n : Int) := by omega
      have hw1 := succ_i64 i n hlt (by omega)
      simp (implicitDefEqProofs := false) only [go_sem, hlt']
      refine ⟨hf.1, PCalls.mono (hf.2 hL hrd) ?_ ?_⟩
      rotate_left
      · rintro c H5 ⟨rfl, he, hf5⟩
        refine ⟨rfl, ?_, (hf1.mono (by simp)).trans (hfr.trans hf5)⟩
        rw [hD, hrep]
        exact repO_end hlt he
      rintro v H5 ⟨cs, rfl, hr5, hrd5, hf5⟩
      have hxl := rep_wid hr5.rep
      rw [hw] at hxl
      obtain ⟨x0, x1, x2, rfl⟩ := len3 hxl
      rw [hp]
      simp (implicitDefEqProofs := false) only [go_sem]
      refine NewS_intro fun H6 hn6 hf6 hs6 => ?_
      have hsz1 := hfr.size
      have hsz5 := hf5.size
      have hb1 : b < H1.size := by omega
      have hls6 : LsO H6 (fun y => y < H1.size) 92 3 vo (ds.map (datT t)) go := (hls.fr hf5 (fun x hx => .inl (by simp at hx; omega)) (fun k hk => by have := hgo k hk; simp; omega) (fun x hx => .inl hx)).ext hf6 fun x hx => .inl hx
      have hd6 : RepP H6 (fun y => y < H1.size ∨ go = some y) (datT t (dT L t (some q)).1) [x0, x1, x2] := by
        refine RepP.ext hr5 hf6 fun x hx => .inl ?_
        rcases hx with hx | hx
        · omega
        · exact hls.lt hx
      simp (implicitDefEqProofs := false) only [go_sem]
      refine App_ls EReadID hls6 Tryz.underlying30 hn6 rfl (rep_one hr5.rep) hd6 rfl (by simp only [List.length_map]; unfold maxLen; omega) (by simp only [List.length_map]; omega) fun a c H7 g7 hl7 hf7 hg7 => ?_
      have hg71 : ∀ k, g7 = some k → H1.size ≤ k := by
        intro k hk
        rcases hg7 k hk with q | q
        · exact hgo k q
        · have := hf6.size; omega
      have hrd7 : RdO H7 b L (dT L t (some q)).2 g := (hrd5.ext hf6).fr hf7 (fun hm => by have := hgo b (by simpa using hm); omega) (fun k hk hm => by
        have h1 := hgo k (by simpa using hm)
        have h2 := h.ltg hk
        omega)
      have hf17 : Fr [b] H1 H7 := (hfr.trans (hf5.trans (hf6.mono (by simp)))).trans' hf7 fun x hx => .inr (hgo x (by simpa using hx))
      have hb7 := hn1.fr hf17 (by simpa using hbx)
      have hc7 := hb7.cell
      simp (implicitDefEqProofs := false) only [go_sem, hc7]
      have hck7 := check_ok hrd7
      rw [pR] at hck7
      refine PCalls.mono hck7 ?_ ?_
      rotate_left
      · rintro c H8 ⟨rfl, he, hf8⟩
        refine ⟨rfl, ?_, (hf1.mono (by simp)).trans (hf17.trans (hf8.mono (by simp)))⟩
        rw [hD, hrep]
        exact repO_end hlt he
      rintro v H8 ⟨rfl, hs8, h8, hf8⟩
      obtain ⟨q', hq'⟩ := Option.isSome_iff_exists.1 hs8
      rw [hq'] at h8
      have hstep := repO_step (f := dT L t) (p := q) (x := (dT L t (some q)).1) (q := q') hlt (by rw [← hq'])
      simp (implicitDefEqProofs := false) only [go_sem]
      refine loopK_intro (i + 1, ds ++ [(dT L t (some q)).1], q', .slice a ((ds.map (datT t)).length + 1) c, g7) (by show n - (i + 1) < n - i; omega) ?_ ?_
      · simp (implicitDefEqProofs := false) only [go_sem, hw1]
      · refine ⟨hlt, by simp [hdl], ?_, hg71, h8, hf17.trans (hf8.mono (by simp)), ?_⟩
        · have := hl7.ext hf8 (B' := fun y => y < H1.size) fun x hx => .inl hx
          simpa using this
        · rw [hrep, hstep]; simp
    · have hge' : ¬ (i : Int) < (n : Int) := by omega
      have hin : i = n := by omega
      subst hin
      simp (implicitDefEqProofs := false) only [go_sem, hge']
      rw [Nat.sub_self] at hrep
      simp only [repO, List.append_nil] at hrep
      refine ⟨[vo], rfl, ?_, ?_, (hf1.mono (by simp)).trans hfr⟩
      · rw [hD, hrep]
        have hr := hls.rep fun b hb hx => by have := hgo b hb; omega
        have hE : datT (.list t) ds = .list 3 (ds.map (datT t)) := by simp only [datT, hw]
        rw [hE]
        exact hr.more fun x hx => .inl (by have := hf1.size; omega)
      · rw [hD, hrep]; exact hrd

theorem EBase : ElemOk Tryz.prog 31 60 2 48 (.agg #[.slice none 0 0, .slice none 0 0]) := ⟨Tryz.underlying31, by kernel_rfl, rfl, by decide⟩
set_option maxHeartbeats 1000000 in
theorem elemsBase_ok {f : Nat} {t : Ty} {k : Nat → Value} (hw : wid t = 2) (hp : ∀ cs, argOf t cs = .agg cs.toArray) (hf : ROk f t k) {H : Heap} {b : Nat} {L : Bs} {s : Pl} {g : Option Nat} (hL : L.length < 2^36) (h : RdO H b L s g) :
    PCalls Tryz.prog 136 #[pR b, .func (.func f) #[k b] #[]] H (RdR H b L s g (.list t)) (RdE H b L s (.list t)) := by
  refine pcalls_of_vc (args := [_, _]) Tryz.func136 c136ok (Nat.le_of_ble_eq_true rfl) ?_
  simp (implicitDefEqProofs := false) only [go_sem, c136, pR]
  refine NewP_intro fun H1 hn1 hf1 hs1 => ?_
  have hc1 := hn1.cell
  have hbx : H.size ≠ b := by have := h.lt; omega
  have hbH : b < H.size := h.lt
  simp (implicitDefEqProofs := false) only [go_sem, hc1]
  refine (rcount_o (h.ext hf1)).mono ?_
  rintro v H2 ⟨rfl, h2, hf2⟩
  have hb2 := hn1.fr hf2 (by simpa using hbx)
  have hc2 := hb2.cell
  simp (implicitDefEqProofs := false) only [go_sem, hc2]
  have hck := check_ok h2
  rw [pR] at hck
  refine PCalls.mono hck ?_ ?_
  rotate_left
  · rintro c H3 ⟨rfl, hn, hf3⟩
    refine ⟨rfl, ?_, (hf1.mono (by simp)).trans (hf2.trans (hf3.mono (by simp)))⟩
    simp only [dT, hn, repO_none]
  rintro v H3 ⟨rfl, hs, h3, hf3⟩
  obtain ⟨p, hp'⟩ := Option.isSome_iff_exists.1 hs
  obtain ⟨n, hn⟩ : ∃ n, n = (countO L s).1 := ⟨_, rfl⟩
  have hnL : n ≤ L.length := by rw [hn]; exact countO_le L s
  have hD : dT L (.list t) s = repO (dT L t) n (some p) := by simp only [dT, ← hp', hn]
  rw [hp'] at h3
  rw [← hn]
  have hf13 : Fr [b] H1 H3 := hf2.trans (hf3.mono (by simp))
  simp (implicitDefEqProofs := false) only [go_sem]
  refine vc_loop (fun (x : Nat × List (den t) × Nat × Value × Option Nat) H' => x.1 ≤ n ∧ x.2.1.length = x.1 ∧ LsO H' (fun y => y < H1.size) 60 2 x.2.2.2.1 (x.2.1.map (datT t)) x.2.2.2.2 ∧ (∀ k, x.2.2.2.2 = some k → H1.size ≤ k) ∧ RdO H' b L (some x.2.2.1) g ∧ Fr [b] H1 H' ∧
      repO (dT L t) n (some p) = (x.2.1 ++ (repO (dT L t) (n - x.1) (some x.2.2.1)).1, (repO (dT L t) (n - x.1) (some x.2.2.1)).2))
    (fun x => [(1, .func (.func f) #[k b] #[]), (2, .pointer (some ⟨H.size, 0, none⟩)), (5, x.2.2.2.1), (12, .int .i64 n), (13, .int .i64 x.1)]) (fun x => n - x.1) (0, [], p, .slice none 0 0, none) ?_ ?_ ?_
  · exact ⟨Nat.zero_le _, rfl, LsO.nil, by simp, h3, hf13, by simp⟩
  · simp (implicitDefEqProofs := false) only [go_sem]
  · rintro ⟨i, ds, q, vo, go⟩ H' ⟨hi, hdl, hls, hgo, hrd, hfr, hrep⟩
    simp only at hi hdl hls hgo hrd hfr hrep
    rcases Nat.lt_or_ge i n with hlt | hge
    · have hlt' : (i : Int) < (n : Int) := by omega
      have hw1 := succ_i64 i n hlt (by omega)
      simp (implicitDefEqProofs := false) only [go_sem, hlt']
      refine ⟨hf.1, PCalls.mono (hf.2 hL hrd) ?_ ?_⟩
      rotate_left
      · rintro c H5 ⟨rfl, he, hf5⟩
        refine ⟨rfl, ?_, (hf1.mono (by simp)).trans (hfr.trans hf5)⟩
        rw [hD, hrep]
        exact repO_end hlt he
      rintro v H5 ⟨cs, rfl, hr5, hrd5, hf5⟩
      have hxl := rep_wid hr5.rep
      rw [hw] at hxl
      obtain ⟨x0, x1, rfl⟩ := len2 hxl
      rw [hp]
      simp (implicitDefEqProofs := false) only [go_sem]
      refine NewS_intro fun H6 hn6 hf6 hs6 => ?_
      have hsz1 := hfr.size
      have hsz5 := hf5.size
      have hb1 : b < H1.size := by omega
      have hls6 : LsO H6 (fun y => y < H1.size) 60 2 vo (ds.map (datT t)) go := (hls.fr hf5 (fun x hx => .inl (by simp at hx; omega)) (fun k hk => by have := hgo k hk; simp; omega) (fun x hx => .inl hx)).ext hf6 fun x hx => .inl hx
      have hd6 : RepP H6 (fun y => y < H1.size ∨ go = some y) (datT t (dT L t (some q)).1) [x0, x1] := by
        refine RepP.ext hr5 hf6 fun x hx => .inl ?_
        rcases hx with hx | hx
        · omega
        · exact hls.lt hx
      simp (implicitDefEqProofs := false) only [go_sem]
      refine App_ls EBase hls6 Tryz.underlying31 hn6 rfl (rep_one hr5.rep) hd6 rfl (by simp only [List.length_map]; unfold maxLen; omega) (by simp only [List.length_map]; omega) fun a c H7 g7 hl7 hf7 hg7 => ?_
      have hg71 : ∀ k, g7 = some k → H1.size ≤ k := by
        intro k hk
        rcases hg7 k hk with q | q
        · exact hgo k q
        · have := hf6.size; omega
      have hrd7 : RdO H7 b L (dT L t (some q)).2 g := (hrd5.ext hf6).fr hf7 (fun hm => by have := hgo b (by simpa using hm); omega) (fun k hk hm => by
        have h1 := hgo k (by simpa using hm)
        have h2 := h.ltg hk
        omega)
      have hf17 : Fr [b] H1 H7 := (hfr.trans (hf5.trans (hf6.mono (by simp)))).trans' hf7 fun x hx => .inr (hgo x (by simpa using hx))
      have hb7 := hn1.fr hf17 (by simpa using hbx)
      have hc7 := hb7.cell
      simp (implicitDefEqProofs := false) only [go_sem, hc7]
      have hck7 := check_ok hrd7
      rw [pR] at hck7
      refine PCalls.mono hck7 ?_ ?_
      rotate_left
      · rintro c H8 ⟨rfl, he, hf8⟩
        refine ⟨rfl, ?_, (hf1.mono (by simp)).trans (hf17.trans (hf8.mono (by simp)))⟩
        rw [hD, hrep]
        exact repO_end hlt he
      rintro v H8 ⟨rfl, hs8, h8, hf8⟩
      obtain ⟨q', hq'⟩ := Option.isSome_iff_exists.1 hs8
      rw [hq'] at h8
      have hstep := repO_step (f := dT L t) (p := q) (x := (dT L t (some q)).1) (q := q') hlt (by rw [← hq'])
      simp (implicitDefEqProofs := false) only [go_sem]
      refine loopK_intro (i + 1, ds ++ [(dT L t (some q)).1], q', .slice a ((ds.map (datT t)).length + 1) c, g7) (by show n - (i + 1) < n - i; omega) ?_ ?_
      · simp (implicitDefEqProofs := false) only [go_sem, hw1]
      · refine ⟨hlt, by simp [hdl], ?_, hg71, h8, hf17.trans (hf8.mono (by simp)), ?_⟩
        · have := hl7.ext hf8 (B' := fun y => y < H1.size) fun x hx => .inl hx
          simpa using this
        · rw [hrep, hstep]; simp
    · have hge' : ¬ (i : Int) < (n : Int) := by omega
      have hin : i = n := by omega
      subst hin
      simp (implicitDefEqProofs := false) only [go_sem, hge']
      rw [Nat.sub_self] at hrep
      simp only [repO, List.append_nil] at hrep
      refine ⟨[vo], rfl, ?_, ?_, (hf1.mono (by simp)).trans hfr⟩
      · rw [hD, hrep]
        have hr := hls.rep fun b hb hx => by have := hgo b hb; omega
        have hE : datT (.list t) ds = .list 2 (ds.map (datT t)) := by simp only [datT, hw]
        rw [hE]
        exact hr.more fun x hx => .inl (by have := hf1.size; omega)
      · rw [hD, hrep]; exact hrd

theorem ECommand : ElemOk Tryz.prog 32 99 6 80 (.agg #[.int .i64 0, .int .i64 0, .int .i64 0, .slice none 0 0, .int .i64 0, .slice none 0 0]) := ⟨Tryz.underlying32, by kernel_rfl, rfl, by decide⟩
set_option maxHeartbeats 1000000 in
theorem elemsCommand_ok {f : Nat} {t : Ty} {k : Nat → Value} (hw : wid t = 6) (hp : ∀ cs, argOf t cs = .agg cs.toArray) (hf : ROk f t k) {H : Heap} {b : Nat} {L : Bs} {s : Pl} {g : Option Nat} (hL : L.length < 2^36) (h : RdO H b L s g) :
    PCalls Tryz.prog 138 #[pR b, .func (.func f) #[k b] #[]] H (RdR H b L s g (.list t)) (RdE H b L s (.list t)) := by
  refine pcalls_of_vc (args := [_, _]) Tryz.func138 c138ok (Nat.le_of_ble_eq_true rfl) ?_
  simp (implicitDefEqProofs := false) only [go_sem, c138, pR]
  refine NewP_intro fun H1 hn1 hf1 hs1 => ?_
  have hc1 := hn1.cell
  have hbx : H.size ≠ b := by have := h.lt; omega
  have hbH : b < H.size := h.lt
  simp (implicitDefEqProofs := false) only [go_sem, hc1]
  refine (rcount_o (h.ext hf1)).mono ?_
  rintro v H2 ⟨rfl, h2, hf2⟩
  have hb2 := hn1.fr hf2 (by simpa using hbx)
  have hc2 := hb2.cell
  simp (implicitDefEqProofs := false) only [go_sem, hc2]
  have hck := check_ok h2
  rw [pR] at hck
  refine PCalls.mono hck ?_ ?_
  rotate_left
  · rintro c H3 ⟨rfl, hn, hf3⟩
    refine ⟨rfl, ?_, (hf1.mono (by simp)).trans (hf2.trans (hf3.mono (by simp)))⟩
    simp only [dT, hn, repO_none]
  rintro v H3 ⟨rfl, hs, h3, hf3⟩
  obtain ⟨p, hp'⟩ := Option.isSome_iff_exists.1 hs
  obtain ⟨n, hn⟩ : ∃ n, n = (countO L s).1 := ⟨_, rfl⟩
  have hnL : n ≤ L.length := by rw [hn]; exact countO_le L s
  have hD : dT L (.list t) s = repO (dT L t) n (some p) := by simp only [dT, ← hp', hn]
  rw [hp'] at h3
  rw [← hn]
  have hf13 : Fr [b] H1 H3 := hf2.trans (hf3.mono (by simp))
  simp (implicitDefEqProofs := false) only [go_sem]
  refine vc_loop (fun (x : Nat × List (den t) × Nat × Value × Option Nat) H' => x.1 ≤ n ∧ x.2.1.length = x.1 ∧ LsO H' (fun y => y < H1.size) 99 6 x.2.2.2.1 (x.2.1.map (datT t)) x.2.2.2.2 ∧ (∀ k, x.2.2.2.2 = some k → H1.size ≤ k) ∧ RdO H' b L (some x.2.2.1) g ∧ Fr [b] H1 H' ∧
      repO (dT L t) n (some p) = (x.2.1 ++ (repO (dT L t) (n - x.1) (some x.2.2.1)).1, (repO (dT L t) (n - x.1) (some x.2.2.1)).2))
    (fun x => [(1, .func (.func f) #[k b] #[]), (2, .pointer (some ⟨H.size, 0, none⟩)), (5, x.2.2.2.1), (12, .int .i64 n), (13, .int .i64 x.1)]) (fun x => n - x.1) (0, [], p, .slice none 0 0, none) ?_ ?_ ?_
  · exact ⟨Nat.zero_le _, rfl, LsO.nil, by simp, h3, hf13, by simp⟩
  · simp (implicitDefEqProofs := false) only [go_sem]
  · rintro ⟨i, ds, q, vo, go⟩ H' ⟨hi, hdl, hls, hgo, hrd, hfr, hrep⟩
    simp only at hi hdl hls hgo hrd hfr hrep
    rcases Nat.lt_or_ge i n with hlt | hge
    · have hlt' : (i : Int) < (n : Int) := by omega
      have hw1 := succ_i64 i n hlt (by omega)
      simp (implicitDefEqProofs := false) only [go_sem, hlt']
      refine ⟨hf.1, PCalls.mono (hf.2 hL hrd) ?_ ?_⟩
      rotate_left
      · rintro c H5 ⟨rfl, he, hf5⟩
        refine ⟨rfl, ?_, (hf1.mono (by simp)).trans (hfr.trans hf5)⟩
        rw [hD, hrep]
        exact repO_end hlt he
      rintro v H5 ⟨cs, rfl, hr5, hrd5, hf5⟩
      have hxl := rep_wid hr5.rep
      rw [hw] at hxl
      obtain ⟨x0, x1, x2, x3, x4, x5, rfl⟩ := len6 hxl
      rw [hp]
      simp (implicitDefEqProofs := false) only [go_sem]
      refine NewS_intro fun H6 hn6 hf6 hs6 => ?_
      have hsz1 := hfr.size
      have hsz5 := hf5.size
      have hb1 : b < H1.size := by omega
      have hls6 : LsO H6 (fun y => y < H1.size) 99 6 vo (ds.map (datT t)) go := (hls.fr hf5 (fun x hx => .inl (by simp at hx; omega)) (fun k hk => by have := hgo k hk; simp; omega) (fun x hx => .inl hx)).ext hf6 fun x hx => .inl hx
      have hd6 : RepP H6 (fun y => y < H1.size ∨ go = some y) (datT t (dT L t (some q)).1) [x0, x1, x2, x3, x4, x5] := by
        refine RepP.ext hr5 hf6 fun x hx => .inl ?_
        rcases hx with hx | hx
        · omega
        · exact hls.lt hx
      simp (implicitDefEqProofs := false) only [go_sem]
      refine App_ls ECommand hls6 Tryz.underlying32 hn6 rfl (rep_one hr5.rep) hd6 rfl (by simp only [List.length_map]; unfold maxLen; omega) (by simp only [List.length_map]; omega) fun a c H7 g7 hl7 hf7 hg7 => ?_
      have hg71 : ∀ k, g7 = some k → H1.size ≤ k := by
        intro k hk
        rcases hg7 k hk with q | q
        · exact hgo k q
        · have := hf6.size; omega
      have hrd7 : RdO H7 b L (dT L t (some q)).2 g := (hrd5.ext hf6).fr hf7 (fun hm => by have := hgo b (by simpa using hm); omega) (fun k hk hm => by
        have h1 := hgo k (by simpa using hm)
        have h2 := h.ltg hk
        omega)
      have hf17 : Fr [b] H1 H7 := (hfr.trans (hf5.trans (hf6.mono (by simp)))).trans' hf7 fun x hx => .inr (hgo x (by simpa using hx))
      have hb7 := hn1.fr hf17 (by simpa using hbx)
      have hc7 := hb7.cell
      simp (implicitDefEqProofs := false) only [go_sem, hc7]
      have hck7 := check_ok hrd7
      rw [pR] at hck7
      refine PCalls.mono hck7 ?_ ?_
      rotate_left
      · rintro c H8 ⟨rfl, he, hf8⟩
        refine ⟨rfl, ?_, (hf1.mono (by simp)).trans (hf17.trans (hf8.mono (by simp)))⟩
        rw [hD, hrep]
        exact repO_end hlt he
      rintro v H8 ⟨rfl, hs8, h8, hf8⟩
      obtain ⟨q', hq'⟩ := Option.isSome_iff_exists.1 hs8
      rw [hq'] at h8
      have hstep := repO_step (f := dT L t) (p := q) (x := (dT L t (some q)).1) (q := q') hlt (by rw [← hq'])
      simp (implicitDefEqProofs := false) only [go_sem]
      refine loopK_intro (i + 1, ds ++ [(dT L t (some q)).1], q', .slice a ((ds.map (datT t)).length + 1) c, g7) (by show n - (i + 1) < n - i; omega) ?_ ?_
      · simp (implicitDefEqProofs := false) only [go_sem, hw1]
      · refine ⟨hlt, by simp [hdl], ?_, hg71, h8, hf17.trans (hf8.mono (by simp)), ?_⟩
        · have := hl7.ext hf8 (B' := fun y => y < H1.size) fun x hx => .inl hx
          simpa using this
        · rw [hrep, hstep]; simp
    · have hge' : ¬ (i : Int) < (n : Int) := by omega
      have hin : i = n := by omega
      subst hin
      simp (implicitDefEqProofs := false) only [go_sem, hge']
      rw [Nat.sub_self] at hrep
      simp only [repO, List.append_nil] at hrep
      refine ⟨[vo], rfl, ?_, ?_, (hf1.mono (by simp)).trans hfr⟩
      · rw [hD, hrep]
        have hr := hls.rep fun b hb hx => by have := hgo b hb; omega
        have hE : datT (.list t) ds = .list 6 (ds.map (datT t)) := by simp only [datT, hw]
        rw [hE]
        exact hr.more fun x hx => .inl (by have := hf1.size; omega)
      · rw [hD, hrep]; exact hrd

theorem EAck : ElemOk Tryz.prog 33 103 2 32 (.agg #[.int .i64 0, .slice none 0 0]) := ⟨Tryz.underlying33, by kernel_rfl, rfl, by decide⟩
set_option maxHeartbeats 1000000 in
theorem elemsAck_ok {f : Nat} {t : Ty} {k : Nat → Value} (hw : wid t = 2) (hp : ∀ cs, argOf t cs = .agg cs.toArray) (hf : ROk f t k) {H : Heap} {b : Nat} {L : Bs} {s : Pl} {g : Option Nat} (hL : L.length < 2^36) (h : RdO H b L s g) :
    PCalls Tryz.prog 140 #[pR b, .func (.func f) #[k b] #[]] H (RdR H b L s g (.list t)) (RdE H b L s (.list t)) := by
  refine pcalls_of_vc (args := [_, _]) Tryz.func140 c140ok (Nat.le_of_ble_eq_true rfl) ?_
  simp (implicitDefEqProofs := false) only [go_sem, c140, pR]
  refine NewP_intro fun H1 hn1 hf1 hs1 => ?_
  have hc1 := hn1.cell
  have hbx : H.size ≠ b := by have := h.lt; omega
  have hbH : b < H.size := h.lt
  simp (implicitDefEqProofs := false) only [go_sem, hc1]
  refine (rcount_o (h.ext hf1)).mono ?_
  rintro v H2 ⟨rfl, h2, hf2⟩
  have hb2 := hn1.fr hf2 (by simpa using hbx)
  have hc2 := hb2.cell
  simp (implicitDefEqProofs := false) only [go_sem, hc2]
  have hck := check_ok h2
  rw [pR] at hck
  refine PCalls.mono hck ?_ ?_
  rotate_left
  · rintro c H3 ⟨rfl, hn, hf3⟩
    refine ⟨rfl, ?_, (hf1.mono (by simp)).trans (hf2.trans (hf3.mono (by simp)))⟩
    simp only [dT, hn, repO_none]
  rintro v H3 ⟨rfl, hs, h3, hf3⟩
  obtain ⟨p, hp'⟩ := Option.isSome_iff_exists.1 hs
  obtain ⟨n, hn⟩ : ∃ n, n = (countO L s).1 := ⟨_, rfl⟩
  have hnL : n ≤ L.length := by rw [hn]; exact countO_le L s
  have hD : dT L (.list t) s = repO (dT L t) n (some p) := by simp only [dT, ← hp', hn]
  rw [hp'] at h3
  rw [← hn]
  have hf13 : Fr [b] H1 H3 := hf2.trans (hf3.mono (by simp))
  simp (implicitDefEqProofs := false) only [go_sem]
  refine vc_loop (fun (x : Nat × List (den t) × Nat × Value × Option Nat) H' => x.1 ≤ n ∧ x.2.1.length = x.1 ∧ LsO H' (fun y => y < H1.size) 103 2 x.2.2.2.1 (x.2.1.map (datT t)) x.2.2.2.2 ∧ (∀ k, x.2.2.2.2 = some k → H1.size ≤ k) ∧ RdO H' b L (some x.2.2.1) g ∧ Fr [b] H1 H' ∧
      repO (dT L t) n (some p) = (x.2.1 ++ (repO (dT L t) (n - x.1) (some x.2.2.1)).1, (repO (dT L t) (n - x.1) (some x.2.2.1)).2))
    (fun x => [(1, .func (.func f) #[k b] #[]), (2, .pointer (some ⟨H.size, 0, none⟩)), (5, x.2.2.2.1), (12, .int .i64 n), (13, .int .i64 x.1)]) (fun x => n - x.1) (0, [], p, .slice none 0 0, none) ?_ ?_ ?_
  · exact ⟨Nat.zero_le _, rfl, LsO.nil, by simp, h3, hf13, by simp⟩
  · simp (implicitDefEqProofs := false) only [go_sem]
  · rintro ⟨i, ds, q, vo, go⟩ H' ⟨hi, hdl, hls, hgo, hrd, hfr, hrep⟩
    simp only at hi hdl hls hgo hrd hfr hrep
    rcases Nat.lt_or_ge i n with hlt | hge
    · have hlt' : (i : Int) < (n : Int) := by omega
      have hw1 := succ_i64 i n hlt (by omega)
      simp (implicitDefEqProofs := false) only [go_sem, hlt']
      refine ⟨hf.1, PCalls.mono (hf.2 hL hrd) ?_ ?_⟩
      rotate_left
      · rintro c H5 ⟨rfl, he, hf5⟩
        refine ⟨rfl, ?_, (hf1.mono (by simp)).trans (hfr.trans hf5)⟩
        rw [hD, hrep]
        exact repO_end hlt he
      rintro v H5 ⟨cs, rfl, hr5, hrd5, hf5⟩
      have hxl := rep_wid hr5.rep
      rw [hw] at hxl
      obtain ⟨x0, x1, rfl⟩ := len2 hxl
      rw [hp]
      simp (implicitDefEqProofs := false) only [go_sem]
      refine NewS_intro fun H6 hn6 hf6 hs6 => ?_
      have hsz1 := hfr.size
      have hsz5 := hf5.size
      have hb1 : b < H1.size := by omega
      have hls6 : LsO H6 (fun y => y < H1.size) 103 2 vo (ds.map (datT t)) go := (hls.fr hf5 (fun x hx => .inl (by simp at hx; omega)) (fun k hk => by have := hgo k hk; simp; omega) (fun x hx => .inl hx)).ext hf6 fun x hx => .inl hx
      have hd6 : RepP H6 (fun y => y < H1.size ∨ go = some y) (datT t (dT L t (some q)).1) [x0, x1] := by
        refine RepP.ext hr5 hf6 fun x hx => .inl ?_
        rcases hx with hx | hx
        · omega
        · exact hls.lt hx
      simp (implicitDefEqProofs := false) only [go_sem]
      refine App_ls EAck hls6 Tryz.underlying33 hn6 rfl (rep_one hr5.rep) hd6 rfl (by simp only [List.length_map]; unfold maxLen; omega) (by simp only [List.length_map]; omega) fun a c H7 g7 hl7 hf7 hg7 => ?_
      have hg71 : ∀ k, g7 = some k → H1.size ≤ k := by
        intro k hk
        rcases hg7 k hk with q | q
        · exact hgo k q
        · have := hf6.size; omega
      have hrd7 : RdO H7 b L (dT L t (some q)).2 g := (hrd5.ext hf6).fr hf7 (fun hm => by have := hgo b (by simpa using hm); omega) (fun k hk hm => by
        have h1 := hgo k (by simpa using hm)
        have h2 := h.ltg hk
        omega)
      have hf17 : Fr [b] H1 H7 := (hfr.trans (hf5.trans (hf6.mono (by simp)))).trans' hf7 fun x hx => .inr (hgo x (by simpa using hx))
      have hb7 := hn1.fr hf17 (by simpa using hbx)
      have hc7 := hb7.cell
      simp (implicitDefEqProofs := false) only [go_sem, hc7]
      have hck7 := check_ok hrd7
      rw [pR] at hck7
      refine PCalls.mono hck7 ?_ ?_
      rotate_left
      · rintro c H8 ⟨rfl, he, hf8⟩
        refine ⟨rfl, ?_, (hf1.mono (by simp)).trans (hf17.trans (hf8.mono (by simp)))⟩
        rw [hD, hrep]
        exact repO_end hlt he
      rintro v H8 ⟨rfl, hs8, h8, hf8⟩
      obtain ⟨q', hq'⟩ := Option.isSome_iff_exists.1 hs8
      rw [hq'] at h8
      have hstep := repO_step (f := dT L t) (p := q) (x := (dT L t (some q)).1) (q := q') hlt (by rw [← hq'])
      simp (implicitDefEqProofs := false) only [go_sem]
      refine loopK_intro (i + 1, ds ++ [(dT L t (some q)).1], q', .slice a ((ds.map (datT t)).length + 1) c, g7) (by show n - (i + 1) < n - i; omega) ?_ ?_
      · simp (implicitDefEqProofs := false) only [go_sem, hw1]
      · refine ⟨hlt, by simp [hdl], ?_, hg71, h8, hf17.trans (hf8.mono (by simp)), ?_⟩
        · have := hl7.ext hf8 (B' := fun y => y < H1.size) fun x hx => .inl hx
          simpa using this
        · rw [hrep, hstep]; simp
    · have hge' : ¬ (i : Int) < (n : Int) := by omega
      have hin : i = n := by omega
      subst hin
      simp (implicitDefEqProofs := false) only [go_sem, hge']
      rw [Nat.sub_self] at hrep
      simp only [repO, List.append_nil] at hrep
      refine ⟨[vo], rfl, ?_, ?_, (hf1.mono (by simp)).trans hfr⟩
      · rw [hD, hrep]
        have hr := hls.rep fun b hb hx => by have := hgo b hb; omega
        have hE : datT (.list t) ds = .list 2 (ds.map (datT t)) := by simp only [datT, hw]
        rw [hE]
        exact hr.more fun x hx => .inl (by have := hf1.size; omega)
      · rw [hD, hrep]; exact hrd

theorem EProof : ElemOk Tryz.prog 34 66 10 176 (.agg #[.slice none 0 0, .int .i64 0, .int .i64 0, .int .i64 0, .slice none 0 0, .slice none 0 0, .slice none 0 0, .int .i64 0, .slice none 0 0, .slice none 0 0]) := ⟨Tryz.underlying34, by kernel_rfl, rfl, by decide⟩
set_option maxHeartbeats 1000000 in
theorem elemsProof_ok {f : Nat} {t : Ty} {k : Nat → Value} (hw : wid t = 10) (hp : ∀ cs, argOf t cs = .agg cs.toArray) (hf : ROk f t k) {H : Heap} {b : Nat} {L : Bs} {s : Pl} {g : Option Nat} (hL : L.length < 2^36) (h : RdO H b L s g) :
    PCalls Tryz.prog 142 #[pR b, .func (.func f) #[k b] #[]] H (RdR H b L s g (.list t)) (RdE H b L s (.list t)) := by
  refine pcalls_of_vc (args := [_, _]) Tryz.func142 c142ok (Nat.le_of_ble_eq_true rfl) ?_
  simp (implicitDefEqProofs := false) only [go_sem, c142, pR]
  refine NewP_intro fun H1 hn1 hf1 hs1 => ?_
  have hc1 := hn1.cell
  have hbx : H.size ≠ b := by have := h.lt; omega
  have hbH : b < H.size := h.lt
  simp (implicitDefEqProofs := false) only [go_sem, hc1]
  refine (rcount_o (h.ext hf1)).mono ?_
  rintro v H2 ⟨rfl, h2, hf2⟩
  have hb2 := hn1.fr hf2 (by simpa using hbx)
  have hc2 := hb2.cell
  simp (implicitDefEqProofs := false) only [go_sem, hc2]
  have hck := check_ok h2
  rw [pR] at hck
  refine PCalls.mono hck ?_ ?_
  rotate_left
  · rintro c H3 ⟨rfl, hn, hf3⟩
    refine ⟨rfl, ?_, (hf1.mono (by simp)).trans (hf2.trans (hf3.mono (by simp)))⟩
    simp only [dT, hn, repO_none]
  rintro v H3 ⟨rfl, hs, h3, hf3⟩
  obtain ⟨p, hp'⟩ := Option.isSome_iff_exists.1 hs
  obtain ⟨n, hn⟩ : ∃ n, n = (countO L s).1 := ⟨_, rfl⟩
  have hnL : n ≤ L.length := by rw [hn]; exact countO_le L s
  have hD : dT L (.list t) s = repO (dT L t) n (some p) := by simp only [dT, ← hp', hn]
  rw [hp'] at h3
  rw [← hn]
  have hf13 : Fr [b] H1 H3 := hf2.trans (hf3.mono (by simp))
  simp (implicitDefEqProofs := false) only [go_sem]
  refine vc_loop (fun (x : Nat × List (den t) × Nat × Value × Option Nat) H' => x.1 ≤ n ∧ x.2.1.length = x.1 ∧ LsO H' (fun y => y < H1.size) 66 10 x.2.2.2.1 (x.2.1.map (datT t)) x.2.2.2.2 ∧ (∀ k, x.2.2.2.2 = some k → H1.size ≤ k) ∧ RdO H' b L (some x.2.2.1) g ∧ Fr [b] H1 H' ∧
      repO (dT L t) n (some p) = (x.2.1 ++ (repO (dT L t) (n - x.1) (some x.2.2.1)).1, (repO (dT L t) (n - x.1) (some x.2.2.1)).2))
    (fun x => [(1, .func (.func f) #[k b] #[]), (2, .pointer (some ⟨H.size, 0, none⟩)), (5, x.2.2.2.1), (12, .int .i64 n), (13, .int .i64 x.1)]) (fun x => n - x.1) (0, [], p, .slice none 0 0, none) ?_ ?_ ?_
  · exact ⟨Nat.zero_le _, rfl, LsO.nil, by simp, h3, hf13, by simp⟩
  · simp (implicitDefEqProofs := false) only [go_sem]
  · rintro ⟨i, ds, q, vo, go⟩ H' ⟨hi, hdl, hls, hgo, hrd, hfr, hrep⟩
    simp only at hi hdl hls hgo hrd hfr hrep
    rcases Nat.lt_or_ge i n with hlt | hge
    · have hlt' : (i : Int) < (n : Int) := by omega
      have hw1 := succ_i64 i n hlt (by omega)
      simp (implicitDefEqProofs := false) only [go_sem, hlt']
      refine ⟨hf.1, PCalls.mono (hf.2 hL hrd) ?_ ?_⟩
      rotate_left
      · rintro c H5 ⟨rfl, he, hf5⟩
        refine ⟨rfl, ?_, (hf1.mono (by simp)).trans (hfr.trans hf5)⟩
        rw [hD, hrep]
        exact repO_end hlt he
      rintro v H5 ⟨cs, rfl, hr5, hrd5, hf5⟩
      have hxl := rep_wid hr5.rep
      rw [hw] at hxl
      obtain ⟨x0, x1, x2, x3, x4, x5, x6, x7, x8, x9, rfl⟩ := len10 hxl
      rw [hp]
      simp (implicitDefEqProofs := false) only [go_sem]
      refine NewS_intro fun H6 hn6 hf6 hs6 => ?_
      have hsz1 := hfr.size
      have hsz5 := hf5.size
      have hb1 : b < H1.size := by omega
      have hls6 : LsO H6 (fun y => y < H1.size) 66 10 vo (ds.map (datT t)) go := (hls.fr hf5 (fun x hx => .inl (by simp at hx; omega)) (fun k hk => by have := hgo k hk; simp; omega) (fun x hx => .inl hx)).ext hf6 fun x hx => .inl hx
      have hd6 : RepP H6 (fun y => y < H1.size ∨ go = some y) (datT t (dT L t (some q)).1) [x0, x1, x2, x3, x4, x5, x6, x7, x8, x9] := by
        refine RepP.ext hr5 hf6 fun x hx => .inl ?_
        rcases hx with hx | hx
        · omega
        · exact hls.lt hx
      simp (implicitDefEqProofs := false) only [go_sem]
      refine App_ls EProof hls6 Tryz.underlying34 hn6 rfl (rep_one hr5.rep) hd6 rfl (by simp only [List.length_map]; unfold maxLen; omega) (by simp only [List.length_map]; omega) fun a c H7 g7 hl7 hf7 hg7 => ?_
      have hg71 : ∀ k, g7 = some k → H1.size ≤ k := by
        intro k hk
        rcases hg7 k hk with q | q
        · exact hgo k q
        · have := hf6.size; omega
      have hrd7 : RdO H7 b L (dT L t (some q)).2 g := (hrd5.ext hf6).fr hf7 (fun hm => by have := hgo b (by simpa using hm); omega) (fun k hk hm => by
        have h1 := hgo k (by simpa using hm)
        have h2 := h.ltg hk
        omega)
      have hf17 : Fr [b] H1 H7 := (hfr.trans (hf5.trans (hf6.mono (by simp)))).trans' hf7 fun x hx => .inr (hgo x (by simpa using hx))
      have hb7 := hn1.fr hf17 (by simpa using hbx)
      have hc7 := hb7.cell
      simp (implicitDefEqProofs := false) only [go_sem, hc7]
      have hck7 := check_ok hrd7
      rw [pR] at hck7
      refine PCalls.mono hck7 ?_ ?_
      rotate_left
      · rintro c H8 ⟨rfl, he, hf8⟩
        refine ⟨rfl, ?_, (hf1.mono (by simp)).trans (hf17.trans (hf8.mono (by simp)))⟩
        rw [hD, hrep]
        exact repO_end hlt he
      rintro v H8 ⟨rfl, hs8, h8, hf8⟩
      obtain ⟨q', hq'⟩ := Option.isSome_iff_exists.1 hs8
      rw [hq'] at h8
      have hstep := repO_step (f := dT L t) (p := q) (x := (dT L t (some q)).1) (q := q') hlt (by rw [← hq'])
      simp (implicitDefEqProofs := false) only [go_sem]
      refine loopK_intro (i + 1, ds ++ [(dT L t (some q)).1], q', .slice a ((ds.map (datT t)).length + 1) c, g7) (by show n - (i + 1) < n - i; omega) ?_ ?_
      · simp (implicitDefEqProofs := false) only [go_sem, hw1]
      · refine ⟨hlt, by simp [hdl], ?_, hg71, h8, hf17.trans (hf8.mono (by simp)), ?_⟩
        · have := hl7.ext hf8 (B' := fun y => y < H1.size) fun x hx => .inl hx
          simpa using this
        · rw [hrep, hstep]; simp
    · have hge' : ¬ (i : Int) < (n : Int) := by omega
      have hin : i = n := by omega
      subst hin
      simp (implicitDefEqProofs := false) only [go_sem, hge']
      rw [Nat.sub_self] at hrep
      simp only [repO, List.append_nil] at hrep
      refine ⟨[vo], rfl, ?_, ?_, (hf1.mono (by simp)).trans hfr⟩
      · rw [hD, hrep]
        have hr := hls.rep fun b hb hx => by have := hgo b hb; omega
        have hE : datT (.list t) ds = .list 10 (ds.map (datT t)) := by simp only [datT, hw]
        rw [hE]
        exact hr.more fun x hx => .inl (by have := hf1.size; omega)
      · rw [hD, hrep]; exact hrd

theorem EDigest : ElemOk Tryz.prog 35 68 3 56 (.agg #[.slice none 0 0, .slice none 0 0, .int .i64 0]) := ⟨Tryz.underlying35, by kernel_rfl, rfl, by decide⟩
set_option maxHeartbeats 1000000 in
theorem elemsDigest_ok {f : Nat} {t : Ty} {k : Nat → Value} (hw : wid t = 3) (hp : ∀ cs, argOf t cs = .agg cs.toArray) (hf : ROk f t k) {H : Heap} {b : Nat} {L : Bs} {s : Pl} {g : Option Nat} (hL : L.length < 2^36) (h : RdO H b L s g) :
    PCalls Tryz.prog 144 #[pR b, .func (.func f) #[k b] #[]] H (RdR H b L s g (.list t)) (RdE H b L s (.list t)) := by
  refine pcalls_of_vc (args := [_, _]) Tryz.func144 c144ok (Nat.le_of_ble_eq_true rfl) ?_
  simp (implicitDefEqProofs := false) only [go_sem, c144, pR]
  refine NewP_intro fun H1 hn1 hf1 hs1 => ?_
  have hc1 := hn1.cell
  have hbx : H.size ≠ b := by have := h.lt; omega
  have hbH : b < H.size := h.lt
  simp (implicitDefEqProofs := false) only [go_sem, hc1]
  refine (rcount_o (h.ext hf1)).mono ?_
  rintro v H2 ⟨rfl, h2, hf2⟩
  have hb2 := hn1.fr hf2 (by simpa using hbx)
  have hc2 := hb2.cell
  simp (implicitDefEqProofs := false) only [go_sem, hc2]
  have hck := check_ok h2
  rw [pR] at hck
  refine PCalls.mono hck ?_ ?_
  rotate_left
  · rintro c H3 ⟨rfl, hn, hf3⟩
    refine ⟨rfl, ?_, (hf1.mono (by simp)).trans (hf2.trans (hf3.mono (by simp)))⟩
    simp only [dT, hn, repO_none]
  rintro v H3 ⟨rfl, hs, h3, hf3⟩
  obtain ⟨p, hp'⟩ := Option.isSome_iff_exists.1 hs
  obtain ⟨n, hn⟩ : ∃ n, n = (countO L s).1 := ⟨_, rfl⟩
  have hnL : n ≤ L.length := by rw [hn]; exact countO_le L s
  have hD : dT L (.list t) s = repO (dT L t) n (some p) := by simp only [dT, ← hp', hn]
  rw [hp'] at h3
  rw [← hn]
  have hf13 : Fr [b] H1 H3 := hf2.trans (hf3.mono (by simp))
  simp (implicitDefEqProofs := false) only [go_sem]
  refine vc_loop (fun (x : Nat × List (den t) × Nat × Value × Option Nat) H' => x.1 ≤ n ∧ x.2.1.length = x.1 ∧ LsO H' (fun y => y < H1.size) 68 3 x.2.2.2.1 (x.2.1.map (datT t)) x.2.2.2.2 ∧ (∀ k, x.2.2.2.2 = some k → H1.size ≤ k) ∧ RdO H' b L (some x.2.2.1) g ∧ Fr [b] H1 H' ∧
      repO (dT L t) n (some p) = (x.2.1 ++ (repO (dT L t) (n - x.1) (some x.2.2.1)).1, (repO (dT L t) (n - x.1) (some x.2.2.1)).2))
    (fun x => [(1, .func (.func f) #[k b] #[]), (2, .pointer (some ⟨H.size, 0, none⟩)), (5, x.2.2.2.1), (12, .int .i64 n), (13, .int .i64 x.1)]) (fun x => n - x.1) (0, [], p, .slice none 0 0, none) ?_ ?_ ?_
  · exact ⟨Nat.zero_le _, rfl, LsO.nil, by simp, h3, hf13, by simp⟩
  · simp (implicitDefEqProofs := false) only [go_sem]
  · rintro ⟨i, ds, q, vo, go⟩ H' ⟨hi, hdl, hls, hgo, hrd, hfr, hrep⟩
    simp only at hi hdl hls hgo hrd hfr hrep
    rcases Nat.lt_or_ge i n with hlt | hge
    · have hlt' : (i : Int) < (n : Int) := by omega
      have hw1 := succ_i64 i n hlt (by omega)
      simp (implicitDefEqProofs := false) only [go_sem, hlt']
      refine ⟨hf.1, PCalls.mono (hf.2 hL hrd) ?_ ?_⟩
      rotate_left
      · rintro c H5 ⟨rfl, he, hf5⟩
        refine ⟨rfl, ?_, (hf1.mono (by simp)).trans (hfr.trans hf5)⟩
        rw [hD, hrep]
        exact repO_end hlt he
      rintro v H5 ⟨cs, rfl, hr5, hrd5, hf5⟩
      have hxl := rep_wid hr5.rep
      rw [hw] at hxl
      obtain ⟨x0, x1, x2, rfl⟩ := len3 hxl
      rw [hp]
      simp (implicitDefEqProofs := false) only [go_sem]
      refine NewS_intro fun H6 hn6 hf6 hs6 => ?_
      have hsz1 := hfr.size
      have hsz5 := hf5.size
      have hb1 : b < H1.size := by omega
      have hls6 : LsO H6 (fun y => y < H1.size) 68 3 vo (ds.map (datT t)) go := (hls.fr hf5 (fun x hx => .inl (by simp at hx; omega)) (fun k hk => by have := hgo k hk; simp; omega) (fun x hx => .inl hx)).ext hf6 fun x hx => .inl hx
      have hd6 : RepP H6 (fun y => y < H1.size ∨ go = some y) (datT t (dT L t (some q)).1) [x0, x1, x2] := by
        refine RepP.ext hr5 hf6 fun x hx => .inl ?_
        rcases hx with hx | hx
        · omega
        · exact hls.lt hx
      simp (implicitDefEqProofs := false) only [go_sem]
      refine App_ls EDigest hls6 Tryz.underlying35 hn6 rfl (rep_one hr5.rep) hd6 rfl (by simp only [List.length_map]; unfold maxLen; omega) (by simp only [List.length_map]; omega) fun a c H7 g7 hl7 hf7 hg7 => ?_
      have hg71 : ∀ k, g7 = some k → H1.size ≤ k := by
        intro k hk
        rcases hg7 k hk with q | q
        · exact hgo k q
        · have := hf6.size; omega
      have hrd7 : RdO H7 b L (dT L t (some q)).2 g := (hrd5.ext hf6).fr hf7 (fun hm => by have := hgo b (by simpa using hm); omega) (fun k hk hm => by
        have h1 := hgo k (by simpa using hm)
        have h2 := h.ltg hk
        omega)
      have hf17 : Fr [b] H1 H7 := (hfr.trans (hf5.trans (hf6.mono (by simp)))).trans' hf7 fun x hx => .inr (hgo x (by simpa using hx))
      have hb7 := hn1.fr hf17 (by simpa using hbx)
      have hc7 := hb7.cell
      simp (implicitDefEqProofs := false) only [go_sem, hc7]
      have hck7 := check_ok hrd7
      rw [pR] at hck7
      refine PCalls.mono hck7 ?_ ?_
      rotate_left
      · rintro c H8 ⟨rfl, he, hf8⟩
        refine ⟨rfl, ?_, (hf1.mono (by simp)).trans (hf17.trans (hf8.mono (by simp)))⟩
        rw [hD, hrep]
        exact repO_end hlt he
      rintro v H8 ⟨rfl, hs8, h8, hf8⟩
      obtain ⟨q', hq'⟩ := Option.isSome_iff_exists.1 hs8
      rw [hq'] at h8
      have hstep := repO_step (f := dT L t) (p := q) (x := (dT L t (some q)).1) (q := q') hlt (by rw [← hq'])
      simp (implicitDefEqProofs := false) only [go_sem]
      refine loopK_intro (i + 1, ds ++ [(dT L t (some q)).1], q', .slice a ((ds.map (datT t)).length + 1) c, g7) (by show n - (i + 1) < n - i; omega) ?_ ?_
      · simp (implicitDefEqProofs := false) only [go_sem, hw1]
      · refine ⟨hlt, by simp [hdl], ?_, hg71, h8, hf17.trans (hf8.mono (by simp)), ?_⟩
        · have := hl7.ext hf8 (B' := fun y => y < H1.size) fun x hx => .inl hx
          simpa using this
        · rw [hrep, hstep]; simp
    · have hge' : ¬ (i : Int) < (n : Int) := by omega
      have hin : i = n := by omega
      subst hin
      simp (implicitDefEqProofs := false) only [go_sem, hge']
      rw [Nat.sub_self] at hrep
      simp only [repO, List.append_nil] at hrep
      refine ⟨[vo], rfl, ?_, ?_, (hf1.mono (by simp)).trans hfr⟩
      · rw [hD, hrep]
        have hr := hls.rep fun b hb hx => by have := hgo b hb; omega
        have hE : datT (.list t) ds = .list 3 (ds.map (datT t)) := by simp only [datT, hw]
        rw [hE]
        exact hr.more fun x hx => .inl (by have := hf1.size; omega)
      · rw [hD, hrep]; exact hrd

theorem EStr : ElemOk Tryz.prog 36 9 1 16 (.string ⟨⟨[]⟩⟩) := ⟨Tryz.underlying36, by kernel_rfl, rfl, by decide⟩
set_option maxHeartbeats 1000000 in
theorem elemsStr_ok {f : Nat} {t : Ty} {k : Nat → Value} (hw : wid t = 1) (hp : ∀ v, argOf t [v] = v) (ht : t = .text) (hf : ROk f t k) {H : Heap} {b : Nat} {L : Bs} {s : Pl} {g : Option Nat} (hL : L.length < 2^36) (h : RdO H b L s g) :
    PCalls Tryz.prog 146 #[pR b, .func (.func f) #[k b] #[]] H (RdR H b L s g (.list t)) (RdE H b L s (.list t)) := by
  refine pcalls_of_vc (args := [_, _]) Tryz.func146 c146ok (Nat.le_of_ble_eq_true rfl) ?_
  simp (implicitDefEqProofs := false) only [go_sem, c146, pR]
  refine NewP_intro fun H1 hn1 hf1 hs1 => ?_
  have hc1 := hn1.cell
  have hbx : H.size ≠ b := by have := h.lt; omega
  have hbH : b < H.size := h.lt
  simp (implicitDefEqProofs := false) only [go_sem, hc1]
  refine (rcount_o (h.ext hf1)).mono ?_
  rintro v H2 ⟨rfl, h2, hf2⟩
  have hb2 := hn1.fr hf2 (by simpa using hbx)
  have hc2 := hb2.cell
  simp (implicitDefEqProofs := false) only [go_sem, hc2]
  have hck := check_ok h2
  rw [pR] at hck
  refine PCalls.mono hck ?_ ?_
  rotate_left
  · rintro c H3 ⟨rfl, hn, hf3⟩
    refine ⟨rfl, ?_, (hf1.mono (by simp)).trans (hf2.trans (hf3.mono (by simp)))⟩
    simp only [dT, hn, repO_none]
  rintro v H3 ⟨rfl, hs, h3, hf3⟩
  obtain ⟨p, hp'⟩ := Option.isSome_iff_exists.1 hs
  obtain ⟨n, hn⟩ : ∃ n, n = (countO L s).1 := ⟨_, rfl⟩
  have hnL : n ≤ L.length := by rw [hn]; exact countO_le L s
  have hD : dT L (.list t) s = repO (dT L t) n (some p) := by simp only [dT, ← hp', hn]
  rw [hp'] at h3
  rw [← hn]
  have hf13 : Fr [b] H1 H3 := hf2.trans (hf3.mono (by simp))
  simp (implicitDefEqProofs := false) only [go_sem]
  refine vc_loop (fun (x : Nat × List (den t) × Nat × Value × Option Nat) H' => x.1 ≤ n ∧ x.2.1.length = x.1 ∧ LsO H' (fun y => y < H1.size) 9 1 x.2.2.2.1 (x.2.1.map (datT t)) x.2.2.2.2 ∧ (∀ k, x.2.2.2.2 = some k → H1.size ≤ k) ∧ RdO H' b L (some x.2.2.1) g ∧ Fr [b] H1 H' ∧
      repO (dT L t) n (some p) = (x.2.1 ++ (repO (dT L t) (n - x.1) (some x.2.2.1)).1, (repO (dT L t) (n - x.1) (some x.2.2.1)).2))
    (fun x => [(1, .func (.func f) #[k b] #[]), (2, .pointer (some ⟨H.size, 0, none⟩)), (5, x.2.2.2.1), (12, .int .i64 n), (13, .int .i64 x.1)]) (fun x => n - x.1) (0, [], p, .slice none 0 0, none) ?_ ?_ ?_
  · exact ⟨Nat.zero_le _, rfl, LsO.nil, by simp, h3, hf13, by simp⟩
  · simp (implicitDefEqProofs := false) only [go_sem]
  · rintro ⟨i, ds, q, vo, go⟩ H' ⟨hi, hdl, hls, hgo, hrd, hfr, hrep⟩
    simp only at hi hdl hls hgo hrd hfr hrep
    rcases Nat.lt_or_ge i n with hlt | hge
    · have hlt' : (i : Int) < (n : Int) := by omega
      have hw1 := succ_i64 i n hlt (by omega)
      simp (implicitDefEqProofs := false) only [go_sem, hlt']
      refine ⟨hf.1, PCalls.mono (hf.2 hL hrd) ?_ ?_⟩
      rotate_left
      · rintro c H5 ⟨rfl, he, hf5⟩
        refine ⟨rfl, ?_, (hf1.mono (by simp)).trans (hfr.trans hf5)⟩
        rw [hD, hrep]
        exact repO_end hlt he
      rintro v H5 ⟨cs, rfl, hr5, hrd5, hf5⟩
      have hxl := rep_wid hr5.rep
      rw [hw] at hxl
      obtain ⟨x0, rfl⟩ := len1 hxl
      obtain ⟨y, rfl⟩ : ∃ y, x0 = Value.string y := by
        subst ht
        have h := rep_text hr5.rep
        simp only [List.cons.injEq, and_true] at h
        exact ⟨_, h⟩
      rw [hp]
      simp (implicitDefEqProofs := false) only [go_sem]
      refine NewS_intro fun H6 hn6 hf6 hs6 => ?_
      have hsz1 := hfr.size
      have hsz5 := hf5.size
      have hb1 : b < H1.size := by omega
      have hls6 : LsO H6 (fun y => y < H1.size) 9 1 vo (ds.map (datT t)) go := (hls.fr hf5 (fun x hx => .inl (by simp at hx; omega)) (fun k hk => by have := hgo k hk; simp; omega) (fun x hx => .inl hx)).ext hf6 fun x hx => .inl hx
      have hd6 : RepP H6 (fun y => y < H1.size ∨ go = some y) (datT t (dT L t (some q)).1) [Value.string y] := by
        refine RepP.ext hr5 hf6 fun x hx => .inl ?_
        rcases hx with hx | hx
        · omega
        · exact hls.lt hx
      simp (implicitDefEqProofs := false) only [go_sem]
      refine App_ls EStr hls6 Tryz.underlying36 hn6 rfl (rep_one hr5.rep) hd6 rfl (by simp only [List.length_map]; unfold maxLen; omega) (by simp only [List.length_map]; omega) fun a c H7 g7 hl7 hf7 hg7 => ?_
      have hg71 : ∀ k, g7 = some k → H1.size ≤ k := by
        intro k hk
        rcases hg7 k hk with q | q
        · exact hgo k q
        · have := hf6.size; omega
      have hrd7 : RdO H7 b L (dT L t (some q)).2 g := (hrd5.ext hf6).fr hf7 (fun hm => by have := hgo b (by simpa using hm); omega) (fun k hk hm => by
        have h1 := hgo k (by simpa using hm)
        have h2 := h.ltg hk
        omega)
      have hf17 : Fr [b] H1 H7 := (hfr.trans (hf5.trans (hf6.mono (by simp)))).trans' hf7 fun x hx => .inr (hgo x (by simpa using hx))
      have hb7 := hn1.fr hf17 (by simpa using hbx)
      have hc7 := hb7.cell
      simp (implicitDefEqProofs := false) only [go_sem, hc7]
      have hck7 := check_ok hrd7
      rw [pR] at hck7
      refine PCalls.mono hck7 ?_ ?_
      rotate_left
      · rintro c H8 ⟨rfl, he, hf8⟩
        refine ⟨rfl, ?_, (hf1.mono (by simp)).trans (hf17.trans (hf8.mono (by simp)))⟩
        rw [hD, hrep]
        exact repO_end hlt he
      rintro v H8 ⟨rfl, hs8, h8, hf8⟩
      obtain ⟨q', hq'⟩ := Option.isSome_iff_exists.1 hs8
      rw [hq'] at h8
      have hstep := repO_step (f := dT L t) (p := q) (x := (dT L t (some q)).1) (q := q') hlt (by rw [← hq'])
      simp (implicitDefEqProofs := false) only [go_sem]
      refine loopK_intro (i + 1, ds ++ [(dT L t (some q)).1], q', .slice a ((ds.map (datT t)).length + 1) c, g7) (by show n - (i + 1) < n - i; omega) ?_ ?_
      · simp (implicitDefEqProofs := false) only [go_sem, hw1]
      · refine ⟨hlt, by simp [hdl], ?_, hg71, h8, hf17.trans (hf8.mono (by simp)), ?_⟩
        · have := hl7.ext hf8 (B' := fun y => y < H1.size) fun x hx => .inl hx
          simpa using this
        · rw [hrep, hstep]; simp
    · have hge' : ¬ (i : Int) < (n : Int) := by omega
      have hin : i = n := by omega
      subst hin
      simp (implicitDefEqProofs := false) only [go_sem, hge']
      rw [Nat.sub_self] at hrep
      simp only [repO, List.append_nil] at hrep
      refine ⟨[vo], rfl, ?_, ?_, (hf1.mono (by simp)).trans hfr⟩
      · rw [hD, hrep]
        have hr := hls.rep fun b hb hx => by have := hgo b hb; omega
        have hE : datT (.list t) ds = .list 1 (ds.map (datT t)) := by simp only [datT, hw]
        rw [hE]
        exact hr.more fun x hx => .inl (by have := hf1.size; omega)
      · rw [hD, hrep]; exact hrd

theorem EItem : ElemOk Tryz.prog 37 71 4 72 (.agg #[.string ⟨⟨[]⟩⟩, .bool false, .slice none 0 0, .slice none 0 0]) := ⟨Tryz.underlying37, by kernel_rfl, rfl, by decide⟩
set_option maxHeartbeats 1000000 in
theorem elemsItem_ok {f : Nat} {t : Ty} {k : Nat → Value} (hw : wid t = 4) (hp : ∀ cs, argOf t cs = .agg cs.toArray) (hf : ROk f t k) {H : Heap} {b : Nat} {L : Bs} {s : Pl} {g : Option Nat} (hL : L.length < 2^36) (h : RdO H b L s g) :
    PCalls Tryz.prog 148 #[pR b, .func (.func f) #[k b] #[]] H (RdR H b L s g (.list t)) (RdE H b L s (.list t)) := by
  refine pcalls_of_vc (args := [_, _]) Tryz.func148 c148ok (Nat.le_of_ble_eq_true rfl) ?_
  simp (implicitDefEqProofs := false) only [go_sem, c148, pR]
  refine NewP_intro fun H1 hn1 hf1 hs1 => ?_
  have hc1 := hn1.cell
  have hbx : H.size ≠ b := by have := h.lt; omega
  have hbH : b < H.size := h.lt
  simp (implicitDefEqProofs := false) only [go_sem, hc1]
  refine (rcount_o (h.ext hf1)).mono ?_
  rintro v H2 ⟨rfl, h2, hf2⟩
  have hb2 := hn1.fr hf2 (by simpa using hbx)
  have hc2 := hb2.cell
  simp (implicitDefEqProofs := false) only [go_sem, hc2]
  have hck := check_ok h2
  rw [pR] at hck
  refine PCalls.mono hck ?_ ?_
  rotate_left
  · rintro c H3 ⟨rfl, hn, hf3⟩
    refine ⟨rfl, ?_, (hf1.mono (by simp)).trans (hf2.trans (hf3.mono (by simp)))⟩
    simp only [dT, hn, repO_none]
  rintro v H3 ⟨rfl, hs, h3, hf3⟩
  obtain ⟨p, hp'⟩ := Option.isSome_iff_exists.1 hs
  obtain ⟨n, hn⟩ : ∃ n, n = (countO L s).1 := ⟨_, rfl⟩
  have hnL : n ≤ L.length := by rw [hn]; exact countO_le L s
  have hD : dT L (.list t) s = repO (dT L t) n (some p) := by simp only [dT, ← hp', hn]
  rw [hp'] at h3
  rw [← hn]
  have hf13 : Fr [b] H1 H3 := hf2.trans (hf3.mono (by simp))
  simp (implicitDefEqProofs := false) only [go_sem]
  refine vc_loop (fun (x : Nat × List (den t) × Nat × Value × Option Nat) H' => x.1 ≤ n ∧ x.2.1.length = x.1 ∧ LsO H' (fun y => y < H1.size) 71 4 x.2.2.2.1 (x.2.1.map (datT t)) x.2.2.2.2 ∧ (∀ k, x.2.2.2.2 = some k → H1.size ≤ k) ∧ RdO H' b L (some x.2.2.1) g ∧ Fr [b] H1 H' ∧
      repO (dT L t) n (some p) = (x.2.1 ++ (repO (dT L t) (n - x.1) (some x.2.2.1)).1, (repO (dT L t) (n - x.1) (some x.2.2.1)).2))
    (fun x => [(1, .func (.func f) #[k b] #[]), (2, .pointer (some ⟨H.size, 0, none⟩)), (5, x.2.2.2.1), (12, .int .i64 n), (13, .int .i64 x.1)]) (fun x => n - x.1) (0, [], p, .slice none 0 0, none) ?_ ?_ ?_
  · exact ⟨Nat.zero_le _, rfl, LsO.nil, by simp, h3, hf13, by simp⟩
  · simp (implicitDefEqProofs := false) only [go_sem]
  · rintro ⟨i, ds, q, vo, go⟩ H' ⟨hi, hdl, hls, hgo, hrd, hfr, hrep⟩
    simp only at hi hdl hls hgo hrd hfr hrep
    rcases Nat.lt_or_ge i n with hlt | hge
    · have hlt' : (i : Int) < (n : Int) := by omega
      have hw1 := succ_i64 i n hlt (by omega)
      simp (implicitDefEqProofs := false) only [go_sem, hlt']
      refine ⟨hf.1, PCalls.mono (hf.2 hL hrd) ?_ ?_⟩
      rotate_left
      · rintro c H5 ⟨rfl, he, hf5⟩
        refine ⟨rfl, ?_, (hf1.mono (by simp)).trans (hfr.trans hf5)⟩
        rw [hD, hrep]
        exact repO_end hlt he
      rintro v H5 ⟨cs, rfl, hr5, hrd5, hf5⟩
      have hxl := rep_wid hr5.rep
      rw [hw] at hxl
      obtain ⟨x0, x1, x2, x3, rfl⟩ := len4 hxl
      rw [hp]
      simp (implicitDefEqProofs := false) only [go_sem]
      refine NewS_intro fun H6 hn6 hf6 hs6 => ?_
      have hsz1 := hfr.size
      have hsz5 := hf5.size
      have hb1 : b < H1.size := by omega
      have hls6 : LsO H6 (fun y => y < H1.size) 71 4 vo (ds.map (datT t)) go := (hls.fr hf5 (fun x hx => .inl (by simp at hx; omega)) (fun k hk => by have := hgo k hk; simp; omega) (fun x hx => .inl hx)).ext hf6 fun x hx => .inl hx
      have hd6 : RepP H6 (fun y => y < H1.size ∨ go = some y) (datT t (dT L t (some q)).1) [x0, x1, x2, x3] := by
        refine RepP.ext hr5 hf6 fun x hx => .inl ?_
        rcases hx with hx | hx
        · omega
        · exact hls.lt hx
      simp (implicitDefEqProofs := false) only [go_sem]
      refine App_ls EItem hls6 Tryz.underlying37 hn6 rfl (rep_one hr5.rep) hd6 rfl (by simp only [List.length_map]; unfold maxLen; omega) (by simp only [List.length_map]; omega) fun a c H7 g7 hl7 hf7 hg7 => ?_
      have hg71 : ∀ k, g7 = some k → H1.size ≤ k := by
        intro k hk
        rcases hg7 k hk with q | q
        · exact hgo k q
        · have := hf6.size; omega
      have hrd7 : RdO H7 b L (dT L t (some q)).2 g := (hrd5.ext hf6).fr hf7 (fun hm => by have := hgo b (by simpa using hm); omega) (fun k hk hm => by
        have h1 := hgo k (by simpa using hm)
        have h2 := h.ltg hk
        omega)
      have hf17 : Fr [b] H1 H7 := (hfr.trans (hf5.trans (hf6.mono (by simp)))).trans' hf7 fun x hx => .inr (hgo x (by simpa using hx))
      have hb7 := hn1.fr hf17 (by simpa using hbx)
      have hc7 := hb7.cell
      simp (implicitDefEqProofs := false) only [go_sem, hc7]
      have hck7 := check_ok hrd7
      rw [pR] at hck7
      refine PCalls.mono hck7 ?_ ?_
      rotate_left
      · rintro c H8 ⟨rfl, he, hf8⟩
        refine ⟨rfl, ?_, (hf1.mono (by simp)).trans (hf17.trans (hf8.mono (by simp)))⟩
        rw [hD, hrep]
        exact repO_end hlt he
      rintro v H8 ⟨rfl, hs8, h8, hf8⟩
      obtain ⟨q', hq'⟩ := Option.isSome_iff_exists.1 hs8
      rw [hq'] at h8
      have hstep := repO_step (f := dT L t) (p := q) (x := (dT L t (some q)).1) (q := q') hlt (by rw [← hq'])
      simp (implicitDefEqProofs := false) only [go_sem]
      refine loopK_intro (i + 1, ds ++ [(dT L t (some q)).1], q', .slice a ((ds.map (datT t)).length + 1) c, g7) (by show n - (i + 1) < n - i; omega) ?_ ?_
      · simp (implicitDefEqProofs := false) only [go_sem, hw1]
      · refine ⟨hlt, by simp [hdl], ?_, hg71, h8, hf17.trans (hf8.mono (by simp)), ?_⟩
        · have := hl7.ext hf8 (B' := fun y => y < H1.size) fun x hx => .inl hx
          simpa using this
        · rw [hrep, hstep]; simp
    · have hge' : ¬ (i : Int) < (n : Int) := by omega
      have hin : i = n := by omega
      subst hin
      simp (implicitDefEqProofs := false) only [go_sem, hge']
      rw [Nat.sub_self] at hrep
      simp only [repO, List.append_nil] at hrep
      refine ⟨[vo], rfl, ?_, ?_, (hf1.mono (by simp)).trans hfr⟩
      · rw [hD, hrep]
        have hr := hls.rep fun b hb hx => by have := hgo b hb; omega
        have hE : datT (.list t) ds = .list 4 (ds.map (datT t)) := by simp only [datT, hw]
        rw [hE]
        exact hr.more fun x hx => .inl (by have := hf1.size; omega)
      · rw [hD, hrep]; exact hrd

theorem ECertificate : ElemOk Tryz.prog 58 64 9 152 (.agg #[.int .i64 0, .int .i64 0, .int .i64 0, .slice none 0 0, .slice none 0 0, .slice none 0 0, .int .i64 0, .slice none 0 0, .slice none 0 0]) := ⟨Tryz.underlying58, by kernel_rfl, rfl, by decide⟩
set_option maxHeartbeats 1000000 in
theorem elemsCertificate_ok {f : Nat} {t : Ty} {k : Nat → Value} (hw : wid t = 9) (hp : ∀ cs, argOf t cs = .agg cs.toArray) (hf : ROk f t k) {H : Heap} {b : Nat} {L : Bs} {s : Pl} {g : Option Nat} (hL : L.length < 2^36) (h : RdO H b L s g) :
    PCalls Tryz.prog 157 #[pR b, .func (.func f) #[k b] #[]] H (RdR H b L s g (.list t)) (RdE H b L s (.list t)) := by
  refine pcalls_of_vc (args := [_, _]) Tryz.func157 c157ok (Nat.le_of_ble_eq_true rfl) ?_
  simp (implicitDefEqProofs := false) only [go_sem, c157, pR]
  refine NewP_intro fun H1 hn1 hf1 hs1 => ?_
  have hc1 := hn1.cell
  have hbx : H.size ≠ b := by have := h.lt; omega
  have hbH : b < H.size := h.lt
  simp (implicitDefEqProofs := false) only [go_sem, hc1]
  refine (rcount_o (h.ext hf1)).mono ?_
  rintro v H2 ⟨rfl, h2, hf2⟩
  have hb2 := hn1.fr hf2 (by simpa using hbx)
  have hc2 := hb2.cell
  simp (implicitDefEqProofs := false) only [go_sem, hc2]
  have hck := check_ok h2
  rw [pR] at hck
  refine PCalls.mono hck ?_ ?_
  rotate_left
  · rintro c H3 ⟨rfl, hn, hf3⟩
    refine ⟨rfl, ?_, (hf1.mono (by simp)).trans (hf2.trans (hf3.mono (by simp)))⟩
    simp only [dT, hn, repO_none]
  rintro v H3 ⟨rfl, hs, h3, hf3⟩
  obtain ⟨p, hp'⟩ := Option.isSome_iff_exists.1 hs
  obtain ⟨n, hn⟩ : ∃ n, n = (countO L s).1 := ⟨_, rfl⟩
  have hnL : n ≤ L.length := by rw [hn]; exact countO_le L s
  have hD : dT L (.list t) s = repO (dT L t) n (some p) := by simp only [dT, ← hp', hn]
  rw [hp'] at h3
  rw [← hn]
  have hf13 : Fr [b] H1 H3 := hf2.trans (hf3.mono (by simp))
  simp (implicitDefEqProofs := false) only [go_sem]
  refine vc_loop (fun (x : Nat × List (den t) × Nat × Value × Option Nat) H' => x.1 ≤ n ∧ x.2.1.length = x.1 ∧ LsO H' (fun y => y < H1.size) 64 9 x.2.2.2.1 (x.2.1.map (datT t)) x.2.2.2.2 ∧ (∀ k, x.2.2.2.2 = some k → H1.size ≤ k) ∧ RdO H' b L (some x.2.2.1) g ∧ Fr [b] H1 H' ∧
      repO (dT L t) n (some p) = (x.2.1 ++ (repO (dT L t) (n - x.1) (some x.2.2.1)).1, (repO (dT L t) (n - x.1) (some x.2.2.1)).2))
    (fun x => [(1, .func (.func f) #[k b] #[]), (2, .pointer (some ⟨H.size, 0, none⟩)), (5, x.2.2.2.1), (12, .int .i64 n), (13, .int .i64 x.1)]) (fun x => n - x.1) (0, [], p, .slice none 0 0, none) ?_ ?_ ?_
  · exact ⟨Nat.zero_le _, rfl, LsO.nil, by simp, h3, hf13, by simp⟩
  · simp (implicitDefEqProofs := false) only [go_sem]
  · rintro ⟨i, ds, q, vo, go⟩ H' ⟨hi, hdl, hls, hgo, hrd, hfr, hrep⟩
    simp only at hi hdl hls hgo hrd hfr hrep
    rcases Nat.lt_or_ge i n with hlt | hge
    · have hlt' : (i : Int) < (n : Int) := by omega
      have hw1 := succ_i64 i n hlt (by omega)
      simp (implicitDefEqProofs := false) only [go_sem, hlt']
      refine ⟨hf.1, PCalls.mono (hf.2 hL hrd) ?_ ?_⟩
      rotate_left
      · rintro c H5 ⟨rfl, he, hf5⟩
        refine ⟨rfl, ?_, (hf1.mono (by simp)).trans (hfr.trans hf5)⟩
        rw [hD, hrep]
        exact repO_end hlt he
      rintro v H5 ⟨cs, rfl, hr5, hrd5, hf5⟩
      have hxl := rep_wid hr5.rep
      rw [hw] at hxl
      obtain ⟨x0, x1, x2, x3, x4, x5, x6, x7, x8, rfl⟩ := len9 hxl
      rw [hp]
      simp (implicitDefEqProofs := false) only [go_sem]
      refine NewS_intro fun H6 hn6 hf6 hs6 => ?_
      have hsz1 := hfr.size
      have hsz5 := hf5.size
      have hb1 : b < H1.size := by omega
      have hls6 : LsO H6 (fun y => y < H1.size) 64 9 vo (ds.map (datT t)) go := (hls.fr hf5 (fun x hx => .inl (by simp at hx; omega)) (fun k hk => by have := hgo k hk; simp; omega) (fun x hx => .inl hx)).ext hf6 fun x hx => .inl hx
      have hd6 : RepP H6 (fun y => y < H1.size ∨ go = some y) (datT t (dT L t (some q)).1) [x0, x1, x2, x3, x4, x5, x6, x7, x8] := by
        refine RepP.ext hr5 hf6 fun x hx => .inl ?_
        rcases hx with hx | hx
        · omega
        · exact hls.lt hx
      simp (implicitDefEqProofs := false) only [go_sem]
      refine App_ls ECertificate hls6 Tryz.underlying58 hn6 rfl (rep_one hr5.rep) hd6 rfl (by simp only [List.length_map]; unfold maxLen; omega) (by simp only [List.length_map]; omega) fun a c H7 g7 hl7 hf7 hg7 => ?_
      have hg71 : ∀ k, g7 = some k → H1.size ≤ k := by
        intro k hk
        rcases hg7 k hk with q | q
        · exact hgo k q
        · have := hf6.size; omega
      have hrd7 : RdO H7 b L (dT L t (some q)).2 g := (hrd5.ext hf6).fr hf7 (fun hm => by have := hgo b (by simpa using hm); omega) (fun k hk hm => by
        have h1 := hgo k (by simpa using hm)
        have h2 := h.ltg hk
        omega)
      have hf17 : Fr [b] H1 H7 := (hfr.trans (hf5.trans (hf6.mono (by simp)))).trans' hf7 fun x hx => .inr (hgo x (by simpa using hx))
      have hb7 := hn1.fr hf17 (by simpa using hbx)
      have hc7 := hb7.cell
      simp (implicitDefEqProofs := false) only [go_sem, hc7]
      have hck7 := check_ok hrd7
      rw [pR] at hck7
      refine PCalls.mono hck7 ?_ ?_
      rotate_left
      · rintro c H8 ⟨rfl, he, hf8⟩
        refine ⟨rfl, ?_, (hf1.mono (by simp)).trans (hf17.trans (hf8.mono (by simp)))⟩
        rw [hD, hrep]
        exact repO_end hlt he
      rintro v H8 ⟨rfl, hs8, h8, hf8⟩
      obtain ⟨q', hq'⟩ := Option.isSome_iff_exists.1 hs8
      rw [hq'] at h8
      have hstep := repO_step (f := dT L t) (p := q) (x := (dT L t (some q)).1) (q := q') hlt (by rw [← hq'])
      simp (implicitDefEqProofs := false) only [go_sem]
      refine loopK_intro (i + 1, ds ++ [(dT L t (some q)).1], q', .slice a ((ds.map (datT t)).length + 1) c, g7) (by show n - (i + 1) < n - i; omega) ?_ ?_
      · simp (implicitDefEqProofs := false) only [go_sem, hw1]
      · refine ⟨hlt, by simp [hdl], ?_, hg71, h8, hf17.trans (hf8.mono (by simp)), ?_⟩
        · have := hl7.ext hf8 (B' := fun y => y < H1.size) fun x hx => .inl hx
          simpa using this
        · rw [hrep, hstep]; simp
    · have hge' : ¬ (i : Int) < (n : Int) := by omega
      have hin : i = n := by omega
      subst hin
      simp (implicitDefEqProofs := false) only [go_sem, hge']
      rw [Nat.sub_self] at hrep
      simp only [repO, List.append_nil] at hrep
      refine ⟨[vo], rfl, ?_, ?_, (hf1.mono (by simp)).trans hfr⟩
      · rw [hD, hrep]
        have hr := hls.rep fun b hb hx => by have := hgo b hb; omega
        have hE : datT (.list t) ds = .list 9 (ds.map (datT t)) := by simp only [datT, hw]
        rw [hE]
        exact hr.more fun x hx => .inl (by have := hf1.size; omega)
      · rw [hD, hrep]; exact hrd

theorem EWrite : ElemOk Tryz.prog 97 113 2 40 (.agg #[.string ⟨⟨[]⟩⟩, .slice none 0 0]) := ⟨Tryz.underlying97, by kernel_rfl, rfl, by decide⟩
set_option maxHeartbeats 1000000 in
theorem elemsWrite_ok {f : Nat} {t : Ty} {k : Nat → Value} (hw : wid t = 2) (hp : ∀ cs, argOf t cs = .agg cs.toArray) (hf : ROk f t k) {H : Heap} {b : Nat} {L : Bs} {s : Pl} {g : Option Nat} (hL : L.length < 2^36) (h : RdO H b L s g) :
    PCalls Tryz.prog 159 #[pR b, .func (.func f) #[k b] #[]] H (RdR H b L s g (.list t)) (RdE H b L s (.list t)) := by
  refine pcalls_of_vc (args := [_, _]) Tryz.func159 c159ok (Nat.le_of_ble_eq_true rfl) ?_
  simp (implicitDefEqProofs := false) only [go_sem, c159, pR]
  refine NewP_intro fun H1 hn1 hf1 hs1 => ?_
  have hc1 := hn1.cell
  have hbx : H.size ≠ b := by have := h.lt; omega
  have hbH : b < H.size := h.lt
  simp (implicitDefEqProofs := false) only [go_sem, hc1]
  refine (rcount_o (h.ext hf1)).mono ?_
  rintro v H2 ⟨rfl, h2, hf2⟩
  have hb2 := hn1.fr hf2 (by simpa using hbx)
  have hc2 := hb2.cell
  simp (implicitDefEqProofs := false) only [go_sem, hc2]
  have hck := check_ok h2
  rw [pR] at hck
  refine PCalls.mono hck ?_ ?_
  rotate_left
  · rintro c H3 ⟨rfl, hn, hf3⟩
    refine ⟨rfl, ?_, (hf1.mono (by simp)).trans (hf2.trans (hf3.mono (by simp)))⟩
    simp only [dT, hn, repO_none]
  rintro v H3 ⟨rfl, hs, h3, hf3⟩
  obtain ⟨p, hp'⟩ := Option.isSome_iff_exists.1 hs
  obtain ⟨n, hn⟩ : ∃ n, n = (countO L s).1 := ⟨_, rfl⟩
  have hnL : n ≤ L.length := by rw [hn]; exact countO_le L s
  have hD : dT L (.list t) s = repO (dT L t) n (some p) := by simp only [dT, ← hp', hn]
  rw [hp'] at h3
  rw [← hn]
  have hf13 : Fr [b] H1 H3 := hf2.trans (hf3.mono (by simp))
  simp (implicitDefEqProofs := false) only [go_sem]
  refine vc_loop (fun (x : Nat × List (den t) × Nat × Value × Option Nat) H' => x.1 ≤ n ∧ x.2.1.length = x.1 ∧ LsO H' (fun y => y < H1.size) 113 2 x.2.2.2.1 (x.2.1.map (datT t)) x.2.2.2.2 ∧ (∀ k, x.2.2.2.2 = some k → H1.size ≤ k) ∧ RdO H' b L (some x.2.2.1) g ∧ Fr [b] H1 H' ∧
      repO (dT L t) n (some p) = (x.2.1 ++ (repO (dT L t) (n - x.1) (some x.2.2.1)).1, (repO (dT L t) (n - x.1) (some x.2.2.1)).2))
    (fun x => [(1, .func (.func f) #[k b] #[]), (2, .pointer (some ⟨H.size, 0, none⟩)), (5, x.2.2.2.1), (12, .int .i64 n), (13, .int .i64 x.1)]) (fun x => n - x.1) (0, [], p, .slice none 0 0, none) ?_ ?_ ?_
  · exact ⟨Nat.zero_le _, rfl, LsO.nil, by simp, h3, hf13, by simp⟩
  · simp (implicitDefEqProofs := false) only [go_sem]
  · rintro ⟨i, ds, q, vo, go⟩ H' ⟨hi, hdl, hls, hgo, hrd, hfr, hrep⟩
    simp only at hi hdl hls hgo hrd hfr hrep
    rcases Nat.lt_or_ge i n with hlt | hge
    · have hlt' : (i : Int) < (n : Int) := by omega
      have hw1 := succ_i64 i n hlt (by omega)
      simp (implicitDefEqProofs := false) only [go_sem, hlt']
      refine ⟨hf.1, PCalls.mono (hf.2 hL hrd) ?_ ?_⟩
      rotate_left
      · rintro c H5 ⟨rfl, he, hf5⟩
        refine ⟨rfl, ?_, (hf1.mono (by simp)).trans (hfr.trans hf5)⟩
        rw [hD, hrep]
        exact repO_end hlt he
      rintro v H5 ⟨cs, rfl, hr5, hrd5, hf5⟩
      have hxl := rep_wid hr5.rep
      rw [hw] at hxl
      obtain ⟨x0, x1, rfl⟩ := len2 hxl
      rw [hp]
      simp (implicitDefEqProofs := false) only [go_sem]
      refine NewS_intro fun H6 hn6 hf6 hs6 => ?_
      have hsz1 := hfr.size
      have hsz5 := hf5.size
      have hb1 : b < H1.size := by omega
      have hls6 : LsO H6 (fun y => y < H1.size) 113 2 vo (ds.map (datT t)) go := (hls.fr hf5 (fun x hx => .inl (by simp at hx; omega)) (fun k hk => by have := hgo k hk; simp; omega) (fun x hx => .inl hx)).ext hf6 fun x hx => .inl hx
      have hd6 : RepP H6 (fun y => y < H1.size ∨ go = some y) (datT t (dT L t (some q)).1) [x0, x1] := by
        refine RepP.ext hr5 hf6 fun x hx => .inl ?_
        rcases hx with hx | hx
        · omega
        · exact hls.lt hx
      simp (implicitDefEqProofs := false) only [go_sem]
      refine App_ls EWrite hls6 Tryz.underlying97 hn6 rfl (rep_one hr5.rep) hd6 rfl (by simp only [List.length_map]; unfold maxLen; omega) (by simp only [List.length_map]; omega) fun a c H7 g7 hl7 hf7 hg7 => ?_
      have hg71 : ∀ k, g7 = some k → H1.size ≤ k := by
        intro k hk
        rcases hg7 k hk with q | q
        · exact hgo k q
        · have := hf6.size; omega
      have hrd7 : RdO H7 b L (dT L t (some q)).2 g := (hrd5.ext hf6).fr hf7 (fun hm => by have := hgo b (by simpa using hm); omega) (fun k hk hm => by
        have h1 := hgo k (by simpa using hm)
        have h2 := h.ltg hk
        omega)
      have hf17 : Fr [b] H1 H7 := (hfr.trans (hf5.trans (hf6.mono (by simp)))).trans' hf7 fun x hx => .inr (hgo x (by simpa using hx))
      have hb7 := hn1.fr hf17 (by simpa using hbx)
      have hc7 := hb7.cell
      simp (implicitDefEqProofs := false) only [go_sem, hc7]
      have hck7 := check_ok hrd7
      rw [pR] at hck7
      refine PCalls.mono hck7 ?_ ?_
      rotate_left
      · rintro c H8 ⟨rfl, he, hf8⟩
        refine ⟨rfl, ?_, (hf1.mono (by simp)).trans (hf17.trans (hf8.mono (by simp)))⟩
        rw [hD, hrep]
        exact repO_end hlt he
      rintro v H8 ⟨rfl, hs8, h8, hf8⟩
      obtain ⟨q', hq'⟩ := Option.isSome_iff_exists.1 hs8
      rw [hq'] at h8
      have hstep := repO_step (f := dT L t) (p := q) (x := (dT L t (some q)).1) (q := q') hlt (by rw [← hq'])
      simp (implicitDefEqProofs := false) only [go_sem]
      refine loopK_intro (i + 1, ds ++ [(dT L t (some q)).1], q', .slice a ((ds.map (datT t)).length + 1) c, g7) (by show n - (i + 1) < n - i; omega) ?_ ?_
      · simp (implicitDefEqProofs := false) only [go_sem, hw1]
      · refine ⟨hlt, by simp [hdl], ?_, hg71, h8, hf17.trans (hf8.mono (by simp)), ?_⟩
        · have := hl7.ext hf8 (B' := fun y => y < H1.size) fun x hx => .inl hx
          simpa using this
        · rw [hrep, hstep]; simp
    · have hge' : ¬ (i : Int) < (n : Int) := by omega
      have hin : i = n := by omega
      subst hin
      simp (implicitDefEqProofs := false) only [go_sem, hge']
      rw [Nat.sub_self] at hrep
      simp only [repO, List.append_nil] at hrep
      refine ⟨[vo], rfl, ?_, ?_, (hf1.mono (by simp)).trans hfr⟩
      · rw [hD, hrep]
        have hr := hls.rep fun b hb hx => by have := hgo b hb; omega
        have hE : datT (.list t) ds = .list 2 (ds.map (datT t)) := by simp only [datT, hw]
        rw [hE]
        exact hr.more fun x hx => .inl (by have := hf1.size; omega)
      · rw [hD, hrep]; exact hrd

theorem EBts : ElemOk Tryz.prog 69 22 1 24 (.slice none 0 0) := ⟨Tryz.underlying69, by kernel_rfl, rfl, by decide⟩
set_option maxHeartbeats 1000000 in
theorem elemsBts_ok {f : Nat} {t : Ty} {k : Nat → Value} (hw : wid t = 1) (hp : ∀ v, argOf t [v] = v) (ht : t = .bytes) (hf : ROk f t k) {H : Heap} {b : Nat} {L : Bs} {s : Pl} {g : Option Nat} (hL : L.length < 2^36) (h : RdO H b L s g) :
    PCalls Tryz.prog 162 #[pR b, .func (.func f) #[k b] #[]] H (RdR H b L s g (.list t)) (RdE H b L s (.list t)) := by
  refine pcalls_of_vc (args := [_, _]) Tryz.func162 c162ok (Nat.le_of_ble_eq_true rfl) ?_
  simp (implicitDefEqProofs := false) only [go_sem, c162, pR]
  refine NewP_intro fun H1 hn1 hf1 hs1 => ?_
  have hc1 := hn1.cell
  have hbx : H.size ≠ b := by have := h.lt; omega
  have hbH : b < H.size := h.lt
  simp (implicitDefEqProofs := false) only [go_sem, hc1]
  refine (rcount_o (h.ext hf1)).mono ?_
  rintro v H2 ⟨rfl, h2, hf2⟩
  have hb2 := hn1.fr hf2 (by simpa using hbx)
  have hc2 := hb2.cell
  simp (implicitDefEqProofs := false) only [go_sem, hc2]
  have hck := check_ok h2
  rw [pR] at hck
  refine PCalls.mono hck ?_ ?_
  rotate_left
  · rintro c H3 ⟨rfl, hn, hf3⟩
    refine ⟨rfl, ?_, (hf1.mono (by simp)).trans (hf2.trans (hf3.mono (by simp)))⟩
    simp only [dT, hn, repO_none]
  rintro v H3 ⟨rfl, hs, h3, hf3⟩
  obtain ⟨p, hp'⟩ := Option.isSome_iff_exists.1 hs
  obtain ⟨n, hn⟩ : ∃ n, n = (countO L s).1 := ⟨_, rfl⟩
  have hnL : n ≤ L.length := by rw [hn]; exact countO_le L s
  have hD : dT L (.list t) s = repO (dT L t) n (some p) := by simp only [dT, ← hp', hn]
  rw [hp'] at h3
  rw [← hn]
  have hf13 : Fr [b] H1 H3 := hf2.trans (hf3.mono (by simp))
  simp (implicitDefEqProofs := false) only [go_sem]
  refine vc_loop (fun (x : Nat × List (den t) × Nat × Value × Option Nat) H' => x.1 ≤ n ∧ x.2.1.length = x.1 ∧ LsO H' (fun y => y < H1.size) 22 1 x.2.2.2.1 (x.2.1.map (datT t)) x.2.2.2.2 ∧ (∀ k, x.2.2.2.2 = some k → H1.size ≤ k) ∧ RdO H' b L (some x.2.2.1) g ∧ Fr [b] H1 H' ∧
      repO (dT L t) n (some p) = (x.2.1 ++ (repO (dT L t) (n - x.1) (some x.2.2.1)).1, (repO (dT L t) (n - x.1) (some x.2.2.1)).2))
    (fun x => [(1, .func (.func f) #[k b] #[]), (2, .pointer (some ⟨H.size, 0, none⟩)), (5, x.2.2.2.1), (12, .int .i64 n), (13, .int .i64 x.1)]) (fun x => n - x.1) (0, [], p, .slice none 0 0, none) ?_ ?_ ?_
  · exact ⟨Nat.zero_le _, rfl, LsO.nil, by simp, h3, hf13, by simp⟩
  · simp (implicitDefEqProofs := false) only [go_sem]
  · rintro ⟨i, ds, q, vo, go⟩ H' ⟨hi, hdl, hls, hgo, hrd, hfr, hrep⟩
    simp only at hi hdl hls hgo hrd hfr hrep
    rcases Nat.lt_or_ge i n with hlt | hge
    · have hlt' : (i : Int) < (n : Int) := by omega
      have hw1 := succ_i64 i n hlt (by omega)
      simp (implicitDefEqProofs := false) only [go_sem, hlt']
      refine ⟨hf.1, PCalls.mono (hf.2 hL hrd) ?_ ?_⟩
      rotate_left
      · rintro c H5 ⟨rfl, he, hf5⟩
        refine ⟨rfl, ?_, (hf1.mono (by simp)).trans (hfr.trans hf5)⟩
        rw [hD, hrep]
        exact repO_end hlt he
      rintro v H5 ⟨cs, rfl, hr5, hrd5, hf5⟩
      have hxl := rep_wid hr5.rep
      rw [hw] at hxl
      obtain ⟨x0, rfl⟩ := len1 hxl
      obtain ⟨xa, xn, xc, rfl⟩ : ∃ a n c, x0 = Value.slice a n c := by
        subst ht
        obtain ⟨xa, xc, hx0, _⟩ := rep_bytes.1 hr5.rep
        simp only [List.cons.injEq, and_true] at hx0
        exact ⟨_, _, _, hx0⟩
      rw [hp]
      simp (implicitDefEqProofs := false) only [go_sem]
      refine NewS_intro fun H6 hn6 hf6 hs6 => ?_
      have hsz1 := hfr.size
      have hsz5 := hf5.size
      have hb1 : b < H1.size := by omega
      have hls6 : LsO H6 (fun y => y < H1.size) 22 1 vo (ds.map (datT t)) go := (hls.fr hf5 (fun x hx => .inl (by simp at hx; omega)) (fun k hk => by have := hgo k hk; simp; omega) (fun x hx => .inl hx)).ext hf6 fun x hx => .inl hx
      have hd6 : RepP H6 (fun y => y < H1.size ∨ go = some y) (datT t (dT L t (some q)).1) [Value.slice xa xn xc] := by
        refine RepP.ext hr5 hf6 fun x hx => .inl ?_
        rcases hx with hx | hx
        · omega
        · exact hls.lt hx
      simp (implicitDefEqProofs := false) only [go_sem]
      refine App_ls EBts hls6 Tryz.underlying69 hn6 rfl (rep_one hr5.rep) hd6 rfl (by simp only [List.length_map]; unfold maxLen; omega) (by simp only [List.length_map]; omega) fun a c H7 g7 hl7 hf7 hg7 => ?_
      have hg71 : ∀ k, g7 = some k → H1.size ≤ k := by
        intro k hk
        rcases hg7 k hk with q | q
        · exact hgo k q
        · have := hf6.size; omega
      have hrd7 : RdO H7 b L (dT L t (some q)).2 g := (hrd5.ext hf6).fr hf7 (fun hm => by have := hgo b (by simpa using hm); omega) (fun k hk hm => by
        have h1 := hgo k (by simpa using hm)
        have h2 := h.ltg hk
        omega)
      have hf17 : Fr [b] H1 H7 := (hfr.trans (hf5.trans (hf6.mono (by simp)))).trans' hf7 fun x hx => .inr (hgo x (by simpa using hx))
      have hb7 := hn1.fr hf17 (by simpa using hbx)
      have hc7 := hb7.cell
      simp (implicitDefEqProofs := false) only [go_sem, hc7]
      have hck7 := check_ok hrd7
      rw [pR] at hck7
      refine PCalls.mono hck7 ?_ ?_
      rotate_left
      · rintro c H8 ⟨rfl, he, hf8⟩
        refine ⟨rfl, ?_, (hf1.mono (by simp)).trans (hf17.trans (hf8.mono (by simp)))⟩
        rw [hD, hrep]
        exact repO_end hlt he
      rintro v H8 ⟨rfl, hs8, h8, hf8⟩
      obtain ⟨q', hq'⟩ := Option.isSome_iff_exists.1 hs8
      rw [hq'] at h8
      have hstep := repO_step (f := dT L t) (p := q) (x := (dT L t (some q)).1) (q := q') hlt (by rw [← hq'])
      simp (implicitDefEqProofs := false) only [go_sem]
      refine loopK_intro (i + 1, ds ++ [(dT L t (some q)).1], q', .slice a ((ds.map (datT t)).length + 1) c, g7) (by show n - (i + 1) < n - i; omega) ?_ ?_
      · simp (implicitDefEqProofs := false) only [go_sem, hw1]
      · refine ⟨hlt, by simp [hdl], ?_, hg71, h8, hf17.trans (hf8.mono (by simp)), ?_⟩
        · have := hl7.ext hf8 (B' := fun y => y < H1.size) fun x hx => .inl hx
          simpa using this
        · rw [hrep, hstep]; simp
    · have hge' : ¬ (i : Int) < (n : Int) := by omega
      have hin : i = n := by omega
      subst hin
      simp (implicitDefEqProofs := false) only [go_sem, hge']
      rw [Nat.sub_self] at hrep
      simp only [repO, List.append_nil] at hrep
      refine ⟨[vo], rfl, ?_, ?_, (hf1.mono (by simp)).trans hfr⟩
      · rw [hD, hrep]
        have hr := hls.rep fun b hb hx => by have := hgo b hb; omega
        have hE : datT (.list t) ds = .list 1 (ds.map (datT t)) := by simp only [datT, hw]
        rw [hE]
        exact hr.more fun x hx => .inl (by have := hf1.size; omega)
      · rw [hD, hrep]; exact hrd

end Go.Proofs.YtdhlibkdcldioaaGreat
