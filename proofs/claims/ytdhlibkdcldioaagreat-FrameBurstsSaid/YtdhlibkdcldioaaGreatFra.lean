/- The writers of the reference. -/
import Derived.Test.YtdhlibkdcldioaaGreatFs
import Derived.Test.YtdhlibkdcldioaaGreatCodeW
set_option linter.unusedSimpArgs false
set_option linter.unusedVariables false
set_option maxRecDepth 8000
namespace Go.Proofs.YtdhlibkdcldioaaGreat
open Gx Go

theorem rep_bytes_cs {H : Heap} {M : List Nat} {l : Bs} {a : Option Addr} {n c : Nat} (h : Rep H M (datT .bytes l) [.slice a n c]) : CsR H a (l.map bv) := by
  obtain ⟨a', c', e, _, _, h6⟩ := rep_bytes.1 h
  simp only [List.cons.injEq, and_true, Value.slice.injEq] at e
  obtain ⟨rfl, rfl, rfl⟩ := e
  exact h6.csR
theorem fbytesT (x : den .bytes) {H : Heap} {a ax : Option Addr} {c cx : Nat} {l : List UInt8} (h : BsR H a l) (hx : BsR H ax x) (hl : l.length + List.length x < 2^38) :
    HCalls Tryz.prog 117 #[.slice a l.length c, .slice ax (List.length x) cx] H (Out H (l ++ encT .bytes x)) := fbytes_ok x h hx hl
theorem ftextT (x : den .text) {H : Heap} {a : Option Addr} {c : Nat} {l : List UInt8} (h : BsR H a l) (hl : l.length + List.length x < 2^38) :
    HCalls Tryz.prog 118 #[.slice a l.length c, .string ⟨⟨x⟩⟩] H (Out H (l ++ encT .text x)) := ftext_ok x h hl
theorem fboolT (x : den .bool) {H : Heap} {a : Option Addr} {c : Nat} {l : List UInt8} (h : BsR H a l) (hl : l.length < 2^38) :
    HCalls Tryz.prog 121 #[.slice a l.length c, .bool x] H (Out H (l ++ encT .bool x)) := fbool_ok x h hl
theorem Out.trans' {H H1 H' : Heap} {L : Bs} {v : Value} (hf : Fr [] H H1) (h : Out H1 L v H') : Out H L v H' := by
  obtain ⟨a, c, g, rfl, h1, h2, h3⟩ := h
  exact ⟨a, c, g, rfl, h1, fun k hk => Nat.le_trans hf.size (h2 k hk), hf.trans h3⟩
theorem fcount_ok (n : Nat) (hn : n < 2^63) {H : Heap} {a : Option Addr} {c : Nat} {l : Bs} (h : BsR H a l) (hl : l.length < 2^38) : HCalls Tryz.prog 64 #[.slice a l.length c, .int .i64 n] H (Out H (l ++ enc n)) := by
  refine calls_of_vc (args := [_, _]) Tryz.func64 c64ok (Nat.le_of_ble_eq_true rfl) ?_
  have hx : IntKind.u64.wrap (n : Int) = (n : Int) := wrap_u64_id _ (by omega) (by omega)
  simp (implicitDefEqProofs := false) only [go_sem, c64, hx]
  refine (fuint_ok n (by omega) h hl).mono ?_
  intro v H1 hv
  simp (implicitDefEqProofs := false) only [go_sem]
  exact hv
theorem finteger_ok (n : Int) (hn : okT .num n) {H : Heap} {a : Option Addr} {c : Nat} {l : Bs} (h : BsR H a l) (hl : l.length < 2^38) : HCalls Tryz.prog 63 #[.slice a l.length c, .int .i64 n] H (Out H (l ++ encT .num n)) := by
  refine calls_of_vc (args := [_, _]) Tryz.func63 c63ok (Nat.le_of_ble_eq_true rfl) ?_
  have hx : IntKind.i64.wrap n = n := wrap_i64_id _ hn.1 hn.2
  simp (implicitDefEqProofs := false) only [go_sem, c63, hx]
  refine (fint_ok n hn.1 hn.2 h hl).mono ?_
  intro v H1 hv
  simp (implicitDefEqProofs := false) only [go_sem]
  exact hv
theorem fround_ok (d : den tRound) (hok : okT tRound d) {H : Heap} {a : Option Addr} {c : Nat} {l : Bs} {cs : List Value} (h : BsR H a l) (ha : Rep H [] (datT tRound d) cs) (hsz : l.length + (encT tRound d).length < 2^38) : HCalls Tryz.prog 68 #[.slice a l.length c, .agg cs.toArray] H (Out H (l ++ encT tRound d)) := by
  obtain ⟨d0, d1, d2⟩ := d
  obtain ⟨o0, o1, o2⟩ := hok
  obtain ⟨c0, r0, rfl, u0, ha⟩ := rep_pair.1 ha
  obtain ⟨c1, r1, rfl, u1, u2⟩ := rep_pair.1 ha
  have := rep_num u0; subst this
  have := rep_num u1; subst this
  have := rep_num u2; subst this
  have hE : encT tRound (d0, d1, d2) = encT .num d0 ++ (encT .num d1 ++ encT .num d2) := rfl
  rw [hE] at hsz ⊢
  simp only [List.length_append] at hsz
  refine calls_of_vc (args := [_, _]) Tryz.func68 c68ok (Nat.le_of_ble_eq_true rfl) ?_
  simp (implicitDefEqProofs := false) only [go_sem, c68]
  refine NewP_intro fun H1 hB hf0 hs0 => ?_
  have cB := hB.cell
  have hb0 := h.ext hf0
  simp (implicitDefEqProofs := false) only [go_sem, cB]
  refine (finteger_ok d0 o0 hb0 (by (try simp only [List.length_append]); omega)).mono ?_
  rintro v K1 ⟨a1, c1, g1, rfl, ho1, hg1, hf1⟩
  have hb1 := ho1.bsR
  have hF1 := hf0.trans hf1
  replace hB := hB.ext hf1
  replace cB := hB.cell
  simp (implicitDefEqProofs := false) only [go_sem, cB]
  refine (finteger_ok d1 o1 hb1 (by (try simp only [List.length_append]); omega)).mono ?_
  rintro v K2 ⟨a2, c2, g2, rfl, ho2, hg2, hf2⟩
  have hb2 := ho2.bsR
  have hF2 := hF1.trans hf2
  replace hB := hB.ext hf2
  replace cB := hB.cell
  simp (implicitDefEqProofs := false) only [go_sem, cB]
  refine (finteger_ok d2 o2 hb2 (by (try simp only [List.length_append]); omega)).mono ?_
  rintro v K3 ⟨a3, c3, g3, rfl, ho3, hg3, hf3⟩
  have hb3 := ho3.bsR
  have hF3 := hF2.trans hf3
  replace hB := hB.ext hf3
  replace cB := hB.cell
  simp (implicitDefEqProofs := false) only [go_sem, cB]
  have hv : l ++ encT .num d0 ++ encT .num d1 ++ encT .num d2 = l ++ (encT .num d0 ++ (encT .num d1 ++ encT .num d2)) := by simp
  rw [← hv]
  exact Out.trans' (hf0.trans (hf1.trans hf2)) ⟨_, _, _, rfl, ho3, hg3, hf3⟩
set_option maxHeartbeats 4000000 in
theorem freads_ok (ls : List (den tRead)) (hok : okT (.list tRead) ls) {H : Heap} {a : Option Addr} {c : Nat} {l : Bs} {al : Option Addr} {cl : Nat} (h : BsR H a l) (ha : Rep H [] (datT (.list tRead) ls) [.slice al ls.length cl]) (hsz : l.length + (encT (.list tRead) ls).length < 2^38) :
    HCalls Tryz.prog 67 #[.slice a l.length c, .slice al ls.length cl] H (Out H (l ++ encT (.list tRead) ls)) := by
  have hlen : ls.length < 2^63 := hok.1
  have hE : encT (.list tRead) ls = enc ls.length ++ ls.flatMap (encT tRead) := rfl
  rw [hE] at hsz ⊢
  have hfl := flat_len (encT_pos tRead) ls
  simp only [List.length_append] at hsz
  refine calls_of_vc (args := [_, _]) Tryz.func67 c67ok (Nat.le_of_ble_eq_true rfl) ?_
  simp (implicitDefEqProofs := false) only [go_sem, c67]
  refine (fcount_ok ls.length (by omega) h (by omega)).mono ?_
  rintro v H0 ⟨a0, c0, g0, rfl, ho0, hg0, hf0⟩
  simp (implicitDefEqProofs := false) only [go_sem]
  refine vc_loop (fun (x : Nat × Option Addr × Nat × Option Nat) H' => x.1 ≤ ls.length ∧ Own H' 5 1 (.slice x.2.1 (l ++ (enc ls.length ++ (ls.take x.1).flatMap (encT tRead))).length x.2.2.1) (l ++ (enc ls.length ++ (ls.take x.1).flatMap (encT tRead))).length ((l ++ (enc ls.length ++ (ls.take x.1).flatMap (encT tRead))).map bv) x.2.2.2 ∧ (∀ k, x.2.2.2 = some k → H.size ≤ k) ∧ Fr [] H H')
    (fun x => [(0, .slice x.2.1 (l ++ (enc ls.length ++ (ls.take x.1).flatMap (encT tRead))).length x.2.2.1), (1, .slice al ls.length cl), (5, .int .i64 x.1)]) (fun x => ls.length - x.1) (0, a0, c0, g0) ?_ ?_ ?_
  · refine ⟨Nat.zero_le _, ?_, hg0, hf0⟩
    simpa using ho0
  · simp (implicitDefEqProofs := false) only [go_sem]
    simp
  · rintro ⟨i, ai, ci, gi⟩ H' ⟨hi, ho, hg, hfr⟩
    simp only at hi ho hg hfr
    rcases Nat.lt_or_ge i ls.length with hlt | hge
    · have hlt' : (i : Int) < (ls.length : Int) := by omega
      have h0 : (0 : Int) ≤ (i : Int) := by omega
      obtain ⟨bb, oo, cc, x, e1, _, hxl, hp4, hx⟩ := rep_at (Rep.ext ha hfr) i hlt
      cases e1
      have hokx := hok.2 _ (List.getElem_mem hlt)
      have hw1 := succ_i64 i ls.length hlt (by omega)
      have hbi := ho.bsR
      have hsp := flat_split (encT tRead) ls i hlt
      have hss := flat_succ (encT tRead) ls i hlt
      rw [hsp] at hsz
      simp only [List.length_append] at hsz
      obtain ⟨L, hL⟩ : ∃ L, L = l ++ (enc ls.length ++ (ls.take i).flatMap (encT tRead)) := ⟨_, rfl⟩
      have hLl : L.length = l.length + ((enc ls.length).length + ((ls.take i).flatMap (encT tRead)).length) := by rw [hL]; simp
      rw [← hL] at ho hbi
      simp only [← hL]
      generalize ls[i] = d at hx hokx hsp hss hsz
      obtain ⟨x0, x1, x2, rfl⟩ := len3 hxl
      have p0 := hp4 0 (by decide)
      have p1 := hp4 1 (by decide)
      have p2 := hp4 2 (by decide)
      simp only [wid, Nat.add_zero, Nat.reduceAdd, Nat.mul_one, List.getElem?_cons_zero, List.getElem?_cons_succ] at p0 p1 p2
      obtain ⟨d0, d1, d2⟩ := d
      obtain ⟨o0, o1, o2⟩ := hokx
      obtain ⟨zu0, zru0, ezu0, u0, hru0⟩ := rep_pair.1 hx
      obtain ⟨zu1, zru1, ezu1, u1, hru1⟩ := rep_pair.1 hru0
      have u2 := hru1
      have wu0 := rep_num u0
      have wu1 := rep_num u1
      obtain ⟨ba2, bc2, wu2, _, _, _⟩ := rep_bytes.1 u2
      subst wu0 wu1 wu2
      simp only [ezu1, List.cons_append, List.nil_append, List.cons.injEq, and_true] at ezu0
      obtain ⟨rfl, rfl, rfl⟩ := ezu0
      have hE2 : encT tRead (d0, d1, d2) = encT .num d0 ++ (encT .num d1 ++ (encT .bytes d2)) := rfl
      rw [hE2] at hsz
      simp only [List.length_append] at hsz
      have hzb2 : (encT .bytes d2).length = (enc (List.length d2)).length + List.length d2 := List.length_append
      simp (implicitDefEqProofs := false) only [go_sem, hlt', h0, p0, p1, p2]
      refine (finteger_ok d0 o0 hbi (by (try simp only [List.length_append]); omega)).mono ?_
      rintro v K4 ⟨a4, c4, g4, rfl, ho4, hg4, hf4⟩
      have hb4 := ho4.bsR
      have hF4 := hfr.trans hf4
      replace p0 := cellB_fr p0 hf4 (by simp)
      replace p1 := cellB_fr p1 hf4 (by simp)
      replace p2 := cellB_fr p2 hf4 (by simp)
      replace u2 := Rep.ext u2 hf4
      simp (implicitDefEqProofs := false) only [go_sem, p0, p1, p2]
      refine (finteger_ok d1 o1 hb4 (by (try simp only [List.length_append]); omega)).mono ?_
      rintro v K5 ⟨a5, c5, g5, rfl, ho5, hg5, hf5⟩
      have hb5 := ho5.bsR
      have hF5 := hF4.trans hf5
      replace p0 := cellB_fr p0 hf5 (by simp)
      replace p1 := cellB_fr p1 hf5 (by simp)
      replace p2 := cellB_fr p2 hf5 (by simp)
      replace u2 := Rep.ext u2 hf5
      simp (implicitDefEqProofs := false) only [go_sem, p0, p1, p2]
      refine (fbytesT d2 hb5 (csR_bsR.1 (rep_bytes_cs u2)) (by (try simp only [List.length_append]); omega)).mono ?_
      rintro v K6 ⟨a6, c6, g6, rfl, ho6, hg6, hf6⟩
      have hb6 := ho6.bsR
      have hF6 := hF5.trans hf6
      replace p0 := cellB_fr p0 hf6 (by simp)
      replace p1 := cellB_fr p1 hf6 (by simp)
      replace p2 := cellB_fr p2 hf6 (by simp)
      replace u2 := Rep.ext u2 hf6
      simp (implicitDefEqProofs := false) only [go_sem, p0, p1, p2]
      refine loopK_intro (i + 1, a6, c6, g6) (by show ls.length - (i + 1) < ls.length - i; omega) ?_ ?_
      · have hv : l ++ (enc ls.length ++ (ls.take (i + 1)).flatMap (encT tRead)) = (((L ++ encT .num d0) ++ encT .num d1) ++ encT .bytes d2) := by rw [hss, hL, hE2]; simp
        simp only [hv]
        simp (implicitDefEqProofs := false) only [go_sem, hw1]
        all_goals rfl
      · have hv : l ++ (enc ls.length ++ (ls.take (i + 1)).flatMap (encT tRead)) = (((L ++ encT .num d0) ++ encT .num d1) ++ encT .bytes d2) := by rw [hss, hL, hE2]; simp
        refine ⟨hlt, ?_, (fun k hk => Nat.le_trans (hF5.size) (hg6 k hk)), hF6⟩
        simp only [hv]; exact ho6
    · have hge' : ¬ (i : Int) < (ls.length : Int) := by omega
      simp (implicitDefEqProofs := false) only [go_sem, hge']
      rw [List.take_of_length_le hge] at ho ⊢
      exact ⟨ai, ci, gi, rfl, ho, hg, hfr⟩
set_option maxHeartbeats 4000000 in
theorem facks_ok (ls : List (den tAck)) (hok : okT (.list tAck) ls) {H : Heap} {a : Option Addr} {c : Nat} {l : Bs} {al : Option Addr} {cl : Nat} (h : BsR H a l) (ha : Rep H [] (datT (.list tAck) ls) [.slice al ls.length cl]) (hsz : l.length + (encT (.list tAck) ls).length < 2^38) :
    HCalls Tryz.prog 69 #[.slice a l.length c, .slice al ls.length cl] H (Out H (l ++ encT (.list tAck) ls)) := by
  have hlen : ls.length < 2^63 := hok.1
  have hE : encT (.list tAck) ls = enc ls.length ++ ls.flatMap (encT tAck) := rfl
  rw [hE] at hsz ⊢
  have hfl := flat_len (encT_pos tAck) ls
  simp only [List.length_append] at hsz
  refine calls_of_vc (args := [_, _]) Tryz.func69 c69ok (Nat.le_of_ble_eq_true rfl) ?_
  simp (implicitDefEqProofs := false) only [go_sem, c69]
  refine (fcount_ok ls.length (by omega) h (by omega)).mono ?_
  rintro v H0 ⟨a0, c0, g0, rfl, ho0, hg0, hf0⟩
  simp (implicitDefEqProofs := false) only [go_sem]
  refine vc_loop (fun (x : Nat × Option Addr × Nat × Option Nat) H' => x.1 ≤ ls.length ∧ Own H' 5 1 (.slice x.2.1 (l ++ (enc ls.length ++ (ls.take x.1).flatMap (encT tAck))).length x.2.2.1) (l ++ (enc ls.length ++ (ls.take x.1).flatMap (encT tAck))).length ((l ++ (enc ls.length ++ (ls.take x.1).flatMap (encT tAck))).map bv) x.2.2.2 ∧ (∀ k, x.2.2.2 = some k → H.size ≤ k) ∧ Fr [] H H')
    (fun x => [(0, .slice x.2.1 (l ++ (enc ls.length ++ (ls.take x.1).flatMap (encT tAck))).length x.2.2.1), (1, .slice al ls.length cl), (5, .int .i64 x.1)]) (fun x => ls.length - x.1) (0, a0, c0, g0) ?_ ?_ ?_
  · refine ⟨Nat.zero_le _, ?_, hg0, hf0⟩
    simpa using ho0
  · simp (implicitDefEqProofs := false) only [go_sem]
    simp
  · rintro ⟨i, ai, ci, gi⟩ H' ⟨hi, ho, hg, hfr⟩
    simp only at hi ho hg hfr
    rcases Nat.lt_or_ge i ls.length with hlt | hge
    · have hlt' : (i : Int) < (ls.length : Int) := by omega
      have h0 : (0 : Int) ≤ (i : Int) := by omega
      obtain ⟨bb, oo, cc, x, e1, _, hxl, hp4, hx⟩ := rep_at (Rep.ext ha hfr) i hlt
      cases e1
      have hokx := hok.2 _ (List.getElem_mem hlt)
      have hw1 := succ_i64 i ls.length hlt (by omega)
      have hbi := ho.bsR
      have hsp := flat_split (encT tAck) ls i hlt
      have hss := flat_succ (encT tAck) ls i hlt
      rw [hsp] at hsz
      simp only [List.length_append] at hsz
      obtain ⟨L, hL⟩ : ∃ L, L = l ++ (enc ls.length ++ (ls.take i).flatMap (encT tAck)) := ⟨_, rfl⟩
      have hLl : L.length = l.length + ((enc ls.length).length + ((ls.take i).flatMap (encT tAck)).length) := by rw [hL]; simp
      rw [← hL] at ho hbi
      simp only [← hL]
      generalize ls[i] = d at hx hokx hsp hss hsz
      obtain ⟨x0, x1, rfl⟩ := len2 hxl
      have p0 := hp4 0 (by decide)
      have p1 := hp4 1 (by decide)
      simp only [wid, Nat.add_zero, Nat.reduceAdd, Nat.mul_one, List.getElem?_cons_zero, List.getElem?_cons_succ] at p0 p1
      obtain ⟨d0, d1⟩ := d
      obtain ⟨o0, o1⟩ := hokx
      obtain ⟨zu0, zru0, ezu0, u0, hru0⟩ := rep_pair.1 hx
      have u1 := hru0
      have wu0 := rep_num u0
      obtain ⟨ba1, bc1, wu1, _, _, _⟩ := rep_bytes.1 u1
      subst wu0 wu1
      simp only [List.append_nil, List.cons_append, List.nil_append, List.cons.injEq, and_true] at ezu0
      obtain ⟨rfl, rfl⟩ := ezu0
      have hE2 : encT tAck (d0, d1) = encT .num d0 ++ (encT .bytes d1) := rfl
      rw [hE2] at hsz
      simp only [List.length_append] at hsz
      have hzb1 : (encT .bytes d1).length = (enc (List.length d1)).length + List.length d1 := List.length_append
      simp (implicitDefEqProofs := false) only [go_sem, hlt', h0, p0, p1]
      refine (finteger_ok d0 o0 hbi (by (try simp only [List.length_append]); omega)).mono ?_
      rintro v K7 ⟨a7, c7, g7, rfl, ho7, hg7, hf7⟩
      have hb7 := ho7.bsR
      have hF7 := hfr.trans hf7
      replace p0 := cellB_fr p0 hf7 (by simp)
      replace p1 := cellB_fr p1 hf7 (by simp)
      replace u1 := Rep.ext u1 hf7
      simp (implicitDefEqProofs := false) only [go_sem, p0, p1]
      refine (fbytesT d1 hb7 (csR_bsR.1 (rep_bytes_cs u1)) (by (try simp only [List.length_append]); omega)).mono ?_
      rintro v K8 ⟨a8, c8, g8, rfl, ho8, hg8, hf8⟩
      have hb8 := ho8.bsR
      have hF8 := hF7.trans hf8
      replace p0 := cellB_fr p0 hf8 (by simp)
      replace p1 := cellB_fr p1 hf8 (by simp)
      replace u1 := Rep.ext u1 hf8
      simp (implicitDefEqProofs := false) only [go_sem, p0, p1]
      refine loopK_intro (i + 1, a8, c8, g8) (by show ls.length - (i + 1) < ls.length - i; omega) ?_ ?_
      · have hv : l ++ (enc ls.length ++ (ls.take (i + 1)).flatMap (encT tAck)) = ((L ++ encT .num d0) ++ encT .bytes d1) := by rw [hss, hL, hE2]; simp
        simp only [hv]
        simp (implicitDefEqProofs := false) only [go_sem, hw1]
        all_goals rfl
      · have hv : l ++ (enc ls.length ++ (ls.take (i + 1)).flatMap (encT tAck)) = ((L ++ encT .num d0) ++ encT .bytes d1) := by rw [hss, hL, hE2]; simp
        refine ⟨hlt, ?_, (fun k hk => Nat.le_trans (hF7.size) (hg8 k hk)), hF8⟩
        simp only [hv]; exact ho8
    · have hge' : ¬ (i : Int) < (ls.length : Int) := by omega
      simp (implicitDefEqProofs := false) only [go_sem, hge']
      rw [List.take_of_length_le hge] at ho ⊢
      exact ⟨ai, ci, gi, rfl, ho, hg, hfr⟩
set_option maxHeartbeats 4000000 in
theorem fdigests_ok (ls : List (den tDigest)) (hok : okT (.list tDigest) ls) {H : Heap} {a : Option Addr} {c : Nat} {l : Bs} {al : Option Addr} {cl : Nat} (h : BsR H a l) (ha : Rep H [] (datT (.list tDigest) ls) [.slice al ls.length cl]) (hsz : l.length + (encT (.list tDigest) ls).length < 2^38) :
    HCalls Tryz.prog 71 #[.slice a l.length c, .slice al ls.length cl] H (Out H (l ++ encT (.list tDigest) ls)) := by
  have hlen : ls.length < 2^63 := hok.1
  have hE : encT (.list tDigest) ls = enc ls.length ++ ls.flatMap (encT tDigest) := rfl
  rw [hE] at hsz ⊢
  have hfl := flat_len (encT_pos tDigest) ls
  simp only [List.length_append] at hsz
  refine calls_of_vc (args := [_, _]) Tryz.func71 c71ok (Nat.le_of_ble_eq_true rfl) ?_
  simp (implicitDefEqProofs := false) only [go_sem, c71]
  refine (fcount_ok ls.length (by omega) h (by omega)).mono ?_
  rintro v H0 ⟨a0, c0, g0, rfl, ho0, hg0, hf0⟩
  simp (implicitDefEqProofs := false) only [go_sem]
  refine vc_loop (fun (x : Nat × Option Addr × Nat × Option Nat) H' => x.1 ≤ ls.length ∧ Own H' 5 1 (.slice x.2.1 (l ++ (enc ls.length ++ (ls.take x.1).flatMap (encT tDigest))).length x.2.2.1) (l ++ (enc ls.length ++ (ls.take x.1).flatMap (encT tDigest))).length ((l ++ (enc ls.length ++ (ls.take x.1).flatMap (encT tDigest))).map bv) x.2.2.2 ∧ (∀ k, x.2.2.2 = some k → H.size ≤ k) ∧ Fr [] H H')
    (fun x => [(0, .slice x.2.1 (l ++ (enc ls.length ++ (ls.take x.1).flatMap (encT tDigest))).length x.2.2.1), (1, .slice al ls.length cl), (5, .int .i64 x.1)]) (fun x => ls.length - x.1) (0, a0, c0, g0) ?_ ?_ ?_
  · refine ⟨Nat.zero_le _, ?_, hg0, hf0⟩
    simpa using ho0
  · simp (implicitDefEqProofs := false) only [go_sem]
    simp
  · rintro ⟨i, ai, ci, gi⟩ H' ⟨hi, ho, hg, hfr⟩
    simp only at hi ho hg hfr
    rcases Nat.lt_or_ge i ls.length with hlt | hge
    · have hlt' : (i : Int) < (ls.length : Int) := by omega
      have h0 : (0 : Int) ≤ (i : Int) := by omega
      obtain ⟨bb, oo, cc, x, e1, _, hxl, hp4, hx⟩ := rep_at (Rep.ext ha hfr) i hlt
      cases e1
      have hokx := hok.2 _ (List.getElem_mem hlt)
      have hw1 := succ_i64 i ls.length hlt (by omega)
      have hbi := ho.bsR
      have hsp := flat_split (encT tDigest) ls i hlt
      have hss := flat_succ (encT tDigest) ls i hlt
      rw [hsp] at hsz
      simp only [List.length_append] at hsz
      obtain ⟨L, hL⟩ : ∃ L, L = l ++ (enc ls.length ++ (ls.take i).flatMap (encT tDigest)) := ⟨_, rfl⟩
      have hLl : L.length = l.length + ((enc ls.length).length + ((ls.take i).flatMap (encT tDigest)).length) := by rw [hL]; simp
      rw [← hL] at ho hbi
      simp only [← hL]
      generalize ls[i] = d at hx hokx hsp hss hsz
      obtain ⟨x0, x1, x2, rfl⟩ := len3 hxl
      have p0 := hp4 0 (by decide)
      have p1 := hp4 1 (by decide)
      have p2 := hp4 2 (by decide)
      simp only [wid, Nat.add_zero, Nat.reduceAdd, Nat.mul_one, List.getElem?_cons_zero, List.getElem?_cons_succ] at p0 p1 p2
      obtain ⟨d0, d1, d2⟩ := d
      obtain ⟨o0, o1, o2⟩ := hokx
      obtain ⟨zu0, zru0, ezu0, u0, hru0⟩ := rep_pair.1 hx
      obtain ⟨zu1, zru1, ezu1, u1, hru1⟩ := rep_pair.1 hru0
      have u2 := hru1
      obtain ⟨ba0, bc0, wu0, _, _, _⟩ := rep_bytes.1 u0
      obtain ⟨ba1, bc1, wu1, _, _, _⟩ := rep_bytes.1 u1
      have wu2 := rep_num u2
      subst wu0 wu1 wu2
      simp only [ezu1, List.cons_append, List.nil_append, List.cons.injEq, and_true] at ezu0
      obtain ⟨rfl, rfl, rfl⟩ := ezu0
      have hE2 : encT tDigest (d0, d1, d2) = encT .bytes d0 ++ (encT .bytes d1 ++ (encT .num d2)) := rfl
      rw [hE2] at hsz
      simp only [List.length_append] at hsz
      have hzb0 : (encT .bytes d0).length = (enc (List.length d0)).length + List.length d0 := List.length_append
      have hzb1 : (encT .bytes d1).length = (enc (List.length d1)).length + List.length d1 := List.length_append
      simp (implicitDefEqProofs := false) only [go_sem, hlt', h0, p0, p1, p2]
      refine (fbytesT d0 hbi (csR_bsR.1 (rep_bytes_cs u0)) (by (try simp only [List.length_append]); omega)).mono ?_
      rintro v K9 ⟨a9, c9, g9, rfl, ho9, hg9, hf9⟩
      have hb9 := ho9.bsR
      have hF9 := hfr.trans hf9
      replace p0 := cellB_fr p0 hf9 (by simp)
      replace p1 := cellB_fr p1 hf9 (by simp)
      replace p2 := cellB_fr p2 hf9 (by simp)
      replace u0 := Rep.ext u0 hf9
      replace u1 := Rep.ext u1 hf9
      simp (implicitDefEqProofs := false) only [go_sem, p0, p1, p2]
      refine (fbytesT d1 hb9 (csR_bsR.1 (rep_bytes_cs u1)) (by (try simp only [List.length_append]); omega)).mono ?_
      rintro v K10 ⟨a10, c10, g10, rfl, ho10, hg10, hf10⟩
      have hb10 := ho10.bsR
      have hF10 := hF9.trans hf10
      replace p0 := cellB_fr p0 hf10 (by simp)
      replace p1 := cellB_fr p1 hf10 (by simp)
      replace p2 := cellB_fr p2 hf10 (by simp)
      replace u0 := Rep.ext u0 hf10
      replace u1 := Rep.ext u1 hf10
      simp (implicitDefEqProofs := false) only [go_sem, p0, p1, p2]
      refine (finteger_ok d2 o2 hb10 (by (try simp only [List.length_append]); omega)).mono ?_
      rintro v K11 ⟨a11, c11, g11, rfl, ho11, hg11, hf11⟩
      have hb11 := ho11.bsR
      have hF11 := hF10.trans hf11
      replace p0 := cellB_fr p0 hf11 (by simp)
      replace p1 := cellB_fr p1 hf11 (by simp)
      replace p2 := cellB_fr p2 hf11 (by simp)
      replace u0 := Rep.ext u0 hf11
      replace u1 := Rep.ext u1 hf11
      simp (implicitDefEqProofs := false) only [go_sem, p0, p1, p2]
      refine loopK_intro (i + 1, a11, c11, g11) (by show ls.length - (i + 1) < ls.length - i; omega) ?_ ?_
      · have hv : l ++ (enc ls.length ++ (ls.take (i + 1)).flatMap (encT tDigest)) = (((L ++ encT .bytes d0) ++ encT .bytes d1) ++ encT .num d2) := by rw [hss, hL, hE2]; simp
        simp only [hv]
        simp (implicitDefEqProofs := false) only [go_sem, hw1]
        all_goals rfl
      · have hv : l ++ (enc ls.length ++ (ls.take (i + 1)).flatMap (encT tDigest)) = (((L ++ encT .bytes d0) ++ encT .bytes d1) ++ encT .num d2) := by rw [hss, hL, hE2]; simp
        refine ⟨hlt, ?_, (fun k hk => Nat.le_trans (hF10.size) (hg11 k hk)), hF11⟩
        simp only [hv]; exact ho11
    · have hge' : ¬ (i : Int) < (ls.length : Int) := by omega
      simp (implicitDefEqProofs := false) only [go_sem, hge']
      rw [List.take_of_length_le hge] at ho ⊢
      exact ⟨ai, ci, gi, rfl, ho, hg, hfr⟩
set_option maxHeartbeats 4000000 in
theorem fobjects_ok (ls : List (den .text)) (hok : okT (.list .text) ls) {H : Heap} {a : Option Addr} {c : Nat} {l : Bs} {al : Option Addr} {cl : Nat} (h : BsR H a l) (ha : Rep H [] (datT (.list .text) ls) [.slice al ls.length cl]) (hsz : l.length + (encT (.list .text) ls).length < 2^38) :
    HCalls Tryz.prog 72 #[.slice a l.length c, .slice al ls.length cl] H (Out H (l ++ encT (.list .text) ls)) := by
  have hlen : ls.length < 2^63 := hok.1
  have hE : encT (.list .text) ls = enc ls.length ++ ls.flatMap (encT .text) := rfl
  rw [hE] at hsz ⊢
  have hfl := flat_len (encT_pos .text) ls
  simp only [List.length_append] at hsz
  refine calls_of_vc (args := [_, _]) Tryz.func72 c72ok (Nat.le_of_ble_eq_true rfl) ?_
  simp (implicitDefEqProofs := false) only [go_sem, c72]
  refine (fcount_ok ls.length (by omega) h (by omega)).mono ?_
  rintro v H0 ⟨a0, c0, g0, rfl, ho0, hg0, hf0⟩
  simp (implicitDefEqProofs := false) only [go_sem]
  refine vc_loop (fun (x : Nat × Option Addr × Nat × Option Nat) H' => x.1 ≤ ls.length ∧ Own H' 5 1 (.slice x.2.1 (l ++ (enc ls.length ++ (ls.take x.1).flatMap (encT .text))).length x.2.2.1) (l ++ (enc ls.length ++ (ls.take x.1).flatMap (encT .text))).length ((l ++ (enc ls.length ++ (ls.take x.1).flatMap (encT .text))).map bv) x.2.2.2 ∧ (∀ k, x.2.2.2 = some k → H.size ≤ k) ∧ Fr [] H H')
    (fun x => [(0, .slice x.2.1 (l ++ (enc ls.length ++ (ls.take x.1).flatMap (encT .text))).length x.2.2.1), (1, .slice al ls.length cl), (5, .int .i64 x.1)]) (fun x => ls.length - x.1) (0, a0, c0, g0) ?_ ?_ ?_
  · refine ⟨Nat.zero_le _, ?_, hg0, hf0⟩
    simpa using ho0
  · simp (implicitDefEqProofs := false) only [go_sem]
    simp
  · rintro ⟨i, ai, ci, gi⟩ H' ⟨hi, ho, hg, hfr⟩
    simp only at hi ho hg hfr
    rcases Nat.lt_or_ge i ls.length with hlt | hge
    · have hlt' : (i : Int) < (ls.length : Int) := by omega
      have h0 : (0 : Int) ≤ (i : Int) := by omega
      obtain ⟨bb, oo, cc, x, e1, _, hxl, hp4, hx⟩ := rep_at (Rep.ext ha hfr) i hlt
      cases e1
      have hokx := hok.2 _ (List.getElem_mem hlt)
      have hw1 := succ_i64 i ls.length hlt (by omega)
      have hbi := ho.bsR
      have hsp := flat_split (encT .text) ls i hlt
      have hss := flat_succ (encT .text) ls i hlt
      rw [hsp] at hsz
      simp only [List.length_append] at hsz
      obtain ⟨L, hL⟩ : ∃ L, L = l ++ (enc ls.length ++ (ls.take i).flatMap (encT .text)) := ⟨_, rfl⟩
      have hLl : L.length = l.length + ((enc ls.length).length + ((ls.take i).flatMap (encT .text)).length) := by rw [hL]; simp
      rw [← hL] at ho hbi
      simp only [← hL]
      generalize ls[i] = d at hx hokx hsp hss hsz
      obtain ⟨x0, rfl⟩ := len1 hxl
      have p0 := hp4 0 (by decide)
      simp only [wid, Nat.add_zero, Nat.reduceAdd, Nat.mul_one, List.getElem?_cons_zero, List.getElem?_cons_succ] at p0
      have := rep_text hx
      simp only [List.cons.injEq, and_true] at this
      subst this
      have hzb : (encT .text d).length = (enc (List.length d)).length + List.length d := List.length_append
      simp (implicitDefEqProofs := false) only [go_sem, hlt', h0, p0]
      refine (ftextT d hbi (by (try simp only [List.length_append]); omega)).mono ?_
      rintro v K12 ⟨a12, c12, g12, rfl, ho12, hg12, hf12⟩
      have hb12 := ho12.bsR
      have hF12 := hfr.trans hf12
      replace p0 := cellB_fr p0 hf12 (by simp)
      simp (implicitDefEqProofs := false) only [go_sem, p0]
      refine loopK_intro (i + 1, a12, c12, g12) (by show ls.length - (i + 1) < ls.length - i; omega) ?_ ?_
      · have hv : l ++ (enc ls.length ++ (ls.take (i + 1)).flatMap (encT .text)) = (L ++ encT .text d) := by rw [hss, hL]; simp
        simp only [hv]
        simp (implicitDefEqProofs := false) only [go_sem, hw1]
        all_goals rfl
      · have hv : l ++ (enc ls.length ++ (ls.take (i + 1)).flatMap (encT .text)) = (L ++ encT .text d) := by rw [hss, hL]; simp
        refine ⟨hlt, ?_, (fun k hk => Nat.le_trans (hfr.size) (hg12 k hk)), hF12⟩
        simp only [hv]; exact ho12
    · have hge' : ¬ (i : Int) < (ls.length : Int) := by omega
      simp (implicitDefEqProofs := false) only [go_sem, hge']
      rw [List.take_of_length_le hge] at ho ⊢
      exact ⟨ai, ci, gi, rfl, ho, hg, hfr⟩
set_option maxHeartbeats 4000000 in
theorem fcommands_ok (ls : List (den tCmd)) (hok : okT (.list tCmd) ls) {H : Heap} {a : Option Addr} {c : Nat} {l : Bs} {al : Option Addr} {cl : Nat} (h : BsR H a l) (ha : Rep H [] (datT (.list tCmd) ls) [.slice al ls.length cl]) (hsz : l.length + (encT (.list tCmd) ls).length < 2^38) :
    HCalls Tryz.prog 65 #[.slice a l.length c, .slice al ls.length cl] H (Out H (l ++ encT (.list tCmd) ls)) := by
  have hlen : ls.length < 2^63 := hok.1
  have hE : encT (.list tCmd) ls = enc ls.length ++ ls.flatMap (encT tCmd) := rfl
  rw [hE] at hsz ⊢
  have hfl := flat_len (encT_pos tCmd) ls
  simp only [List.length_append] at hsz
  refine calls_of_vc (args := [_, _]) Tryz.func65 c65ok (Nat.le_of_ble_eq_true rfl) ?_
  simp (implicitDefEqProofs := false) only [go_sem, c65]
  refine (fcount_ok ls.length (by omega) h (by omega)).mono ?_
  rintro v H0 ⟨a0, c0, g0, rfl, ho0, hg0, hf0⟩
  simp (implicitDefEqProofs := false) only [go_sem]
  refine vc_loop (fun (x : Nat × Option Addr × Nat × Option Nat) H' => x.1 ≤ ls.length ∧ Own H' 5 1 (.slice x.2.1 (l ++ (enc ls.length ++ (ls.take x.1).flatMap (encT tCmd))).length x.2.2.1) (l ++ (enc ls.length ++ (ls.take x.1).flatMap (encT tCmd))).length ((l ++ (enc ls.length ++ (ls.take x.1).flatMap (encT tCmd))).map bv) x.2.2.2 ∧ (∀ k, x.2.2.2 = some k → H.size ≤ k) ∧ Fr [] H H')
    (fun x => [(0, .slice x.2.1 (l ++ (enc ls.length ++ (ls.take x.1).flatMap (encT tCmd))).length x.2.2.1), (1, .slice al ls.length cl), (5, .int .i64 x.1)]) (fun x => ls.length - x.1) (0, a0, c0, g0) ?_ ?_ ?_
  · refine ⟨Nat.zero_le _, ?_, hg0, hf0⟩
    simpa using ho0
  · simp (implicitDefEqProofs := false) only [go_sem]
    simp
  · rintro ⟨i, ai, ci, gi⟩ H' ⟨hi, ho, hg, hfr⟩
    simp only at hi ho hg hfr
    rcases Nat.lt_or_ge i ls.length with hlt | hge
    · have hlt' : (i : Int) < (ls.length : Int) := by omega
      have h0 : (0 : Int) ≤ (i : Int) := by omega
      obtain ⟨bb, oo, cc, x, e1, _, hxl, hp4, hx⟩ := rep_at (Rep.ext ha hfr) i hlt
      cases e1
      have hokx := hok.2 _ (List.getElem_mem hlt)
      have hw1 := succ_i64 i ls.length hlt (by omega)
      have hbi := ho.bsR
      have hsp := flat_split (encT tCmd) ls i hlt
      have hss := flat_succ (encT tCmd) ls i hlt
      rw [hsp] at hsz
      simp only [List.length_append] at hsz
      obtain ⟨L, hL⟩ : ∃ L, L = l ++ (enc ls.length ++ (ls.take i).flatMap (encT tCmd)) := ⟨_, rfl⟩
      have hLl : L.length = l.length + ((enc ls.length).length + ((ls.take i).flatMap (encT tCmd)).length) := by rw [hL]; simp
      rw [← hL] at ho hbi
      simp only [← hL]
      generalize ls[i] = d at hx hokx hsp hss hsz
      obtain ⟨x0, x1, x2, x3, x4, x5, rfl⟩ := len6 hxl
      have p0 := hp4 0 (by decide)
      have p1 := hp4 1 (by decide)
      have p2 := hp4 2 (by decide)
      have p3 := hp4 3 (by decide)
      have p4 := hp4 4 (by decide)
      have p5 := hp4 5 (by decide)
      simp only [wid, Nat.add_zero, Nat.reduceAdd, Nat.mul_one, List.getElem?_cons_zero, List.getElem?_cons_succ] at p0 p1 p2 p3 p4 p5
      obtain ⟨d0, d1, d2, d3, d4, d5⟩ := d
      obtain ⟨o0, o1, o2, o3, o4, o5⟩ := hokx
      obtain ⟨zu0, zru0, ezu0, u0, hru0⟩ := rep_pair.1 hx
      obtain ⟨zu1, zru1, ezu1, u1, hru1⟩ := rep_pair.1 hru0
      obtain ⟨zu2, zru2, ezu2, u2, hru2⟩ := rep_pair.1 hru1
      obtain ⟨zu3, zru3, ezu3, u3, hru3⟩ := rep_pair.1 hru2
      obtain ⟨zu4, zru4, ezu4, u4, hru4⟩ := rep_pair.1 hru3
      have u5 := hru4
      have wu0 := rep_num u0
      have wu1 := rep_num u1
      have wu2 := rep_num u2
      obtain ⟨ba3, bc3, wu3, hl3, hm3⟩ := rep_list u3
      have wu4 := rep_num u4
      obtain ⟨ba5, bc5, wu5, _, _, _⟩ := rep_bytes.1 u5
      subst wu0 wu1 wu2 wu3 wu4 wu5
      simp only [ezu1, ezu2, ezu3, ezu4, List.cons_append, List.nil_append, List.cons.injEq, and_true] at ezu0
      obtain ⟨rfl, rfl, rfl, rfl, rfl, rfl⟩ := ezu0
      have hE2 : encT tCmd (d0, d1, d2, d3, d4, d5) = encT .num d0 ++ (encT .num d1 ++ (encT .num d2 ++ (encT (.list tWrite) d3 ++ (encT .num d4 ++ (encT .bytes d5))))) := rfl
      have hE3 : encT (.list tWrite) d3 = enc (List.length d3) ++ List.flatMap (encT tWrite) d3 := rfl
      rw [hE2, hE3] at hsz
      simp only [List.length_append] at hsz
      have hll : List.length d3 < 2^63 := o3.1
      have hzb5 : (encT .bytes d5).length = (enc (List.length d5)).length + List.length d5 := List.length_append
      simp (implicitDefEqProofs := false) only [go_sem, hlt', h0, p0, p1, p2, p3, p4, p5]
      refine NewP_intro fun A hA hfA hsA => ?_
      simp (implicitDefEqProofs := false) only [go_sem]
      refine Sto_all hA rfl (by simp [Value.oneCell']) fun A2 hA2 hfA2 hsA2 => ?_
      have hfn := new_fr hfA hfA2
      have cA := hA2.cell
      have hbA := hbi.ext hfn
      have hFA := hfr.trans hfn
      replace u3 := Rep.ext u3 hfn
      replace u5 := Rep.ext u5 hfn
      simp (implicitDefEqProofs := false) only [go_sem, cA]
      refine (finteger_ok d0 o0 hbA (by (try simp only [List.length_append]); omega)).mono ?_
      rintro v K13 ⟨a13, c13, g13, rfl, ho13, hg13, hf13⟩
      have hb13 := ho13.bsR
      have hF13 := hFA.trans hf13
      replace u3 := Rep.ext u3 hf13
      replace u5 := Rep.ext u5 hf13
      replace hA2 := hA2.ext hf13
      replace cA := hA2.cell
      simp (implicitDefEqProofs := false) only [go_sem, cA]
      refine (finteger_ok d1 o1 hb13 (by (try simp only [List.length_append]); omega)).mono ?_
      rintro v K14 ⟨a14, c14, g14, rfl, ho14, hg14, hf14⟩
      have hb14 := ho14.bsR
      have hF14 := hF13.trans hf14
      replace u3 := Rep.ext u3 hf14
      replace u5 := Rep.ext u5 hf14
      replace hA2 := hA2.ext hf14
      replace cA := hA2.cell
      simp (implicitDefEqProofs := false) only [go_sem, cA]
      refine (finteger_ok d2 o2 hb14 (by (try simp only [List.length_append]); omega)).mono ?_
      rintro v K15 ⟨a15, c15, g15, rfl, ho15, hg15, hf15⟩
      have hb15 := ho15.bsR
      have hF15 := hF14.trans hf15
      replace u3 := Rep.ext u3 hf15
      replace u5 := Rep.ext u5 hf15
      replace hA2 := hA2.ext hf15
      replace cA := hA2.cell
      simp (implicitDefEqProofs := false) only [go_sem, cA]
      refine (fcount_ok (List.length d3) (by omega) hb15 (by (try simp only [List.length_append]); omega)).mono ?_
      have hFpre := hF15
      rintro v K16 ⟨a16, c16, g16, rfl, ho16, hg16, hf16⟩
      have hb16 := ho16.bsR
      have hF16 := hF15.trans hf16
      replace u3 := Rep.ext u3 hf16
      replace u5 := Rep.ext u5 hf16
      replace hA2 := hA2.ext hf16
      replace cA := hA2.cell
      simp (implicitDefEqProofs := false) only [go_sem, cA]
      obtain ⟨M, hM⟩ : ∃ M, M = ((((L ++ encT .num d0) ++ encT .num d1) ++ encT .num d2) ++ enc (List.length d3)) := ⟨_, rfl⟩
      have hMl : M.length = L.length + (encT .num d0).length + (encT .num d1).length + (encT .num d2).length + (enc (List.length d3)).length := by rw [hM]; simp only [List.length_append]
      have ho9 := ho16
      rw [← hM] at ho9
      have hMsz : M.length + ((List.flatMap (encT tWrite) d3).length) < 2^38 := by omega
      refine vc_loop (fun (x : Nat × Option Addr × Nat × Option Nat) H'' => x.1 ≤ List.length d3 ∧ Own H'' 5 1 (.slice x.2.1 (M ++ (d3.take x.1).flatMap (encT tWrite)).length x.2.2.1) (M ++ (d3.take x.1).flatMap (encT tWrite)).length ((M ++ (d3.take x.1).flatMap (encT tWrite)).map bv) x.2.2.2 ∧ (∀ k, x.2.2.2 = some k → H.size ≤ k) ∧ Fr [] K16 H'')
        (fun x => [(0, .slice x.2.1 (M ++ (d3.take x.1).flatMap (encT tWrite)).length x.2.2.1), (1, .slice (some ⟨bb, oo, none⟩) ls.length cl), (5, .int .i64 i), (6, .pointer (some ⟨H'.size, 0, none⟩)), (7, .int .i64 x.1)]) (fun x => List.length d3 - x.1) (0, a16, c16, g16) ?_ ?_ ?_
      · refine ⟨Nat.zero_le _, ?_, fun k hk => Nat.le_trans (hFpre.size) (Nat.le_trans (by have := hf16.size; omega) (hg16 k hk)), Fr.refl _ _⟩
        simpa using ho9
      · simp (implicitDefEqProofs := false) only [go_sem]
        simp [hM]
      · rintro ⟨k, ak, ck, gk⟩ H'' ⟨hk, hok2, hgk, hfk⟩
        simp only at hk hok2 hgk hfk
        have hA3 := hA2.ext hfk
        have cA3 := hA3.cell
        have hFk := hF16.trans hfk
        replace u3 := Rep.ext u3 hfk
        replace u5 := Rep.ext u5 hfk
        rcases Nat.lt_or_ge k (List.length d3) with hlt2 | hge2
        · have hk1 : (k : Int) < (List.length d3 : Int) := by omega
          have hk0 : (0 : Int) ≤ (k : Int) := by omega
          obtain ⟨b2, o2x, c2, x2, e2, _, hxl2, hp2, hx2⟩ := rep_at u3 k hlt2
          cases e2
          have hok3 := o3.2 _ (List.getElem_mem hlt2)
          have hw2 := succ_i64 k (List.length d3) hlt2 (by omega)
          have hbk := hok2.bsR
          have hsp2 := flat_split (encT tWrite) d3 k hlt2
          have hss2 := flat_succ (encT tWrite) d3 k hlt2
          have hsz2 := hMsz
          rw [hsp2] at hsz2
          simp only [List.length_append] at hsz2
          obtain ⟨L2, hL2⟩ : ∃ L2, L2 = M ++ (d3.take k).flatMap (encT tWrite) := ⟨_, rfl⟩
          have hL2l : L2.length = M.length + ((d3.take k).flatMap (encT tWrite)).length := by rw [hL2]; simp
          rw [← hL2] at hok2 hbk
          simp only [← hL2]
          generalize d3[k] = dd at hx2 hok3 hsp2 hss2 hsz2
          obtain ⟨y0, y1, rfl⟩ := len2 hxl2
          have r0 := hp2 0 (by decide)
          have r1 := hp2 1 (by decide)
          simp only [wid, Nat.add_zero, Nat.reduceAdd, Nat.mul_one, List.getElem?_cons_zero, List.getElem?_cons_succ] at r0 r1
          obtain ⟨b0, b1⟩ := dd
          obtain ⟨_, _⟩ := hok3
          obtain ⟨zz, zr, ezz, w0, w1⟩ := rep_pair.1 hx2
          have e3 := rep_text w0
          obtain ⟨bx, bcx, e4, _, _, _⟩ := rep_bytes.1 w1
          subst e3 e4
          simp only [List.cons_append, List.nil_append, List.cons.injEq, and_true] at ezz
          obtain ⟨rfl, rfl⟩ := ezz
          have hE4 : encT tWrite (b0, b1) = encT .text b0 ++ encT .bytes b1 := rfl
          rw [hE4] at hsz2
          simp only [List.length_append] at hsz2
          have hy0 : (encT .text b0).length = (enc (List.length b0)).length + List.length b0 := List.length_append
          have hy1 : (encT .bytes b1).length = (enc (List.length b1)).length + List.length b1 := List.length_append
          simp (implicitDefEqProofs := false) only [go_sem, hk1, hk0, cA3, r0, r1]
          refine (ftextT b0 hbk (by (try simp only [List.length_append]); omega)).mono ?_
          rintro v K17 ⟨a17, c17, g17, rfl, ho17, hg17, hf17⟩
          have hb17 := ho17.bsR
          have hF17 := hFk.trans hf17
          replace r0 := cellB_fr r0 hf17 (by simp)
          replace r1 := cellB_fr r1 hf17 (by simp)
          replace w1 := Rep.ext w1 hf17
          replace hA3 := hA3.ext hf17
          replace cA3 := hA3.cell
          simp (implicitDefEqProofs := false) only [go_sem, r0, r1, cA3]
          refine (fbytesT b1 hb17 (csR_bsR.1 (rep_bytes_cs w1)) (by (try simp only [List.length_append]); omega)).mono ?_
          rintro v K18 ⟨a18, c18, g18, rfl, ho18, hg18, hf18⟩
          have hb18 := ho18.bsR
          have hF18 := hF17.trans hf18
          replace r0 := cellB_fr r0 hf18 (by simp)
          replace r1 := cellB_fr r1 hf18 (by simp)
          replace w1 := Rep.ext w1 hf18
          replace hA3 := hA3.ext hf18
          replace cA3 := hA3.cell
          simp (implicitDefEqProofs := false) only [go_sem, r0, r1, cA3]
          refine loopK_intro (k + 1, a18, c18, g18) (by show List.length d3 - (k + 1) < List.length d3 - k; omega) ?_ ?_
          · have hv : M ++ (d3.take (k + 1)).flatMap (encT tWrite) = ((L2 ++ encT .text b0) ++ encT .bytes b1) := by rw [hss2, hL2, hE4]; simp
            simp only [hv]
            simp (implicitDefEqProofs := false) only [go_sem, hw2]
            all_goals rfl
          · have hv : M ++ (d3.take (k + 1)).flatMap (encT tWrite) = ((L2 ++ encT .text b0) ++ encT .bytes b1) := by rw [hss2, hL2, hE4]; simp
            refine ⟨hlt2, ?_, fun x hx => Nat.le_trans (hF17.size) (hg18 x hx), hfk.trans (hf17.trans hf18)⟩
            simp only [hv]; exact ho18
        · have hge3 : ¬ (k : Int) < (List.length d3 : Int) := by omega
          rw [List.take_of_length_le hge2] at hok2
          simp only [List.take_of_length_le hge2]
          have hbz := hok2.bsR
          simp (implicitDefEqProofs := false) only [go_sem, hge3, cA3]
          refine (finteger_ok d4 o4 hbz (by simp only [List.length_append]; omega)).mono ?_
          rintro v K19 ⟨a19, c19, g19, rfl, ho19, hg19, hf19⟩
          have hb19 := ho19.bsR
          have hF19 := hFk.trans hf19
          replace u5 := Rep.ext u5 hf19
          replace hA3 := hA3.ext hf19
          replace cA3 := hA3.cell
          simp (implicitDefEqProofs := false) only [go_sem, cA3]
          refine (fbytesT d5 hb19 (csR_bsR.1 (rep_bytes_cs u5)) (by (try simp only [List.length_append]); omega)).mono ?_
          rintro v K20 ⟨a20, c20, g20, rfl, ho20, hg20, hf20⟩
          have hb20 := ho20.bsR
          have hF20 := hF19.trans hf20
          replace u5 := Rep.ext u5 hf20
          replace hA3 := hA3.ext hf20
          replace cA3 := hA3.cell
          simp (implicitDefEqProofs := false) only [go_sem, cA3]
          refine loopK_intro (i + 1, a20, c20, g20) (by show ls.length - (i + 1) < ls.length - i; omega) ?_ ?_
          · have hv : l ++ (enc ls.length ++ (ls.take (i + 1)).flatMap (encT tCmd)) = (((M ++ d3.flatMap (encT tWrite)) ++ encT .num d4) ++ encT .bytes d5) := by rw [hss, hE2, hE3, hM, hL]; simp
            simp only [hv]
            simp (implicitDefEqProofs := false) only [go_sem, hw1]
            all_goals rfl
          · have hv : l ++ (enc ls.length ++ (ls.take (i + 1)).flatMap (encT tCmd)) = (((M ++ d3.flatMap (encT tWrite)) ++ encT .num d4) ++ encT .bytes d5) := by rw [hss, hE2, hE3, hM, hL]; simp
            refine ⟨hlt, ?_, (fun k hk => Nat.le_trans (hF19.size) (hg20 k hk)), hF20⟩
            simp only [hv]; exact ho20
    · have hge' : ¬ (i : Int) < (ls.length : Int) := by omega
      simp (implicitDefEqProofs := false) only [go_sem, hge']
      rw [List.take_of_length_le hge] at ho ⊢
      exact ⟨ai, ci, gi, rfl, ho, hg, hfr⟩
set_option maxHeartbeats 4000000 in
theorem fitems_ok (ls : List (den tItem)) (hok : okT (.list tItem) ls) {H : Heap} {a : Option Addr} {c : Nat} {l : Bs} {al : Option Addr} {cl : Nat} (h : BsR H a l) (ha : Rep H [] (datT (.list tItem) ls) [.slice al ls.length cl]) (hsz : l.length + (encT (.list tItem) ls).length < 2^38) :
    HCalls Tryz.prog 73 #[.slice a l.length c, .slice al ls.length cl] H (Out H (l ++ encT (.list tItem) ls)) := by
  have hlen : ls.length < 2^63 := hok.1
  have hE : encT (.list tItem) ls = enc ls.length ++ ls.flatMap (encT tItem) := rfl
  rw [hE] at hsz ⊢
  have hfl := flat_len (encT_pos tItem) ls
  simp only [List.length_append] at hsz
  refine calls_of_vc (args := [_, _]) Tryz.func73 c73ok (Nat.le_of_ble_eq_true rfl) ?_
  simp (implicitDefEqProofs := false) only [go_sem, c73]
  refine (fcount_ok ls.length (by omega) h (by omega)).mono ?_
  rintro v H0 ⟨a0, c0, g0, rfl, ho0, hg0, hf0⟩
  simp (implicitDefEqProofs := false) only [go_sem]
  refine vc_loop (fun (x : Nat × Option Addr × Nat × Option Nat) H' => x.1 ≤ ls.length ∧ Own H' 5 1 (.slice x.2.1 (l ++ (enc ls.length ++ (ls.take x.1).flatMap (encT tItem))).length x.2.2.1) (l ++ (enc ls.length ++ (ls.take x.1).flatMap (encT tItem))).length ((l ++ (enc ls.length ++ (ls.take x.1).flatMap (encT tItem))).map bv) x.2.2.2 ∧ (∀ k, x.2.2.2 = some k → H.size ≤ k) ∧ Fr [] H H')
    (fun x => [(0, .slice x.2.1 (l ++ (enc ls.length ++ (ls.take x.1).flatMap (encT tItem))).length x.2.2.1), (1, .slice al ls.length cl), (5, .int .i64 x.1)]) (fun x => ls.length - x.1) (0, a0, c0, g0) ?_ ?_ ?_
  · refine ⟨Nat.zero_le _, ?_, hg0, hf0⟩
    simpa using ho0
  · simp (implicitDefEqProofs := false) only [go_sem]
    simp
  · rintro ⟨i, ai, ci, gi⟩ H' ⟨hi, ho, hg, hfr⟩
    simp only at hi ho hg hfr
    rcases Nat.lt_or_ge i ls.length with hlt | hge
    · have hlt' : (i : Int) < (ls.length : Int) := by omega
      have h0 : (0 : Int) ≤ (i : Int) := by omega
      obtain ⟨bb, oo, cc, x, e1, _, hxl, hp4, hx⟩ := rep_at (Rep.ext ha hfr) i hlt
      cases e1
      have hokx := hok.2 _ (List.getElem_mem hlt)
      have hw1 := succ_i64 i ls.length hlt (by omega)
      have hbi := ho.bsR
      have hsp := flat_split (encT tItem) ls i hlt
      have hss := flat_succ (encT tItem) ls i hlt
      rw [hsp] at hsz
      simp only [List.length_append] at hsz
      obtain ⟨L, hL⟩ : ∃ L, L = l ++ (enc ls.length ++ (ls.take i).flatMap (encT tItem)) := ⟨_, rfl⟩
      have hLl : L.length = l.length + ((enc ls.length).length + ((ls.take i).flatMap (encT tItem)).length) := by rw [hL]; simp
      rw [← hL] at ho hbi
      simp only [← hL]
      generalize ls[i] = d at hx hokx hsp hss hsz
      obtain ⟨x0, x1, x2, x3, rfl⟩ := len4 hxl
      have p0 := hp4 0 (by decide)
      have p1 := hp4 1 (by decide)
      have p2 := hp4 2 (by decide)
      have p3 := hp4 3 (by decide)
      simp only [wid, Nat.add_zero, Nat.reduceAdd, Nat.mul_one, List.getElem?_cons_zero, List.getElem?_cons_succ] at p0 p1 p2 p3
      obtain ⟨d0, d1, d2, d3⟩ := d
      obtain ⟨o0, o1, o2, o3⟩ := hokx
      obtain ⟨zu0, zru0, ezu0, u0, hru0⟩ := rep_pair.1 hx
      obtain ⟨zu1, zru1, ezu1, u1, hru1⟩ := rep_pair.1 hru0
      obtain ⟨zu2, zru2, ezu2, u2, hru2⟩ := rep_pair.1 hru1
      have u3 := hru2
      have wu0 := rep_text u0
      have wu1 := rep_bool u1
      obtain ⟨ba2, bc2, wu2, _, _, _⟩ := rep_bytes.1 u2
      obtain ⟨ba3, bc3, wu3, hl3, hm3⟩ := rep_list u3
      subst wu0 wu1 wu2 wu3
      simp only [ezu1, ezu2, List.cons_append, List.nil_append, List.cons.injEq, and_true] at ezu0
      obtain ⟨rfl, rfl, rfl, rfl⟩ := ezu0
      have hE2 : encT tItem (d0, d1, d2, d3) = encT .text d0 ++ (encT .bool d1 ++ (encT .bytes d2 ++ (encT (.list .bytes) d3))) := rfl
      have hE3 : encT (.list .bytes) d3 = enc (List.length d3) ++ List.flatMap (encT .bytes) d3 := rfl
      rw [hE2, hE3] at hsz
      simp only [List.length_append] at hsz
      have hll : List.length d3 < 2^63 := o3.1
      have hzb0 : (encT .text d0).length = (enc (List.length d0)).length + List.length d0 := List.length_append
      have hzb2 : (encT .bytes d2).length = (enc (List.length d2)).length + List.length d2 := List.length_append
      simp (implicitDefEqProofs := false) only [go_sem, hlt', h0, p0, p1, p2, p3]
      refine NewP_intro fun A hA hfA hsA => ?_
      simp (implicitDefEqProofs := false) only [go_sem]
      refine Sto_all hA rfl (by simp [Value.oneCell']) fun A2 hA2 hfA2 hsA2 => ?_
      have hfn := new_fr hfA hfA2
      have cA := hA2.cell
      have hbA := hbi.ext hfn
      have hFA := hfr.trans hfn
      replace u2 := Rep.ext u2 hfn
      replace u3 := Rep.ext u3 hfn
      simp (implicitDefEqProofs := false) only [go_sem, cA]
      refine (ftextT d0 hbA (by (try simp only [List.length_append]); omega)).mono ?_
      rintro v K21 ⟨a21, c21, g21, rfl, ho21, hg21, hf21⟩
      have hb21 := ho21.bsR
      have hF21 := hFA.trans hf21
      replace u2 := Rep.ext u2 hf21
      replace u3 := Rep.ext u3 hf21
      replace hA2 := hA2.ext hf21
      replace cA := hA2.cell
      simp (implicitDefEqProofs := false) only [go_sem, cA]
      refine (fboolT d1 hb21 (by (try simp only [List.length_append]); omega)).mono ?_
      rintro v K22 ⟨a22, c22, g22, rfl, ho22, hg22, hf22⟩
      have hb22 := ho22.bsR
      have hF22 := hF21.trans hf22
      replace u2 := Rep.ext u2 hf22
      replace u3 := Rep.ext u3 hf22
      replace hA2 := hA2.ext hf22
      replace cA := hA2.cell
      simp (implicitDefEqProofs := false) only [go_sem, cA]
      refine (fbytesT d2 hb22 (csR_bsR.1 (rep_bytes_cs u2)) (by (try simp only [List.length_append]); omega)).mono ?_
      rintro v K23 ⟨a23, c23, g23, rfl, ho23, hg23, hf23⟩
      have hb23 := ho23.bsR
      have hF23 := hF22.trans hf23
      replace u2 := Rep.ext u2 hf23
      replace u3 := Rep.ext u3 hf23
      replace hA2 := hA2.ext hf23
      replace cA := hA2.cell
      simp (implicitDefEqProofs := false) only [go_sem, cA]
      refine (fcount_ok (List.length d3) (by omega) hb23 (by (try simp only [List.length_append]); omega)).mono ?_
      have hFpre := hF23
      rintro v K24 ⟨a24, c24, g24, rfl, ho24, hg24, hf24⟩
      have hb24 := ho24.bsR
      have hF24 := hF23.trans hf24
      replace u2 := Rep.ext u2 hf24
      replace u3 := Rep.ext u3 hf24
      replace hA2 := hA2.ext hf24
      replace cA := hA2.cell
      simp (implicitDefEqProofs := false) only [go_sem, cA]
      obtain ⟨M, hM⟩ : ∃ M, M = ((((L ++ encT .text d0) ++ encT .bool d1) ++ encT .bytes d2) ++ enc (List.length d3)) := ⟨_, rfl⟩
      have hMl : M.length = L.length + (encT .text d0).length + (encT .bool d1).length + (encT .bytes d2).length + (enc (List.length d3)).length := by rw [hM]; simp only [List.length_append]
      have ho9 := ho24
      rw [← hM] at ho9
      have hMsz : M.length + ((List.flatMap (encT .bytes) d3).length) < 2^38 := by omega
      refine vc_loop (fun (x : Nat × Option Addr × Nat × Option Nat) H'' => x.1 ≤ List.length d3 ∧ Own H'' 5 1 (.slice x.2.1 (M ++ (d3.take x.1).flatMap (encT .bytes)).length x.2.2.1) (M ++ (d3.take x.1).flatMap (encT .bytes)).length ((M ++ (d3.take x.1).flatMap (encT .bytes)).map bv) x.2.2.2 ∧ (∀ k, x.2.2.2 = some k → H.size ≤ k) ∧ Fr [] K24 H'')
        (fun x => [(0, .slice x.2.1 (M ++ (d3.take x.1).flatMap (encT .bytes)).length x.2.2.1), (1, .slice (some ⟨bb, oo, none⟩) ls.length cl), (5, .int .i64 i), (6, .pointer (some ⟨H'.size, 0, none⟩)), (7, .int .i64 x.1)]) (fun x => List.length d3 - x.1) (0, a24, c24, g24) ?_ ?_ ?_
      · refine ⟨Nat.zero_le _, ?_, fun k hk => Nat.le_trans (hFpre.size) (Nat.le_trans (by have := hf24.size; omega) (hg24 k hk)), Fr.refl _ _⟩
        simpa using ho9
      · simp (implicitDefEqProofs := false) only [go_sem]
        simp [hM]
      · rintro ⟨k, ak, ck, gk⟩ H'' ⟨hk, hok2, hgk, hfk⟩
        simp only at hk hok2 hgk hfk
        have hA3 := hA2.ext hfk
        have cA3 := hA3.cell
        have hFk := hF24.trans hfk
        replace u2 := Rep.ext u2 hfk
        replace u3 := Rep.ext u3 hfk
        rcases Nat.lt_or_ge k (List.length d3) with hlt2 | hge2
        · have hk1 : (k : Int) < (List.length d3 : Int) := by omega
          have hk0 : (0 : Int) ≤ (k : Int) := by omega
          obtain ⟨b2, o2x, c2, x2, e2, _, hxl2, hp2, hx2⟩ := rep_at u3 k hlt2
          cases e2
          have hok3 := o3.2 _ (List.getElem_mem hlt2)
          have hw2 := succ_i64 k (List.length d3) hlt2 (by omega)
          have hbk := hok2.bsR
          have hsp2 := flat_split (encT .bytes) d3 k hlt2
          have hss2 := flat_succ (encT .bytes) d3 k hlt2
          have hsz2 := hMsz
          rw [hsp2] at hsz2
          simp only [List.length_append] at hsz2
          obtain ⟨L2, hL2⟩ : ∃ L2, L2 = M ++ (d3.take k).flatMap (encT .bytes) := ⟨_, rfl⟩
          have hL2l : L2.length = M.length + ((d3.take k).flatMap (encT .bytes)).length := by rw [hL2]; simp
          rw [← hL2] at hok2 hbk
          simp only [← hL2]
          generalize d3[k] = dd at hx2 hok3 hsp2 hss2 hsz2
          obtain ⟨y0, rfl⟩ := len1 hxl2
          have r0 := hp2 0 (by decide)
          simp only [wid, Nat.add_zero, Nat.reduceAdd, Nat.mul_one, List.getElem?_cons_zero, List.getElem?_cons_succ] at r0
          obtain ⟨bx, bcx, e4, _, _, _⟩ := rep_bytes.1 hx2
          simp only [List.cons.injEq, and_true] at e4
          subst e4
          have hy1 : (encT .bytes dd).length = (enc (List.length dd)).length + List.length dd := List.length_append
          simp (implicitDefEqProofs := false) only [go_sem, hk1, hk0, cA3, r0]
          refine (fbytesT dd hbk (csR_bsR.1 (rep_bytes_cs hx2)) (by (try simp only [List.length_append]); omega)).mono ?_
          rintro v K25 ⟨a25, c25, g25, rfl, ho25, hg25, hf25⟩
          have hb25 := ho25.bsR
          have hF25 := hFk.trans hf25
          replace r0 := cellB_fr r0 hf25 (by simp)
          replace hA3 := hA3.ext hf25
          replace cA3 := hA3.cell
          simp (implicitDefEqProofs := false) only [go_sem, r0, cA3]
          refine loopK_intro (k + 1, a25, c25, g25) (by show List.length d3 - (k + 1) < List.length d3 - k; omega) ?_ ?_
          · have hv : M ++ (d3.take (k + 1)).flatMap (encT .bytes) = (L2 ++ encT .bytes dd) := by rw [hss2, hL2]; simp
            simp only [hv]
            simp (implicitDefEqProofs := false) only [go_sem, hw2]
            all_goals rfl
          · have hv : M ++ (d3.take (k + 1)).flatMap (encT .bytes) = (L2 ++ encT .bytes dd) := by rw [hss2, hL2]; simp
            refine ⟨hlt2, ?_, fun x hx => Nat.le_trans (hFk.size) (hg25 x hx), hfk.trans hf25⟩
            simp only [hv]; exact ho25
        · have hge3 : ¬ (k : Int) < (List.length d3 : Int) := by omega
          rw [List.take_of_length_le hge2] at hok2
          simp only [List.take_of_length_le hge2]
          have hbz := hok2.bsR
          simp (implicitDefEqProofs := false) only [go_sem, hge3, cA3]
          refine loopK_intro (i + 1, ak, ck, gk) (by show ls.length - (i + 1) < ls.length - i; omega) ?_ ?_
          · have hv : l ++ (enc ls.length ++ (ls.take (i + 1)).flatMap (encT tItem)) = (M ++ d3.flatMap (encT .bytes)) := by rw [hss, hE2, hE3, hM, hL]; simp
            simp only [hv]
            simp (implicitDefEqProofs := false) only [go_sem, hw1]
            all_goals rfl
          · have hv : l ++ (enc ls.length ++ (ls.take (i + 1)).flatMap (encT tItem)) = (M ++ d3.flatMap (encT .bytes)) := by rw [hss, hE2, hE3, hM, hL]; simp
            refine ⟨hlt, ?_, hgk, hFk⟩
            simp only [hv]; exact hok2
    · have hge' : ¬ (i : Int) < (ls.length : Int) := by omega
      simp (implicitDefEqProofs := false) only [go_sem, hge']
      rw [List.take_of_length_le hge] at ho ⊢
      exact ⟨ai, ci, gi, rfl, ho, hg, hfr⟩
set_option maxHeartbeats 4000000 in
theorem fcertificate_ok (d : den tCert) (hok : okT tCert d) {H : Heap} {a : Option Addr} {c : Nat} {l : Bs} {cs : List Value} (h : BsR H a l) (ha : Rep H [] (datT tCert d) cs) (hsz : l.length + (encT tCert d).length < 2^38) : HCalls Tryz.prog 120 #[.slice a l.length c, .agg cs.toArray] H (Out H (l ++ encT tCert d)) := by
  obtain ⟨d0, d1, d2, d3, d4, d5, d6⟩ := d
  obtain ⟨o0, o1, o2, o3, o4, o5, o6⟩ := hok
  obtain ⟨c0, r0, rfl, u0, ha⟩ := rep_pair.1 ha
  obtain ⟨c1, r1, rfl, u1, ha⟩ := rep_pair.1 ha
  obtain ⟨c2, r2, rfl, u2, ha⟩ := rep_pair.1 ha
  obtain ⟨c3, r3, rfl, u3, ha⟩ := rep_pair.1 ha
  obtain ⟨c4, r4, rfl, u4, ha⟩ := rep_pair.1 ha
  obtain ⟨c5, r5, rfl, u5, ha⟩ := rep_pair.1 ha
  have u6 := ha
  obtain ⟨y0, y1, y2, rfl⟩ := len3 (rep_wid u0)
  obtain ⟨ba1, bc1, rfl, hl1, hm1⟩ := rep_list u1
  obtain ⟨ba2, bc2, rfl, hl2, hm2⟩ := rep_list u2
  obtain ⟨ba3, bc3, rfl, hl3, hm3⟩ := rep_list u3
  obtain ⟨ba6, bc6, rfl, hl6, hm6⟩ := rep_list u6
  have := rep_num u4; subst this
  obtain ⟨ba5, bc5, rfl, _, _, _⟩ := rep_bytes.1 u5
  have hE : encT tCert (d0, d1, d2, d3, d4, d5, d6) = encT tRound d0 ++ (encT (.list tRead) d1 ++ (encT (.list tCmd) d2 ++ (encT (.list tCmd) d3 ++ (encT .num d4 ++ (encT .bytes d5 ++ (encT (.list tAck) d6)))))) := rfl
  rw [hE] at hsz ⊢
  simp only [List.length_append] at hsz
  have hz5 : (encT .bytes d5).length = (enc (List.length d5)).length + List.length d5 := List.length_append
  refine calls_of_vc (args := [_, _]) Tryz.func120 c120ok (Nat.le_of_ble_eq_true rfl) ?_
  simp (implicitDefEqProofs := false) only [go_sem, c120]
  refine NewP_intro fun H1 hB hf1 hs1 => ?_
  have cB := hB.cell
  simp (implicitDefEqProofs := false) only [go_sem, cB]
  refine NewP_intro fun H2 hC hf2 hs2 => ?_
  simp (implicitDefEqProofs := false) only [go_sem]
  refine Sto_all hC rfl ?_ fun H3 hC3 hf3 hs3 => ?_
  · intro v hv
    simp only [List.mem_cons, List.not_mem_nil, or_false] at hv
    rcases hv with rfl | rfl | rfl | rfl | rfl | rfl | rfl | rfl
    all_goals first | rfl | exact rep_one u0 _ (by simp)
  have hf0 := hf1.trans (new_fr hf2 hf3)
  have hB3 := (hB.ext hf2).fr hf3 (by simp; omega)
  have cB3 := hB3.cell
  have cC := hC3.cell
  have hb0 := h.ext hf0
  replace u0 := Rep.ext u0 hf0
  replace u1 := Rep.ext u1 hf0
  replace u2 := Rep.ext u2 hf0
  replace u3 := Rep.ext u3 hf0
  replace u5 := Rep.ext u5 hf0
  replace u6 := Rep.ext u6 hf0
  simp (implicitDefEqProofs := false) only [go_sem, cB3, cC]
  refine (fround_ok d0 o0 hb0 u0 (by (try simp only [List.length_append]); omega)).mono ?_
  rintro v K26 ⟨a26, c26, g26, rfl, ho26, hg26, hf26⟩
  have hb26 := ho26.bsR
  have hF26 := hf0.trans hf26
  replace u0 := Rep.ext u0 hf26
  replace u1 := Rep.ext u1 hf26
  replace u2 := Rep.ext u2 hf26
  replace u3 := Rep.ext u3 hf26
  replace u5 := Rep.ext u5 hf26
  replace u6 := Rep.ext u6 hf26
  replace hB3 := hB3.ext hf26
  replace cB3 := hB3.cell
  replace hC3 := hC3.ext hf26
  replace cC := hC3.cell
  simp (implicitDefEqProofs := false) only [go_sem, cB3, cC]
  refine (freads_ok d1 o1 hb26 u1 (by (try simp only [List.length_append]); omega)).mono ?_
  rintro v K27 ⟨a27, c27, g27, rfl, ho27, hg27, hf27⟩
  have hb27 := ho27.bsR
  have hF27 := hF26.trans hf27
  replace u0 := Rep.ext u0 hf27
  replace u1 := Rep.ext u1 hf27
  replace u2 := Rep.ext u2 hf27
  replace u3 := Rep.ext u3 hf27
  replace u5 := Rep.ext u5 hf27
  replace u6 := Rep.ext u6 hf27
  replace hB3 := hB3.ext hf27
  replace cB3 := hB3.cell
  replace hC3 := hC3.ext hf27
  replace cC := hC3.cell
  simp (implicitDefEqProofs := false) only [go_sem, cB3, cC]
  refine (fcommands_ok d2 o2 hb27 u2 (by (try simp only [List.length_append]); omega)).mono ?_
  rintro v K28 ⟨a28, c28, g28, rfl, ho28, hg28, hf28⟩
  have hb28 := ho28.bsR
  have hF28 := hF27.trans hf28
  replace u0 := Rep.ext u0 hf28
  replace u1 := Rep.ext u1 hf28
  replace u2 := Rep.ext u2 hf28
  replace u3 := Rep.ext u3 hf28
  replace u5 := Rep.ext u5 hf28
  replace u6 := Rep.ext u6 hf28
  replace hB3 := hB3.ext hf28
  replace cB3 := hB3.cell
  replace hC3 := hC3.ext hf28
  replace cC := hC3.cell
  simp (implicitDefEqProofs := false) only [go_sem, cB3, cC]
  refine (fcommands_ok d3 o3 hb28 u3 (by (try simp only [List.length_append]); omega)).mono ?_
  rintro v K29 ⟨a29, c29, g29, rfl, ho29, hg29, hf29⟩
  have hb29 := ho29.bsR
  have hF29 := hF28.trans hf29
  replace u0 := Rep.ext u0 hf29
  replace u1 := Rep.ext u1 hf29
  replace u2 := Rep.ext u2 hf29
  replace u3 := Rep.ext u3 hf29
  replace u5 := Rep.ext u5 hf29
  replace u6 := Rep.ext u6 hf29
  replace hB3 := hB3.ext hf29
  replace cB3 := hB3.cell
  replace hC3 := hC3.ext hf29
  replace cC := hC3.cell
  simp (implicitDefEqProofs := false) only [go_sem, cB3, cC]
  refine (finteger_ok d4 o4 hb29 (by (try simp only [List.length_append]); omega)).mono ?_
  rintro v K30 ⟨a30, c30, g30, rfl, ho30, hg30, hf30⟩
  have hb30 := ho30.bsR
  have hF30 := hF29.trans hf30
  replace u0 := Rep.ext u0 hf30
  replace u1 := Rep.ext u1 hf30
  replace u2 := Rep.ext u2 hf30
  replace u3 := Rep.ext u3 hf30
  replace u5 := Rep.ext u5 hf30
  replace u6 := Rep.ext u6 hf30
  replace hB3 := hB3.ext hf30
  replace cB3 := hB3.cell
  replace hC3 := hC3.ext hf30
  replace cC := hC3.cell
  simp (implicitDefEqProofs := false) only [go_sem, cB3, cC]
  refine (fbytesT d5 hb30 (csR_bsR.1 (rep_bytes_cs u5)) (by (try simp only [List.length_append]); omega)).mono ?_
  rintro v K31 ⟨a31, c31, g31, rfl, ho31, hg31, hf31⟩
  have hb31 := ho31.bsR
  have hF31 := hF30.trans hf31
  replace u0 := Rep.ext u0 hf31
  replace u1 := Rep.ext u1 hf31
  replace u2 := Rep.ext u2 hf31
  replace u3 := Rep.ext u3 hf31
  replace u5 := Rep.ext u5 hf31
  replace u6 := Rep.ext u6 hf31
  replace hB3 := hB3.ext hf31
  replace cB3 := hB3.cell
  replace hC3 := hC3.ext hf31
  replace cC := hC3.cell
  simp (implicitDefEqProofs := false) only [go_sem, cB3, cC]
  refine (facks_ok d6 o6 hb31 u6 (by (try simp only [List.length_append]); omega)).mono ?_
  rintro v K32 ⟨a32, c32, g32, rfl, ho32, hg32, hf32⟩
  have hb32 := ho32.bsR
  have hF32 := hF31.trans hf32
  replace u0 := Rep.ext u0 hf32
  replace u1 := Rep.ext u1 hf32
  replace u2 := Rep.ext u2 hf32
  replace u3 := Rep.ext u3 hf32
  replace u5 := Rep.ext u5 hf32
  replace u6 := Rep.ext u6 hf32
  replace hB3 := hB3.ext hf32
  replace cB3 := hB3.cell
  replace hC3 := hC3.ext hf32
  replace cC := hC3.cell
  simp (implicitDefEqProofs := false) only [go_sem, cB3, cC]
  have hv : (((((((l ++ encT tRound d0) ++ encT (.list tRead) d1) ++ encT (.list tCmd) d2) ++ encT (.list tCmd) d3) ++ encT .num d4) ++ encT .bytes d5) ++ encT (.list tAck) d6) = l ++ (encT tRound d0 ++ (encT (.list tRead) d1 ++ (encT (.list tCmd) d2 ++ (encT (.list tCmd) d3 ++ (encT .num d4 ++ (encT .bytes d5 ++ (encT (.list tAck) d6))))))) := by simp
  rw [← hv]
  exact Out.trans' hF31 ⟨_, _, _, rfl, ho32, hg32, hf32⟩
set_option maxHeartbeats 4000000 in
theorem fsteps_ok (ls : List (den tCert)) (hok : okT (.list tCert) ls) {H : Heap} {a : Option Addr} {c : Nat} {l : Bs} {al : Option Addr} {cl : Nat} (h : BsR H a l) (ha : Rep H [] (datT (.list tCert) ls) [.slice al ls.length cl]) (hsz : l.length + (encT (.list tCert) ls).length < 2^38) :
    HCalls Tryz.prog 119 #[.slice a l.length c, .slice al ls.length cl] H (Out H (l ++ encT (.list tCert) ls)) := by
  have hlen : ls.length < 2^63 := hok.1
  have hE : encT (.list tCert) ls = enc ls.length ++ ls.flatMap (encT tCert) := rfl
  rw [hE] at hsz ⊢
  have hfl := flat_len (encT_pos tCert) ls
  simp only [List.length_append] at hsz
  refine calls_of_vc (args := [_, _]) Tryz.func119 c119ok (Nat.le_of_ble_eq_true rfl) ?_
  simp (implicitDefEqProofs := false) only [go_sem, c119]
  refine (fcount_ok ls.length (by omega) h (by omega)).mono ?_
  rintro v H0 ⟨a0, c0, g0, rfl, ho0, hg0, hf0⟩
  simp (implicitDefEqProofs := false) only [go_sem]
  refine vc_loop (fun (x : Nat × Option Addr × Nat × Option Nat) H' => x.1 ≤ ls.length ∧ Own H' 5 1 (.slice x.2.1 (l ++ (enc ls.length ++ (ls.take x.1).flatMap (encT tCert))).length x.2.2.1) (l ++ (enc ls.length ++ (ls.take x.1).flatMap (encT tCert))).length ((l ++ (enc ls.length ++ (ls.take x.1).flatMap (encT tCert))).map bv) x.2.2.2 ∧ (∀ k, x.2.2.2 = some k → H.size ≤ k) ∧ Fr [] H H')
    (fun x => [(0, .slice x.2.1 (l ++ (enc ls.length ++ (ls.take x.1).flatMap (encT tCert))).length x.2.2.1), (1, .slice al ls.length cl), (5, .int .i64 x.1)]) (fun x => ls.length - x.1) (0, a0, c0, g0) ?_ ?_ ?_
  · refine ⟨Nat.zero_le _, ?_, hg0, hf0⟩
    simpa using ho0
  · simp (implicitDefEqProofs := false) only [go_sem]
    simp
  · rintro ⟨i, ai, ci, gi⟩ H' ⟨hi, ho, hg, hfr⟩
    simp only at hi ho hg hfr
    rcases Nat.lt_or_ge i ls.length with hlt | hge
    · have hlt' : (i : Int) < (ls.length : Int) := by omega
      have h0 : (0 : Int) ≤ (i : Int) := by omega
      obtain ⟨bb, oo, cc, x, e1, _, hxl, hp4, hx⟩ := rep_at (Rep.ext ha hfr) i hlt
      cases e1
      have hokx := hok.2 _ (List.getElem_mem hlt)
      have hw1 := succ_i64 i ls.length hlt (by omega)
      have hbi := ho.bsR
      have hsp := flat_split (encT tCert) ls i hlt
      have hss := flat_succ (encT tCert) ls i hlt
      rw [hsp] at hsz
      simp only [List.length_append] at hsz
      obtain ⟨L, hL⟩ : ∃ L, L = l ++ (enc ls.length ++ (ls.take i).flatMap (encT tCert)) := ⟨_, rfl⟩
      have hLl : L.length = l.length + ((enc ls.length).length + ((ls.take i).flatMap (encT tCert)).length) := by rw [hL]; simp
      rw [← hL] at ho hbi
      simp only [← hL]
      generalize ls[i] = d at hx hokx hsp hss hsz
      obtain ⟨x0, x1, x2, x3, x4, x5, x6, x7, x8, rfl⟩ := len9 hxl
      have p0 := hp4 0 (by decide)
      have p1 := hp4 1 (by decide)
      have p2 := hp4 2 (by decide)
      have p3 := hp4 3 (by decide)
      have p4 := hp4 4 (by decide)
      have p5 := hp4 5 (by decide)
      have p6 := hp4 6 (by decide)
      have p7 := hp4 7 (by decide)
      have p8 := hp4 8 (by decide)
      simp only [wid, Nat.add_zero, Nat.reduceAdd, Nat.mul_one, List.getElem?_cons_zero, List.getElem?_cons_succ] at p0 p1 p2 p3 p4 p5 p6 p7 p8
      simp (implicitDefEqProofs := false) only [go_sem, hlt', h0, p0, p1, p2, p3, p4, p5, p6, p7, p8]
      refine (fcertificate_ok d hokx hbi hx (by (try simp only [List.length_append]); omega)).mono ?_
      rintro v K33 ⟨a33, c33, g33, rfl, ho33, hg33, hf33⟩
      have hb33 := ho33.bsR
      have hF33 := hfr.trans hf33
      replace p0 := cellB_fr p0 hf33 (by simp)
      replace p1 := cellB_fr p1 hf33 (by simp)
      replace p2 := cellB_fr p2 hf33 (by simp)
      replace p3 := cellB_fr p3 hf33 (by simp)
      replace p4 := cellB_fr p4 hf33 (by simp)
      replace p5 := cellB_fr p5 hf33 (by simp)
      replace p6 := cellB_fr p6 hf33 (by simp)
      replace p7 := cellB_fr p7 hf33 (by simp)
      replace p8 := cellB_fr p8 hf33 (by simp)
      replace hx := Rep.ext hx hf33
      simp (implicitDefEqProofs := false) only [go_sem, p0, p1, p2, p3, p4, p5, p6, p7, p8]
      refine loopK_intro (i + 1, a33, c33, g33) (by show ls.length - (i + 1) < ls.length - i; omega) ?_ ?_
      · have hv : l ++ (enc ls.length ++ (ls.take (i + 1)).flatMap (encT tCert)) = (L ++ encT tCert d) := by rw [hss, hL]; simp
        simp only [hv]
        simp (implicitDefEqProofs := false) only [go_sem, hw1]
        all_goals rfl
      · have hv : l ++ (enc ls.length ++ (ls.take (i + 1)).flatMap (encT tCert)) = (L ++ encT tCert d) := by rw [hss, hL]; simp
        refine ⟨hlt, ?_, (fun k hk => Nat.le_trans (hfr.size) (hg33 k hk)), hF33⟩
        simp only [hv]; exact ho33
    · have hge' : ¬ (i : Int) < (ls.length : Int) := by omega
      simp (implicitDefEqProofs := false) only [go_sem, hge']
      rw [List.take_of_length_le hge] at ho ⊢
      exact ⟨ai, ci, gi, rfl, ho, hg, hfr⟩
set_option maxHeartbeats 4000000 in
theorem fbases_ok (ls : List (den tBase)) (hok : okT (.list tBase) ls) {H : Heap} {a : Option Addr} {c : Nat} {l : Bs} {al : Option Addr} {cl : Nat} (h : BsR H a l) (ha : Rep H [] (datT (.list tBase) ls) [.slice al ls.length cl]) (hsz : l.length + (encT (.list tBase) ls).length < 2^38) :
    HCalls Tryz.prog 66 #[.slice a l.length c, .slice al ls.length cl] H (Out H (l ++ encT (.list tBase) ls)) := by
  have hlen : ls.length < 2^63 := hok.1
  have hE : encT (.list tBase) ls = enc ls.length ++ ls.flatMap (encT tBase) := rfl
  rw [hE] at hsz ⊢
  have hfl := flat_len (encT_pos tBase) ls
  simp only [List.length_append] at hsz
  refine calls_of_vc (args := [_, _]) Tryz.func66 c66ok (Nat.le_of_ble_eq_true rfl) ?_
  simp (implicitDefEqProofs := false) only [go_sem, c66]
  refine (fcount_ok ls.length (by omega) h (by omega)).mono ?_
  rintro v H0 ⟨a0, c0, g0, rfl, ho0, hg0, hf0⟩
  simp (implicitDefEqProofs := false) only [go_sem]
  refine vc_loop (fun (x : Nat × Option Addr × Nat × Option Nat) H' => x.1 ≤ ls.length ∧ Own H' 5 1 (.slice x.2.1 (l ++ (enc ls.length ++ (ls.take x.1).flatMap (encT tBase))).length x.2.2.1) (l ++ (enc ls.length ++ (ls.take x.1).flatMap (encT tBase))).length ((l ++ (enc ls.length ++ (ls.take x.1).flatMap (encT tBase))).map bv) x.2.2.2 ∧ (∀ k, x.2.2.2 = some k → H.size ≤ k) ∧ Fr [] H H')
    (fun x => [(0, .slice x.2.1 (l ++ (enc ls.length ++ (ls.take x.1).flatMap (encT tBase))).length x.2.2.1), (1, .slice al ls.length cl), (5, .int .i64 x.1)]) (fun x => ls.length - x.1) (0, a0, c0, g0) ?_ ?_ ?_
  · refine ⟨Nat.zero_le _, ?_, hg0, hf0⟩
    simpa using ho0
  · simp (implicitDefEqProofs := false) only [go_sem]
    simp
  · rintro ⟨i, ai, ci, gi⟩ H' ⟨hi, ho, hg, hfr⟩
    simp only at hi ho hg hfr
    rcases Nat.lt_or_ge i ls.length with hlt | hge
    · have hlt' : (i : Int) < (ls.length : Int) := by omega
      have h0 : (0 : Int) ≤ (i : Int) := by omega
      obtain ⟨bb, oo, cc, x, e1, _, hxl, hp4, hx⟩ := rep_at (Rep.ext ha hfr) i hlt
      cases e1
      have hokx := hok.2 _ (List.getElem_mem hlt)
      have hw1 := succ_i64 i ls.length hlt (by omega)
      have hbi := ho.bsR
      have hsp := flat_split (encT tBase) ls i hlt
      have hss := flat_succ (encT tBase) ls i hlt
      rw [hsp] at hsz
      simp only [List.length_append] at hsz
      obtain ⟨L, hL⟩ : ∃ L, L = l ++ (enc ls.length ++ (ls.take i).flatMap (encT tBase)) := ⟨_, rfl⟩
      have hLl : L.length = l.length + ((enc ls.length).length + ((ls.take i).flatMap (encT tBase)).length) := by rw [hL]; simp
      rw [← hL] at ho hbi
      simp only [← hL]
      generalize ls[i] = d at hx hokx hsp hss hsz
      obtain ⟨x0, x1, rfl⟩ := len2 hxl
      have p0 := hp4 0 (by decide)
      have p1 := hp4 1 (by decide)
      simp only [wid, Nat.add_zero, Nat.reduceAdd, Nat.mul_one, List.getElem?_cons_zero, List.getElem?_cons_succ] at p0 p1
      obtain ⟨d0, d1⟩ := d
      obtain ⟨o0, o1⟩ := hokx
      obtain ⟨zu0, zru0, ezu0, u0, hru0⟩ := rep_pair.1 hx
      have u1 := hru0
      obtain ⟨ba0, bc0, wu0, hl0, hm0⟩ := rep_list u0
      obtain ⟨ba1, bc1, wu1, hl1, hm1⟩ := rep_list u1
      subst wu0 wu1
      simp only [List.append_nil, List.cons_append, List.nil_append, List.cons.injEq, and_true] at ezu0
      obtain ⟨rfl, rfl⟩ := ezu0
      have hE2 : encT tBase (d0, d1) = encT (.list tCert) d0 ++ (encT (.list tCmd) d1) := rfl
      rw [hE2] at hsz
      simp only [List.length_append] at hsz
      simp (implicitDefEqProofs := false) only [go_sem, hlt', h0, p0, p1]
      refine (fsteps_ok d0 o0 hbi u0 (by (try simp only [List.length_append]); omega)).mono ?_
      rintro v K34 ⟨a34, c34, g34, rfl, ho34, hg34, hf34⟩
      have hb34 := ho34.bsR
      have hF34 := hfr.trans hf34
      replace p0 := cellB_fr p0 hf34 (by simp)
      replace p1 := cellB_fr p1 hf34 (by simp)
      replace u0 := Rep.ext u0 hf34
      replace u1 := Rep.ext u1 hf34
      simp (implicitDefEqProofs := false) only [go_sem, p0, p1]
      refine (fcommands_ok d1 o1 hb34 u1 (by (try simp only [List.length_append]); omega)).mono ?_
      rintro v K35 ⟨a35, c35, g35, rfl, ho35, hg35, hf35⟩
      have hb35 := ho35.bsR
      have hF35 := hF34.trans hf35
      replace p0 := cellB_fr p0 hf35 (by simp)
      replace p1 := cellB_fr p1 hf35 (by simp)
      replace u0 := Rep.ext u0 hf35
      replace u1 := Rep.ext u1 hf35
      simp (implicitDefEqProofs := false) only [go_sem, p0, p1]
      refine loopK_intro (i + 1, a35, c35, g35) (by show ls.length - (i + 1) < ls.length - i; omega) ?_ ?_
      · have hv : l ++ (enc ls.length ++ (ls.take (i + 1)).flatMap (encT tBase)) = ((L ++ encT (.list tCert) d0) ++ encT (.list tCmd) d1) := by rw [hss, hL, hE2]; simp
        simp only [hv]
        simp (implicitDefEqProofs := false) only [go_sem, hw1]
        all_goals rfl
      · have hv : l ++ (enc ls.length ++ (ls.take (i + 1)).flatMap (encT tBase)) = ((L ++ encT (.list tCert) d0) ++ encT (.list tCmd) d1) := by rw [hss, hL, hE2]; simp
        refine ⟨hlt, ?_, (fun k hk => Nat.le_trans (hF34.size) (hg35 k hk)), hF35⟩
        simp only [hv]; exact ho35
    · have hge' : ¬ (i : Int) < (ls.length : Int) := by omega
      simp (implicitDefEqProofs := false) only [go_sem, hge']
      rw [List.take_of_length_le hge] at ho ⊢
      exact ⟨ai, ci, gi, rfl, ho, hg, hfr⟩
set_option maxHeartbeats 4000000 in
theorem fproofs_ok (ls : List (den tProof)) (hok : okT (.list tProof) ls) {H : Heap} {a : Option Addr} {c : Nat} {l : Bs} {al : Option Addr} {cl : Nat} (h : BsR H a l) (ha : Rep H [] (datT (.list tProof) ls) [.slice al ls.length cl]) (hsz : l.length + (encT (.list tProof) ls).length < 2^38) :
    HCalls Tryz.prog 70 #[.slice a l.length c, .slice al ls.length cl] H (Out H (l ++ encT (.list tProof) ls)) := by
  have hlen : ls.length < 2^63 := hok.1
  have hE : encT (.list tProof) ls = enc ls.length ++ ls.flatMap (encT tProof) := rfl
  rw [hE] at hsz ⊢
  have hfl := flat_len (encT_pos tProof) ls
  simp only [List.length_append] at hsz
  refine calls_of_vc (args := [_, _]) Tryz.func70 c70ok (Nat.le_of_ble_eq_true rfl) ?_
  simp (implicitDefEqProofs := false) only [go_sem, c70]
  refine (fcount_ok ls.length (by omega) h (by omega)).mono ?_
  rintro v H0 ⟨a0, c0, g0, rfl, ho0, hg0, hf0⟩
  simp (implicitDefEqProofs := false) only [go_sem]
  refine vc_loop (fun (x : Nat × Option Addr × Nat × Option Nat) H' => x.1 ≤ ls.length ∧ Own H' 5 1 (.slice x.2.1 (l ++ (enc ls.length ++ (ls.take x.1).flatMap (encT tProof))).length x.2.2.1) (l ++ (enc ls.length ++ (ls.take x.1).flatMap (encT tProof))).length ((l ++ (enc ls.length ++ (ls.take x.1).flatMap (encT tProof))).map bv) x.2.2.2 ∧ (∀ k, x.2.2.2 = some k → H.size ≤ k) ∧ Fr [] H H')
    (fun x => [(0, .slice x.2.1 (l ++ (enc ls.length ++ (ls.take x.1).flatMap (encT tProof))).length x.2.2.1), (1, .slice al ls.length cl), (5, .int .i64 x.1)]) (fun x => ls.length - x.1) (0, a0, c0, g0) ?_ ?_ ?_
  · refine ⟨Nat.zero_le _, ?_, hg0, hf0⟩
    simpa using ho0
  · simp (implicitDefEqProofs := false) only [go_sem]
    simp
  · rintro ⟨i, ai, ci, gi⟩ H' ⟨hi, ho, hg, hfr⟩
    simp only at hi ho hg hfr
    rcases Nat.lt_or_ge i ls.length with hlt | hge
    · have hlt' : (i : Int) < (ls.length : Int) := by omega
      have h0 : (0 : Int) ≤ (i : Int) := by omega
      obtain ⟨bb, oo, cc, x, e1, _, hxl, hp4, hx⟩ := rep_at (Rep.ext ha hfr) i hlt
      cases e1
      have hokx := hok.2 _ (List.getElem_mem hlt)
      have hw1 := succ_i64 i ls.length hlt (by omega)
      have hbi := ho.bsR
      have hsp := flat_split (encT tProof) ls i hlt
      have hss := flat_succ (encT tProof) ls i hlt
      rw [hsp] at hsz
      simp only [List.length_append] at hsz
      obtain ⟨L, hL⟩ : ∃ L, L = l ++ (enc ls.length ++ (ls.take i).flatMap (encT tProof)) := ⟨_, rfl⟩
      have hLl : L.length = l.length + ((enc ls.length).length + ((ls.take i).flatMap (encT tProof)).length) := by rw [hL]; simp
      rw [← hL] at ho hbi
      simp only [← hL]
      generalize ls[i] = d at hx hokx hsp hss hsz
      obtain ⟨x0, x1, x2, x3, x4, x5, x6, x7, x8, x9, rfl⟩ := len10 hxl
      have p0 := hp4 0 (by decide)
      have p1 := hp4 1 (by decide)
      have p2 := hp4 2 (by decide)
      have p3 := hp4 3 (by decide)
      have p4 := hp4 4 (by decide)
      have p5 := hp4 5 (by decide)
      have p6 := hp4 6 (by decide)
      have p7 := hp4 7 (by decide)
      have p8 := hp4 8 (by decide)
      have p9 := hp4 9 (by decide)
      simp only [wid, Nat.add_zero, Nat.reduceAdd, Nat.mul_one, List.getElem?_cons_zero, List.getElem?_cons_succ] at p0 p1 p2 p3 p4 p5 p6 p7 p8 p9
      obtain ⟨d0, d1⟩ := d
      obtain ⟨o0, o1⟩ := hokx
      obtain ⟨zu0, zru0, ezu0, u0, hru0⟩ := rep_pair.1 hx
      have u1 := hru0
      obtain ⟨ba0, bc0, wu0, hl0, hm0⟩ := rep_list u0
      obtain ⟨y0, y1, y2, y3, y4, y5, y6, y7, y8, wu1⟩ := len9 (rep_wid u1)
      subst wu0 wu1
      simp only [List.append_nil, List.cons_append, List.nil_append, List.cons.injEq, and_true] at ezu0
      obtain ⟨rfl, rfl, rfl, rfl, rfl, rfl, rfl, rfl, rfl, rfl⟩ := ezu0
      have hE2 : encT tProof (d0, d1) = encT (.list tCert) d0 ++ (encT tCert d1) := rfl
      rw [hE2] at hsz
      simp only [List.length_append] at hsz
      simp (implicitDefEqProofs := false) only [go_sem, hlt', h0, p0, p1, p2, p3, p4, p5, p6, p7, p8, p9]
      refine (fsteps_ok d0 o0 hbi u0 (by (try simp only [List.length_append]); omega)).mono ?_
      rintro v K36 ⟨a36, c36, g36, rfl, ho36, hg36, hf36⟩
      have hb36 := ho36.bsR
      have hF36 := hfr.trans hf36
      replace p0 := cellB_fr p0 hf36 (by simp)
      replace p1 := cellB_fr p1 hf36 (by simp)
      replace p2 := cellB_fr p2 hf36 (by simp)
      replace p3 := cellB_fr p3 hf36 (by simp)
      replace p4 := cellB_fr p4 hf36 (by simp)
      replace p5 := cellB_fr p5 hf36 (by simp)
      replace p6 := cellB_fr p6 hf36 (by simp)
      replace p7 := cellB_fr p7 hf36 (by simp)
      replace p8 := cellB_fr p8 hf36 (by simp)
      replace p9 := cellB_fr p9 hf36 (by simp)
      replace u0 := Rep.ext u0 hf36
      replace u1 := Rep.ext u1 hf36
      simp (implicitDefEqProofs := false) only [go_sem, p0, p1, p2, p3, p4, p5, p6, p7, p8, p9]
      refine (fcertificate_ok d1 o1 hb36 u1 (by (try simp only [List.length_append]); omega)).mono ?_
      rintro v K37 ⟨a37, c37, g37, rfl, ho37, hg37, hf37⟩
      have hb37 := ho37.bsR
      have hF37 := hF36.trans hf37
      replace p0 := cellB_fr p0 hf37 (by simp)
      replace p1 := cellB_fr p1 hf37 (by simp)
      replace p2 := cellB_fr p2 hf37 (by simp)
      replace p3 := cellB_fr p3 hf37 (by simp)
      replace p4 := cellB_fr p4 hf37 (by simp)
      replace p5 := cellB_fr p5 hf37 (by simp)
      replace p6 := cellB_fr p6 hf37 (by simp)
      replace p7 := cellB_fr p7 hf37 (by simp)
      replace p8 := cellB_fr p8 hf37 (by simp)
      replace p9 := cellB_fr p9 hf37 (by simp)
      replace u0 := Rep.ext u0 hf37
      replace u1 := Rep.ext u1 hf37
      simp (implicitDefEqProofs := false) only [go_sem, p0, p1, p2, p3, p4, p5, p6, p7, p8, p9]
      refine loopK_intro (i + 1, a37, c37, g37) (by show ls.length - (i + 1) < ls.length - i; omega) ?_ ?_
      · have hv : l ++ (enc ls.length ++ (ls.take (i + 1)).flatMap (encT tProof)) = ((L ++ encT (.list tCert) d0) ++ encT tCert d1) := by rw [hss, hL, hE2]; simp
        simp only [hv]
        simp (implicitDefEqProofs := false) only [go_sem, hw1]
        all_goals rfl
      · have hv : l ++ (enc ls.length ++ (ls.take (i + 1)).flatMap (encT tProof)) = ((L ++ encT (.list tCert) d0) ++ encT tCert d1) := by rw [hss, hL, hE2]; simp
        refine ⟨hlt, ?_, (fun k hk => Nat.le_trans (hF36.size) (hg37 k hk)), hF37⟩
        simp only [hv]; exact ho37
    · have hge' : ¬ (i : Int) < (ls.length : Int) := by omega
      simp (implicitDefEqProofs := false) only [go_sem, hge']
      rw [List.take_of_length_le hge] at ho ⊢
      exact ⟨ai, ci, gi, rfl, ho, hg, hfr⟩
end Go.Proofs.YtdhlibkdcldioaaGreat
