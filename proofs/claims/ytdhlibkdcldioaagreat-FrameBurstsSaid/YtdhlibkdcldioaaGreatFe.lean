/- Elements written. -/
import Derived.Test.YtdhlibkdcldioaaGreatFl
set_option linter.unusedSimpArgs false
set_option linter.unusedVariables false
set_option maxRecDepth 8000
namespace Go.Proofs.YtdhlibkdcldioaaGreat
open Gx Go

theorem wbytes_ok : WOk 124 .bytes := by
  refine ⟨by kernel_rfl, ?_⟩
  intro d hok H b l g cs hwr ha hsz
  obtain ⟨a, c, rfl, hl, hm, hb⟩ := rep_bytes.1 ha
  simp only [encT, List.length_append] at hsz
  refine bytes_ok d hwr (by omega) (csR_bsR.1 hb.csR) ?_
  intro hd k o he
  rcases hb with hb | ⟨b', o', h1, h2, _⟩
  · exact absurd (by simpa using hb) hd
  · rw [he] at h1
    simp only [Option.some.injEq, Addr.mk.injEq] at h1
    obtain ⟨rfl, _, _⟩ := h1
    simp only [List.mem_cons, Option.mem_toList, not_or] at h2
    exact h2
theorem wbool_ok (x : den .bool) {H : Heap} {b : Nat} {l : List UInt8} {g : Option Nat} (h : Wr H b l g) (hl : l.length < 2^40) :
    HCalls Tryz.prog 129 #[.pointer (some ⟨b, 0, none⟩), .bool x] H fun r H' => r = .tuple #[] ∧ ∃ g', WrStep H b g H' (l ++ encT .bool x) g' := bool_ok x h hl
theorem wtext_ok : WOk 93 .text := by
  refine ⟨by kernel_rfl, ?_⟩
  intro d hok H b l g cs hwr ha hsz
  have := rep_text ha
  subst this
  simp only [encT, List.length_append] at hsz
  exact text_ok d hwr (by omega)

set_option maxHeartbeats 1000000 in
theorem wround_ok : WOk 79 tRound := by
  refine ⟨by kernel_rfl, ?_⟩
  rintro ⟨d0, d1, d2⟩ ⟨o0, o1, o2⟩ H b l g cs hwr ha hsz
  obtain ⟨c0, r0, rfl, h0, ha⟩ := rep_pair.1 ha
  obtain ⟨c1, r1, rfl, h1, ha⟩ := rep_pair.1 ha
  have h2 := ha
  have := rep_num h0; subst this
  have := rep_num h1; subst this
  have := rep_num h2; subst this
  have hE : encT tRound (d0, d1, d2) = encT .num d0 ++ (encT .num d1 ++ (encT .num d2)) := rfl
  have hz := hsz; rw [hE] at hz; simp only [List.length_append] at hz
  refine calls_of_vc (args := [_, _]) Tryz.func79 c79ok (Nat.le_of_ble_eq_true rfl) ?_
  simp (implicitDefEqProofs := false) only [go_sem, c79]
  refine NewP_intro fun H1 hn1 hf1 hs1 => ?_
  obtain ⟨hxb, hxg⟩ := hwr.ne
  have ws0 := WrStep.refl (hwr.fr hf1 (by simp) (by simp))
  have hc0 := hn1.cell
  simp (implicitDefEqProofs := false) only [go_sem, hc0]
  refine (wnum_ok d0 o0 ws0.1 (by (try simp only [List.length_append]); omega)).mono ?_
  rintro r K0 ⟨rfl, g0, v0⟩
  have ws1 := ws0.trans v0
  have hc1 := (Blk.wr hn1 ws1 hxb hxg).cell
  simp (implicitDefEqProofs := false) only [go_sem, hc1]
  refine (wnum_ok d1 o1 ws1.1 (by (try simp only [List.length_append]); omega)).mono ?_
  rintro r K1 ⟨rfl, g1, v1⟩
  have ws2 := ws1.trans v1
  have hc2 := (Blk.wr hn1 ws2 hxb hxg).cell
  simp (implicitDefEqProofs := false) only [go_sem, hc2]
  refine (wnum_ok d2 o2 ws2.1 (by (try simp only [List.length_append]); omega)).mono ?_
  rintro r K2 ⟨rfl, g2, v2⟩
  have ws3 := ws2.trans v2
  have hc3 := (Blk.wr hn1 ws3 hxb hxg).cell
  simp (implicitDefEqProofs := false) only [go_sem]
  have hv : l ++ encT .num d0 ++ encT .num d1 ++ encT .num d2 = l ++ encT tRound (d0, d1, d2) := by rw [hE]; simp [encT]
  rw [← hv]
  exact ⟨_, WrStep.pre hf1 ws3⟩
set_option maxHeartbeats 1000000 in
theorem wread_ok : WOk 81 tRead := by
  refine ⟨by kernel_rfl, ?_⟩
  rintro ⟨d0, d1, d2⟩ ⟨o0, o1, o2⟩ H b l g cs hwr ha hsz
  obtain ⟨c0, r0, rfl, h0, ha⟩ := rep_pair.1 ha
  obtain ⟨c1, r1, rfl, h1, ha⟩ := rep_pair.1 ha
  have h2 := ha
  have := rep_num h0; subst this
  have := rep_num h1; subst this
  obtain ⟨a2, q2, rfl, hl2, hm2, hb2⟩ := rep_bytes.1 h2
  have hE : encT tRead (d0, d1, d2) = encT .num d0 ++ (encT .num d1 ++ (encT .bytes d2)) := rfl
  have hz := hsz; rw [hE] at hz; simp only [List.length_append] at hz
  refine calls_of_vc (args := [_, _]) Tryz.func81 c81ok (Nat.le_of_ble_eq_true rfl) ?_
  simp (implicitDefEqProofs := false) only [go_sem, c81]
  refine NewP_intro fun H1 hn1 hf1 hs1 => ?_
  obtain ⟨hxb, hxg⟩ := hwr.ne
  have ws0 := WrStep.refl (hwr.fr hf1 (by simp) (by simp))
  have hc0 := hn1.cell
  simp (implicitDefEqProofs := false) only [go_sem, hc0]
  refine (wnum_ok d0 o0 ws0.1 (by (try simp only [List.length_append]); omega)).mono ?_
  rintro r K0 ⟨rfl, g0, v0⟩
  have ws1 := ws0.trans v0
  have hc1 := (Blk.wr hn1 ws1 hxb hxg).cell
  simp (implicitDefEqProofs := false) only [go_sem, hc1]
  refine (wnum_ok d1 o1 ws1.1 (by (try simp only [List.length_append]); omega)).mono ?_
  rintro r K1 ⟨rfl, g1, v1⟩
  have ws2 := ws1.trans v1
  have hc2 := (Blk.wr hn1 ws2 hxb hxg).cell
  simp (implicitDefEqProofs := false) only [go_sem, hc2]
  refine (wbytes_ok.2 d2 o2 ws2.1 (Rep.wr (Rep.ext h2 hf1) ws2) (by (try simp only [List.length_append]); omega)).mono ?_
  rintro r K2 ⟨rfl, g2, v2⟩
  have ws3 := ws2.trans v2
  have hc3 := (Blk.wr hn1 ws3 hxb hxg).cell
  simp (implicitDefEqProofs := false) only [go_sem]
  have hv : l ++ encT .num d0 ++ encT .num d1 ++ encT .bytes d2 = l ++ encT tRead (d0, d1, d2) := by rw [hE]; simp [encT]
  rw [← hv]
  exact ⟨_, WrStep.pre hf1 ws3⟩
set_option maxHeartbeats 1000000 in
theorem wwrite_ok : WOk 128 tWrite := by
  refine ⟨by kernel_rfl, ?_⟩
  rintro ⟨d0, d1⟩ ⟨o0, o1⟩ H b l g cs hwr ha hsz
  obtain ⟨c0, r0, rfl, h0, ha⟩ := rep_pair.1 ha
  have h1 := ha
  have := rep_text h0; subst this
  obtain ⟨a1, q1, rfl, hl1, hm1, hb1⟩ := rep_bytes.1 h1
  have hE : encT tWrite (d0, d1) = encT .text d0 ++ (encT .bytes d1) := rfl
  have hz := hsz; rw [hE] at hz; simp only [List.length_append] at hz
  refine calls_of_vc (args := [_, _]) Tryz.func128 c128ok (Nat.le_of_ble_eq_true rfl) ?_
  simp (implicitDefEqProofs := false) only [go_sem, c128]
  refine NewP_intro fun H1 hn1 hf1 hs1 => ?_
  obtain ⟨hxb, hxg⟩ := hwr.ne
  have ws0 := WrStep.refl (hwr.fr hf1 (by simp) (by simp))
  have hc0 := hn1.cell
  simp (implicitDefEqProofs := false) only [go_sem, hc0]
  refine (wtext_ok.2 d0 o0 ws0.1 (Rep.wr (Rep.ext h0 hf1) ws0) (by (try simp only [List.length_append]); omega)).mono ?_
  rintro r K0 ⟨rfl, g0, v0⟩
  have ws1 := ws0.trans v0
  have hc1 := (Blk.wr hn1 ws1 hxb hxg).cell
  simp (implicitDefEqProofs := false) only [go_sem, hc1]
  refine (wbytes_ok.2 d1 o1 ws1.1 (Rep.wr (Rep.ext h1 hf1) ws1) (by (try simp only [List.length_append]); omega)).mono ?_
  rintro r K1 ⟨rfl, g1, v1⟩
  have ws2 := ws1.trans v1
  have hc2 := (Blk.wr hn1 ws2 hxb hxg).cell
  simp (implicitDefEqProofs := false) only [go_sem]
  have hv : l ++ encT .text d0 ++ encT .bytes d1 = l ++ encT tWrite (d0, d1) := by rw [hE]; simp [encT]
  rw [← hv]
  exact ⟨_, WrStep.pre hf1 ws2⟩
set_option maxHeartbeats 1000000 in
theorem wcommand_ok : WOk 85 tCmd := by
  refine ⟨by kernel_rfl, ?_⟩
  rintro ⟨d0, d1, d2, d3, d4, d5⟩ ⟨o0, o1, o2, o3, o4, o5⟩ H b l g cs hwr ha hsz
  obtain ⟨c0, r0, rfl, h0, ha⟩ := rep_pair.1 ha
  obtain ⟨c1, r1, rfl, h1, ha⟩ := rep_pair.1 ha
  obtain ⟨c2, r2, rfl, h2, ha⟩ := rep_pair.1 ha
  obtain ⟨c3, r3, rfl, h3, ha⟩ := rep_pair.1 ha
  obtain ⟨c4, r4, rfl, h4, ha⟩ := rep_pair.1 ha
  have h5 := ha
  have := rep_num h0; subst this
  have := rep_num h1; subst this
  have := rep_num h2; subst this
  obtain ⟨a3, q3, rfl, hl3, hm3⟩ := rep_list h3
  have := rep_num h4; subst this
  obtain ⟨a5, q5, rfl, hl5, hm5, hb5⟩ := rep_bytes.1 h5
  have hE : encT tCmd (d0, d1, d2, d3, d4, d5) = encT .num d0 ++ (encT .num d1 ++ (encT .num d2 ++ (encT (.list tWrite) d3 ++ (encT .num d4 ++ (encT .bytes d5))))) := rfl
  have hz := hsz; rw [hE] at hz; simp only [List.length_append] at hz
  refine calls_of_vc (args := [_, _]) Tryz.func85 c85ok (Nat.le_of_ble_eq_true rfl) ?_
  simp (implicitDefEqProofs := false) only [go_sem, c85]
  refine NewP_intro fun H1 hn1 hf1 hs1 => ?_
  obtain ⟨hxb, hxg⟩ := hwr.ne
  have ws0 := WrStep.refl (hwr.fr hf1 (by simp) (by simp))
  have hc0 := hn1.cell
  simp (implicitDefEqProofs := false) only [go_sem, hc0]
  refine (wnum_ok d0 o0 ws0.1 (by (try simp only [List.length_append]); omega)).mono ?_
  rintro r K0 ⟨rfl, g0, v0⟩
  have ws1 := ws0.trans v0
  have hc1 := (Blk.wr hn1 ws1 hxb hxg).cell
  simp (implicitDefEqProofs := false) only [go_sem, hc1]
  refine (wnum_ok d1 o1 ws1.1 (by (try simp only [List.length_append]); omega)).mono ?_
  rintro r K1 ⟨rfl, g1, v1⟩
  have ws2 := ws1.trans v1
  have hc2 := (Blk.wr hn1 ws2 hxb hxg).cell
  simp (implicitDefEqProofs := false) only [go_sem, hc2]
  refine (wnum_ok d2 o2 ws2.1 (by (try simp only [List.length_append]); omega)).mono ?_
  rintro r K2 ⟨rfl, g2, v2⟩
  have ws3 := ws2.trans v2
  have hc3 := (Blk.wr hn1 ws3 hxb hxg).cell
  simp (implicitDefEqProofs := false) only [go_sem, hc3]
  refine (listWrite_ok rfl (fun _ => rfl) wwrite_ok d3 o3 ws3.1 (Rep.wr (Rep.ext h3 hf1) ws3) (by (try simp only [List.length_append]); omega)).mono ?_
  rintro r K3 ⟨rfl, g3, v3⟩
  have ws4 := ws3.trans v3
  have hc4 := (Blk.wr hn1 ws4 hxb hxg).cell
  simp (implicitDefEqProofs := false) only [go_sem, hc4]
  refine (wnum_ok d4 o4 ws4.1 (by (try simp only [List.length_append]); omega)).mono ?_
  rintro r K4 ⟨rfl, g4, v4⟩
  have ws5 := ws4.trans v4
  have hc5 := (Blk.wr hn1 ws5 hxb hxg).cell
  simp (implicitDefEqProofs := false) only [go_sem, hc5]
  refine (wbytes_ok.2 d5 o5 ws5.1 (Rep.wr (Rep.ext h5 hf1) ws5) (by (try simp only [List.length_append]); omega)).mono ?_
  rintro r K5 ⟨rfl, g5, v5⟩
  have ws6 := ws5.trans v5
  have hc6 := (Blk.wr hn1 ws6 hxb hxg).cell
  simp (implicitDefEqProofs := false) only [go_sem]
  have hv : l ++ encT .num d0 ++ encT .num d1 ++ encT .num d2 ++ encT (.list tWrite) d3 ++ encT .num d4 ++ encT .bytes d5 = l ++ encT tCmd (d0, d1, d2, d3, d4, d5) := by rw [hE]; simp [encT]
  rw [← hv]
  exact ⟨_, WrStep.pre hf1 ws6⟩
set_option maxHeartbeats 1000000 in
theorem wack_ok : WOk 87 tAck := by
  refine ⟨by kernel_rfl, ?_⟩
  rintro ⟨d0, d1⟩ ⟨o0, o1⟩ H b l g cs hwr ha hsz
  obtain ⟨c0, r0, rfl, h0, ha⟩ := rep_pair.1 ha
  have h1 := ha
  have := rep_num h0; subst this
  obtain ⟨a1, q1, rfl, hl1, hm1, hb1⟩ := rep_bytes.1 h1
  have hE : encT tAck (d0, d1) = encT .num d0 ++ (encT .bytes d1) := rfl
  have hz := hsz; rw [hE] at hz; simp only [List.length_append] at hz
  refine calls_of_vc (args := [_, _]) Tryz.func87 c87ok (Nat.le_of_ble_eq_true rfl) ?_
  simp (implicitDefEqProofs := false) only [go_sem, c87]
  refine NewP_intro fun H1 hn1 hf1 hs1 => ?_
  obtain ⟨hxb, hxg⟩ := hwr.ne
  have ws0 := WrStep.refl (hwr.fr hf1 (by simp) (by simp))
  have hc0 := hn1.cell
  simp (implicitDefEqProofs := false) only [go_sem, hc0]
  refine (wnum_ok d0 o0 ws0.1 (by (try simp only [List.length_append]); omega)).mono ?_
  rintro r K0 ⟨rfl, g0, v0⟩
  have ws1 := ws0.trans v0
  have hc1 := (Blk.wr hn1 ws1 hxb hxg).cell
  simp (implicitDefEqProofs := false) only [go_sem, hc1]
  refine (wbytes_ok.2 d1 o1 ws1.1 (Rep.wr (Rep.ext h1 hf1) ws1) (by (try simp only [List.length_append]); omega)).mono ?_
  rintro r K1 ⟨rfl, g1, v1⟩
  have ws2 := ws1.trans v1
  have hc2 := (Blk.wr hn1 ws2 hxb hxg).cell
  simp (implicitDefEqProofs := false) only [go_sem]
  have hv : l ++ encT .num d0 ++ encT .bytes d1 = l ++ encT tAck (d0, d1) := by rw [hE]; simp [encT]
  rw [← hv]
  exact ⟨_, WrStep.pre hf1 ws2⟩
set_option maxHeartbeats 1000000 in
theorem wcertificate_ok : WOk 126 tCert := by
  refine ⟨by kernel_rfl, ?_⟩
  rintro ⟨d0, d1, d2, d3, d4, d5, d6⟩ ⟨o0, o1, o2, o3, o4, o5, o6⟩ H b l g cs hwr ha hsz
  obtain ⟨c0, r0, rfl, h0, ha⟩ := rep_pair.1 ha
  obtain ⟨c1, r1, rfl, h1, ha⟩ := rep_pair.1 ha
  obtain ⟨c2, r2, rfl, h2, ha⟩ := rep_pair.1 ha
  obtain ⟨c3, r3, rfl, h3, ha⟩ := rep_pair.1 ha
  obtain ⟨c4, r4, rfl, h4, ha⟩ := rep_pair.1 ha
  obtain ⟨c5, r5, rfl, h5, ha⟩ := rep_pair.1 ha
  have h6 := ha
  obtain ⟨y0_0, y0_1, y0_2, rfl⟩ := len3 (rep_wid h0)
  obtain ⟨a1, q1, rfl, hl1, hm1⟩ := rep_list h1
  obtain ⟨a2, q2, rfl, hl2, hm2⟩ := rep_list h2
  obtain ⟨a3, q3, rfl, hl3, hm3⟩ := rep_list h3
  have := rep_num h4; subst this
  obtain ⟨a5, q5, rfl, hl5, hm5, hb5⟩ := rep_bytes.1 h5
  obtain ⟨a6, q6, rfl, hl6, hm6⟩ := rep_list h6
  have hE : encT tCert (d0, d1, d2, d3, d4, d5, d6) = encT tRound d0 ++ (encT (.list tRead) d1 ++ (encT (.list tCmd) d2 ++ (encT (.list tCmd) d3 ++ (encT .num d4 ++ (encT .bytes d5 ++ (encT (.list tAck) d6)))))) := rfl
  have hz := hsz; rw [hE] at hz; simp only [List.length_append] at hz
  refine calls_of_vc (args := [_, _]) Tryz.func126 c126ok (Nat.le_of_ble_eq_true rfl) ?_
  simp (implicitDefEqProofs := false) only [go_sem, c126]
  refine NewP_intro fun H1 hn1 hf1 hs1 => ?_
  obtain ⟨hxb, hxg⟩ := hwr.ne
  have ws0 := WrStep.refl (hwr.fr hf1 (by simp) (by simp))
  have hc0 := hn1.cell
  simp (implicitDefEqProofs := false) only [go_sem, hc0]
  refine (wround_ok.2 d0 o0 ws0.1 (Rep.wr (Rep.ext h0 hf1) ws0) (by (try simp only [List.length_append]); omega)).mono ?_
  rintro r K0 ⟨rfl, g0, v0⟩
  have ws1 := ws0.trans v0
  have hc1 := (Blk.wr hn1 ws1 hxb hxg).cell
  simp (implicitDefEqProofs := false) only [go_sem, hc1]
  refine (listReadID_ok rfl (fun _ => rfl) wread_ok d1 o1 ws1.1 (Rep.wr (Rep.ext h1 hf1) ws1) (by (try simp only [List.length_append]); omega)).mono ?_
  rintro r K1 ⟨rfl, g1, v1⟩
  have ws2 := ws1.trans v1
  have hc2 := (Blk.wr hn1 ws2 hxb hxg).cell
  simp (implicitDefEqProofs := false) only [go_sem, hc2]
  refine (listCommand_ok rfl (fun _ => rfl) wcommand_ok d2 o2 ws2.1 (Rep.wr (Rep.ext h2 hf1) ws2) (by (try simp only [List.length_append]); omega)).mono ?_
  rintro r K2 ⟨rfl, g2, v2⟩
  have ws3 := ws2.trans v2
  have hc3 := (Blk.wr hn1 ws3 hxb hxg).cell
  simp (implicitDefEqProofs := false) only [go_sem, hc3]
  refine (listCommand_ok rfl (fun _ => rfl) wcommand_ok d3 o3 ws3.1 (Rep.wr (Rep.ext h3 hf1) ws3) (by (try simp only [List.length_append]); omega)).mono ?_
  rintro r K3 ⟨rfl, g3, v3⟩
  have ws4 := ws3.trans v3
  have hc4 := (Blk.wr hn1 ws4 hxb hxg).cell
  simp (implicitDefEqProofs := false) only [go_sem, hc4]
  refine (wnum_ok d4 o4 ws4.1 (by (try simp only [List.length_append]); omega)).mono ?_
  rintro r K4 ⟨rfl, g4, v4⟩
  have ws5 := ws4.trans v4
  have hc5 := (Blk.wr hn1 ws5 hxb hxg).cell
  simp (implicitDefEqProofs := false) only [go_sem, hc5]
  refine (wbytes_ok.2 d5 o5 ws5.1 (Rep.wr (Rep.ext h5 hf1) ws5) (by (try simp only [List.length_append]); omega)).mono ?_
  rintro r K5 ⟨rfl, g5, v5⟩
  have ws6 := ws5.trans v5
  have hc6 := (Blk.wr hn1 ws6 hxb hxg).cell
  simp (implicitDefEqProofs := false) only [go_sem, hc6]
  refine (listAck_ok rfl (fun _ => rfl) wack_ok d6 o6 ws6.1 (Rep.wr (Rep.ext h6 hf1) ws6) (by (try simp only [List.length_append]); omega)).mono ?_
  rintro r K6 ⟨rfl, g6, v6⟩
  have ws7 := ws6.trans v6
  have hc7 := (Blk.wr hn1 ws7 hxb hxg).cell
  simp (implicitDefEqProofs := false) only [go_sem]
  have hv : l ++ encT tRound d0 ++ encT (.list tRead) d1 ++ encT (.list tCmd) d2 ++ encT (.list tCmd) d3 ++ encT .num d4 ++ encT .bytes d5 ++ encT (.list tAck) d6 = l ++ encT tCert (d0, d1, d2, d3, d4, d5, d6) := by rw [hE]; simp [encT]
  rw [← hv]
  exact ⟨_, WrStep.pre hf1 ws7⟩
set_option maxHeartbeats 1000000 in
theorem wbase_ok : WOk 83 tBase := by
  refine ⟨by kernel_rfl, ?_⟩
  rintro ⟨d0, d1⟩ ⟨o0, o1⟩ H b l g cs hwr ha hsz
  obtain ⟨c0, r0, rfl, h0, ha⟩ := rep_pair.1 ha
  have h1 := ha
  obtain ⟨a0, q0, rfl, hl0, hm0⟩ := rep_list h0
  obtain ⟨a1, q1, rfl, hl1, hm1⟩ := rep_list h1
  have hE : encT tBase (d0, d1) = encT (.list tCert) d0 ++ (encT (.list tCmd) d1) := rfl
  have hz := hsz; rw [hE] at hz; simp only [List.length_append] at hz
  refine calls_of_vc (args := [_, _]) Tryz.func83 c83ok (Nat.le_of_ble_eq_true rfl) ?_
  simp (implicitDefEqProofs := false) only [go_sem, c83]
  refine NewP_intro fun H1 hn1 hf1 hs1 => ?_
  obtain ⟨hxb, hxg⟩ := hwr.ne
  have ws0 := WrStep.refl (hwr.fr hf1 (by simp) (by simp))
  have hc0 := hn1.cell
  simp (implicitDefEqProofs := false) only [go_sem, hc0]
  refine (listCertificate_ok rfl (fun _ => rfl) wcertificate_ok d0 o0 ws0.1 (Rep.wr (Rep.ext h0 hf1) ws0) (by (try simp only [List.length_append]); omega)).mono ?_
  rintro r K0 ⟨rfl, g0, v0⟩
  have ws1 := ws0.trans v0
  have hc1 := (Blk.wr hn1 ws1 hxb hxg).cell
  simp (implicitDefEqProofs := false) only [go_sem, hc1]
  refine (listCommand_ok rfl (fun _ => rfl) wcommand_ok d1 o1 ws1.1 (Rep.wr (Rep.ext h1 hf1) ws1) (by (try simp only [List.length_append]); omega)).mono ?_
  rintro r K1 ⟨rfl, g1, v1⟩
  have ws2 := ws1.trans v1
  have hc2 := (Blk.wr hn1 ws2 hxb hxg).cell
  simp (implicitDefEqProofs := false) only [go_sem]
  have hv : l ++ encT (.list tCert) d0 ++ encT (.list tCmd) d1 = l ++ encT tBase (d0, d1) := by rw [hE]; simp [encT]
  rw [← hv]
  exact ⟨_, WrStep.pre hf1 ws2⟩
set_option maxHeartbeats 1000000 in
theorem wproof_ok : WOk 89 tProof := by
  refine ⟨by kernel_rfl, ?_⟩
  rintro ⟨d0, d1⟩ ⟨o0, o1⟩ H b l g cs hwr ha hsz
  obtain ⟨c0, r0, rfl, h0, ha⟩ := rep_pair.1 ha
  have h1 := ha
  obtain ⟨a0, q0, rfl, hl0, hm0⟩ := rep_list h0
  obtain ⟨y1_0, y1_1, y1_2, y1_3, y1_4, y1_5, y1_6, y1_7, y1_8, rfl⟩ := len9 (rep_wid h1)
  have hE : encT tProof (d0, d1) = encT (.list tCert) d0 ++ (encT tCert d1) := rfl
  have hz := hsz; rw [hE] at hz; simp only [List.length_append] at hz
  refine calls_of_vc (args := [_, _]) Tryz.func89 c89ok (Nat.le_of_ble_eq_true rfl) ?_
  simp (implicitDefEqProofs := false) only [go_sem, c89]
  refine NewP_intro fun H1 hn1 hf1 hs1 => ?_
  obtain ⟨hxb, hxg⟩ := hwr.ne
  have ws0 := WrStep.refl (hwr.fr hf1 (by simp) (by simp))
  have hc0 := hn1.cell
  simp (implicitDefEqProofs := false) only [go_sem, hc0]
  refine (listCertificate_ok rfl (fun _ => rfl) wcertificate_ok d0 o0 ws0.1 (Rep.wr (Rep.ext h0 hf1) ws0) (by (try simp only [List.length_append]); omega)).mono ?_
  rintro r K0 ⟨rfl, g0, v0⟩
  have ws1 := ws0.trans v0
  have hc1 := (Blk.wr hn1 ws1 hxb hxg).cell
  simp (implicitDefEqProofs := false) only [go_sem, hc1]
  refine (wcertificate_ok.2 d1 o1 ws1.1 (Rep.wr (Rep.ext h1 hf1) ws1) (by (try simp only [List.length_append]); omega)).mono ?_
  rintro r K1 ⟨rfl, g1, v1⟩
  have ws2 := ws1.trans v1
  have hc2 := (Blk.wr hn1 ws2 hxb hxg).cell
  simp (implicitDefEqProofs := false) only [go_sem]
  have hv : l ++ encT (.list tCert) d0 ++ encT tCert d1 = l ++ encT tProof (d0, d1) := by rw [hE]; simp [encT]
  rw [← hv]
  exact ⟨_, WrStep.pre hf1 ws2⟩
set_option maxHeartbeats 1000000 in
theorem wdigest_ok : WOk 91 tDigest := by
  refine ⟨by kernel_rfl, ?_⟩
  rintro ⟨d0, d1, d2⟩ ⟨o0, o1, o2⟩ H b l g cs hwr ha hsz
  obtain ⟨c0, r0, rfl, h0, ha⟩ := rep_pair.1 ha
  obtain ⟨c1, r1, rfl, h1, ha⟩ := rep_pair.1 ha
  have h2 := ha
  obtain ⟨a0, q0, rfl, hl0, hm0, hb0⟩ := rep_bytes.1 h0
  obtain ⟨a1, q1, rfl, hl1, hm1, hb1⟩ := rep_bytes.1 h1
  have := rep_num h2; subst this
  have hE : encT tDigest (d0, d1, d2) = encT .bytes d0 ++ (encT .bytes d1 ++ (encT .num d2)) := rfl
  have hz := hsz; rw [hE] at hz; simp only [List.length_append] at hz
  refine calls_of_vc (args := [_, _]) Tryz.func91 c91ok (Nat.le_of_ble_eq_true rfl) ?_
  simp (implicitDefEqProofs := false) only [go_sem, c91]
  refine NewP_intro fun H1 hn1 hf1 hs1 => ?_
  obtain ⟨hxb, hxg⟩ := hwr.ne
  have ws0 := WrStep.refl (hwr.fr hf1 (by simp) (by simp))
  have hc0 := hn1.cell
  simp (implicitDefEqProofs := false) only [go_sem, hc0]
  refine (wbytes_ok.2 d0 o0 ws0.1 (Rep.wr (Rep.ext h0 hf1) ws0) (by (try simp only [List.length_append]); omega)).mono ?_
  rintro r K0 ⟨rfl, g0, v0⟩
  have ws1 := ws0.trans v0
  have hc1 := (Blk.wr hn1 ws1 hxb hxg).cell
  simp (implicitDefEqProofs := false) only [go_sem, hc1]
  refine (wbytes_ok.2 d1 o1 ws1.1 (Rep.wr (Rep.ext h1 hf1) ws1) (by (try simp only [List.length_append]); omega)).mono ?_
  rintro r K1 ⟨rfl, g1, v1⟩
  have ws2 := ws1.trans v1
  have hc2 := (Blk.wr hn1 ws2 hxb hxg).cell
  simp (implicitDefEqProofs := false) only [go_sem, hc2]
  refine (wnum_ok d2 o2 ws2.1 (by (try simp only [List.length_append]); omega)).mono ?_
  rintro r K2 ⟨rfl, g2, v2⟩
  have ws3 := ws2.trans v2
  have hc3 := (Blk.wr hn1 ws3 hxb hxg).cell
  simp (implicitDefEqProofs := false) only [go_sem]
  have hv : l ++ encT .bytes d0 ++ encT .bytes d1 ++ encT .num d2 = l ++ encT tDigest (d0, d1, d2) := by rw [hE]; simp [encT]
  rw [← hv]
  exact ⟨_, WrStep.pre hf1 ws3⟩
set_option maxHeartbeats 1000000 in
theorem witem_ok : WOk 95 tItem := by
  refine ⟨by kernel_rfl, ?_⟩
  rintro ⟨d0, d1, d2, d3⟩ ⟨o0, o1, o2, o3⟩ H b l g cs hwr ha hsz
  obtain ⟨c0, r0, rfl, h0, ha⟩ := rep_pair.1 ha
  obtain ⟨c1, r1, rfl, h1, ha⟩ := rep_pair.1 ha
  obtain ⟨c2, r2, rfl, h2, ha⟩ := rep_pair.1 ha
  have h3 := ha
  have := rep_text h0; subst this
  have := rep_bool h1; subst this
  obtain ⟨a2, q2, rfl, hl2, hm2, hb2⟩ := rep_bytes.1 h2
  obtain ⟨a3, q3, rfl, hl3, hm3⟩ := rep_list h3
  have hE : encT tItem (d0, d1, d2, d3) = encT .text d0 ++ (encT .bool d1 ++ (encT .bytes d2 ++ (encT (.list .bytes) d3))) := rfl
  have hz := hsz; rw [hE] at hz; simp only [List.length_append] at hz
  refine calls_of_vc (args := [_, _]) Tryz.func95 c95ok (Nat.le_of_ble_eq_true rfl) ?_
  simp (implicitDefEqProofs := false) only [go_sem, c95]
  refine NewP_intro fun H1 hn1 hf1 hs1 => ?_
  obtain ⟨hxb, hxg⟩ := hwr.ne
  have ws0 := WrStep.refl (hwr.fr hf1 (by simp) (by simp))
  have hc0 := hn1.cell
  simp (implicitDefEqProofs := false) only [go_sem, hc0]
  refine (wtext_ok.2 d0 o0 ws0.1 (Rep.wr (Rep.ext h0 hf1) ws0) (by (try simp only [List.length_append]); omega)).mono ?_
  rintro r K0 ⟨rfl, g0, v0⟩
  have ws1 := ws0.trans v0
  have hc1 := (Blk.wr hn1 ws1 hxb hxg).cell
  simp (implicitDefEqProofs := false) only [go_sem, hc1]
  refine (wbool_ok d1 ws1.1 (by (try simp only [List.length_append]); omega)).mono ?_
  rintro r K1 ⟨rfl, g1, v1⟩
  have ws2 := ws1.trans v1
  have hc2 := (Blk.wr hn1 ws2 hxb hxg).cell
  simp (implicitDefEqProofs := false) only [go_sem, hc2]
  refine (wbytes_ok.2 d2 o2 ws2.1 (Rep.wr (Rep.ext h2 hf1) ws2) (by (try simp only [List.length_append]); omega)).mono ?_
  rintro r K2 ⟨rfl, g2, v2⟩
  have ws3 := ws2.trans v2
  have hc3 := (Blk.wr hn1 ws3 hxb hxg).cell
  simp (implicitDefEqProofs := false) only [go_sem, hc3]
  refine (listBts_ok rfl (fun _ => rfl) wbytes_ok d3 o3 ws3.1 (Rep.wr (Rep.ext h3 hf1) ws3) (by (try simp only [List.length_append]); omega)).mono ?_
  rintro r K3 ⟨rfl, g3, v3⟩
  have ws4 := ws3.trans v3
  have hc4 := (Blk.wr hn1 ws4 hxb hxg).cell
  simp (implicitDefEqProofs := false) only [go_sem]
  have hv : l ++ encT .text d0 ++ encT .bool d1 ++ encT .bytes d2 ++ encT (.list .bytes) d3 = l ++ encT tItem (d0, d1, d2, d3) := by rw [hE]; simp [encT]
  rw [← hv]
  exact ⟨_, WrStep.pre hf1 ws4⟩
end Go.Proofs.YtdhlibkdcldioaaGreat
