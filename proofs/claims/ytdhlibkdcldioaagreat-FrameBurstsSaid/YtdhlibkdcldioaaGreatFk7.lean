/- The law of bursts. -/
import Derived.Test.YtdhlibkdcldioaaGreatFp1
import Derived.Test.YtdhlibkdcldioaaGreatK9
set_option linter.unusedSimpArgs false
set_option linter.unusedVariables false
set_option maxRecDepth 8000
namespace Go.Proofs.YtdhlibkdcldioaaGreat
open Gx Go

theorem xor_u8 (x y : UInt8) : bits .xor .u8 (x.toNat : Int) (y.toNat : Int) = ((x ^^^ y).toNat : Int) := by
  have hx : (BitVec.ofInt 8 (x.toNat : Int)).toNat = x.toNat := by rw [BitVec.toNat_ofInt]; have := x.toNat_lt; omega
  have hy : (BitVec.ofInt 8 (y.toNat : Int)).toNat = y.toNat := by rw [BitVec.toNat_ofInt]; have := y.toNat_lt; omega
  show IntKind.u8.wrap ((BitVec.ofInt 8 (x.toNat : Int) ^^^ BitVec.ofInt 8 (y.toNat : Int)).toNat : Int) = _
  rw [BitVec.toNat_xor, hx, hy, ← UInt8.toNat_xor, wrap_u8_id _ (by omega) (by have := (x ^^^ y).toNat_lt; omega)]
theorem bs_cell {H : Heap} {a : Option Addr} {l : Bs} (h : BsR H a l) {i : Nat} (hi : i < l.length) : ∃ b o, a = some ⟨b, o, none⟩ ∧ cellB H b (o + i) = some (bv l[i]) := by
  rcases h with h | ⟨b, o, h1, h2⟩
  · subst h; simp at hi
  · exact ⟨b, o, h1, h2 i hi⟩
theorem bit_at (w : W32) {i : Nat} (h : i < 32) : bits .and .u32 (shrI .u32 (w.toNat : Int) (IntKind.u64.wrap (i : Int))) 1 = (if w.getLsbD i then 1 else 0 : Int) := by
  rw [wrap_u64_id _ (by omega) (by omega), shrI_nat _ _ (by show i ≤ 32; omega)]
  have hw := w.isLt
  have hn : w.toNat / 2 ^ i < 2^32 := Nat.lt_of_le_of_lt (Nat.div_le_self _ _) hw
  show IntKind.u32.wrap ((BitVec.ofInt 32 ((w.toNat / 2 ^ i : Nat) : Int) &&& BitVec.ofInt 32 1).toNat : Int) = _
  have h1 : (BitVec.ofInt 32 ((w.toNat / 2 ^ i : Nat) : Int)).toNat = w.toNat / 2 ^ i := by
    generalize w.toNat / 2 ^ i = n at hn
    rw [BitVec.toNat_ofInt]; omega
  have h2 : (BitVec.ofInt 32 1).toNat = 1 := rfl
  have h3 := Nat.mod_lt (w.toNat / 2 ^ i) (y := 2) (by decide)
  rw [BitVec.toNat_and, h1, h2, Nat.and_one_is_mod, wrap_u32_id _ (Int.natCast_nonneg _) (by omega), ← BitVec.testBit_toNat, Nat.testBit_eq_decide_div_mod_eq]
  by_cases hb : w.toNat / 2 ^ i % 2 = 1
  · rw [hb]; rfl
  · rw [decide_eq_false hb]
    have : w.toNat / 2 ^ i % 2 = 0 := by omega
    rw [this]; rfl
theorem tdiv8 (n : Nat) (h : n < 2^63) : IntKind.i64.wrap ((n : Int).tdiv 8) = ((n / 8 : Nat) : Int) := by
  rw [Int.tdiv_eq_ediv_of_nonneg (by omega), wrap_i64_id _ (by omega) (by omega)]; omega
theorem tmod8 (n : Nat) : (n : Int).tmod 8 = ((n % 8 : Nat) : Int) := by
  rw [Int.tmod_eq_emod_of_nonneg (by omega)]; omega
theorem flip_val (x : UInt8) {r : Nat} (h : r < 8) : bits .xor .u8 (x.toNat : Int) (shlI .u8 1 (IntKind.u64.wrap (r : Int))) = ((flipB x r).toNat : Int) := by
  have h1 : shlI .u8 1 (IntKind.u64.wrap (r : Int)) = (((UInt8.ofNat (2 ^ r)).toNat : Nat) : Int) := by
    match r, h with
    | 0, _ | 1, _ | 2, _ | 3, _ | 4, _ | 5, _ | 6, _ | 7, _ => rfl
  rw [h1, xor_u8]
  have : x ^^^ UInt8.ofNat (2 ^ r) = flipB x r := by
    unfold flipB
    apply UInt8.toNat_inj.1
    have hx := x.toNat_lt
    have hr : 2 ^ r < 256 := by
      match r, h with
      | 0, _ | 1, _ | 2, _ | 3, _ | 4, _ | 5, _ | 6, _ | 7, _ => decide
    have hxr : x.toNat ^^^ 2 ^ r < 2 ^ 8 := Nat.xor_lt_two_pow hx hr
    rw [UInt8.toNat_xor, UInt8.toNat_ofNat', UInt8.toNat_ofNat', Nat.mod_eq_of_lt hr, Nat.mod_eq_of_lt hxr]
  rw [this]
theorem flips_skip {bs : List Bool} {p i : Nat} {w : W32} (h : w.getLsbD i = false) : flips bs p w (i + 1) = flips bs p w i := by simp [flips, h]
theorem flips_flip {bs : List Bool} {p i : Nat} {w : W32} (h : w.getLsbD i = true) : flips bs p w (i + 1) = (flips bs p w i).modify (p + i) not := by simp [flips, h]

set_option maxHeartbeats 4000000 in
theorem bursts_law {m : Msg} {H : Heap} {cs : List Value} {at_ : Int} {w : W32} (h : Rep H [] (datT tMsg m.tup) cs) (hok : okM m) : HCalls Tryz.prog 9 #[.agg cs.toArray, .int .i64 at_, .int .u32 w.toNat] H fun v H' => v = .bool true ∧ Fr [] H H' := by
  have h' := h
  obtain ⟨a_reads, c_reads, a_base, c_base, a_state, c_state, a_acks, c_acks, a_proof, c_proof, a_digests, c_digests, a_objects, c_objects, a_items, c_items, hcs, _⟩ := msg_open h
  refine calls_of_vc (args := [_, _, _]) Tryz.func9 c9ok (Nat.le_of_ble_eq_true rfl) ?_
  simp (implicitDefEqProofs := false) only [go_sem, c9, hcs]
  refine NewP_intro fun H1 hn1 hf1 hs1 => ?_
  have hc := hn1.cell
  simp (implicitDefEqProofs := false) only [go_sem, hc]
  rw [← hcs]
  refine (small_ok (Rep.ext h' hf1)).mono ?_
  rintro v H2 ⟨t, rfl, ht, hf2⟩
  have hf12 := hf1.trans hf2
  have hc2 := (hn1.ext hf2).cell
  have fin : ∀ {K : Heap}, Fr [] H2 K → HCalls Tryz.prog 11 #[] K fun v H' => v = .bool true ∧ Fr [] H H' := fun hk => (awake_ok _).mono fun v H' hv => ⟨hv.1, (hf12.trans hk).trans hv.2⟩
  cases t with
  | false =>
    simp (implicitDefEqProofs := false) only [go_sem]
    refine (fin (Fr.refl _ _)).mono ?_
    rintro v H3 ⟨rfl, hf3⟩
    simp (implicitDefEqProofs := false) only [go_sem]
    exact hf3
  | true =>
  by_cases w0 : w = 0#32
  · have w0' : (w.toNat : Int) = 0 := by rw [w0]; rfl
    simp (implicitDefEqProofs := false) only [go_sem, w0']
    refine (fin (Fr.refl _ _)).mono ?_
    rintro v H3 ⟨rfl, hf3⟩
    simp (implicitDefEqProofs := false) only [go_sem]
    exact hf3
  have w0' : ¬ (w.toNat : Int) = 0 := fun h => w0 (BitVec.eq_of_toNat_eq (by rw [BitVec.toNat_ofNat]; simp; omega))
  have hM := ht rfl
  have hE := small_enc hM
  have hEs := bM_le hM
  simp (implicitDefEqProofs := false) only [go_sem, w0', hc2]
  rw [← hcs]
  refine (encode_ok (Rep.ext h' hf12) hok hE).mono ?_
  rintro v H3 ⟨a3, c3, g3, rfl, ho3, hg3, hf3⟩
  cases hform : formB m with
  | false =>
    have y1 : (encO m).2 = 1 := by unfold encO; rw [hform]; rfl
    simp (implicitDefEqProofs := false) only [go_sem, y1]
    refine (fin hf3).mono ?_
    rintro v H4 ⟨rfl, hf4⟩
    simp (implicitDefEqProofs := false) only [go_sem]
    exact hf4
  | true =>
  have z1 : encO m = (sealB (encM m), 0) := by unfold encO; rw [hform]; rfl
  have y1 : (encO m).2 = 0 := by rw [z1]
  have y2 : (encO m).1 = sealB (encM m) := by rw [z1]
  have hl1 := hE hform
  have hl2 := encM_le hform
  rw [y2] at ho3
  have hb3 := ho3.bsR
  have hsl : (sealB (encM m)).length = (encM m).length + 4 := sealB_len _
  have hzk : Msg.zero.kind = 0 := rfl
  obtain ⟨B, hB⟩ : ∃ B, B = sealB (encM m) := ⟨_, rfl⟩
  have hF3 := hf12.trans hf3
  have hBl : B.length = (encM m).length + 4 := by rw [hB]; exact hsl
  have hmx : maxLen < 2^63 := by decide
  rw [← hB] at ho3 hb3
  rw [y1, y2, ← hB]
  have e8 : IntKind.i64.wrap (8 * (B.length : Int)) = 8 * (B.length : Int) := wrap_i64_id _ (by omega) (by omega)
  have e32 : IntKind.i64.wrap (8 * (B.length : Int) - 32) = 8 * (B.length : Int) - 32 := wrap_i64_id _ (by omega) (by omega)
  by_cases p0 : at_ < 0
  · simp (implicitDefEqProofs := false) only [go_sem, p0]
    refine (fin hf3).mono ?_
    rintro v H4 ⟨rfl, hf4⟩
    simp (implicitDefEqProofs := false) only [go_sem]
    exact hf4
  obtain ⟨p, rfl⟩ : ∃ p : Nat, at_ = p := ⟨at_.toNat, by omega⟩
  by_cases p1 : 8 * (B.length : Int) - 32 < (p : Int)
  · simp (implicitDefEqProofs := false) only [go_sem, p0, e8, e32, p1]
    refine (fin hf3).mono ?_
    rintro v H4 ⟨rfl, hf4⟩
    simp (implicitDefEqProofs := false) only [go_sem]
    exact hf4
  have hp : p + 32 ≤ 8 * B.length := by omega
  simp (implicitDefEqProofs := false) only [go_sem, p0, e8, e32, p1]
  refine NewS_intro fun H4 hn4 hf4 hs4 => ?_
  simp (implicitDefEqProofs := false) only [go_sem]
  refine App_own EB (Own.of_blk hn4 (by simp) (by decide)) ((hb3.ext hf4).src Tryz.underlying22) (by unfold maxLen; omega) (by omega) fun a5 c5 H5 g5 ho5 hf5 hg5 => ?_
  rw [Nat.zero_add, List.nil_append] at ho5
  obtain ⟨h45, hq5⟩ := app_fr hf4 (g' := some _) (by simp) (Fr.refl _ _) hf5 hg5
  rw [Nat.zero_add]
  obtain ⟨b5, rfl, rfl⟩ : ∃ b, g5 = some b ∧ a5 = some ⟨b, 0, none⟩ := by
    rcases ho5.2 with ⟨_, _, h0⟩ | ⟨b, _, _, hb, hv, _⟩
    · omega
    · simp only [Value.slice.injEq] at hv
      exact ⟨b, hb, hv.1⟩
  have hb5 := hq5 b5 rfl
  have hb5lt := ho5.lt rfl
  simp (implicitDefEqProofs := false) only [go_sem]
  have hn32 : ∀ i : Nat, i < 32 → p + i < 2^63 := by omega
  refine vc_loop (fun (s : Nat × Bs) H' => s.1 ≤ 32 ∧ s.2.length = B.length ∧ bitsL s.2 = flips (bitsL B) p w s.1 ∧ Own H' 5 1 (.slice (some ⟨b5, 0, none⟩) B.length c5) B.length (s.2.map bv) (some b5) ∧ Fr [] H3 H')
    (fun s => [(0, .agg cs.toArray), (1, .int .i64 p), (2, .int .u32 w.toNat), (9, .slice (some ⟨b5, 0, none⟩) B.length c5), (10, .int .i64 s.1)]) (fun s => 32 - s.1) (0, B) ?_ ?_ ?_
  · exact ⟨Nat.zero_le _, rfl, rfl, ho5, h45⟩
  · simp (implicitDefEqProofs := false) only [go_sem]
  · rintro ⟨i, C⟩ H' ⟨hi, hCl, hCb, ho, hfr⟩
    simp only at hi hCl hCb ho hfr
    rcases Nat.lt_or_ge i 32 with hlt | hge
    · have hi1 : (i : Int) < 32 := by omega
      have hw1 := succ_i64 i 32 hlt (by omega)
      have hwp : IntKind.i64.wrap ((p : Int) + (i : Int)) = ((p + i : Nat) : Int) := by rw [wrap_i64_id _ (by omega) (by omega)]; omega
      have hbit := bit_at w hlt
      have hq := tdiv8 (p + i) (by omega)
      have hr := tmod8 (p + i)
      have hqB : (p + i) / 8 < C.length := by omega
      have hq0 : (0 : Int) ≤ (((p + i) / 8 : Nat) : Int) := by omega
      have hq1 : (((p + i) / 8 : Nat) : Int) < (B.length : Int) := by omega
      have ho1 := ho
      rw [← hCl] at ho1
      obtain ⟨b, o, eb, hcell⟩ := bs_cell ho1.bsR hqB
      cases eb
      cases hw : w.getLsbD i with
      | false =>
        rw [hw] at hbit
        simp (implicitDefEqProofs := false) only [go_sem, hi1, hwp, hbit]
        refine loopK_intro (i + 1, C) (by show 32 - (i + 1) < 32 - i; omega) ?_ ⟨hlt, hCl, ?_, ho, hfr⟩
        · simp (implicitDefEqProofs := false) only [go_sem, hw1]
        · rw [flips_skip hw]; exact hCb
      | true =>
        rw [hw] at hbit
        rw [Nat.zero_add] at hcell
        have hfv := flip_val C[(p + i) / 8] (r := (p + i) % 8) (Nat.mod_lt _ (by decide))
        have hr0 : (0 : Int) ≤ IntKind.u64.wrap (((p + i) % 8 : Nat) : Int) := by rw [wrap_u64_id _ (by omega) (by omega)]; omega
        simp (implicitDefEqProofs := false) only [go_sem, hi1, hwp, hbit, hq, hr, hq0, hq1, hcell, bv, hfv, hr0]
        refine Sto_own ho (j := (p + i) / 8) (by simp; omega) rfl fun H6 ho6 hf6 hs6 => ?_
        simp (implicitDefEqProofs := false) only [go_sem]
        have hst : (C.map bv).set ((p + i) / 8) (.int .u8 ((flipB C[(p + i) / 8] ((p + i) % 8)).toNat)) = (C.set ((p + i) / 8) (flipB C[(p + i) / 8] ((p + i) % 8))).map bv := by rw [List.map_set]; rfl
        rw [hst] at ho6
        refine loopK_intro (i + 1, C.set ((p + i) / 8) (flipB C[(p + i) / 8] ((p + i) % 8))) (by show 32 - (i + 1) < 32 - i; omega) ?_ ⟨hlt, by rw [List.length_set]; exact hCl, ?_, ho6, ?_⟩
        · simp (implicitDefEqProofs := false) only [go_sem, hw1]
        · rw [flips_flip hw, ← hCb, bitsL_flip C _ _ _ (List.getElem?_eq_getElem hqB) (Nat.mod_lt _ (by decide)), Nat.div_add_mod]
        · exact hfr.trans' hf6 (by intro x hx; simp only [List.mem_singleton] at hx; subst hx; exact .inr hb5)
    · have hge' : ¬ (i : Int) < 32 := by omega
      obtain rfl : i = 32 := by omega
      simp (implicitDefEqProofs := false) only [go_sem, hge']
      have hdm : decA C = (Msg.zero, 2) := by
        have hne := burst_ne w0 hp hCb
        have hs1 : crcS ones B = crcN 32 ones := by rw [hB]; exact (sealed_iff _ _).2 rfl
        have hcs : ¬ sealB (C.take (C.length - 4)) = C := fun hx => by
          apply hne
          rw [hs1, ← hx]
          exact (sealed_iff _ _).2 rfl
        unfold decA
        rw [if_neg (by omega), if_neg (by omega), if_neg hcs]
      have ho' := ho
      rw [← hCl] at ho'
      have hD := decode_ok ho'.bsR (by omega) ho'.cap_le (Own.cap_max ho')
      rw [hdm] at hD
      simp only at hD
      rw [hCl] at hD
      refine hD.mono ?_
      rintro v H11 ⟨ds', rfl, hrep', hf11⟩
      obtain ⟨e_reads, f_reads, e_base, f_base, e_state, f_state, e_acks, f_acks, e_proof, f_proof, e_digests, f_digests, e_objects, f_objects, e_items, f_items, hcs'', _⟩ := msg_open hrep'
      have hone' := rep_one (t := tMsg) hrep'
      simp (implicitDefEqProofs := false) only [go_sem, hcs'']
      refine NewP_intro fun H12 hn12 hf12' hs12 => ?_
      simp (implicitDefEqProofs := false) only [go_sem]
      refine Sto_all hn12 rfl (by rw [← hcs'']; exact hone') fun H13 hn13 hf13 hs13 => ?_
      have hfn := new_fr hf12' hf13
      simp (implicitDefEqProofs := false) only [go_sem]
      refine (awake_ok _).mono ?_
      rintro v H14 ⟨rfl, hf14⟩
      have hm14 := (hn13.ext hf14).cell
      simp (implicitDefEqProofs := false) only [go_sem, hm14, hzk]
      exact hF3.trans (hfr.trans ((hf11.trans hfn).trans hf14))
end Go.Proofs.YtdhlibkdcldioaaGreat
