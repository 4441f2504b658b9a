/- The writers of the reference of package wire: contracts. -/
import Derived.Test.YtdhlibkdcldioaaGreatNu
set_option linter.unusedSimpArgs false
set_option linter.unusedVariables false
set_option maxRecDepth 8000
namespace Go.Proofs.YtdhlibkdcldioaaGreat
open Gx Go

/-- A slice of bytes of one's own that came out of a call. -/
def Out (H : Heap) (L : List UInt8) (v : Value) (H' : Heap) : Prop :=
  ∃ a c g, v = .slice a L.length c ∧ Own H' 5 1 (.slice a L.length c) L.length (L.map bv) g ∧ (∀ k, g = some k → H.size ≤ k) ∧ Fr [] H H'

theorem Out.of {H H' : Heap} {L : List UInt8} {a : Option Addr} {n c : Nat} {xs : List Value} {g : Option Nat} (hn : n = L.length) (hx : xs = L.map bv) (ho : Own H' 5 1 (.slice a n c) n xs g) (hg : ∀ k, g = some k → H.size ≤ k) (hf : Fr [] H H') : Out H L (.slice a n c) H' := by
  subst hn; subst hx
  exact ⟨a, c, g, rfl, ho, hg, hf⟩

theorem rem128 (n : Nat) (h : n < 2^64) : IntKind.u8.wrap (IntKind.u8.wrap ((n : Int).tmod 128) + 128) = ((UInt8.ofNat (n % 128 + 128)).toNat : Int) := by
  rw [Int.tmod_eq_emod_of_nonneg (by omega), wrap_u8_id ((n : Int) % 128) (by omega) (by omega), wrap_u8_id _ (by omega) (by omega), u8_of _ (by omega)]; omega

theorem app_fr {H H' H3 H4 : Heap} {g' g4 : Option Nat} (hfr : Fr [] H H') (hg : ∀ k, g' = some k → H.size ≤ k) (hf3 : Fr [] H' H3) (hf4 : Fr g'.toList H3 H4) (hg4 : ∀ b, g4 = some b → g' = some b ∨ H3.size ≤ b) :
    Fr [] H H4 ∧ ∀ k, g4 = some k → H.size ≤ k := by
  refine ⟨(hfr.trans hf3).trans' hf4 (fun k hk => .inr (hg k (by simpa using hk))), fun k hk => ?_⟩
  rcases hg4 k hk with q | q
  · exact hg k q
  · exact Nat.le_trans (hfr.trans hf3).size q

theorem fuint_ok (n : Nat) (hn : n < 2^64) {H : Heap} {a : Option Addr} {c : Nat} {l : List UInt8} (h : BsR H a l) (hl : l.length < 2^38) :
    HCalls Tryz.prog 116 #[.slice a l.length c, .int .u64 n] H (Out H (l ++ enc n)) := by
  refine calls_of_vc (args := [_, _]) Tryz.func116 c116ok (Nat.le_of_ble_eq_true rfl) ?_
  simp (implicitDefEqProofs := false) only [go_sem, c116]
  refine NewS_intro fun H1 hn1 hf1 hs1 => ?_
  simp (implicitDefEqProofs := false) only [go_sem]
  refine App_own EB (Own.of_blk hn1 (by simp) (by decide)) ((h.ext hf1).src Tryz.underlying22) (by unfold maxLen; omega) (by omega) fun a2 c2 H2 g2 ho2 hf2 hg2 => ?_
  have h12 : Fr [] H H2 := hf1.trans' hf2 (by simp)
  have hq2 : ∀ k, g2 = some k → H.size ≤ k := by
    intro k hk
    rcases hg2 k hk with q | q
    · simp at q; omega
    · have := hf1.size; omega
  simp (implicitDefEqProofs := false) only [go_sem]
  refine vc_loop (fun ((m, f, p, a', c', g') : Nat × Nat × List UInt8 × Option Addr × Nat × Option Nat) H' => m < 2^64 ∧ m < 128^f ∧ 1 ≤ f ∧ p.length + f ≤ 10 ∧ p ++ encF f m = encF 10 n ∧
      Own H' 5 1 (.slice a' (l ++ p).length c') (l ++ p).length ((l ++ p).map bv) g' ∧ (∀ k, g' = some k → H.size ≤ k) ∧ Fr [] H H')
    (fun (m, _, p, a', c', _) => [(1, .int .u64 m), (5, .slice a' (l ++ p).length c')]) (fun (m, _) => m) (n, 10, [], a2, c2, g2) ?_ ?_ ?_
  · refine ⟨hn, Nat.lt_of_lt_of_le hn (by decide), by decide, by simp, by simp, by simpa using ho2, hq2, h12⟩
  · simp (implicitDefEqProofs := false) only [go_sem]
  · rintro ⟨m, f, p, a', c', g'⟩ H' ⟨h1, h2, h3, h4, h5, ho, hg, hfr⟩
    have hlen : (l ++ p).length < 2^39 := by simp; omega
    by_cases hm : 128 ≤ m
    · have hm' : (128 : Int) ≤ (m : Int) := by omega
      simp (implicitDefEqProofs := false) only [go_sem, hm', rem128 m h1]
      refine NewS_intro fun H3 hn3 hf3 hs3 => ?_
      simp (implicitDefEqProofs := false) only [go_sem]
      refine App_own EB (ho.fr hf3 (by simp)) (SrcH.blk Tryz.underlying22 hn3 (by simp) (by simp [Value.oneCell'])) (by unfold maxLen; omega) (by omega) fun a4 c4 H4 g4 ho4 hf4 hg4 => ?_
      obtain ⟨hfr4, hgr4⟩ := app_fr hfr hg hf3 hf4 hg4
      have hdv : IntKind.u64.wrap ((m : Int).tdiv 128) = ((m / 128 : Nat) : Int) := by rw [Int.tdiv_eq_ediv_of_nonneg (by omega), wrap_u64_id _ (by omega) (by omega)]; omega
      have hf : f = (f - 1) + 1 := by omega
      simp (implicitDefEqProofs := false) only [go_sem, hdv]
      refine loopK_intro (m / 128, f - 1, p ++ [UInt8.ofNat (m % 128 + 128)], a4, c4, g4) (by show m / 128 < m; omega) ?_ ?_
      · simp (implicitDefEqProofs := false) only [go_sem]
        simp [Nat.add_assoc]
      · refine ⟨by show m / 128 < _; omega, ?_, ?_, ?_, ?_, by simpa [bv, Nat.add_assoc] using ho4, hgr4, hfr4⟩
        · show m / 128 < 128 ^ (f - 1)
          rw [hf, Nat.pow_succ] at h2; omega
        · show 1 ≤ f - 1
          rcases Nat.lt_or_ge 1 f with h | h
          · omega
          · have : f = 1 := by omega
            rw [this] at h2; omega
        · simp; omega
        · show (p ++ [UInt8.ofNat (m % 128 + 128)]) ++ encF (f - 1) (m / 128) = _
          rw [← h5, hf]
          simp [encF, show ¬ m < 128 by omega]
    · have hm' : ¬ (128 : Int) ≤ (m : Int) := by omega
      simp (implicitDefEqProofs := false) only [go_sem, hm', wrap_u8_lt m (by omega)]
      refine NewS_intro fun H3 hn3 hf3 hs3 => ?_
      simp (implicitDefEqProofs := false) only [go_sem]
      refine App_own EB (ho.fr hf3 (by simp)) (SrcH.blk Tryz.underlying22 hn3 (by simp) (by simp [Value.oneCell'])) (by unfold maxLen; omega) (by omega) fun a4 c4 H4 g4 ho4 hf4 hg4 => ?_
      obtain ⟨hfr4, hgr4⟩ := app_fr hfr hg hf3 hf4 hg4
      simp (implicitDefEqProofs := false) only [go_sem]
      have hf : f = (f - 1) + 1 := by omega
      have e : l ++ enc n = (l ++ p) ++ [UInt8.ofNat m] := by
        rw [enc, ← h5, hf]; simp [encF, show m < 128 by omega]
      rw [e]
      exact Out.of (by simp [Nat.add_assoc]) (by simp [bv]) ho4 hgr4 hfr4

theorem fint_ok (n : Int) (hn : -2^63 ≤ n) (hn' : n < 2^63) {H : Heap} {a : Option Addr} {c : Nat} {l : List UInt8} (h : BsR H a l) (hl : l.length < 2^38) :
    HCalls Tryz.prog 115 #[.slice a l.length c, .int .i64 n] H (Out H (l ++ enc (zig n))) := by
  refine calls_of_vc (args := [_, _]) Tryz.func115 c115ok (Nat.le_of_ble_eq_true rfl) ?_
  have hz := zig_lt n hn hn'
  by_cases h0 : 0 ≤ n
  · have hzz : IntKind.u64.wrap (2 * IntKind.u64.wrap n) = ((zig n : Nat) : Int) := by
      rw [wrap_u64_id n (by omega) (by omega), wrap_u64_id _ (by omega) (by omega)]; unfold zig; rw [if_pos h0]; omega
    simp (implicitDefEqProofs := false) only [go_sem, c115, h0, hzz]
    refine (fuint_ok (zig n) hz h hl).mono ?_
    intro v H1 hv
    simp (implicitDefEqProofs := false) only [go_sem]
    exact hv
  · have hzz : IntKind.u64.wrap (IntKind.u64.wrap (2 * IntKind.u64.wrap (IntKind.i64.wrap (0 - IntKind.i64.wrap (n + 1)))) + 1) = ((zig n : Nat) : Int) := by
      rw [wrap_i64_id (n + 1) (by omega) (by omega), wrap_i64_id _ (by omega) (by omega), wrap_u64_id (0 - (n + 1)) (by omega) (by omega), wrap_u64_id (2 * (0 - (n + 1))) (by omega) (by omega), wrap_u64_id _ (by omega) (by omega)]
      unfold zig; rw [if_neg h0]; omega
    simp (implicitDefEqProofs := false) only [go_sem, c115, h0, hzz]
    refine (fuint_ok (zig n) hz h hl).mono ?_
    intro v H1 hv
    simp (implicitDefEqProofs := false) only [go_sem]
    exact hv

theorem fbool_ok (x : Bool) {H : Heap} {a : Option Addr} {c : Nat} {l : List UInt8} (h : BsR H a l) (hl : l.length < 2^38) :
    HCalls Tryz.prog 121 #[.slice a l.length c, .bool x] H (Out H (l ++ [if x then 1 else 0])) := by
  refine calls_of_vc (args := [_, _]) Tryz.func121 c121ok (Nat.le_of_ble_eq_true rfl) ?_
  cases x
  all_goals
    simp (implicitDefEqProofs := false) only [go_sem, c121]
    refine NewS_intro fun H1 hn1 hf1 hs1 => ?_
    simp (implicitDefEqProofs := false) only [go_sem]
    refine App_own EB (Own.of_blk hn1 (by simp) (by decide)) ((h.ext hf1).src Tryz.underlying22) (by unfold maxLen; omega) (by omega) fun a2 c2 H2 g2 ho2 hf2 hg2 => ?_
    rw [Nat.zero_add, List.nil_append] at ho2
    obtain ⟨h12, hq2⟩ := app_fr hf1 (g' := some H.size) (by simp) (Fr.refl _ _) hf2 hg2
    simp (implicitDefEqProofs := false) only [go_sem]
    refine NewS_intro fun H3 hn3 hf3 hs3 => ?_
    simp (implicitDefEqProofs := false) only [go_sem]
    refine App_own EB (ho2.fr hf3 (by simp)) (SrcH.blk Tryz.underlying22 hn3 (by simp) (by simp [Value.oneCell'])) (by unfold maxLen; omega) (by omega) fun a4 c4 H4 g4 ho4 hf4 hg4 => ?_
    obtain ⟨hfr4, hgr4⟩ := app_fr h12 hq2 hf3 hf4 hg4
    simp (implicitDefEqProofs := false) only [go_sem]
    exact Out.of (by simp [Nat.add_assoc]) (by simp [bv]) ho4 hgr4 hfr4

theorem fbytes_ok (x : List UInt8) {H : Heap} {a ax : Option Addr} {c cx : Nat} {l : List UInt8} (h : BsR H a l) (hx : BsR H ax x) (hl : l.length + x.length < 2^38) :
    HCalls Tryz.prog 117 #[.slice a l.length c, .slice ax x.length cx] H (Out H (l ++ (enc x.length ++ x))) := by
  refine calls_of_vc (args := [_, _]) Tryz.func117 c117ok (Nat.le_of_ble_eq_true rfl) ?_
  have hw : IntKind.u64.wrap (x.length : Int) = ((x.length : Nat) : Int) := wrap_u64_id _ (by omega) (by omega)
  simp (implicitDefEqProofs := false) only [go_sem, c117, hw]
  refine (fuint_ok x.length (by omega) h (by omega)).mono ?_
  rintro v H1 ⟨a1, c1, g1, rfl, ho1, hg1, hf1⟩
  have hle := length_enc x.length
  simp (implicitDefEqProofs := false) only [go_sem]
  refine App_own EB ho1 ((hx.ext hf1).src Tryz.underlying22) (by unfold maxLen; simp; omega) (by simp; omega) fun a2 c2 H2 g2 ho2 hf2 hg2 => ?_
  obtain ⟨h12, hq2⟩ := app_fr hf1 hg1 (Fr.refl _ _) hf2 hg2
  simp (implicitDefEqProofs := false) only [go_sem]
  exact Out.of (by simp [Nat.add_assoc]) (by simp) ho2 hq2 h12

theorem ftext_ok (x : List UInt8) {H : Heap} {a : Option Addr} {c : Nat} {l : List UInt8} (h : BsR H a l) (hl : l.length + x.length < 2^38) :
    HCalls Tryz.prog 118 #[.slice a l.length c, .string ⟨⟨x⟩⟩] H (Out H (l ++ (enc x.length ++ x))) := by
  refine calls_of_vc (args := [_, _]) Tryz.func118 c118ok (Nat.le_of_ble_eq_true rfl) ?_
  have hs : ByteArray.size ⟨⟨x⟩⟩ = x.length := rfl
  have hw : IntKind.u64.wrap (x.length : Int) = ((x.length : Nat) : Int) := wrap_u64_id _ (by omega) (by omega)
  simp (implicitDefEqProofs := false) only [go_sem, c118, hs, hw]
  refine (fuint_ok x.length (by omega) h (by omega)).mono ?_
  rintro v H1 ⟨a1, c1, g1, rfl, ho1, hg1, hf1⟩
  have hle := length_enc x.length
  simp (implicitDefEqProofs := false) only [go_sem]
  refine App_own EB ho1 (SrcH.str Tryz.underlying9 x) (by unfold maxLen; simp; omega) (by simp; omega) fun a2 c2 H2 g2 ho2 hf2 hg2 => ?_
  obtain ⟨h12, hq2⟩ := app_fr hf1 hg1 (Fr.refl _ _) hf2 hg2
  simp (implicitDefEqProofs := false) only [go_sem]
  exact Out.of (by simp [Nat.add_assoc]) (by simp [bv]) ho2 hq2 h12
theorem Out.own {H H' : Heap} {L : List UInt8} {v : Value} (h : Out H L v H') : ∃ a c g, v = .slice a L.length c ∧ Own H' 5 1 (.slice a L.length c) L.length (L.map bv) g ∧ (∀ k, g = some k → H.size ≤ k) ∧ Fr [] H H' := h
end Go.Proofs.YtdhlibkdcldioaaGreat
