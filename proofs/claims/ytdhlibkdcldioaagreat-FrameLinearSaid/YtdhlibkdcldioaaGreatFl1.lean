/- The laws of the sum. -/
import Derived.Test.YtdhlibkdcldioaaGreatFaw
import Derived.Test.YtdhlibkdcldioaaGreatK3
import Derived.Test.YtdhlibkdcldioaaGreatK10
set_option linter.unusedSimpArgs false
set_option linter.unusedVariables false
set_option maxRecDepth 8000
namespace Go.Proofs.YtdhlibkdcldioaaGreat
open Gx Go

theorem made1 (v : Value) (hv : v.cells = #[v]) (n : Nat) : madeCells v.cells n = (List.replicate n v).toArray := by
  rw [hv]
  unfold madeCells
  apply Array.toList_inj.1
  apply List.ext_getElem
  · simp
  · intro i h1 h2
    simp [Nat.mod_one]
theorem Mk_intro {H : Heap} {t bytes : Nat} {v : Value} (hv : v.cells = #[v]) {n : Nat} (h1 : n ≤ maxLen) (h2 : bytes * n ≤ 281474976710656) {R : Value → Heap → Prop}
    (h : ∀ H', Own H' t 1 (.slice (some ⟨H.size, 0, none⟩) n n) n (List.replicate n v) (some H.size) → Fr [] H H' → H'.size = H.size + 1 → R (.slice (some ⟨H.size, 0, none⟩) n n) H') : Mk H t 1 v n n bytes R := by
  unfold maxLen at h1
  refine ⟨by omega, by omega, by omega, ?_, ?_⟩
  · have : ((bytes * n : Nat) : Int) = (bytes : Int) * (n : Int) := Int.natCast_mul _ _
    omega
  · rw [Int.toNat_natCast, Nat.mul_one, made1 v hv]
    exact h _ (Own.of_blk (by unfold Blk; simp) (by simp) h1) (fr_push _ _ _) (by simp)
theorem sum_law {l : Bs} {H : Heap} {a : Option Addr} {c : Nat} (h : BsR H a l) (hc : l.length ≤ c) (hm : c ≤ maxLen) : HCalls Tryz.prog 3 #[.slice a l.length c] H fun v H' => v = .bool true ∧ Fr [] H H' := by
  refine calls_of_vc (args := [_]) Tryz.func3 c3ok (Nat.le_of_ble_eq_true rfl) ?_
  by_cases h4 : 400 < l.length
  · have h4' : (400 : Int) < (l.length : Int) := by omega
    simp (implicitDefEqProofs := false) only [go_sem, c3, h4']
    refine (awake_ok H).mono ?_
    rintro v H1 ⟨rfl, hf⟩
    simp (implicitDefEqProofs := false) only [go_sem]
    exact hf
  have h4' : ¬ (400 : Int) < (l.length : Int) := by omega
  simp (implicitDefEqProofs := false) only [go_sem, c3, h4']
  refine (sum_ok h (by omega)).mono ?_
  rintro v H1 ⟨rfl, rfl⟩
  simp (implicitDefEqProofs := false) only [go_sem]
  refine (awake_ok H1).mono ?_
  rintro v H2 ⟨rfl, hf2⟩
  simp (implicitDefEqProofs := false) only [go_sem]
  refine (fsum_ok (h.ext hf2) (by omega)).mono ?_
  rintro v H3 ⟨rfl, rfl⟩
  have he : crc (sealB l) = crc [0, 0, 0, 0] := crc_sealed l
  have hz : List.replicate 4 (Value.int .u8 0) = ([0, 0, 0, 0] : Bs).map bv := rfl
  simp (implicitDefEqProofs := false) only [go_sem, wv]
  refine ⟨?_, ?_⟩
  · refine (sealed_ok (h.ext hf2) (by omega)).mono ?_
    rintro v H4 ⟨a4, c4, g4, rfl, ho4, hg4, hf4⟩
    simp (implicitDefEqProofs := false) only [go_sem]
    refine ⟨?_, ?_⟩
    · refine (sum_ok ho4.bsR (by rw [sealB_len]; omega)).mono ?_
      rintro v H5 ⟨rfl, rfl⟩
      simp (implicitDefEqProofs := false) only [go_sem]
      refine Mk_intro (n := 4) rfl (by decide) (by decide) fun H6 ho6 hf6 hs6 => ?_
      rw [hz] at ho6
      have hs := sum_ok (c := 4) (l := [0, 0, 0, 0]) (Own.bsR (l := [0, 0, 0, 0]) ho6) (by decide)
      simp (implicitDefEqProofs := false) only [go_sem]
      refine hs.mono ?_
      rintro v H7 ⟨rfl, rfl⟩
      simp (implicitDefEqProofs := false) only [go_sem, wv, he]
      exact (hf2.trans hf4).trans hf6
    · refine Mk_intro (n := 4) rfl (by decide) (by decide) fun H6 ho6 hf6 hs6 => ?_
      rw [hz] at ho6
      have hs := sum_ok (c := 4) (l := [0, 0, 0, 0]) (Own.bsR (l := [0, 0, 0, 0]) ho6) (by decide)
      simp (implicitDefEqProofs := false) only [go_sem]
      refine (sum_ok (ho4.bsR.ext hf6) (by rw [sealB_len]; omega)).mono ?_
      rintro v H5 ⟨rfl, rfl⟩
      simp (implicitDefEqProofs := false) only [go_sem]
      refine hs.mono ?_
      rintro v H7 ⟨rfl, rfl⟩
      simp (implicitDefEqProofs := false) only [go_sem, wv, he]
      exact (hf2.trans hf4).trans hf6
  · refine Mk_intro (n := 4) rfl (by decide) (by decide) fun H6 ho6 hf6 hs6 => ?_
    rw [hz] at ho6
    simp (implicitDefEqProofs := false) only [go_sem]
    refine (sealed_ok ((h.ext hf2).ext hf6) (by omega)).mono ?_
    rintro v H4 ⟨a4, c4, g4, rfl, ho4, hg4, hf4⟩
    simp (implicitDefEqProofs := false) only [go_sem]
    refine (sum_ok ho4.bsR (by rw [sealB_len]; omega)).mono ?_
    rintro v H5 ⟨rfl, rfl⟩
    have hs := sum_ok (c := 4) (l := [0, 0, 0, 0]) ((Own.bsR (l := [0, 0, 0, 0]) ho6).ext hf4) (by decide)
    simp (implicitDefEqProofs := false) only [go_sem]
    refine hs.mono ?_
    rintro v H7 ⟨rfl, rfl⟩
    simp (implicitDefEqProofs := false) only [go_sem, wv, he]
    exact (hf2.trans hf6).trans hf4

def xor3n (a b c : Bs) (n : Nat) : Bs := xor3 (a.take n) (b.take n) (c.take n)
theorem xor3_succ : ∀ (n : Nat) (a b c : Bs) (h1 : n < a.length) (h2 : n < b.length) (h3 : n < c.length), xor3n a b c (n + 1) = xor3n a b c n ++ [a[n] ^^^ b[n] ^^^ c[n]]
  | 0, a :: xa, b :: xb, c :: xc, _, _, _ => by simp [xor3n, xor3]
  | n + 1, a :: xa, b :: xb, c :: xc, h1, h2, h3 => by
    have := xor3_succ n xa xb xc (by simpa using h1) (by simpa using h2) (by simpa using h3)
    simp only [xor3n, List.take_succ_cons, xor3, List.cons_append, List.getElem_cons_succ] at this ⊢
    rw [this]
  | _, [], _, _, h, _, _ => by simp at h
  | _, _ :: _, [], _, _, h, _ => by simp at h
  | _, _ :: _, _ :: _, [], _, _, h => by simp at h
theorem xor3_len (n : Nat) (a b c : Bs) (h1 : n ≤ a.length) (h2 : n ≤ b.length) (h3 : n ≤ c.length) : (xor3n a b c n).length = n := by
  induction n with
  | zero => simp [xor3n, xor3]
  | succ n ih =>
    rw [xor3_succ n a b c (by omega) (by omega) (by omega), List.length_append, ih (by omega) (by omega) (by omega)]; rfl
theorem xor_u8 (x y : UInt8) : bits .xor .u8 (x.toNat : Int) (y.toNat : Int) = ((x ^^^ y).toNat : Int) := by
  have hx : (BitVec.ofInt 8 (x.toNat : Int)).toNat = x.toNat := by rw [BitVec.toNat_ofInt]; have := x.toNat_lt; omega
  have hy : (BitVec.ofInt 8 (y.toNat : Int)).toNat = y.toNat := by rw [BitVec.toNat_ofInt]; have := y.toNat_lt; omega
  show IntKind.u8.wrap ((BitVec.ofInt 8 (x.toNat : Int) ^^^ BitVec.ofInt 8 (y.toNat : Int)).toNat : Int) = _
  rw [BitVec.toNat_xor, hx, hy, ← UInt8.toNat_xor, wrap_u8_id _ (by omega) (by have := (x ^^^ y).toNat_lt; omega)]
theorem bs_cell {H : Heap} {a : Option Addr} {l : Bs} (h : BsR H a l) {i : Nat} (hi : i < l.length) : ∃ b o, a = some ⟨b, o, none⟩ ∧ cellB H b (o + i) = some (bv l[i]) := by
  rcases h with h | ⟨b, o, h1, h2⟩
  · subst h; simp at hi
  · exact ⟨b, o, h1, h2 i hi⟩
set_option maxHeartbeats 4000000 in
theorem linear_law {x y z : Bs} {H : Heap} {a b d : Option Addr} {ca cb cd : Nat} (hx : BsR H a x) (hy : BsR H b y) (hz : BsR H d z) (hxc : x.length ≤ ca) (hyc : y.length ≤ cb) (hzc : z.length ≤ cd) (hxm : ca ≤ maxLen) (hym : cb ≤ maxLen) (hzm : cd ≤ maxLen) :
    HCalls Tryz.prog 10 #[.slice a x.length ca, .slice b y.length cb, .slice d z.length cd] H fun v H' => v = .bool true ∧ Fr [] H H' := by
  refine calls_of_vc (args := [_, _, _]) Tryz.func10 c10ok (Nat.le_of_ble_eq_true rfl) ?_
  obtain ⟨n, hn1, hn2, hn3, hn⟩ : ∃ n, n ≤ x.length ∧ n ≤ y.length ∧ n ≤ z.length ∧ n = min (min x.length y.length) z.length := ⟨_, by omega, by omega, by omega, rfl⟩
  have hrest : ∀ K : Slots → Heap → Prop, True := fun _ => trivial
  have main : ∀ (σ7 : Int), σ7 = (n : Int) → True := fun _ _ => trivial
  by_cases q1 : y.length < x.length
  · have q1' : (y.length : Int) < (x.length : Int) := by omega
    by_cases q2 : z.length < y.length
    · have q2' : (z.length : Int) < (y.length : Int) := by omega
      have hnz : z.length = n := by omega
      have hnz2 : ((z.length : Nat) : Int) = ((n : Nat) : Int) := by omega
      have q1n := q1'
      have q2n := q2'
      try rw [hnz2] at q1n
      try rw [hnz2] at q2n
      by_cases h4 : 400 < n
      · have h4' : (400 : Int) < (n : Int) := by omega
        simp (implicitDefEqProofs := false) only [go_sem, c10, q1', q2', q1n, q2n, hnz2, h4']
        refine (awake_ok H).mono ?_
        rintro v H1 ⟨rfl, hf⟩
        simp (implicitDefEqProofs := false) only [go_sem]
        exact hf
      have h4' : ¬ (400 : Int) < (n : Int) := by omega
      simp (implicitDefEqProofs := false) only [go_sem, c10, q1', q2', q1n, q2n, hnz2, h4']
      refine NewS_intro fun H1 hn1' hf1 hs1 => ?_
      simp (implicitDefEqProofs := false) only [go_sem]
      refine vc_loop (fun (s : Nat × Option Addr × Nat × Option Nat) H' => s.1 ≤ n ∧ Own H' 5 1 (.slice s.2.1 s.1 s.2.2.1) s.1 ((xor3n x y z s.1).map bv) s.2.2.2 ∧ (∀ k, s.2.2.2 = some k → H.size ≤ k) ∧ Fr [] H H')
        (fun s => [(0, .slice a x.length ca), (1, .slice b y.length cb), (2, .slice d z.length cd), (7, .int .i64 n), (8, .slice s.2.1 s.1 s.2.2.1), (9, .int .i64 s.1)]) (fun s => n - s.1) (0, some ⟨H.size, 0, none⟩, 0, some H.size) ?_ ?_ ?_
      · refine ⟨Nat.zero_le _, ?_, by simp, hf1⟩
        have := Own.of_blk hn1' (e := 5) (size := 1) (n := 0) (by simp) (by decide)
        simpa [xor3n, xor3] using this
      · simp (implicitDefEqProofs := false) only [go_sem]
      · rintro ⟨i, ai, ci, gi⟩ H' ⟨hi, ho, hg, hfr⟩
        simp only at hi ho hg hfr
        rcases Nat.lt_or_ge i n with hlt | hge
        · have hi1 : (i : Int) < (n : Int) := by omega
          have hi0 : (0 : Int) ≤ (i : Int) := by omega
          have l1 : (i : Int) < (x.length : Int) := by omega
          have l2 : (i : Int) < (y.length : Int) := by omega
          have l3 : (i : Int) < (z.length : Int) := by omega
          have hw1 := succ_i64 i n hlt (by omega)
          obtain ⟨b1, o1, e1, p1⟩ := bs_cell (hx.ext hfr) (i := i) (by omega)
          obtain ⟨b2, o2, e2, p2⟩ := bs_cell (hy.ext hfr) (i := i) (by omega)
          obtain ⟨b3, o3, e3, p3⟩ := bs_cell (hz.ext hfr) (i := i) (by omega)
          rw [e1, e2, e3]
          simp (implicitDefEqProofs := false) only [go_sem, hi1, hi0, l1, l2, l3, p1, p2, p3, bv, xor_u8]
          refine NewS_intro fun H3 hn3 hf3 hs3 => ?_
          simp (implicitDefEqProofs := false) only [go_sem]
          refine App_own EB (ho.fr hf3 (by simp)) (SrcH.blk Tryz.underlying22 hn3 (by simp) (by simp [Value.oneCell'])) (by unfold maxLen; omega) (by omega) fun a4 c4 H4 g4 ho4 hf4 hg4 => ?_
          obtain ⟨hfr4, hgr4⟩ := app_fr hfr hg hf3 hf4 hg4
          simp (implicitDefEqProofs := false) only [go_sem]
          refine loopK_intro (i + 1, a4, c4, g4) (by show n - (i + 1) < n - i; omega) ?_ ⟨hlt, ?_, hgr4, hfr4⟩
          · simp (implicitDefEqProofs := false) only [go_sem, hw1]
          · have hsx := xor3_succ i x y z (by omega) (by omega) (by omega)
            rw [hsx, List.map_append]
            exact ho4
        · have hge' : ¬ (i : Int) < (n : Int) := by omega
          have hin : i = n := by omega
          subst hin
          simp (implicitDefEqProofs := false) only [go_sem, hge']
          refine (awake_ok H').mono ?_
          rintro v H2 ⟨rfl, hf2⟩
          have c1 : (i : Int) ≤ (ca : Int) := by omega
          have c2 : (i : Int) ≤ (cb : Int) := by omega
          have c3 : (i : Int) ≤ (cd : Int) := by omega
          have c0 : (0 : Int) ≤ (i : Int) := by omega
          have hF := hfr.trans hf2
          have lx : (x.take i).length = i := by rw [List.length_take]; omega
          have ly : (y.take i).length = i := by rw [List.length_take]; omega
          have lz : (z.take i).length = i := by rw [List.length_take]; omega
          have lo : (xor3n x y z i).length = i := xor3_len i x y z hn1 hn2 hn3
          have s1 := sum_ok (c := ca) ((hx.ext hF).take i) (by omega)
          have s2 := sum_ok (c := cb) ((hy.ext hF).take i) (by omega)
          have s3 := sum_ok (c := cd) ((hz.ext hF).take i) (by omega)
          rw [lx] at s1
          rw [ly] at s2
          rw [lz] at s3
          have ho' := ho.fr hf2 (by simp)
          have hbo : BsR H2 ai (xor3n x y z i) := by
            have h' := ho'
            rw [← lo] at h'
            have := Own.bsR (l := xor3n x y z i) (a := ai) (c := ci) (by rw [lo] at h' ⊢; exact h')
            exact this
          have s4 := sum_ok (c := ci) hbo (by omega)
          rw [lo] at s4
          have hxx : crc (xor3n x y z i) = crc (x.take i) ^^^ crc (y.take i) ^^^ crc (z.take i) := crc_xor3 (by omega) (by omega)
          simp (implicitDefEqProofs := false) only [go_sem, c0, c1, c2, c3]
          refine s4.mono ?_
          rintro v H3 ⟨rfl, rfl⟩
          simp (implicitDefEqProofs := false) only [go_sem]
          refine s1.mono ?_
          rintro v H4 ⟨rfl, rfl⟩
          simp (implicitDefEqProofs := false) only [go_sem]
          refine s2.mono ?_
          rintro v H5 ⟨rfl, rfl⟩
          simp (implicitDefEqProofs := false) only [go_sem, wv, xor_w]
          refine s3.mono ?_
          rintro v H6 ⟨rfl, rfl⟩
          simp (implicitDefEqProofs := false) only [go_sem, wv, xor_w, hxx]
          exact hF
    · have q2' : ¬ (z.length : Int) < (y.length : Int) := by omega
      have hnz : y.length = n := by omega
      have hnz2 : ((y.length : Nat) : Int) = ((n : Nat) : Int) := by omega
      have q1n := q1'
      have q2n := q2'
      try rw [hnz2] at q1n
      try rw [hnz2] at q2n
      by_cases h4 : 400 < n
      · have h4' : (400 : Int) < (n : Int) := by omega
        simp (implicitDefEqProofs := false) only [go_sem, c10, q1', q2', q1n, q2n, hnz2, h4']
        refine (awake_ok H).mono ?_
        rintro v H1 ⟨rfl, hf⟩
        simp (implicitDefEqProofs := false) only [go_sem]
        exact hf
      have h4' : ¬ (400 : Int) < (n : Int) := by omega
      simp (implicitDefEqProofs := false) only [go_sem, c10, q1', q2', q1n, q2n, hnz2, h4']
      refine NewS_intro fun H1 hn1' hf1 hs1 => ?_
      simp (implicitDefEqProofs := false) only [go_sem]
      refine vc_loop (fun (s : Nat × Option Addr × Nat × Option Nat) H' => s.1 ≤ n ∧ Own H' 5 1 (.slice s.2.1 s.1 s.2.2.1) s.1 ((xor3n x y z s.1).map bv) s.2.2.2 ∧ (∀ k, s.2.2.2 = some k → H.size ≤ k) ∧ Fr [] H H')
        (fun s => [(0, .slice a x.length ca), (1, .slice b y.length cb), (2, .slice d z.length cd), (7, .int .i64 n), (8, .slice s.2.1 s.1 s.2.2.1), (9, .int .i64 s.1)]) (fun s => n - s.1) (0, some ⟨H.size, 0, none⟩, 0, some H.size) ?_ ?_ ?_
      · refine ⟨Nat.zero_le _, ?_, by simp, hf1⟩
        have := Own.of_blk hn1' (e := 5) (size := 1) (n := 0) (by simp) (by decide)
        simpa [xor3n, xor3] using this
      · simp (implicitDefEqProofs := false) only [go_sem]
      · rintro ⟨i, ai, ci, gi⟩ H' ⟨hi, ho, hg, hfr⟩
        simp only at hi ho hg hfr
        rcases Nat.lt_or_ge i n with hlt | hge
        · have hi1 : (i : Int) < (n : Int) := by omega
          have hi0 : (0 : Int) ≤ (i : Int) := by omega
          have l1 : (i : Int) < (x.length : Int) := by omega
          have l2 : (i : Int) < (y.length : Int) := by omega
          have l3 : (i : Int) < (z.length : Int) := by omega
          have hw1 := succ_i64 i n hlt (by omega)
          obtain ⟨b1, o1, e1, p1⟩ := bs_cell (hx.ext hfr) (i := i) (by omega)
          obtain ⟨b2, o2, e2, p2⟩ := bs_cell (hy.ext hfr) (i := i) (by omega)
          obtain ⟨b3, o3, e3, p3⟩ := bs_cell (hz.ext hfr) (i := i) (by omega)
          rw [e1, e2, e3]
          simp (implicitDefEqProofs := false) only [go_sem, hi1, hi0, l1, l2, l3, p1, p2, p3, bv, xor_u8]
          refine NewS_intro fun H3 hn3 hf3 hs3 => ?_
          simp (implicitDefEqProofs := false) only [go_sem]
          refine App_own EB (ho.fr hf3 (by simp)) (SrcH.blk Tryz.underlying22 hn3 (by simp) (by simp [Value.oneCell'])) (by unfold maxLen; omega) (by omega) fun a4 c4 H4 g4 ho4 hf4 hg4 => ?_
          obtain ⟨hfr4, hgr4⟩ := app_fr hfr hg hf3 hf4 hg4
          simp (implicitDefEqProofs := false) only [go_sem]
          refine loopK_intro (i + 1, a4, c4, g4) (by show n - (i + 1) < n - i; omega) ?_ ⟨hlt, ?_, hgr4, hfr4⟩
          · simp (implicitDefEqProofs := false) only [go_sem, hw1]
          · have hsx := xor3_succ i x y z (by omega) (by omega) (by omega)
            rw [hsx, List.map_append]
            exact ho4
        · have hge' : ¬ (i : Int) < (n : Int) := by omega
          have hin : i = n := by omega
          subst hin
          simp (implicitDefEqProofs := false) only [go_sem, hge']
          refine (awake_ok H').mono ?_
          rintro v H2 ⟨rfl, hf2⟩
          have c1 : (i : Int) ≤ (ca : Int) := by omega
          have c2 : (i : Int) ≤ (cb : Int) := by omega
          have c3 : (i : Int) ≤ (cd : Int) := by omega
          have c0 : (0 : Int) ≤ (i : Int) := by omega
          have hF := hfr.trans hf2
          have lx : (x.take i).length = i := by rw [List.length_take]; omega
          have ly : (y.take i).length = i := by rw [List.length_take]; omega
          have lz : (z.take i).length = i := by rw [List.length_take]; omega
          have lo : (xor3n x y z i).length = i := xor3_len i x y z hn1 hn2 hn3
          have s1 := sum_ok (c := ca) ((hx.ext hF).take i) (by omega)
          have s2 := sum_ok (c := cb) ((hy.ext hF).take i) (by omega)
          have s3 := sum_ok (c := cd) ((hz.ext hF).take i) (by omega)
          rw [lx] at s1
          rw [ly] at s2
          rw [lz] at s3
          have ho' := ho.fr hf2 (by simp)
          have hbo : BsR H2 ai (xor3n x y z i) := by
            have h' := ho'
            rw [← lo] at h'
            have := Own.bsR (l := xor3n x y z i) (a := ai) (c := ci) (by rw [lo] at h' ⊢; exact h')
            exact this
          have s4 := sum_ok (c := ci) hbo (by omega)
          rw [lo] at s4
          have hxx : crc (xor3n x y z i) = crc (x.take i) ^^^ crc (y.take i) ^^^ crc (z.take i) := crc_xor3 (by omega) (by omega)
          simp (implicitDefEqProofs := false) only [go_sem, c0, c1, c2, c3]
          refine s4.mono ?_
          rintro v H3 ⟨rfl, rfl⟩
          simp (implicitDefEqProofs := false) only [go_sem]
          refine s1.mono ?_
          rintro v H4 ⟨rfl, rfl⟩
          simp (implicitDefEqProofs := false) only [go_sem]
          refine s2.mono ?_
          rintro v H5 ⟨rfl, rfl⟩
          simp (implicitDefEqProofs := false) only [go_sem, wv, xor_w]
          refine s3.mono ?_
          rintro v H6 ⟨rfl, rfl⟩
          simp (implicitDefEqProofs := false) only [go_sem, wv, xor_w, hxx]
          exact hF
  · have q1' : ¬ (y.length : Int) < (x.length : Int) := by omega
    by_cases q2 : z.length < x.length
    · have q2' : (z.length : Int) < (x.length : Int) := by omega
      have hnz : z.length = n := by omega
      have hnz2 : ((z.length : Nat) : Int) = ((n : Nat) : Int) := by omega
      have q1n := q1'
      have q2n := q2'
      try rw [hnz2] at q1n
      try rw [hnz2] at q2n
      by_cases h4 : 400 < n
      · have h4' : (400 : Int) < (n : Int) := by omega
        simp (implicitDefEqProofs := false) only [go_sem, c10, q1', q2', q1n, q2n, hnz2, h4']
        refine (awake_ok H).mono ?_
        rintro v H1 ⟨rfl, hf⟩
        simp (implicitDefEqProofs := false) only [go_sem]
        exact hf
      have h4' : ¬ (400 : Int) < (n : Int) := by omega
      simp (implicitDefEqProofs := false) only [go_sem, c10, q1', q2', q1n, q2n, hnz2, h4']
      refine NewS_intro fun H1 hn1' hf1 hs1 => ?_
      simp (implicitDefEqProofs := false) only [go_sem]
      refine vc_loop (fun (s : Nat × Option Addr × Nat × Option Nat) H' => s.1 ≤ n ∧ Own H' 5 1 (.slice s.2.1 s.1 s.2.2.1) s.1 ((xor3n x y z s.1).map bv) s.2.2.2 ∧ (∀ k, s.2.2.2 = some k → H.size ≤ k) ∧ Fr [] H H')
        (fun s => [(0, .slice a x.length ca), (1, .slice b y.length cb), (2, .slice d z.length cd), (7, .int .i64 n), (8, .slice s.2.1 s.1 s.2.2.1), (9, .int .i64 s.1)]) (fun s => n - s.1) (0, some ⟨H.size, 0, none⟩, 0, some H.size) ?_ ?_ ?_
      · refine ⟨Nat.zero_le _, ?_, by simp, hf1⟩
        have := Own.of_blk hn1' (e := 5) (size := 1) (n := 0) (by simp) (by decide)
        simpa [xor3n, xor3] using this
      · simp (implicitDefEqProofs := false) only [go_sem]
      · rintro ⟨i, ai, ci, gi⟩ H' ⟨hi, ho, hg, hfr⟩
        simp only at hi ho hg hfr
        rcases Nat.lt_or_ge i n with hlt | hge
        · have hi1 : (i : Int) < (n : Int) := by omega
          have hi0 : (0 : Int) ≤ (i : Int) := by omega
          have l1 : (i : Int) < (x.length : Int) := by omega
          have l2 : (i : Int) < (y.length : Int) := by omega
          have l3 : (i : Int) < (z.length : Int) := by omega
          have hw1 := succ_i64 i n hlt (by omega)
          obtain ⟨b1, o1, e1, p1⟩ := bs_cell (hx.ext hfr) (i := i) (by omega)
          obtain ⟨b2, o2, e2, p2⟩ := bs_cell (hy.ext hfr) (i := i) (by omega)
          obtain ⟨b3, o3, e3, p3⟩ := bs_cell (hz.ext hfr) (i := i) (by omega)
          rw [e1, e2, e3]
          simp (implicitDefEqProofs := false) only [go_sem, hi1, hi0, l1, l2, l3, p1, p2, p3, bv, xor_u8]
          refine NewS_intro fun H3 hn3 hf3 hs3 => ?_
          simp (implicitDefEqProofs := false) only [go_sem]
          refine App_own EB (ho.fr hf3 (by simp)) (SrcH.blk Tryz.underlying22 hn3 (by simp) (by simp [Value.oneCell'])) (by unfold maxLen; omega) (by omega) fun a4 c4 H4 g4 ho4 hf4 hg4 => ?_
          obtain ⟨hfr4, hgr4⟩ := app_fr hfr hg hf3 hf4 hg4
          simp (implicitDefEqProofs := false) only [go_sem]
          refine loopK_intro (i + 1, a4, c4, g4) (by show n - (i + 1) < n - i; omega) ?_ ⟨hlt, ?_, hgr4, hfr4⟩
          · simp (implicitDefEqProofs := false) only [go_sem, hw1]
          · have hsx := xor3_succ i x y z (by omega) (by omega) (by omega)
            rw [hsx, List.map_append]
            exact ho4
        · have hge' : ¬ (i : Int) < (n : Int) := by omega
          have hin : i = n := by omega
          subst hin
          simp (implicitDefEqProofs := false) only [go_sem, hge']
          refine (awake_ok H').mono ?_
          rintro v H2 ⟨rfl, hf2⟩
          have c1 : (i : Int) ≤ (ca : Int) := by omega
          have c2 : (i : Int) ≤ (cb : Int) := by omega
          have c3 : (i : Int) ≤ (cd : Int) := by omega
          have c0 : (0 : Int) ≤ (i : Int) := by omega
          have hF := hfr.trans hf2
          have lx : (x.take i).length = i := by rw [List.length_take]; omega
          have ly : (y.take i).length = i := by rw [List.length_take]; omega
          have lz : (z.take i).length = i := by rw [List.length_take]; omega
          have lo : (xor3n x y z i).length = i := xor3_len i x y z hn1 hn2 hn3
          have s1 := sum_ok (c := ca) ((hx.ext hF).take i) (by omega)
          have s2 := sum_ok (c := cb) ((hy.ext hF).take i) (by omega)
          have s3 := sum_ok (c := cd) ((hz.ext hF).take i) (by omega)
          rw [lx] at s1
          rw [ly] at s2
          rw [lz] at s3
          have ho' := ho.fr hf2 (by simp)
          have hbo : BsR H2 ai (xor3n x y z i) := by
            have h' := ho'
            rw [← lo] at h'
            have := Own.bsR (l := xor3n x y z i) (a := ai) (c := ci) (by rw [lo] at h' ⊢; exact h')
            exact this
          have s4 := sum_ok (c := ci) hbo (by omega)
          rw [lo] at s4
          have hxx : crc (xor3n x y z i) = crc (x.take i) ^^^ crc (y.take i) ^^^ crc (z.take i) := crc_xor3 (by omega) (by omega)
          simp (implicitDefEqProofs := false) only [go_sem, c0, c1, c2, c3]
          refine s4.mono ?_
          rintro v H3 ⟨rfl, rfl⟩
          simp (implicitDefEqProofs := false) only [go_sem]
          refine s1.mono ?_
          rintro v H4 ⟨rfl, rfl⟩
          simp (implicitDefEqProofs := false) only [go_sem]
          refine s2.mono ?_
          rintro v H5 ⟨rfl, rfl⟩
          simp (implicitDefEqProofs := false) only [go_sem, wv, xor_w]
          refine s3.mono ?_
          rintro v H6 ⟨rfl, rfl⟩
          simp (implicitDefEqProofs := false) only [go_sem, wv, xor_w, hxx]
          exact hF
    · have q2' : ¬ (z.length : Int) < (x.length : Int) := by omega
      have hnz : x.length = n := by omega
      have hnz2 : ((x.length : Nat) : Int) = ((n : Nat) : Int) := by omega
      have q1n := q1'
      have q2n := q2'
      try rw [hnz2] at q1n
      try rw [hnz2] at q2n
      by_cases h4 : 400 < n
      · have h4' : (400 : Int) < (n : Int) := by omega
        simp (implicitDefEqProofs := false) only [go_sem, c10, q1', q2', q1n, q2n, hnz2, h4']
        refine (awake_ok H).mono ?_
        rintro v H1 ⟨rfl, hf⟩
        simp (implicitDefEqProofs := false) only [go_sem]
        exact hf
      have h4' : ¬ (400 : Int) < (n : Int) := by omega
      simp (implicitDefEqProofs := false) only [go_sem, c10, q1', q2', q1n, q2n, hnz2, h4']
      refine NewS_intro fun H1 hn1' hf1 hs1 => ?_
      simp (implicitDefEqProofs := false) only [go_sem]
      refine vc_loop (fun (s : Nat × Option Addr × Nat × Option Nat) H' => s.1 ≤ n ∧ Own H' 5 1 (.slice s.2.1 s.1 s.2.2.1) s.1 ((xor3n x y z s.1).map bv) s.2.2.2 ∧ (∀ k, s.2.2.2 = some k → H.size ≤ k) ∧ Fr [] H H')
        (fun s => [(0, .slice a x.length ca), (1, .slice b y.length cb), (2, .slice d z.length cd), (7, .int .i64 n), (8, .slice s.2.1 s.1 s.2.2.1), (9, .int .i64 s.1)]) (fun s => n - s.1) (0, some ⟨H.size, 0, none⟩, 0, some H.size) ?_ ?_ ?_
      · refine ⟨Nat.zero_le _, ?_, by simp, hf1⟩
        have := Own.of_blk hn1' (e := 5) (size := 1) (n := 0) (by simp) (by decide)
        simpa [xor3n, xor3] using this
      · simp (implicitDefEqProofs := false) only [go_sem]
      · rintro ⟨i, ai, ci, gi⟩ H' ⟨hi, ho, hg, hfr⟩
        simp only at hi ho hg hfr
        rcases Nat.lt_or_ge i n with hlt | hge
        · have hi1 : (i : Int) < (n : Int) := by omega
          have hi0 : (0 : Int) ≤ (i : Int) := by omega
          have l1 : (i : Int) < (x.length : Int) := by omega
          have l2 : (i : Int) < (y.length : Int) := by omega
          have l3 : (i : Int) < (z.length : Int) := by omega
          have hw1 := succ_i64 i n hlt (by omega)
          obtain ⟨b1, o1, e1, p1⟩ := bs_cell (hx.ext hfr) (i := i) (by omega)
          obtain ⟨b2, o2, e2, p2⟩ := bs_cell (hy.ext hfr) (i := i) (by omega)
          obtain ⟨b3, o3, e3, p3⟩ := bs_cell (hz.ext hfr) (i := i) (by omega)
          rw [e1, e2, e3]
          simp (implicitDefEqProofs := false) only [go_sem, hi1, hi0, l1, l2, l3, p1, p2, p3, bv, xor_u8]
          refine NewS_intro fun H3 hn3 hf3 hs3 => ?_
          simp (implicitDefEqProofs := false) only [go_sem]
          refine App_own EB (ho.fr hf3 (by simp)) (SrcH.blk Tryz.underlying22 hn3 (by simp) (by simp [Value.oneCell'])) (by unfold maxLen; omega) (by omega) fun a4 c4 H4 g4 ho4 hf4 hg4 => ?_
          obtain ⟨hfr4, hgr4⟩ := app_fr hfr hg hf3 hf4 hg4
          simp (implicitDefEqProofs := false) only [go_sem]
          refine loopK_intro (i + 1, a4, c4, g4) (by show n - (i + 1) < n - i; omega) ?_ ⟨hlt, ?_, hgr4, hfr4⟩
          · simp (implicitDefEqProofs := false) only [go_sem, hw1]
          · have hsx := xor3_succ i x y z (by omega) (by omega) (by omega)
            rw [hsx, List.map_append]
            exact ho4
        · have hge' : ¬ (i : Int) < (n : Int) := by omega
          have hin : i = n := by omega
          subst hin
          simp (implicitDefEqProofs := false) only [go_sem, hge']
          refine (awake_ok H').mono ?_
          rintro v H2 ⟨rfl, hf2⟩
          have c1 : (i : Int) ≤ (ca : Int) := by omega
          have c2 : (i : Int) ≤ (cb : Int) := by omega
          have c3 : (i : Int) ≤ (cd : Int) := by omega
          have c0 : (0 : Int) ≤ (i : Int) := by omega
          have hF := hfr.trans hf2
          have lx : (x.take i).length = i := by rw [List.length_take]; omega
          have ly : (y.take i).length = i := by rw [List.length_take]; omega
          have lz : (z.take i).length = i := by rw [List.length_take]; omega
          have lo : (xor3n x y z i).length = i := xor3_len i x y z hn1 hn2 hn3
          have s1 := sum_ok (c := ca) ((hx.ext hF).take i) (by omega)
          have s2 := sum_ok (c := cb) ((hy.ext hF).take i) (by omega)
          have s3 := sum_ok (c := cd) ((hz.ext hF).take i) (by omega)
          rw [lx] at s1
          rw [ly] at s2
          rw [lz] at s3
          have ho' := ho.fr hf2 (by simp)
          have hbo : BsR H2 ai (xor3n x y z i) := by
            have h' := ho'
            rw [← lo] at h'
            have := Own.bsR (l := xor3n x y z i) (a := ai) (c := ci) (by rw [lo] at h' ⊢; exact h')
            exact this
          have s4 := sum_ok (c := ci) hbo (by omega)
          rw [lo] at s4
          have hxx : crc (xor3n x y z i) = crc (x.take i) ^^^ crc (y.take i) ^^^ crc (z.take i) := crc_xor3 (by omega) (by omega)
          simp (implicitDefEqProofs := false) only [go_sem, c0, c1, c2, c3]
          refine s4.mono ?_
          rintro v H3 ⟨rfl, rfl⟩
          simp (implicitDefEqProofs := false) only [go_sem]
          refine s1.mono ?_
          rintro v H4 ⟨rfl, rfl⟩
          simp (implicitDefEqProofs := false) only [go_sem]
          refine s2.mono ?_
          rintro v H5 ⟨rfl, rfl⟩
          simp (implicitDefEqProofs := false) only [go_sem, wv, xor_w]
          refine s3.mono ?_
          rintro v H6 ⟨rfl, rfl⟩
          simp (implicitDefEqProofs := false) only [go_sem, wv, xor_w, hxx]
          exact hF
end Go.Proofs.YtdhlibkdcldioaaGreat
