/- The Writer of package wire: contracts. -/
import Derived.Test.YtdhlibkdcldioaaGreatCode
import Derived.Test.YtdhlibkdcldioaaGreatGx17
set_option linter.unusedSimpArgs false
set_option linter.unusedVariables false
namespace Go.Proofs.YtdhlibkdcldioaaGreat
open Gx Go

/-- A number in groups of seven bits; the first argument is fuel. -/
def encF : Nat → Nat → List UInt8
  | 0, _ => []
  | f+1, n => if n < 128 then [UInt8.ofNat n] else UInt8.ofNat (n % 128 + 128) :: encF f (n / 128)
def enc (n : Nat) : List UInt8 := encF 10 n

theorem length_encF : ∀ f n, (encF f n).length ≤ f
  | 0, _ => by simp [encF]
  | f+1, n => by
    simp only [encF]; split
    · simp
    · have := length_encF f (n / 128); simp; omega
theorem length_enc (n : Nat) : (enc n).length ≤ 10 := length_encF 10 n

/-- A Writer at a block, which holds these bytes. -/
def Wr (H : Heap) (b : Nat) (l : List UInt8) (g : Option Nat) : Prop := ∃ a c, Blk H b 132 [.slice a l.length c] ∧ Own H 5 1 (.slice a l.length c) l.length (l.map bv) g
def WrStep (H : Heap) (b : Nat) (g : Option Nat) (H' : Heap) (l' : List UInt8) (g' : Option Nat) : Prop :=
  Wr H' b l' g' ∧ Fr (b :: g.toList) H H' ∧ (∀ k, g' = some k → g = some k ∨ H.size ≤ k)

theorem WrStep.trans {H H1 H2 : Heap} {b : Nat} {g g1 g2 : Option Nat} {l1 l2 : List UInt8} (h1 : WrStep H b g H1 l1 g1) (h2 : WrStep H1 b g1 H2 l2 g2) : WrStep H b g H2 l2 g2 := by
  refine ⟨h2.1, h1.2.1.trans' h2.2.1 ?_, fun k hk => ?_⟩
  · intro k hk
    rcases List.mem_cons.1 hk with rfl | hk
    · exact .inl (by simp)
    · rcases h1.2.2 k (by simpa using hk) with h | h
      · exact .inl (by simp [h])
      · exact .inr h
  · rcases h2.2.2 k hk with h | h
    · exact h1.2.2 k h
    · exact .inr (Nat.le_trans h1.2.1.size h)

theorem Wr.fr {M : List Nat} {H H' : Heap} {b : Nat} {l : List UInt8} {g : Option Nat} (h : Wr H b l g) (hf : Fr M H H') (hb : b ∉ M) (hg : ∀ k, g = some k → k ∉ M) : Wr H' b l g := by
  obtain ⟨a, c, h1, h2⟩ := h
  exact ⟨a, c, h1.fr hf hb, h2.fr hf hg⟩
theorem Wr.lt {H : Heap} {b : Nat} {l : List UInt8} {g : Option Nat} (h : Wr H b l g) : b < H.size := by
  obtain ⟨a, c, h1, h2⟩ := h; exact h1.lt

theorem EB : ElemOk Tryz.prog 22 5 1 1 (.int .u8 0) := ⟨Tryz.underlying22, by kernel_rfl, rfl, by decide⟩

theorem wrap_u8_lt (m : Nat) (h : m < 128) : IntKind.u8.wrap ↑m = ((UInt8.ofNat m).toNat : Int) := by
  rw [wrap_u8_id _ (by omega) (by omega), u8_of m (by omega)]
theorem or128 : ∀ x : Fin 256, bits .or .u8 (x.val : Int) 128 = ((x.val % 128 + 128 : Nat) : Int) := by decide +kernel
theorem wrap_u8_or (m : Nat) : bits .or .u8 (IntKind.u8.wrap ↑m) 128 = ((UInt8.ofNat (m % 128 + 128)).toNat : Int) := by
  have e : IntKind.u8.wrap (m : Int) = ((m % 256 : Nat) : Int) := by rw [IntKind.wrap_u8]; omega
  have e3 := or128 ⟨m % 256, Nat.mod_lt _ (by decide)⟩
  simp only at e3
  rw [e, e3, u8_of _ (by omega)]
  omega

/-- Some bytes more: behind an append and the store of the slice. -/
theorem WrStep.app {H H1 H2 H3 : Heap} {b : Nat} {g g' g2 : Option Nat} {l x : List UInt8} {a : Option Addr} {c : Nat} (hfr : Fr (b :: g.toList) H H1) (hg : ∀ k, g' = some k → g = some k ∨ H.size ≤ k)
    (hf2 : Fr g'.toList H1 H2) (hg2 : ∀ k, g2 = some k → g' = some k ∨ H1.size ≤ k) (ho : Own H2 5 1 (.slice a (l.length + x.length) c) (l.length + x.length) (l.map bv ++ x.map bv) g2)
    (hb : Blk H3 b 132 [.slice a (l.length + x.length) c]) (hf3 : Fr [b] H2 H3) (hne : b ∉ g2.toList) : WrStep H b g H3 (l ++ x) g2 := by
  refine ⟨⟨a, c, by simpa using hb, ?_⟩, ?_, ?_⟩
  · have := ho.fr hf3 (fun k hk => by simp; rintro rfl; exact hne (by simp [hk]))
    simpa using this
  · refine (hfr.trans' hf2 ?_).trans' hf3 (by simp)
    intro k hk
    rcases hg k (by simpa using hk) with h | h
    · left; simp [h]
    · exact .inr h
  · intro k hk
    rcases hg2 k hk with h | h
    · exact hg k h
    · exact .inr (Nat.le_trans hfr.size h)

theorem uint_ok (n : Nat) (hn : n < 2^64) {H : Heap} {b : Nat} {l : List UInt8} {g : Option Nat} (h : Wr H b l g) (hl : l.length < 2^40) :
    HCalls Tryz.prog 77 #[.pointer (some ⟨b, 0, none⟩), .int .u64 n] H fun v H' => v = .tuple #[] ∧ ∃ g', WrStep H b g H' (l ++ enc n) g' := by
  refine calls_of_vc (args := [_, _]) Tryz.func77 c77ok (Nat.le_of_ble_eq_true rfl) ?_
  simp (implicitDefEqProofs := false) only [go_sem, c77]
  refine vc_loop (fun ((m, f, p, g') : Nat × Nat × List UInt8 × Option Nat) H' => m < 2^64 ∧ m < 128^f ∧ 1 ≤ f ∧ p.length + f ≤ 10 ∧ p ++ encF f m = encF 10 n ∧ WrStep H b g H' (l ++ p) g')
    (fun (m, _, _, _) => [(0, .pointer (some ⟨b, 0, none⟩)), (1, .int .u64 m)]) (fun (m, _, _, _) => m) (n, 10, [], g) ?_ ?_ ?_
  · refine ⟨hn, Nat.lt_of_lt_of_le hn (by decide), by decide, by simp, by simp, ?_⟩
    exact ⟨by simpa using h, Fr.refl _ _, fun k hk => .inl hk⟩
  · simp (implicitDefEqProofs := false) only [go_sem]
  · rintro ⟨m, f, p, g'⟩ H' ⟨h1, h2, h3, h4, h5, ⟨a, c, hb, ho⟩, hfr, hg⟩
    have hc := hb.cell
    have hlen : (l ++ p).length < 2^41 := by simp; omega
    simp (implicitDefEqProofs := false) only [go_sem, hc]
    refine ⟨fun ht => ?_, fun ht => ?_⟩
    · refine NewS_intro fun H1 hn1 hf1 hs1 => ?_
      have hb1 := hb.ext hf1
      have hc1 := hb1.cell
      simp (implicitDefEqProofs := false) only [go_sem, hc1]
      rw [wrap_u8_or] at hn1
      refine App_own EB (ho.fr hf1 (by simp)) (SrcH.blk Tryz.underlying22 hn1 (by simp) (by simp [Value.oneCell'])) (by unfold maxLen; omega) (by omega) fun a2 c2 H2 g2 ho2 hf2 hg2 => ?_
      have hb2 := hb1.fr hf2 (ho.ne hb (by decide))
      simp (implicitDefEqProofs := false) only [go_sem]
      refine Sto_one hb2 (by simp) rfl fun H3 hb3 hf3 hs3 => ?_
      have hm : 128 ≤ m := by omega
      have hf : f = (f - 1) + 1 := by omega
      have hst := WrStep.app (l := l ++ p) (x := [UInt8.ofNat (m % 128 + 128)]) (hfr.trans' hf1 (by simp)) hg hf2 hg2 ho2 hb3 hf3 (ho2.ne hb2 (by decide))
      simp (implicitDefEqProofs := false) only [go_sem]
      refine loopK_intro (m / 128, f - 1, p ++ [UInt8.ofNat (m % 128 + 128)], g2) (by show m / 128 < m; omega) ?_ ?_
      · simp (implicitDefEqProofs := false) only [go_sem]
        rw [show shrI .u64 (m : Int) 7 = ((m / 128 : Nat) : Int) from shrI_nat m 7 (by decide)]
      · refine ⟨by show m / 128 < _; omega, ?_, ?_, ?_, ?_, by simpa using hst⟩
        · show m / 128 < 128 ^ (f - 1)
          rw [hf, Nat.pow_succ] at h2; omega
        · show 1 ≤ f - 1
          rcases Nat.lt_or_ge 1 f with h | h
          · omega
          · have : f = 1 := by omega
            rw [this] at h2; omega
        · simp; omega
        · show (p ++ [UInt8.ofNat (m % 128 + 128)]) ++ encF (f - 1) (m / 128) = _
          rw [← h5, hf]
          simp [encF, show ¬ m < 128 by omega]
    · refine NewS_intro fun H1 hn1 hf1 hs1 => ?_
      have hb1 := hb.ext hf1
      have hc1 := hb1.cell
      simp (implicitDefEqProofs := false) only [go_sem, hc1]
      rw [wrap_u8_lt m (by omega)] at hn1
      refine App_own EB (ho.fr hf1 (by simp)) (SrcH.blk Tryz.underlying22 hn1 (by simp) (by simp [Value.oneCell'])) (by unfold maxLen; omega) (by omega) fun a2 c2 H2 g2 ho2 hf2 hg2 => ?_
      have hb2 := hb1.fr hf2 (ho.ne hb (by decide))
      simp (implicitDefEqProofs := false) only [go_sem]
      refine Sto_one hb2 (by simp) rfl fun H3 hb3 hf3 hs3 => ?_
      simp (implicitDefEqProofs := false) only [go_sem]
      refine ⟨g2, ?_⟩
      have hst := WrStep.app (l := l ++ p) (x := [UInt8.ofNat m]) (hfr.trans' hf1 (by simp)) hg hf2 hg2 ho2 hb3 hf3 (ho2.ne hb2 (by decide))
      have hf : f = (f - 1) + 1 := by omega
      rw [enc, ← h5, hf]
      simpa [encF, show m < 128 by omega] using hst

theorem bool_ok (x : Bool) {H : Heap} {b : Nat} {l : List UInt8} {g : Option Nat} (h : Wr H b l g) (hl : l.length < 2^40) :
    HCalls Tryz.prog 129 #[.pointer (some ⟨b, 0, none⟩), .bool x] H fun v H' => v = .tuple #[] ∧ ∃ g', WrStep H b g H' (l ++ [if x then 1 else 0]) g' := by
  obtain ⟨a, c, hb, ho⟩ := h
  have hc := hb.cell
  refine calls_of_vc (args := [_, _]) Tryz.func129 c129ok (Nat.le_of_ble_eq_true rfl) ?_
  cases x
  all_goals
    simp (implicitDefEqProofs := false) only [go_sem, c129, hc]
    refine NewS_intro fun H1 hn1 hf1 hs1 => ?_
    have hb1 := hb.ext hf1
    have hc1 := hb1.cell
    simp (implicitDefEqProofs := false) only [go_sem, hc1]
    refine App_own EB (ho.fr hf1 (by simp)) (SrcH.blk Tryz.underlying22 hn1 (by simp) (by simp [Value.oneCell'])) (by unfold maxLen; omega) (by omega) fun a2 c2 H2 g2 ho2 hf2 hg2 => ?_
    have hb2 := hb1.fr hf2 (ho.ne hb (by decide))
    simp (implicitDefEqProofs := false) only [go_sem]
    refine Sto_one hb2 (by simp) rfl fun H3 hb3 hf3 hs3 => ?_
    simp (implicitDefEqProofs := false) only [go_sem]
  · exact ⟨g2, WrStep.app (x := [0]) (hf1.mono (by simp)) (fun k hk => .inl hk) hf2 hg2 ho2 hb3 hf3 (ho2.ne hb2 (by decide))⟩
  · exact ⟨g2, WrStep.app (x := [1]) (hf1.mono (by simp)) (fun k hk => .inl hk) hf2 hg2 ho2 hb3 hf3 (ho2.ne hb2 (by decide))⟩

theorem bytes_ok (x : List UInt8) {ax : Option Addr} {cx : Nat} {H : Heap} {b : Nat} {l : List UInt8} {g : Option Nat} (h : Wr H b l g) (hl : l.length + x.length < 2^39) (hx : BsR H ax x)
    (hxb : x ≠ [] → ∀ k o, ax = some ⟨k, o, none⟩ → k ≠ b ∧ g ≠ some k) :
    HCalls Tryz.prog 124 #[.pointer (some ⟨b, 0, none⟩), .slice ax x.length cx] H fun v H' => v = .tuple #[] ∧ ∃ g', WrStep H b g H' (l ++ (enc x.length ++ x)) g' := by
  refine calls_of_vc (args := [_, _]) Tryz.func124 c124ok (Nat.le_of_ble_eq_true rfl) ?_
  simp (implicitDefEqProofs := false) only [go_sem, c124]
  rw [wrap_u64_id _ (by omega) (by omega)]
  refine (uint_ok x.length (by omega) h (by omega)).mono ?_
  rintro v H1 ⟨rfl, g1, ⟨a, c, hb, ho⟩, hf1, hg1⟩
  have hc := hb.cell
  have he := length_enc x.length
  have hx1 : BsR H1 ax x := by
    by_cases hx0 : x = []
    · exact .inl hx0
    · exact hx.fr hf1 fun k o hk => by
        obtain ⟨h1, h2⟩ := hxb hx0 k o hk
        simp; exact ⟨h1, h2⟩
  simp (implicitDefEqProofs := false) only [go_sem, hc]
  refine App_own EB ho (hx1.src Tryz.underlying22) (by unfold maxLen; simp; omega) (by simp; omega) fun a2 c2 H2 g2 ho2 hf2 hg2 => ?_
  have hb2 := hb.fr hf2 (ho.ne hb (by decide))
  simp (implicitDefEqProofs := false) only [go_sem]
  refine Sto_one hb2 (by simp) rfl fun H3 hb3 hf3 hs3 => ?_
  simp (implicitDefEqProofs := false) only [go_sem]
  refine ⟨g2, ?_⟩
  have := WrStep.app (l := l ++ enc x.length) (x := x) hf1 hg1 hf2 hg2 ho2 hb3 hf3 (ho2.ne hb2 (by decide))
  simpa using this

theorem text_ok (x : List UInt8) {H : Heap} {b : Nat} {l : List UInt8} {g : Option Nat} (h : Wr H b l g) (hl : l.length + x.length < 2^39) :
    HCalls Tryz.prog 93 #[.pointer (some ⟨b, 0, none⟩), .string ⟨⟨x⟩⟩] H fun v H' => v = .tuple #[] ∧ ∃ g', WrStep H b g H' (l ++ (enc x.length ++ x)) g' := by
  refine calls_of_vc (args := [_, _]) Tryz.func93 c93ok (Nat.le_of_ble_eq_true rfl) ?_
  have hsz : ByteArray.size ⟨⟨x⟩⟩ = x.length := rfl
  simp (implicitDefEqProofs := false) only [go_sem, c93, hsz]
  rw [wrap_u64_id _ (by omega) (by omega)]
  refine (uint_ok x.length (by omega) h (by omega)).mono ?_
  rintro v H1 ⟨rfl, g1, ⟨a, c, hb, ho⟩, hf1, hg1⟩
  have hc := hb.cell
  have he := length_enc x.length
  simp (implicitDefEqProofs := false) only [go_sem, hc]
  refine App_own EB ho (SrcH.str Tryz.underlying9 x) (by unfold maxLen; simp; omega) (by simp; omega) fun a2 c2 H2 g2 ho2 hf2 hg2 => ?_
  have hb2 := hb.fr hf2 (ho.ne hb (by decide))
  simp (implicitDefEqProofs := false) only [go_sem]
  refine Sto_one hb2 (by simp) rfl fun H3 hb3 hf3 hs3 => ?_
  simp (implicitDefEqProofs := false) only [go_sem]
  refine ⟨g2, ?_⟩
  have := WrStep.app (l := l ++ enc x.length) (x := x) hf1 hg1 hf2 hg2 ho2 hb3 hf3 (ho2.ne hb2 (by decide))
  simpa using this

/-- The zig and zag of a number with sign. -/
def zig (n : Int) : Nat := if 0 ≤ n then (2 * n).toNat else (-2 * n - 1).toNat

theorem zig_lt (n : Int) (h : -2^63 ≤ n) (h' : n < 2^63) : zig n < 2^64 := by unfold zig; split <;> omega

theorem xor_zero_u64 (x : Int) (h : 0 ≤ x) (h' : x < 18446744073709551616) : bits .xor .u64 x 0 = x := by
  have e : (BitVec.ofInt 64 x ^^^ BitVec.ofInt 64 0).toNat = x.toNat := by
    rw [show BitVec.ofInt 64 0 = 0#64 from rfl, BitVec.xor_zero, BitVec.toNat_ofInt]
    omega
  show IntKind.u64.wrap ((BitVec.ofInt 64 x ^^^ BitVec.ofInt 64 0).toNat : Int) = x
  rw [e, wrap_u64_id _ (by omega) (by omega)]; omega
theorem xor_ones_u64 (x : Int) (h : 0 ≤ x) (h' : x < 18446744073709551616) : bits .xor .u64 x 18446744073709551615 = 18446744073709551615 - x := by
  have e : (BitVec.ofInt 64 x ^^^ BitVec.ofInt 64 18446744073709551615).toNat = 18446744073709551615 - x.toNat := by
    rw [show BitVec.ofInt 64 18446744073709551615 = BitVec.allOnes 64 from rfl, BitVec.xor_allOnes, BitVec.toNat_not, BitVec.toNat_ofInt]
    have : (x % (2 ^ 64 : Nat)).toNat = x.toNat := by omega
    rw [this]
  show IntKind.u64.wrap ((BitVec.ofInt 64 x ^^^ BitVec.ofInt 64 18446744073709551615).toNat : Int) = _
  rw [e, wrap_u64_id _ (by omega) (by omega)]; omega

theorem zig_bits (n : Int) (h : -2^63 ≤ n) (h' : n < 2^63) : bits .xor .u64 (shlI .u64 (IntKind.u64.wrap n) 1) (IntKind.u64.wrap (shrI .i64 n 63)) = (zig n : Int) := by
  have e1 : shlI .u64 (IntKind.u64.wrap n) 1 = IntKind.u64.wrap (IntKind.u64.wrap n * 2) := shlI_eq (k := .u64) _ 1 (by decide)
  have e2 : shrI .i64 n 63 = if 0 ≤ n then 0 else -1 := by
    show n.fdiv (2 ^ 63) = _
    rw [Int.fdiv_eq_ediv_of_nonneg _ (by decide)]
    split <;> omega
  rw [e1, e2]
  unfold zig
  split
  · rw [show IntKind.u64.wrap 0 = 0 from rfl, wrap_u64_id n (by omega) (by omega), wrap_u64_id (n * 2) (by omega) (by omega), xor_zero_u64 _ (by omega) (by omega)]
    omega
  · have e3 : IntKind.u64.wrap n = n + 18446744073709551616 := by rw [IntKind.wrap_u64]; omega
    have e4 : IntKind.u64.wrap ((n + 18446744073709551616) * 2) = 2 * n + 18446744073709551616 := by rw [IntKind.wrap_u64]; omega
    rw [show IntKind.u64.wrap (-1) = 18446744073709551615 from rfl, e3, e4, xor_ones_u64 _ (by omega) (by omega)]
    omega

theorem int_ok (n : Int) (hn : -2^63 ≤ n) (hn' : n < 2^63) {H : Heap} {b : Nat} {l : List UInt8} {g : Option Nat} (h : Wr H b l g) (hl : l.length < 2^40) :
    HCalls Tryz.prog 123 #[.pointer (some ⟨b, 0, none⟩), .int .i64 n] H fun v H' => v = .tuple #[] ∧ ∃ g', WrStep H b g H' (l ++ enc (zig n)) g' := by
  refine calls_of_vc (args := [_, _]) Tryz.func123 c123ok (Nat.le_of_ble_eq_true rfl) ?_
  simp (implicitDefEqProofs := false) only [go_sem, c123]
  rw [zig_bits n hn hn']
  refine (uint_ok (zig n) (zig_lt n hn hn') h hl).mono ?_
  rintro v H1 ⟨rfl, hg⟩
  simp (implicitDefEqProofs := false) only [go_sem]
  exact hg

theorem data_ok {H : Heap} {b : Nat} {l : List UInt8} {g : Option Nat} (h : Wr H b l g) (hl : l.length < 2^40) :
    HCalls Tryz.prog 96 #[.pointer (some ⟨b, 0, none⟩)] H fun v H' => ∃ a c g', v = .slice a l.length c ∧ Own H' 5 1 v l.length (l.map bv) g' ∧ (∀ k, g' = some k → H.size ≤ k) ∧ Fr [] H H' := by
  obtain ⟨a, c, hb, ho⟩ := h
  refine calls_of_vc (args := [_]) Tryz.func96 c96ok (Nat.le_of_ble_eq_true rfl) ?_
  simp (implicitDefEqProofs := false) only [go_sem, c96]
  refine NewS_intro fun H1 hn1 hf1 hs1 => ?_
  have hb1 := hb.ext hf1
  have hc1 := hb1.cell
  simp (implicitDefEqProofs := false) only [go_sem, hc1]
  refine App_own EB (Own.of_blk hn1 (by simp) (by decide)) ((ho.bsR.ext hf1).src Tryz.underlying22) (by unfold maxLen; omega) (by omega) fun a2 c2 H2 g2 ho2 hf2 hg2 => ?_
  simp (implicitDefEqProofs := false) only [go_sem]
  refine ⟨a2, c2, g2, rfl, by simpa using ho2, ?_, hf1.trans' hf2 (by simp)⟩
  intro k hk
  rcases hg2 k hk with h | h
  · simp at h; omega
  · omega

end Go.Proofs.YtdhlibkdcldioaaGreat
