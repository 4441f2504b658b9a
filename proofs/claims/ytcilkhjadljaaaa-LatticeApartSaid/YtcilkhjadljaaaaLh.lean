/- The encoding of a tree; the decoding of one level's bytes. -/
import Derived.Test.YtcilkhjadljaaaaLg
import Derived.Test.YtcilkhjadljaaaaRd
import Derived.Test.YtcilkhjadljaaaaLf
set_option linter.unusedSimpArgs false
set_option linter.unusedVariables false
set_option maxRecDepth 8000
namespace Go.Proofs.Ytcilkhjadljaaaa
open Gx Go

theorem encode_ok {t : Lt} {H : Heap} {cs : List Value} (ha : LtA H [] t cs) (hok : okT t) (hl : (encT t).length < 2^37) : HCalls Try.prog 25 #[.agg cs.toArray] H fun r H' =>
    ∃ a c g', r = .slice a (encT t).length c ∧ Own H' 5 1 r (encT t).length ((encT t).map bv) g' ∧ (∀ k, g' = some k → H.size ≤ k) ∧ Fr [] H H' := by
  obtain ⟨vn, vp, vr, rfl, h3, h4, h5⟩ := LtA.open ha
  refine calls_of_vc (args := [_]) Try.func25 c25ok (Nat.le_of_ble_eq_true rfl) ?_
  simp (implicitDefEqProofs := false) only [go_sem, c25]
  refine NewP_intro fun H1 hn1 hf1 hs1 => ?_
  simp (implicitDefEqProofs := false) only [go_sem]
  refine NewP_intro fun H2 hn2 hf2 hs2 => ?_
  have hF2 := hf1.trans hf2
  have hc1 := (hn1.ext hf2).cell
  have hwr : Wr H2 H1.size [] none := ⟨none, 0, hn2, Own.nil _ _ _⟩
  have hm : LtA H2 (H1.size :: (none : Option Nat).toList) t [.int .i64 t.kind, .int .i64 t.lo, .int .i64 t.hi, vn, vp, vr] :=
    Rep.ext (Rep.stay (ha.ext hf1) (Stays.more (M' := [H1.size]) (by simp))) hf2
  simp (implicitDefEqProofs := false) only [go_sem, hc1]
  refine (write_ok t hok hwr hm (by simpa using (by omega : (encT t).length < 2^38))).mono ?_
  rintro r H3 ⟨rfl, g3, w3⟩
  have hF3 : Fr [] H H3 := hF2.trans' w3.2.1 (by simp; omega)
  simp (implicitDefEqProofs := false) only [go_sem]
  refine (data_ok w3.1 (by simp only [List.nil_append]; omega)).mono ?_
  rintro r H4 ⟨a, c, g', rfl, ho, hg', hf4⟩
  simp only [List.nil_append] at ho ⊢
  simp (implicitDefEqProofs := false) only [go_sem]
  exact ⟨a, c, g', rfl, ho, fun k hk => Nat.le_trans hF3.size (hg' k hk), hF3.trans hf4⟩

theorem nilA (H : Heap) (M : List Nat) (m : Nat) : Rep H M (.list m []) [.slice none 0 0] := by
  simp only [Rep, Reps]
  exact ⟨none, 0, [], rfl, Nat.le_refl _, Nat.zero_le _, rfl, by simp, .inl rfl⟩
theorem bareA (H : Heap) (M : List Nat) (k lo hi : Int) : LtA H M (.mk k lo hi [] [] []) [.int .i64 k, .int .i64 lo, .int .i64 hi, .slice none 0 0, .slice none 0 0, .slice none 0 0] :=
  LtA.mk (l := .mk k lo hi [] [] []) (nilA H M 1) (nilA H M 6) (nilA H M 2)

end Go.Proofs.Ytcilkhjadljaaaa
