/- The encoding of a tree; the decoding of one level's bytes. -/
import Derived.Test.YtcilkhjadljaaaaLg
import Derived.Test.YtcilkhjadljaaaaRd
import Derived.Test.YtcilkhjadljaaaaLf
set_option linter.unusedSimpArgs false
set_option linter.unusedVariables false
set_option maxRecDepth 8000
namespace Go.Proofs.Ytcilkhjadljaaaa
open Gx Go

theorem encode_ok {t : Lt} {H : Heap} {cs : List Value} (ha : LtA H [] t cs) (hok : okT t) (hl : (encT t).length < 2^37) : HCalls Try.prog 25 #[.agg cs.toArray] H fun r H' =>
    ∃ a c g', r = .slice a (encT t).length c ∧ Own H' 5 1 r (encT t).length ((encT t).map bv) g' ∧ (∀ k, g' = some k → H.size ≤ k) ∧ Fr [] H H' := by
  obtain ⟨vn, vp, vr, rfl, h3, h4, h5⟩ := LtA.open ha
  refine calls_of_vc (args := [_]) Try.func25 c25ok (Nat.le_of_ble_eq_true rfl) ?_
  simp (implicitDefEqProofs := false) only [go_sem, Nat.reduceAdd, Nat.reduceSub, Nat.reduceMul, Nat.reduceEqDiff, Nat.reduceLT, Nat.reduceLeDiff, Nat.reduceBEq, ↓reduceIte, ↓Bool.false_eq_true, reduceCtorEq, Int.reduceLE, Int.reduceLT, Int.reduceEq, Int.reduceNeg, Int.reduceToNat, Int.reduceAdd, Int.reduceSub, Value.cells, Bool.false_eq_true, Int.cast_ofNat_Int, List.drop_nil, List.elem_cons, List.length_nil, List.take_nil, Option.isNone_none, Option.isSome_none, c25]
  refine NewP_intro fun H1 hn1 hf1 hs1 => ?_
  simp (implicitDefEqProofs := false) only [go_sem, Nat.reduceAdd, Nat.reduceSub, Nat.reduceMul, Nat.reduceEqDiff, Nat.reduceLT, Nat.reduceLeDiff, Nat.reduceBEq, ↓reduceIte, ↓Bool.false_eq_true, reduceCtorEq, Int.reduceLE, Int.reduceLT, Int.reduceEq, Int.reduceNeg, Int.reduceToNat, Int.reduceAdd, Int.reduceSub, Value.cells, Bool.false_eq_true, Int.cast_ofNat_Int, List.drop_nil, List.elem_cons, List.length_nil, List.take_nil, Option.isNone_none, Option.isSome_none]
  refine NewP_intro fun H2 hn2 hf2 hs2 => ?_
  have hF2 := hf1.trans hf2
  have hc1 := (hn1.ext hf2).cell
  have hwr : Wr H2 H1.size [] none := ⟨none, 0, hn2, Own.nil _ _ _⟩
  have hm : LtA H2 (H1.size :: (none : Option Nat).toList) t [.int .i64 t.kind, .int .i64 t.lo, .int .i64 t.hi, vn, vp, vr] :=
    Rep.ext (Rep.stay (ha.ext hf1) (Stays.more (M' := [H1.size]) (by simp))) hf2
  simp (implicitDefEqProofs := false) only [go_sem, Nat.reduceAdd, Nat.reduceSub, Nat.reduceMul, Nat.reduceEqDiff, Nat.reduceLT, Nat.reduceLeDiff, Nat.reduceBEq, ↓reduceIte, ↓Bool.false_eq_true, reduceCtorEq, Int.reduceLE, Int.reduceLT, Int.reduceEq, Int.reduceNeg, Int.reduceToNat, Int.reduceAdd, Int.reduceSub, Value.cells, Bool.false_eq_true, Int.cast_ofNat_Int, List.drop_nil, List.elem_cons, List.length_nil, List.take_nil, Option.isNone_none, Option.isSome_none, hc1]
  refine (write_ok t hok hwr hm (by simpa using (by omega : (encT t).length < 2^38))).mono ?_
  rintro r H3 ⟨rfl, g3, w3⟩
  have hF3 : Fr [] H H3 := hF2.trans' w3.2.1 (by simp; omega)
  simp (implicitDefEqProofs := false) only [go_sem, Nat.reduceAdd, Nat.reduceSub, Nat.reduceMul, Nat.reduceEqDiff, Nat.reduceLT, Nat.reduceLeDiff, Nat.reduceBEq, ↓reduceIte, ↓Bool.false_eq_true, reduceCtorEq, Int.reduceLE, Int.reduceLT, Int.reduceEq, Int.reduceNeg, Int.reduceToNat, Int.reduceAdd, Int.reduceSub, Value.cells, Bool.false_eq_true, Int.cast_ofNat_Int, List.drop_nil, List.elem_cons, List.length_nil, List.take_nil, Option.isNone_none, Option.isSome_none]
  refine (data_ok w3.1 (by simp only [List.nil_append]; omega)).mono ?_
  rintro r H4 ⟨a, c, g', rfl, ho, hg', hf4⟩
  simp only [List.nil_append] at ho ⊢
  simp (implicitDefEqProofs := false) only [go_sem, Nat.reduceAdd, Nat.reduceSub, Nat.reduceMul, Nat.reduceEqDiff, Nat.reduceLT, Nat.reduceLeDiff, Nat.reduceBEq, ↓reduceIte, ↓Bool.false_eq_true, reduceCtorEq, Int.reduceLE, Int.reduceLT, Int.reduceEq, Int.reduceNeg, Int.reduceToNat, Int.reduceAdd, Int.reduceSub, Value.cells, Bool.false_eq_true, Int.cast_ofNat_Int, List.drop_nil, List.elem_cons, List.length_nil, List.take_nil, Option.isNone_none, Option.isSome_none]
  exact ⟨a, c, g', rfl, ho, fun k hk => Nat.le_trans hF3.size (hg' k hk), hF3.trans hf4⟩

theorem read_two {H : Heap} {b : Nat} {L : Bs} {g : Option Nat} {at_ : Nat} {x y : Int} {p1 p2 p3 : Nat} (h : Rd H b L at_ 0 g)
    (e1 : uintR L at_ 0 = (2, p1, 0)) (e2 : uintR L p1 0 = (zig x, p2, 0)) (e3 : uintR L p2 0 = (zig y, p3, 0)) (hz : zag (zig x) = x) (hz' : zag (zig y) = y) (hbg : ∀ k, g = some k → k < H.size) :
    HCalls Try.prog 42 #[.pointer (some ⟨b, 0, none⟩), .int .i64 6] H fun r H' => r = .agg #[.int .i64 2, .int .i64 x, .int .i64 y, .slice none 0 0, .slice none 0 0, .slice none 0 0] ∧ Rd H' b L p3 0 g ∧ Fr [b] H H' := by
  refine calls_of_vc (args := [_, _]) Try.func42 c42ok (Nat.le_of_ble_eq_true rfl) ?_
  simp (implicitDefEqProofs := false) only [go_sem, Nat.reduceAdd, Nat.reduceSub, Nat.reduceMul, Nat.reduceEqDiff, Nat.reduceLT, Nat.reduceLeDiff, Nat.reduceBEq, ↓reduceIte, ↓Bool.false_eq_true, reduceCtorEq, Int.reduceLE, Int.reduceLT, Int.reduceEq, Int.reduceNeg, Int.reduceToNat, Int.reduceAdd, Int.reduceSub, Value.cells, Bool.false_eq_true, Int.cast_ofNat_Int, List.drop_nil, List.elem_cons, List.length_nil, List.take_nil, Option.isNone_none, Option.isSome_none, c42]
  refine NewP_intro fun H1 hn1 hf1 hs1 => ?_
  have hr1 : Rd H1 b L at_ 0 g := h.fr hf1 (by simp) (by simp)
  simp (implicitDefEqProofs := false) only [go_sem, Nat.reduceAdd, Nat.reduceSub, Nat.reduceMul, Nat.reduceEqDiff, Nat.reduceLT, Nat.reduceLeDiff, Nat.reduceBEq, ↓reduceIte, ↓Bool.false_eq_true, reduceCtorEq, Int.reduceLE, Int.reduceLT, Int.reduceEq, Int.reduceNeg, Int.reduceToNat, Int.reduceAdd, Int.reduceSub, Value.cells, Bool.false_eq_true, Int.cast_ofNat_Int, List.drop_nil, List.elem_cons, List.length_nil, List.take_nil, Option.isNone_none, Option.isSome_none]
  refine (ruint_ok hr1).mono ?_
  rw [e1]
  rintro r H2 ⟨rfl, hr2, hf2⟩
  simp only at hr2
  have hw2 : IntKind.i64.wrap 2 = 2 := rfl
  have hbl := h.lt
  have hbl1 := hr1.lt
  have hn2 := hn1.fr hf2 (by simp; omega)
  have hs2 : H1.size ≤ H2.size := hf2.size
  simp (implicitDefEqProofs := false) only [go_sem, Nat.reduceAdd, Nat.reduceSub, Nat.reduceMul, Nat.reduceEqDiff, Nat.reduceLT, Nat.reduceLeDiff, Nat.reduceBEq, ↓reduceIte, ↓Bool.false_eq_true, reduceCtorEq, Int.reduceLE, Int.reduceLT, Int.reduceEq, Int.reduceNeg, Int.reduceToNat, Int.reduceAdd, Int.reduceSub, Value.cells, Bool.false_eq_true, Int.cast_ofNat_Int, List.drop_nil, List.elem_cons, List.length_nil, List.take_nil, Option.isNone_none, Option.isSome_none, hw2]
  refine NewP_intro fun H3 hn3 hf3 hs3 => ?_
  simp (implicitDefEqProofs := false) only [go_sem, Nat.reduceAdd, Nat.reduceSub, Nat.reduceMul, Nat.reduceEqDiff, Nat.reduceLT, Nat.reduceLeDiff, Nat.reduceBEq, ↓reduceIte, ↓Bool.false_eq_true, reduceCtorEq, Int.reduceLE, Int.reduceLT, Int.reduceEq, Int.reduceNeg, Int.reduceToNat, Int.reduceAdd, Int.reduceSub, Value.cells, Bool.false_eq_true, Int.cast_ofNat_Int, List.drop_nil, List.elem_cons, List.length_nil, List.take_nil, Option.isNone_none, Option.isSome_none]
  refine Sto_all hn3 rfl (by simp [Value.oneCell']) fun H4 hn4 hf4 hs4 => ?_
  have hfa := new_fr hf3 hf4
  have hr4 : Rd H4 b L p1 0 g := hr2.fr hfa (by simp) (by simp)
  have hg2 : ∀ k, g = some k → k < H2.size := fun k hk => by have := hbg k hk; omega
  have hc4 := hn4.cell
  simp (implicitDefEqProofs := false) only [go_sem, Nat.reduceAdd, Nat.reduceSub, Nat.reduceMul, Nat.reduceEqDiff, Nat.reduceLT, Nat.reduceLeDiff, Nat.reduceBEq, ↓reduceIte, ↓Bool.false_eq_true, reduceCtorEq, Int.reduceLE, Int.reduceLT, Int.reduceEq, Int.reduceNeg, Int.reduceToNat, Int.reduceAdd, Int.reduceSub, Value.cells, Bool.false_eq_true, Int.cast_ofNat_Int, List.drop_nil, List.elem_cons, List.length_nil, List.take_nil, Option.isNone_none, Option.isSome_none, hc4]
  refine (rint_ok hr4).mono ?_
  rw [e2, hz]
  rintro r H5 ⟨rfl, hr5, hf5⟩
  simp only at hr5
  have hn5 := hn4.fr hf5 (by simp; omega)
  simp (implicitDefEqProofs := false) only [go_sem, Nat.reduceAdd, Nat.reduceSub, Nat.reduceMul, Nat.reduceEqDiff, Nat.reduceLT, Nat.reduceLeDiff, Nat.reduceBEq, ↓reduceIte, ↓Bool.false_eq_true, reduceCtorEq, Int.reduceLE, Int.reduceLT, Int.reduceEq, Int.reduceNeg, Int.reduceToNat, Int.reduceAdd, Int.reduceSub, Value.cells, Bool.false_eq_true, Int.cast_ofNat_Int, List.drop_nil, List.elem_cons, List.length_nil, List.take_nil, Option.isNone_none, Option.isSome_none]
  refine Sto_one hn5 (by simp) rfl fun H6 hn6 hf6 hs6 => ?_
  have hr6 : Rd H6 b L p2 0 g := hr5.fr hf6 (by simp; omega) (fun k hk => by have := hg2 k hk; simp; omega)
  simp (implicitDefEqProofs := false) only [go_sem, Nat.reduceAdd, Nat.reduceSub, Nat.reduceMul, Nat.reduceEqDiff, Nat.reduceLT, Nat.reduceLeDiff, Nat.reduceBEq, ↓reduceIte, ↓Bool.false_eq_true, reduceCtorEq, Int.reduceLE, Int.reduceLT, Int.reduceEq, Int.reduceNeg, Int.reduceToNat, Int.reduceAdd, Int.reduceSub, Value.cells, Bool.false_eq_true, Int.cast_ofNat_Int, List.drop_nil, List.elem_cons, List.length_nil, List.take_nil, Option.isNone_none, Option.isSome_none]
  refine (rint_ok hr6).mono ?_
  rw [e3, hz']
  rintro r H7 ⟨rfl, hr7, hf7⟩
  simp only at hr7
  have hn7 := hn6.fr hf7 (by simp; omega)
  simp (implicitDefEqProofs := false) only [go_sem, Nat.reduceAdd, Nat.reduceSub, Nat.reduceMul, Nat.reduceEqDiff, Nat.reduceLT, Nat.reduceLeDiff, Nat.reduceBEq, ↓reduceIte, ↓Bool.false_eq_true, reduceCtorEq, Int.reduceLE, Int.reduceLT, Int.reduceEq, Int.reduceNeg, Int.reduceToNat, Int.reduceAdd, Int.reduceSub, Value.cells, Bool.false_eq_true, Int.cast_ofNat_Int, List.drop_nil, List.elem_cons, List.length_nil, List.take_nil, Option.isNone_none, Option.isSome_none]
  refine Sto_one hn7 (by simp) rfl fun H8 hn8 hf8 hs8 => ?_
  have hr8 : Rd H8 b L p3 0 g := hr7.fr hf8 (by simp; omega) (fun k hk => by have := hg2 k hk; simp; omega)
  have hn8' := ((((hn2.ext hfa).fr hf5 (by simp; omega)).fr hf6 (by simp; omega)).fr hf7 (by simp; omega)).fr hf8 (by simp; omega)
  have hc8 := hn8.cell
  simp only [List.set_cons_zero, List.set_cons_succ] at hc8
  have hF8 : Fr [b] H H8 := ((((((hf1.mono (by simp)).trans hf2).trans (hfa.mono (by simp))).trans hf5).trans' hf6 (by simp; omega)).trans hf7).trans' hf8 (by simp; omega)
  simp (implicitDefEqProofs := false) only [go_sem, Nat.reduceAdd, Nat.reduceSub, Nat.reduceMul, Nat.reduceEqDiff, Nat.reduceLT, Nat.reduceLeDiff, Nat.reduceBEq, ↓reduceIte, ↓Bool.false_eq_true, reduceCtorEq, Int.reduceLE, Int.reduceLT, Int.reduceEq, Int.reduceNeg, Int.reduceToNat, Int.reduceAdd, Int.reduceSub, Value.cells, Bool.false_eq_true, Int.cast_ofNat_Int, List.drop_nil, List.elem_cons, List.length_nil, List.take_nil, Option.isNone_none, Option.isSome_none]
  refine vc_loop (fun (i : Nat) H' => H8 = H')
    (fun i => [(0, .pointer (some ⟨b, 0, none⟩)), (1, .int .i64 6), (4, .pointer (some ⟨H.size, 0, none⟩)), (6, .pointer (some ⟨H2.size, 0, none⟩)), (7, .int .i64 0), (8, .int .i64 0)]) (fun i => 0) 0 rfl ?_ ?_
  · simp (implicitDefEqProofs := false) only [go_sem, Nat.reduceAdd, Nat.reduceSub, Nat.reduceMul, Nat.reduceEqDiff, Nat.reduceLT, Nat.reduceLeDiff, Nat.reduceBEq, ↓reduceIte, ↓Bool.false_eq_true, reduceCtorEq, Int.reduceLE, Int.reduceLT, Int.reduceEq, Int.reduceNeg, Int.reduceToNat, Int.reduceAdd, Int.reduceSub, Value.cells, Bool.false_eq_true, Int.cast_ofNat_Int, List.drop_nil, List.elem_cons, List.length_nil, List.take_nil, Option.isNone_none, Option.isSome_none]
  · rintro i H' rfl
    simp (implicitDefEqProofs := false) only [go_sem, Nat.reduceAdd, Nat.reduceSub, Nat.reduceMul, Nat.reduceEqDiff, Nat.reduceLT, Nat.reduceLeDiff, Nat.reduceBEq, ↓reduceIte, ↓Bool.false_eq_true, reduceCtorEq, Int.reduceLE, Int.reduceLT, Int.reduceEq, Int.reduceNeg, Int.reduceToNat, Int.reduceAdd, Int.reduceSub, Value.cells, Bool.false_eq_true, Int.cast_ofNat_Int, List.drop_nil, List.elem_cons, List.length_nil, List.take_nil, Option.isNone_none, Option.isSome_none, hc8]
    refine Sto_all hn8' rfl (by simp [Value.oneCell']) fun H9 hn9 hf9 hs9 => ?_
    have hc9 := hn9.cell
    simp (implicitDefEqProofs := false) only [go_sem, Nat.reduceAdd, Nat.reduceSub, Nat.reduceMul, Nat.reduceEqDiff, Nat.reduceLT, Nat.reduceLeDiff, Nat.reduceBEq, ↓reduceIte, ↓Bool.false_eq_true, reduceCtorEq, Int.reduceLE, Int.reduceLT, Int.reduceEq, Int.reduceNeg, Int.reduceToNat, Int.reduceAdd, Int.reduceSub, Value.cells, Bool.false_eq_true, Int.cast_ofNat_Int, List.drop_nil, List.elem_cons, List.length_nil, List.take_nil, Option.isNone_none, Option.isSome_none, hc9]
    exact ⟨hr8.fr hf9 (by simp; omega) (fun k hk => by have := hbg k hk; simp; omega), hF8.trans' hf9 (by simp)⟩

theorem nilA (H : Heap) (M : List Nat) (m : Nat) : Rep H M (.list m []) [.slice none 0 0] := by
  simp only [Rep, Reps]
  exact ⟨none, 0, [], rfl, Nat.le_refl _, Nat.zero_le _, rfl, by simp, .inl rfl⟩
theorem bareA (H : Heap) (M : List Nat) (k lo hi : Int) : LtA H M (.mk k lo hi [] [] []) [.int .i64 k, .int .i64 lo, .int .i64 hi, .slice none 0 0, .slice none 0 0, .slice none 0 0] :=
  LtA.mk (l := .mk k lo hi [] [] []) (nilA H M 1) (nilA H M 6) (nilA H M 2)

/-- The three bytes of the least levels. -/
theorem decode_two {H : Heap} {a : Option Addr} {c : Nat} (h : BsR H a [2, 0, 18]) : HCalls Try.prog 26 #[.slice a 3 c] H fun r H' =>
    r = .tuple #[.agg #[.int .i64 2, .int .i64 0, .int .i64 9, .slice none 0 0, .slice none 0 0, .slice none 0 0], .int .i64 0] ∧ Fr [] H H' := by
  refine calls_of_vc (args := [_]) Try.func26 c26ok (Nat.le_of_ble_eq_true rfl) ?_
  simp (implicitDefEqProofs := false) only [go_sem, Nat.reduceAdd, Nat.reduceSub, Nat.reduceMul, Nat.reduceEqDiff, Nat.reduceLT, Nat.reduceLeDiff, Nat.reduceBEq, ↓reduceIte, ↓Bool.false_eq_true, reduceCtorEq, Int.reduceLE, Int.reduceLT, Int.reduceEq, Int.reduceNeg, Int.reduceToNat, Int.reduceAdd, Int.reduceSub, Value.cells, Bool.false_eq_true, Int.cast_ofNat_Int, List.drop_nil, List.elem_cons, List.length_nil, List.take_nil, Option.isNone_none, Option.isSome_none, c26]
  refine NewP_intro fun H1 hn1 hf1 hs1 => ?_
  simp (implicitDefEqProofs := false) only [go_sem, Nat.reduceAdd, Nat.reduceSub, Nat.reduceMul, Nat.reduceEqDiff, Nat.reduceLT, Nat.reduceLeDiff, Nat.reduceBEq, ↓reduceIte, ↓Bool.false_eq_true, reduceCtorEq, Int.reduceLE, Int.reduceLT, Int.reduceEq, Int.reduceNeg, Int.reduceToNat, Int.reduceAdd, Int.reduceSub, Value.cells, Bool.false_eq_true, Int.cast_ofNat_Int, List.drop_nil, List.elem_cons, List.length_nil, List.take_nil, Option.isNone_none, Option.isSome_none]
  refine (new_ok (l := [2, 0, 18]) (h.ext hf1) (by simp)).mono ?_
  rintro r H2 ⟨b, g, rfl, hr2, hf2, hb2, hg2⟩
  have hbl := hr2.lt
  have hn2 := hn1.ext hf2
  simp (implicitDefEqProofs := false) only [go_sem, Nat.reduceAdd, Nat.reduceSub, Nat.reduceMul, Nat.reduceEqDiff, Nat.reduceLT, Nat.reduceLeDiff, Nat.reduceBEq, ↓reduceIte, ↓Bool.false_eq_true, reduceCtorEq, Int.reduceLE, Int.reduceLT, Int.reduceEq, Int.reduceNeg, Int.reduceToNat, Int.reduceAdd, Int.reduceSub, Value.cells, Bool.false_eq_true, Int.cast_ofNat_Int, List.drop_nil, List.elem_cons, List.length_nil, List.take_nil, Option.isNone_none, Option.isSome_none]
  refine (read_two (x := 0) (y := 9) (p1 := 1) (p2 := 2) (p3 := 3) hr2 (by decide) (by decide) (by decide) (by decide) (by decide) (fun k hk => hr2.ltg hk)).mono ?_
  rintro r H3 ⟨rfl, hr3, hf3⟩
  have hs3 := hf3.size
  have hn3 := hn2.fr hf3 (by simp; omega)
  simp (implicitDefEqProofs := false) only [go_sem, Nat.reduceAdd, Nat.reduceSub, Nat.reduceMul, Nat.reduceEqDiff, Nat.reduceLT, Nat.reduceLeDiff, Nat.reduceBEq, ↓reduceIte, ↓Bool.false_eq_true, reduceCtorEq, Int.reduceLE, Int.reduceLT, Int.reduceEq, Int.reduceNeg, Int.reduceToNat, Int.reduceAdd, Int.reduceSub, Value.cells, Bool.false_eq_true, Int.cast_ofNat_Int, List.drop_nil, List.elem_cons, List.length_nil, List.take_nil, Option.isNone_none, Option.isSome_none]
  refine NewP_intro fun H4 hn4 hf4 hs4 => ?_
  simp (implicitDefEqProofs := false) only [go_sem, Nat.reduceAdd, Nat.reduceSub, Nat.reduceMul, Nat.reduceEqDiff, Nat.reduceLT, Nat.reduceLeDiff, Nat.reduceBEq, ↓reduceIte, ↓Bool.false_eq_true, reduceCtorEq, Int.reduceLE, Int.reduceLT, Int.reduceEq, Int.reduceNeg, Int.reduceToNat, Int.reduceAdd, Int.reduceSub, Value.cells, Bool.false_eq_true, Int.cast_ofNat_Int, List.drop_nil, List.elem_cons, List.length_nil, List.take_nil, Option.isNone_none, Option.isSome_none]
  refine Sto_all hn4 rfl (by simp [Value.oneCell']) fun H5 hn5 hf5 hs5 => ?_
  have hfa := new_fr hf4 hf5
  have hr5 : Rd H5 b [2, 0, 18] 3 0 g := hr3.fr hfa (by simp) (by simp)
  have hc5 := hn5.cell
  simp (implicitDefEqProofs := false) only [go_sem, Nat.reduceAdd, Nat.reduceSub, Nat.reduceMul, Nat.reduceEqDiff, Nat.reduceLT, Nat.reduceLeDiff, Nat.reduceBEq, ↓reduceIte, ↓Bool.false_eq_true, reduceCtorEq, Int.reduceLE, Int.reduceLT, Int.reduceEq, Int.reduceNeg, Int.reduceToNat, Int.reduceAdd, Int.reduceSub, Value.cells, Bool.false_eq_true, Int.cast_ofNat_Int, List.drop_nil, List.elem_cons, List.length_nil, List.take_nil, Option.isNone_none, Option.isSome_none]
  refine (rend_ok hr5).mono ?_
  rintro r H6 ⟨rfl, hEq⟩
  obtain rfl := hEq.symm
  have hL : (if (0 : Nat) = 0 ∧ 3 < List.length ([2, 0, 18] : Bs) then 2 else 0) = 0 := by decide
  simp (implicitDefEqProofs := false) only [go_sem, Nat.reduceAdd, Nat.reduceSub, Nat.reduceMul, Nat.reduceEqDiff, Nat.reduceLT, Nat.reduceLeDiff, Nat.reduceBEq, ↓reduceIte, ↓Bool.false_eq_true, reduceCtorEq, Int.reduceLE, Int.reduceLT, Int.reduceEq, Int.reduceNeg, Int.reduceToNat, Int.reduceAdd, Int.reduceSub, Value.cells, Bool.false_eq_true, Int.cast_ofNat_Int, List.drop_nil, List.elem_cons, List.length_nil, List.take_nil, Option.isNone_none, Option.isSome_none, hc5]
  have hz : LtA H5 [] (.mk 2 0 9 [] [] []) [.int .i64 2, .int .i64 0, .int .i64 9, .slice none 0 0, .slice none 0 0, .slice none 0 0] := bareA _ _ _ _ _
  refine (check_ok hz).mono ?_
  rintro r H7 ⟨rfl, hf7⟩
  have hv : (visT 1 0 (.mk 2 0 9 [] [] [])).1 = 0 := by decide
  have hn7 := (hn3.ext hfa).ext hf7
  have hc7 := (hn5.ext hf7).cell
  simp (implicitDefEqProofs := false) only [go_sem, Nat.reduceAdd, Nat.reduceSub, Nat.reduceMul, Nat.reduceEqDiff, Nat.reduceLT, Nat.reduceLeDiff, Nat.reduceBEq, ↓reduceIte, ↓Bool.false_eq_true, reduceCtorEq, Int.reduceLE, Int.reduceLT, Int.reduceEq, Int.reduceNeg, Int.reduceToNat, Int.reduceAdd, Int.reduceSub, Value.cells, Bool.false_eq_true, Int.cast_ofNat_Int, List.drop_nil, List.elem_cons, List.length_nil, List.take_nil, Option.isNone_none, Option.isSome_none, hv, hc7]
  refine Sto_all hn7 rfl (by simp [Value.oneCell']) fun H8 hn8 hf8 hs8 => ?_
  have hc8 := hn8.cell
  simp (implicitDefEqProofs := false) only [go_sem, Nat.reduceAdd, Nat.reduceSub, Nat.reduceMul, Nat.reduceEqDiff, Nat.reduceLT, Nat.reduceLeDiff, Nat.reduceBEq, ↓reduceIte, ↓Bool.false_eq_true, reduceCtorEq, Int.reduceLE, Int.reduceLT, Int.reduceEq, Int.reduceNeg, Int.reduceToNat, Int.reduceAdd, Int.reduceSub, Value.cells, Bool.false_eq_true, Int.cast_ofNat_Int, List.drop_nil, List.elem_cons, List.length_nil, List.take_nil, Option.isNone_none, Option.isSome_none, hc8]
  exact ((((hf1.trans hf2).trans' hf3 (by simp; omega)).trans hfa).trans hf7).trans' hf8 (by simp)

end Go.Proofs.Ytcilkhjadljaaaa
