/- WireShort and WireSigned on heaps. -/
import Derived.Test.YtighhngepdmmlaaLa
set_option linter.unusedSimpArgs false
set_option linter.unusedVariables false
set_option maxRecDepth 8000
namespace Go.Proofs.Ytighhngepdmmlaa
open Gx Go

theorem its_one (x : It) {H : Heap} {b t : Nat} {a : Option Addr} {c : Nat} (h : Blk H b t [.int .i64 x.kind, .int .u64 x.n, .slice a x.b.length c]) (hn : x.n < 2^64) (hx : BsR H a x.b) : ItsR H (some ⟨b, 0, none⟩) [x] := by
  refine .inr ⟨b, 0, rfl, fun j hj => ?_⟩
  have : j = 0 := by simp at hj; omega
  subst this
  exact ⟨_, rfl, fun i hi => by rw [h.cell]; simp, a, c, rfl, hn, hx⟩

theorem encF_mono : ∀ (f n m : Nat), n ≤ m → (encF f n).length ≤ (encF f m).length
  | 0, _, _, _ => by simp [encF]
  | f+1, n, m, h => by
    simp only [encF]
    split
    · split <;> simp
    · rw [if_neg (by omega)]
      simp only [List.length_cons]
      exact Nat.succ_le_succ (encF_mono f _ _ (Nat.div_le_div_right h))

theorem numG_enc (r : List UInt8) : ∀ (f m i acc : Nat), m < 128^f → f + i = 10 → (i = 0 ∨ 0 < m) → m * 2^(7*i) < 2^64 → numG i acc (encF f m ++ r) = some (acc + m * 2^(7*i), i + (encF f m).length)
  | 0, m, i, acc, h, hf, hi, hm => by
    exfalso; simp at h; omega
  | f+1, m, i, acc, h, hf, hi, hm => by
    have hi9 : i ≤ 9 := by omega
    have h9 : i = 9 → m ≤ 1 := fun e => by
      subst e
      have : 2 * 2^(7*9) ≤ m * 2^(7*9) ∨ m < 2 := by
        rcases Nat.lt_or_ge m 2 with h | h
        · exact .inr h
        · exact .inl (Nat.mul_le_mul_right _ h)
      rcases this with h | h
      · exact absurd (Nat.lt_of_le_of_lt h hm) (by decide)
      · omega
    simp only [encF]
    split
    · rename_i hlt
      have e : (UInt8.ofNat m).toNat = m := by rw [UInt8.toNat_ofNat']; omega
      simp only [List.cons_append, List.nil_append, numG, e]
      rw [if_neg (by omega), if_neg (by omega), if_pos hlt, if_pos (by omega), Nat.mod_eq_of_lt hlt]
      rfl
    · rename_i hge
      have e : (UInt8.ofNat (m % 128 + 128)).toNat = m % 128 + 128 := by rw [UInt8.toNat_ofNat']; omega
      simp only [List.cons_append, numG, e]
      rw [if_neg (by omega), if_neg (by omega), if_neg (by omega)]
      have e2 : 2^(7*(i+1)) = 128 * 2^(7*i) := by rw [Nat.mul_add, Nat.pow_add, Nat.mul_comm]
      have e3 : m / 128 * 2^(7*(i+1)) = 128 * (m / 128) * 2^(7*i) := by rw [e2, ← Nat.mul_assoc, Nat.mul_comm (m / 128) 128]
      have e4 : m * 2^(7*i) = 128 * (m / 128) * 2^(7*i) + m % 128 * 2^(7*i) := by
        rw [← Nat.add_mul]; congr 1; omega
      rw [numG_enc r f (m / 128) (i + 1) _ (by rw [Nat.pow_succ] at h; omega) (by omega) (.inr (by omega)) (by rw [e3]; omega)]
      have e5 : (m % 128 + 128) % 128 = m % 128 := by omega
      rw [e5, e3, e4]
      simp only [List.length_cons, Option.some.injEq, Prod.mk.injEq]
      omega

theorem num_enc (n : Nat) (h : n < 2^64) (r : List UInt8) : num (enc n ++ r) = some (n, (enc n).length) := by
  have := numG_enc r 10 n 0 0 (Nat.lt_of_lt_of_le h (by decide)) rfl (.inl rfl) (by simpa using h)
  simpa [num, enc] using this

theorem short_ok (n m : Nat) (hn : n < 2^64) (hm : m < 2^64) (H : Heap) : HCalls Try.prog 4 #[.int .u64 n, .int .u64 m] H fun v H' => v = .bool true ∧ Fr [] H H' := by
  refine calls_of_vc (args := [_, _]) Try.func4 c4ok (Nat.le_of_ble_eq_true rfl) ?_
  simp (implicitDefEqProofs := false) only [go_sem, Nat.reduceAdd, Nat.reduceSub, Nat.reduceMul, Nat.reduceEqDiff, Nat.reduceLT, Nat.reduceLeDiff, Nat.zero_add, Nat.add_zero, Nat.reduceBEq, Nat.succ_ne_zero, Nat.zero_ne_one, Nat.one_ne_zero, ↓reduceIte, ↓Bool.false_eq_true, reduceCtorEq, Bool.not_true, Bool.not_false, Bool.true_eq_false, Bool.false_eq_true, ite_true, ite_false, Option.some.injEq, Prod.mk.injEq, List.map_cons, List.map_nil, List.length_cons, List.length_nil, List.getElem?_cons_zero, List.getElem?_cons_succ, List.set_cons_zero, List.set_cons_succ, Value.cells, List.elem_cons, List.elem_nil, Bool.or_false, Bool.false_or, Bool.or_true, Bool.true_or, beq_iff_eq, List.append_toArray, List.nil_append, List.cons_append, List.size_toArray, Array.append_empty, Int.toNat_natCast, Int.reduceLE, Int.reduceLT, Int.reduceEq, Int.reduceNeg, Int.reduceToNat, Int.reduceAdd, Int.reduceSub, Nat.mul_one, Nat.one_mul, decide_eq_true_eq, decide_eq_false_iff_not, Bool.and_eq_true, Bool.or_eq_true, Bool.not_eq_true', Int.not_le, Int.not_lt, and_true, true_and, eq_self, ne_eq, not_true_eq_false, not_false_eq_true, and_self, decide_true, decide_false, cond_true, cond_false, List.take_zero, List.drop_zero, List.take_succ_cons, List.drop_succ_cons, List.take_nil, List.drop_nil, List.append_nil, Bool.decide_eq_true, Option.isSome_some, Option.isSome_none, Option.isNone_some, Option.isNone_none, List.getElem?_toArray, c4]
  refine (awake_ok H).mono ?_
  rintro v H1 ⟨rfl, hf1⟩
  simp (implicitDefEqProofs := false) only [go_sem, Nat.reduceAdd, Nat.reduceSub, Nat.reduceMul, Nat.reduceEqDiff, Nat.reduceLT, Nat.reduceLeDiff, Nat.zero_add, Nat.add_zero, Nat.reduceBEq, Nat.succ_ne_zero, Nat.zero_ne_one, Nat.one_ne_zero, ↓reduceIte, ↓Bool.false_eq_true, reduceCtorEq, Bool.not_true, Bool.not_false, Bool.true_eq_false, Bool.false_eq_true, ite_true, ite_false, Option.some.injEq, Prod.mk.injEq, List.map_cons, List.map_nil, List.length_cons, List.length_nil, List.getElem?_cons_zero, List.getElem?_cons_succ, List.set_cons_zero, List.set_cons_succ, Value.cells, List.elem_cons, List.elem_nil, Bool.or_false, Bool.false_or, Bool.or_true, Bool.true_or, beq_iff_eq, List.append_toArray, List.nil_append, List.cons_append, List.size_toArray, Array.append_empty, Int.toNat_natCast, Int.reduceLE, Int.reduceLT, Int.reduceEq, Int.reduceNeg, Int.reduceToNat, Int.reduceAdd, Int.reduceSub, Nat.mul_one, Nat.one_mul, decide_eq_true_eq, decide_eq_false_iff_not, Bool.and_eq_true, Bool.or_eq_true, Bool.not_eq_true', Int.not_le, Int.not_lt, and_true, true_and, eq_self, ne_eq, not_true_eq_false, not_false_eq_true, and_self, decide_true, decide_false, cond_true, cond_false, List.take_zero, List.drop_zero, List.take_succ_cons, List.drop_succ_cons, List.take_nil, List.drop_nil, List.append_nil, Bool.decide_eq_true, Option.isSome_some, Option.isSome_none, Option.isNone_some, Option.isNone_none, List.getElem?_toArray]
  refine NewS_intro fun H2 hn2 hf2 hs2 => ?_
  simp (implicitDefEqProofs := false) only [go_sem, Nat.reduceAdd, Nat.reduceSub, Nat.reduceMul, Nat.reduceEqDiff, Nat.reduceLT, Nat.reduceLeDiff, Nat.zero_add, Nat.add_zero, Nat.reduceBEq, Nat.succ_ne_zero, Nat.zero_ne_one, Nat.one_ne_zero, ↓reduceIte, ↓Bool.false_eq_true, reduceCtorEq, Bool.not_true, Bool.not_false, Bool.true_eq_false, Bool.false_eq_true, ite_true, ite_false, Option.some.injEq, Prod.mk.injEq, List.map_cons, List.map_nil, List.length_cons, List.length_nil, List.getElem?_cons_zero, List.getElem?_cons_succ, List.set_cons_zero, List.set_cons_succ, Value.cells, List.elem_cons, List.elem_nil, Bool.or_false, Bool.false_or, Bool.or_true, Bool.true_or, beq_iff_eq, List.append_toArray, List.nil_append, List.cons_append, List.size_toArray, Array.append_empty, Int.toNat_natCast, Int.reduceLE, Int.reduceLT, Int.reduceEq, Int.reduceNeg, Int.reduceToNat, Int.reduceAdd, Int.reduceSub, Nat.mul_one, Nat.one_mul, decide_eq_true_eq, decide_eq_false_iff_not, Bool.and_eq_true, Bool.or_eq_true, Bool.not_eq_true', Int.not_le, Int.not_lt, and_true, true_and, eq_self, ne_eq, not_true_eq_false, not_false_eq_true, and_self, decide_true, decide_false, cond_true, cond_false, List.take_zero, List.drop_zero, List.take_succ_cons, List.drop_succ_cons, List.take_nil, List.drop_nil, List.append_nil, Bool.decide_eq_true, Option.isSome_some, Option.isSome_none, Option.isNone_some, Option.isNone_none, List.getElem?_toArray]
  refine (written_ok (l := [⟨0, n, []⟩]) (c := 1) (its_one ⟨0, n, []⟩ hn2 hn (.inl rfl)) (by simp [cost])).mono ?_
  rintro v H3 ⟨a3, c3, g3, rfl, ho3, hg3, hf3⟩
  simp (implicitDefEqProofs := false) only [go_sem, Nat.reduceAdd, Nat.reduceSub, Nat.reduceMul, Nat.reduceEqDiff, Nat.reduceLT, Nat.reduceLeDiff, Nat.zero_add, Nat.add_zero, Nat.reduceBEq, Nat.succ_ne_zero, Nat.zero_ne_one, Nat.one_ne_zero, ↓reduceIte, ↓Bool.false_eq_true, reduceCtorEq, Bool.not_true, Bool.not_false, Bool.true_eq_false, Bool.false_eq_true, ite_true, ite_false, Option.some.injEq, Prod.mk.injEq, List.map_cons, List.map_nil, List.length_cons, List.length_nil, List.getElem?_cons_zero, List.getElem?_cons_succ, List.set_cons_zero, List.set_cons_succ, Value.cells, List.elem_cons, List.elem_nil, Bool.or_false, Bool.false_or, Bool.or_true, Bool.true_or, beq_iff_eq, List.append_toArray, List.nil_append, List.cons_append, List.size_toArray, Array.append_empty, Int.toNat_natCast, Int.reduceLE, Int.reduceLT, Int.reduceEq, Int.reduceNeg, Int.reduceToNat, Int.reduceAdd, Int.reduceSub, Nat.mul_one, Nat.one_mul, decide_eq_true_eq, decide_eq_false_iff_not, Bool.and_eq_true, Bool.or_eq_true, Bool.not_eq_true', Int.not_le, Int.not_lt, and_true, true_and, eq_self, ne_eq, not_true_eq_false, not_false_eq_true, and_self, decide_true, decide_false, cond_true, cond_false, List.take_zero, List.drop_zero, List.take_succ_cons, List.drop_succ_cons, List.take_nil, List.drop_nil, List.append_nil, Bool.decide_eq_true, Option.isSome_some, Option.isSome_none, Option.isNone_some, Option.isNone_none, List.getElem?_toArray]
  refine NewS_intro fun H4 hn4 hf4 hs4 => ?_
  simp (implicitDefEqProofs := false) only [go_sem, Nat.reduceAdd, Nat.reduceSub, Nat.reduceMul, Nat.reduceEqDiff, Nat.reduceLT, Nat.reduceLeDiff, Nat.zero_add, Nat.add_zero, Nat.reduceBEq, Nat.succ_ne_zero, Nat.zero_ne_one, Nat.one_ne_zero, ↓reduceIte, ↓Bool.false_eq_true, reduceCtorEq, Bool.not_true, Bool.not_false, Bool.true_eq_false, Bool.false_eq_true, ite_true, ite_false, Option.some.injEq, Prod.mk.injEq, List.map_cons, List.map_nil, List.length_cons, List.length_nil, List.getElem?_cons_zero, List.getElem?_cons_succ, List.set_cons_zero, List.set_cons_succ, Value.cells, List.elem_cons, List.elem_nil, Bool.or_false, Bool.false_or, Bool.or_true, Bool.true_or, beq_iff_eq, List.append_toArray, List.nil_append, List.cons_append, List.size_toArray, Array.append_empty, Int.toNat_natCast, Int.reduceLE, Int.reduceLT, Int.reduceEq, Int.reduceNeg, Int.reduceToNat, Int.reduceAdd, Int.reduceSub, Nat.mul_one, Nat.one_mul, decide_eq_true_eq, decide_eq_false_iff_not, Bool.and_eq_true, Bool.or_eq_true, Bool.not_eq_true', Int.not_le, Int.not_lt, and_true, true_and, eq_self, ne_eq, not_true_eq_false, not_false_eq_true, and_self, decide_true, decide_false, cond_true, cond_false, List.take_zero, List.drop_zero, List.take_succ_cons, List.drop_succ_cons, List.take_nil, List.drop_nil, List.append_nil, Bool.decide_eq_true, Option.isSome_some, Option.isSome_none, Option.isNone_some, Option.isNone_none, List.getElem?_toArray]
  refine (written_ok (l := [⟨0, m, []⟩]) (c := 1) (its_one ⟨0, m, []⟩ hn4 hm (.inl rfl)) (by simp [cost])).mono ?_
  rintro v H5 ⟨a5, c5, g5, rfl, ho5, hg5, hf5⟩
  have hF : Fr [] H H5 := (((hf1.trans hf2).trans hf3).trans hf4).trans hf5
  have e1 : encs [⟨0, n, []⟩] = enc n := by simp [encs, encI]
  have e2 : encs [⟨0, m, []⟩] = enc m := by simp [encs, encI]
  rw [e1, e2]
  simp (implicitDefEqProofs := false) only [go_sem, Nat.reduceAdd, Nat.reduceSub, Nat.reduceMul, Nat.reduceEqDiff, Nat.reduceLT, Nat.reduceLeDiff, Nat.zero_add, Nat.add_zero, Nat.reduceBEq, Nat.succ_ne_zero, Nat.zero_ne_one, Nat.one_ne_zero, ↓reduceIte, ↓Bool.false_eq_true, reduceCtorEq, Bool.not_true, Bool.not_false, Bool.true_eq_false, Bool.false_eq_true, ite_true, ite_false, Option.some.injEq, Prod.mk.injEq, List.map_cons, List.map_nil, List.length_cons, List.length_nil, List.getElem?_cons_zero, List.getElem?_cons_succ, List.set_cons_zero, List.set_cons_succ, Value.cells, List.elem_cons, List.elem_nil, Bool.or_false, Bool.false_or, Bool.or_true, Bool.true_or, beq_iff_eq, List.append_toArray, List.nil_append, List.cons_append, List.size_toArray, Array.append_empty, Int.toNat_natCast, Int.reduceLE, Int.reduceLT, Int.reduceEq, Int.reduceNeg, Int.reduceToNat, Int.reduceAdd, Int.reduceSub, Nat.mul_one, Nat.one_mul, decide_eq_true_eq, decide_eq_false_iff_not, Bool.and_eq_true, Bool.or_eq_true, Bool.not_eq_true', Int.not_le, Int.not_lt, and_true, true_and, eq_self, ne_eq, not_true_eq_false, not_false_eq_true, and_self, decide_true, decide_false, cond_true, cond_false, List.take_zero, List.drop_zero, List.take_succ_cons, List.drop_succ_cons, List.take_nil, List.drop_nil, List.append_nil, Bool.decide_eq_true, Option.isSome_some, Option.isSome_none, Option.isNone_some, Option.isNone_none, List.getElem?_toArray]
  refine vc_loop (fun ((x, g, f) : Nat × Nat × Nat) H' => H' = H5 ∧ x < 128^f ∧ g ≤ 10 ∧ g + (if x = 0 then 0 else (encF f x).length) = (enc n).length)
    (fun (x, g, _) => [(0, .int .u64 n), (1, .int .u64 m), (5, .slice a3 (enc n).length c3), (6, .slice a5 (enc m).length c5), (7, .int .i64 g), (8, .int .u64 x)]) (fun (x, _, _) => x) (n / 128, 1, 9) ?_ ?_ ?_
  · refine ⟨rfl, by have := (show (2:Nat)^64 < 128^10 by decide); have e : (128:Nat)^10 = 128^9 * 128 := rfl; show n / 128 < 128^9; omega, by decide, ?_⟩
    show 1 + (if n / 128 = 0 then 0 else (encF 9 (n / 128)).length) = (encF 10 n).length
    have e : encF 10 n = if n < 128 then [UInt8.ofNat n] else UInt8.ofNat (n % 128 + 128) :: encF 9 (n / 128) := rfl
    rw [e]
    by_cases h : n < 128
    · rw [if_pos h, if_pos (by omega)]; rfl
    · rw [if_neg h, if_neg (by omega)]; simp; omega
  · simp (implicitDefEqProofs := false) only [go_sem, Nat.reduceAdd, Nat.reduceSub, Nat.reduceMul, Nat.reduceEqDiff, Nat.reduceLT, Nat.reduceLeDiff, Nat.zero_add, Nat.add_zero, Nat.reduceBEq, Nat.succ_ne_zero, Nat.zero_ne_one, Nat.one_ne_zero, ↓reduceIte, ↓Bool.false_eq_true, reduceCtorEq, Bool.not_true, Bool.not_false, Bool.true_eq_false, Bool.false_eq_true, ite_true, ite_false, Option.some.injEq, Prod.mk.injEq, List.map_cons, List.map_nil, List.length_cons, List.length_nil, List.getElem?_cons_zero, List.getElem?_cons_succ, List.set_cons_zero, List.set_cons_succ, Value.cells, List.elem_cons, List.elem_nil, Bool.or_false, Bool.false_or, Bool.or_true, Bool.true_or, beq_iff_eq, List.append_toArray, List.nil_append, List.cons_append, List.size_toArray, Array.append_empty, Int.toNat_natCast, Int.reduceLE, Int.reduceLT, Int.reduceEq, Int.reduceNeg, Int.reduceToNat, Int.reduceAdd, Int.reduceSub, Nat.mul_one, Nat.one_mul, decide_eq_true_eq, decide_eq_false_iff_not, Bool.and_eq_true, Bool.or_eq_true, Bool.not_eq_true', Int.not_le, Int.not_lt, and_true, true_and, eq_self, ne_eq, not_true_eq_false, not_false_eq_true, and_self, decide_true, decide_false, cond_true, cond_false, List.take_zero, List.drop_zero, List.take_succ_cons, List.drop_succ_cons, List.take_nil, List.drop_nil, List.append_nil, Bool.decide_eq_true, Option.isSome_some, Option.isSome_none, Option.isNone_some, Option.isNone_none, List.getElem?_toArray]
    rw [show shrI .u64 (n : Int) 7 = ((n / 128 : Nat) : Int) from shrI_nat n 7 (by decide)]
    exact ⟨rfl, rfl⟩
  · rintro ⟨x, g, f⟩ H' ⟨rfl, h1, h2, h3⟩
    by_cases hx : x = 0
    · subst hx
      have z0 : ((0 : Nat) : Int) = 0 := rfl
      rw [if_pos rfl] at h3
      have h3' : g = (enc n).length := by omega
      subst h3'
      by_cases hnm : m < n
      · have hnm' : (m : Int) < (n : Int) := by omega
        simp (implicitDefEqProofs := false) only [go_sem, Nat.reduceAdd, Nat.reduceSub, Nat.reduceMul, Nat.reduceEqDiff, Nat.reduceLT, Nat.reduceLeDiff, Nat.zero_add, Nat.add_zero, Nat.reduceBEq, Nat.succ_ne_zero, Nat.zero_ne_one, Nat.one_ne_zero, ↓reduceIte, ↓Bool.false_eq_true, reduceCtorEq, Bool.not_true, Bool.not_false, Bool.true_eq_false, Bool.false_eq_true, ite_true, ite_false, Option.some.injEq, Prod.mk.injEq, List.map_cons, List.map_nil, List.length_cons, List.length_nil, List.getElem?_cons_zero, List.getElem?_cons_succ, List.set_cons_zero, List.set_cons_succ, Value.cells, List.elem_cons, List.elem_nil, Bool.or_false, Bool.false_or, Bool.or_true, Bool.true_or, beq_iff_eq, List.append_toArray, List.nil_append, List.cons_append, List.size_toArray, Array.append_empty, Int.toNat_natCast, Int.reduceLE, Int.reduceLT, Int.reduceEq, Int.reduceNeg, Int.reduceToNat, Int.reduceAdd, Int.reduceSub, Nat.mul_one, Nat.one_mul, decide_eq_true_eq, decide_eq_false_iff_not, Bool.and_eq_true, Bool.or_eq_true, Bool.not_eq_true', Int.not_le, Int.not_lt, and_true, true_and, eq_self, ne_eq, not_true_eq_false, not_false_eq_true, and_self, decide_true, decide_false, cond_true, cond_false, List.take_zero, List.drop_zero, List.take_succ_cons, List.drop_succ_cons, List.take_nil, List.drop_nil, List.append_nil, Bool.decide_eq_true, Option.isSome_some, Option.isSome_none, Option.isNone_some, Option.isNone_none, List.getElem?_toArray, z0, hnm']
        exact hF
      · have hnm' : ¬ (m : Int) < (n : Int) := by omega
        have hle : ((enc n).length : Int) ≤ ((enc m).length : Int) := by have := encF_mono 10 n m (by omega); unfold enc; omega
        simp (implicitDefEqProofs := false) only [go_sem, Nat.reduceAdd, Nat.reduceSub, Nat.reduceMul, Nat.reduceEqDiff, Nat.reduceLT, Nat.reduceLeDiff, Nat.zero_add, Nat.add_zero, Nat.reduceBEq, Nat.succ_ne_zero, Nat.zero_ne_one, Nat.one_ne_zero, ↓reduceIte, ↓Bool.false_eq_true, reduceCtorEq, Bool.not_true, Bool.not_false, Bool.true_eq_false, Bool.false_eq_true, ite_true, ite_false, Option.some.injEq, Prod.mk.injEq, List.map_cons, List.map_nil, List.length_cons, List.length_nil, List.getElem?_cons_zero, List.getElem?_cons_succ, List.set_cons_zero, List.set_cons_succ, Value.cells, List.elem_cons, List.elem_nil, Bool.or_false, Bool.false_or, Bool.or_true, Bool.true_or, beq_iff_eq, List.append_toArray, List.nil_append, List.cons_append, List.size_toArray, Array.append_empty, Int.toNat_natCast, Int.reduceLE, Int.reduceLT, Int.reduceEq, Int.reduceNeg, Int.reduceToNat, Int.reduceAdd, Int.reduceSub, Nat.mul_one, Nat.one_mul, decide_eq_true_eq, decide_eq_false_iff_not, Bool.and_eq_true, Bool.or_eq_true, Bool.not_eq_true', Int.not_le, Int.not_lt, and_true, true_and, eq_self, ne_eq, not_true_eq_false, not_false_eq_true, and_self, decide_true, decide_false, cond_true, cond_false, List.take_zero, List.drop_zero, List.take_succ_cons, List.drop_succ_cons, List.take_nil, List.drop_nil, List.append_nil, Bool.decide_eq_true, Option.isSome_some, Option.isSome_none, Option.isNone_some, Option.isNone_none, List.getElem?_toArray, z0, hnm', hle]
        exact hF
    · have hx' : ¬ (x : Int) = 0 := by omega
      rw [if_neg hx] at h3
      have hf : f = (f - 1) + 1 := by
        rcases Nat.eq_zero_or_pos f with h | h
        · subst h; simp at h1; omega
        · omega
      have hg10 := length_enc n
      have hl1 : 1 ≤ (encF f x).length := by rw [hf]; simp only [encF]; split <;> simp
      have hw1 : IntKind.i64.wrap ((g : Int) + 1) = ((g + 1 : Nat) : Int) := by rw [wrap_i64_id _ (by omega) (by omega)]; omega
      have hs : shrI .u64 (x : Int) 7 = ((x / 128 : Nat) : Int) := shrI_nat x 7 (by decide)
      simp (implicitDefEqProofs := false) only [go_sem, Nat.reduceAdd, Nat.reduceSub, Nat.reduceMul, Nat.reduceEqDiff, Nat.reduceLT, Nat.reduceLeDiff, Nat.zero_add, Nat.add_zero, Nat.reduceBEq, Nat.succ_ne_zero, Nat.zero_ne_one, Nat.one_ne_zero, ↓reduceIte, ↓Bool.false_eq_true, reduceCtorEq, Bool.not_true, Bool.not_false, Bool.true_eq_false, Bool.false_eq_true, ite_true, ite_false, Option.some.injEq, Prod.mk.injEq, List.map_cons, List.map_nil, List.length_cons, List.length_nil, List.getElem?_cons_zero, List.getElem?_cons_succ, List.set_cons_zero, List.set_cons_succ, Value.cells, List.elem_cons, List.elem_nil, Bool.or_false, Bool.false_or, Bool.or_true, Bool.true_or, beq_iff_eq, List.append_toArray, List.nil_append, List.cons_append, List.size_toArray, Array.append_empty, Int.toNat_natCast, Int.reduceLE, Int.reduceLT, Int.reduceEq, Int.reduceNeg, Int.reduceToNat, Int.reduceAdd, Int.reduceSub, Nat.mul_one, Nat.one_mul, decide_eq_true_eq, decide_eq_false_iff_not, Bool.and_eq_true, Bool.or_eq_true, Bool.not_eq_true', Int.not_le, Int.not_lt, and_true, true_and, eq_self, ne_eq, not_true_eq_false, not_false_eq_true, and_self, decide_true, decide_false, cond_true, cond_false, List.take_zero, List.drop_zero, List.take_succ_cons, List.drop_succ_cons, List.take_nil, List.drop_nil, List.append_nil, Bool.decide_eq_true, Option.isSome_some, Option.isSome_none, Option.isNone_some, Option.isNone_none, List.getElem?_toArray, hx', hw1, hs]
      refine loopK_intro (x / 128, g + 1, f - 1) (by show x / 128 < x; omega) ?_ ?_
      · simp (implicitDefEqProofs := false) only [go_sem, Nat.reduceAdd, Nat.reduceSub, Nat.reduceMul, Nat.reduceEqDiff, Nat.reduceLT, Nat.reduceLeDiff, Nat.zero_add, Nat.add_zero, Nat.reduceBEq, Nat.succ_ne_zero, Nat.zero_ne_one, Nat.one_ne_zero, ↓reduceIte, ↓Bool.false_eq_true, reduceCtorEq, Bool.not_true, Bool.not_false, Bool.true_eq_false, Bool.false_eq_true, ite_true, ite_false, Option.some.injEq, Prod.mk.injEq, List.map_cons, List.map_nil, List.length_cons, List.length_nil, List.getElem?_cons_zero, List.getElem?_cons_succ, List.set_cons_zero, List.set_cons_succ, Value.cells, List.elem_cons, List.elem_nil, Bool.or_false, Bool.false_or, Bool.or_true, Bool.true_or, beq_iff_eq, List.append_toArray, List.nil_append, List.cons_append, List.size_toArray, Array.append_empty, Int.toNat_natCast, Int.reduceLE, Int.reduceLT, Int.reduceEq, Int.reduceNeg, Int.reduceToNat, Int.reduceAdd, Int.reduceSub, Nat.mul_one, Nat.one_mul, decide_eq_true_eq, decide_eq_false_iff_not, Bool.and_eq_true, Bool.or_eq_true, Bool.not_eq_true', Int.not_le, Int.not_lt, and_true, true_and, eq_self, ne_eq, not_true_eq_false, not_false_eq_true, and_self, decide_true, decide_false, cond_true, cond_false, List.take_zero, List.drop_zero, List.take_succ_cons, List.drop_succ_cons, List.take_nil, List.drop_nil, List.append_nil, Bool.decide_eq_true, Option.isSome_some, Option.isSome_none, Option.isNone_some, Option.isNone_none, List.getElem?_toArray]
      · refine ⟨rfl, ?_, by show g + 1 ≤ 10; omega, ?_⟩
        · show x / 128 < 128 ^ (f - 1)
          rw [hf, Nat.pow_succ] at h1; omega
        · show g + 1 + (if x / 128 = 0 then 0 else (encF (f - 1) (x / 128)).length) = _
          rw [← h3]
          rw [hf]
          simp only [encF, Nat.add_sub_cancel]
          by_cases h : x < 128
          · rw [if_pos h, if_pos (by omega)]; rfl
          · rw [if_neg h, if_neg (by omega)]; simp; omega

theorem own : ownKnob Try.prog.godebug = none := by kernel_rfl
theorem laid : laidOutB Try.prog = true := by kernel_rfl


end Go.Proofs.Ytighhngepdmmlaa
