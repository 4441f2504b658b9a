/- Trees compared and counted: contracts. -/
import Derived.Test.YtbgjgaaobnbijaaDoorPm
set_option linter.unusedSimpArgs false
set_option linter.unusedVariables false
set_option maxRecDepth 8000
namespace Go.Proofs.YtbgjgaaobnbijaaDoor
open Gx Go

mutual
def sameN : Nd → Nd → Bool
  | .mk k t n _ ks, .mk k' t' n' _ ks' => decide (k = k') && decide (t = t') && decide (n = n') && decide (ks.length = ks'.length) && sameL ks ks'
def sameL : List Nd → List Nd → Bool
  | x :: xs, y :: ys => sameN x y && sameL xs ys
  | _, _ => true
end
mutual
def eqN : Nd → Nd → Bool
  | .mk k t n a ks, .mk k' t' n' a' ks' => decide (k = k') && decide (t = t') && decide (n = n') && decide (a = a') && decide (ks.length = ks'.length) && eqL ks ks'
def eqL : List Nd → List Nd → Bool
  | x :: xs, y :: ys => eqN x y && eqL xs ys
  | _, _ => true
end
mutual
def sizeN : Nd → Nat
  | .mk _ _ _ _ ks => sizeL ks + 1
def sizeL : List Nd → Nat
  | [] => 0
  | x :: xs => sizeN x + sizeL xs
end
theorem sizeL_get : ∀ (l : List Nd) (i : Nat) (h : i < l.length), sizeN l[i] ≤ sizeL l
  | x :: xs, 0, _ => by simp only [List.getElem_cons_zero, sizeL]; omega
  | x :: xs, i + 1, h => by
    have := sizeL_get xs i (by simpa using h)
    simp only [List.getElem_cons_succ, sizeL]; omega
/-- The cells of a tree, in memory that is read. -/
def NA (H : Heap) (n : Nd) (v : Value) : Prop := ∃ cs, v = .agg cs.toArray ∧ Rep H [] n.dat cs
theorem NA.ext {H H' : Heap} {n : Nd} {v : Value} (h : NA H n v) (hf : Fr [] H H') : NA H' n v := by
  obtain ⟨cs, h1, h2⟩ := h
  exact ⟨cs, h1, h2.ext hf⟩
theorem NA.open {H : Heap} {k n a : Int} {t : Bs} {ks : List Nd} {v : Value} (h : NA H (.mk k t n a ks) v) : ∃ kv, v = .agg #[.int .i64 k, sv t, .int .i64 n, .int .i64 a, kv] ∧ Rep H [] (kidsD ks) [kv] := by
  obtain ⟨cs, rfl, h2⟩ := h
  obtain ⟨kv, rfl, h3⟩ := nd_rep.1 h2
  exact ⟨kv, rfl, h3⟩
/-- A child in its row. -/
theorem kid_at {H : Heap} {ks : List Nd} {v : Value} (h : Rep H [] (kidsD ks) [v]) (j : Nat) (hj : j < ks.length) :
    ∃ b o c k t n a kks kv, v = .slice (some ⟨b, o, none⟩) ks.length c ∧ ks[j] = .mk k t n a kks ∧ (cellB H b (o + j * 5 + 0) = some (.int .i64 k) ∧ cellB H b (o + j * 5 + 1) = some (sv t) ∧ cellB H b (o + j * 5 + 2) = some (.int .i64 n) ∧ cellB H b (o + j * 5 + 3) = some (.int .i64 a) ∧ cellB H b (o + j * 5 + 4) = some kv) ∧ Rep H [] (kidsD kks) [kv] := by
  obtain ⟨b, o, c, x, h1, _, h3, h4, h5⟩ := Rep.at h j (by simpa using hj) (by decide)
  rw [List.getElem_map] at h5
  rw [List.length_map] at h1
  cases e : ks[j] with
  | mk k t n a kks =>
    rw [e] at h5
    obtain ⟨kv, rfl, h6⟩ := nd_rep.1 h5
    exact ⟨b, o, c, k, t, n, a, kks, kv, h1, rfl, ⟨h4 0 (by decide), h4 1 (by decide), h4 2 (by decide), h4 3 (by decide), h4 4 (by decide)⟩, h6⟩
theorem NA.mk {H : Heap} {k n a : Int} {t : Bs} {ks : List Nd} {kv : Value} (h : Rep H [] (kidsD ks) [kv]) : NA H (.mk k t n a ks) (.agg #[.int .i64 k, sv t, .int .i64 n, .int .i64 a, kv]) := ⟨_, rfl, nd_rep.2 ⟨kv, rfl, h⟩⟩
theorem kids_len {H : Heap} {ks : List Nd} {v : Value} (h : Rep H [] (kidsD ks) [v]) : ∃ a c, v = .slice a ks.length c ∧ ks.length ≤ c ∧ ks.length ≤ maxLen := by
  obtain ⟨a, c, h1, h2, h3⟩ := Rep.slice h
  simp only [List.length_map] at h1 h2
  exact ⟨a, c, h1, h2, by omega⟩
theorem wrap_add (a b : Int) : IntKind.i64.wrap (IntKind.i64.wrap a + IntKind.i64.wrap b) = IntKind.i64.wrap (a + b) := by
  simp only [IntKind.wrap, IntKind.bits, IntKind.signed]
  simp
  omega
theorem wrap_at {i n : Nat} (h : i < n) (hn : n ≤ maxLen) : IntKind.i64.wrap ((i : Int) + 1) = ((i + 1 : Nat) : Int) := by
  unfold maxLen at hn
  rw [wrap_i64_id _ (by omega) (by omega)]; omega
theorem L0 (H : Heap) : Lv [] H [] (fun _ => True) H [] [] := Lv.start (by simp) (fun _ _ _ _ => trivial)

theorem sameL_drop : ∀ (l m : List Nd) (i : Nat), (∀ j (h : j < l.length) (h' : j < m.length), j < i → sameN l[j] m[j] = true) → sameL l m = sameL (l.drop i) (m.drop i)
  | l, m, 0, _ => rfl
  | [], m, i + 1, _ => by simp [sameL]
  | x :: l, [], i + 1, _ => by simp [sameL]
  | x :: l, y :: m, i + 1, h => by
    have h0 := h 0 (by simp) (by simp) (by omega)
    simp only [List.getElem_cons_zero] at h0
    simp only [sameL, h0, Bool.true_and, List.drop_succ_cons]
    exact sameL_drop l m i fun j h1 h2 h3 => by
      have := h (j + 1) (by simp; omega) (by simp; omega) (by omega)
      simpa using this

theorem eqL_drop : ∀ (l m : List Nd) (i : Nat), (∀ j (h : j < l.length) (h' : j < m.length), j < i → eqN l[j] m[j] = true) → eqL l m = eqL (l.drop i) (m.drop i)
  | l, m, 0, _ => rfl
  | [], m, i + 1, _ => by simp [eqL]
  | x :: l, [], i + 1, _ => by simp [eqL]
  | x :: l, y :: m, i + 1, h => by
    have h0 := h 0 (by simp) (by simp) (by omega)
    simp only [List.getElem_cons_zero] at h0
    simp only [eqL, h0, Bool.true_and, List.drop_succ_cons]
    exact eqL_drop l m i fun j h1 h2 h3 => by
      have := h (j + 1) (by simp; omega) (by simp; omega) (by omega)
      simpa using this

theorem same_ok : ∀ (N : Nat) (x y : Nd), sizeN x ≤ N → ∀ {H : Heap} {vx vy : Value}, NA H x vx → NA H y vy → HCalls Tryd.prog 12 #[vx, vy] H fun v H' => v = .bool (sameN x y) ∧ Fr [] H H' := by
  intro N
  induction N with
  | zero =>
    intro x y hx
    cases x; simp only [sizeN] at hx; omega
  | succ N ih =>
  intro x y hx H vx vy hax hay
  obtain ⟨k, t, n, a, ks⟩ := x
  obtain ⟨k', t', n', a', ks'⟩ := y
  obtain ⟨kv, rfl, hk⟩ := hax.open
  obtain ⟨kv', rfl, hk'⟩ := hay.open
  obtain ⟨aa, cc, rfl, hcc, hmx⟩ := kids_len hk
  obtain ⟨aa', cc', rfl, hcc', hmx'⟩ := kids_len hk'
  refine calls_of_vc (args := [_, _]) Tryd.func12 c12ok (Nat.le_of_ble_eq_true rfl) ?_
  have L := L0 H
  simp (implicitDefEqProofs := false) only [go_sem, c12]
  refine L.newP fun bx H1 L => ?_
  simp (implicitDefEqProofs := false) only [go_sem]
  refine L.newP fun bb H2 L => ?_
  have ca := L.cell 1 rfl
  have cb := L.cell 0 rfl
  by_cases ek : k = k'
  case neg =>
    have hs : sameN (.mk k t n a ks) (.mk k' t' n' a' ks') = false := by simp [sameN, ek]
    rw [hs]
    simp (implicitDefEqProofs := false) only [go_sem, ca, cb, ba_eq, ek, sv]
    exact L.fr
  by_cases et : t = t'
  case neg =>
    have hs : sameN (.mk k t n a ks) (.mk k' t' n' a' ks') = false := by simp [sameN, et]
    rw [hs]
    simp (implicitDefEqProofs := false) only [go_sem, ca, cb, ek, ba_eq, et, sv]
    exact L.fr
  by_cases en : n = n'
  case neg =>
    have hs : sameN (.mk k t n a ks) (.mk k' t' n' a' ks') = false := by simp [sameN, en]
    rw [hs]
    simp (implicitDefEqProofs := false) only [go_sem, ca, cb, ek, et, ba_eq, en, sv]
    exact L.fr
  by_cases el : ks.length = ks'.length
  case neg =>
    have hs : sameN (.mk k t n a ks) (.mk k' t' n' a' ks') = false := by simp [sameN, el]
    rw [hs]
    have el' : ¬ ((ks.length : Int) = (ks'.length : Int)) := by omega
    simp (implicitDefEqProofs := false) only [go_sem, ca, cb, ek, et, en, ba_eq, el', sv]
    exact L.fr
  have hs : sameN (.mk k t n a ks) (.mk k' t' n' a' ks') = sameL ks ks' := by simp [sameN, ek, et, en, el]
  rw [hs]
  have el' : (ks.length : Int) = (ks'.length : Int) := by omega
  simp (implicitDefEqProofs := false) only [go_sem, ca, cb, ek, et, en, ba_eq, el', sv]
  refine vc_loop (fun (i : Nat) H' => i ≤ ks.length ∧ Lv [] H [] (fun _ => True) H' [.blk bb 24 [.int .i64 k', sv t', .int .i64 n', .int .i64 a', .slice aa' ks'.length cc'], .blk bx 24 [.int .i64 k, sv t, .int .i64 n, .int .i64 a, .slice aa ks.length cc]] [] ∧ ∀ j (h : j < ks.length) (h' : j < ks'.length), j < i → sameN ks[j] ks'[j] = true)
    (fun i => [(2, .pointer (some ⟨bx, 0, none⟩)), (3, .pointer (some ⟨bb, 0, none⟩)), (36, .int .i64 ks'.length), (37, .int .i64 i)]) (fun i => ks.length - i) 0 ?_ ?_ ?_
  · refine ⟨Nat.zero_le _, ?_, fun j _ _ h => by omega⟩
    exact L
  · simp (implicitDefEqProofs := false) only [go_sem, el']
  · rintro i H3 ⟨hi, L, hall⟩
    have ca := L.cell 1 rfl
    have cb := L.cell 0 rfl
    rcases Nat.lt_or_ge i ks.length with hlt | hge
    · have h0 : (0 : Int) ≤ (i : Int) := by omega
      have h1 : (i : Int) < (ks.length : Int) := by omega
      have h2 : (i : Int) < (ks'.length : Int) := by omega
      have hw := wrap_at hlt hmx
      obtain ⟨b, o, c, k1, t1, n1, a1, kks, kv1, e1, e2, ⟨q0, q1, q2, q3, q4⟩, hr⟩ := kid_at (hk.ext L.fr) i hlt
      obtain ⟨b', o', c', k2, t2, n2, a2, kks', kv2, e1', e2', ⟨p0, p1, p2, p3, p4⟩, hr'⟩ := kid_at (hk'.ext L.fr) i (by omega)
      cases e1; cases e1'
      simp only [Nat.add_zero] at q0 p0
      have hsz := sizeL_get ks i hlt
      simp only [sizeN] at hx
      have hcall := ih ks[i] ks'[i] (by omega) (H := H3) (e2 ▸ NA.mk hr) (e2' ▸ NA.mk hr')
      unfold sv at *
      simp (implicitDefEqProofs := false) only [go_sem, h0, h1, h2, ca, cb, q0, q1, q2, q3, q4, p0, p1, p2, p3, p4]
      refine hcall.mono ?_
      rintro v H4 ⟨rfl, hf⟩
      have L := L.ext hf
      cases e : sameN ks[i] ks'[i] with
      | false =>
        have hno : sameL ks ks' = false := by
          rw [sameL_drop ks ks' i fun j h h' hj => hall j h h' hj, List.drop_eq_getElem_cons hlt, List.drop_eq_getElem_cons (by omega : i < ks'.length)]
          simp [sameL, e]
        rw [hno]
        simp (implicitDefEqProofs := false) only [go_sem]
        exact L.fr
      | true =>
        simp (implicitDefEqProofs := false) only [go_sem, hw]
        refine loopK_intro (i + 1) ?_ ?_ ⟨by omega, L, fun j h h' hj => ?_⟩
        · show ks.length - (i + 1) < ks.length - i
          omega
        · simp (implicitDefEqProofs := false) only [go_sem, hw]
        · rcases Nat.lt_or_ge j i with q | q
          · exact hall j h h' q
          · obtain rfl : j = i := by omega
            exact e
    · have hfin : sameL ks ks' = true := by
        rw [sameL_drop ks ks' i fun j h h' hj => hall j h h' hj, List.drop_eq_nil_of_le hge]
        simp [sameL]
      rw [hfin]
      have h1 : ¬ ((i : Int) < (ks.length : Int)) := by omega
      have h2 : ¬ ((i : Int) < (ks'.length : Int)) := by omega
      simp (implicitDefEqProofs := false) only [go_sem, h1, h2, ca, cb]
      exact L.fr

theorem rsame_ok : ∀ (N : Nat) (x y : Nd), sizeN x ≤ N → ∀ {H : Heap} {vx vy : Value}, NA H x vx → NA H y vy → HCalls Tryd.prog 13 #[vx, vy] H fun v H' => v = .bool (sameN x y) ∧ Fr [] H H' := by
  intro N
  induction N with
  | zero =>
    intro x y hx
    cases x; simp only [sizeN] at hx; omega
  | succ N ih =>
  intro x y hx H vx vy hax hay
  obtain ⟨k, t, n, a, ks⟩ := x
  obtain ⟨k', t', n', a', ks'⟩ := y
  obtain ⟨kv, rfl, hk⟩ := hax.open
  obtain ⟨kv', rfl, hk'⟩ := hay.open
  obtain ⟨aa, cc, rfl, hcc, hmx⟩ := kids_len hk
  obtain ⟨aa', cc', rfl, hcc', hmx'⟩ := kids_len hk'
  refine calls_of_vc (args := [_, _]) Tryd.func13 c13ok (Nat.le_of_ble_eq_true rfl) ?_
  have L := L0 H
  simp (implicitDefEqProofs := false) only [go_sem, c13]
  refine L.newP fun bx H1 L => ?_
  simp (implicitDefEqProofs := false) only [go_sem]
  refine L.newP fun bb H2 L => ?_
  have ca := L.cell 1 rfl
  have cb := L.cell 0 rfl
  by_cases ek : k = k'
  case neg =>
    have hs : sameN (.mk k t n a ks) (.mk k' t' n' a' ks') = false := by simp [sameN, ek]
    rw [hs]
    simp (implicitDefEqProofs := false) only [go_sem, ca, cb, ba_eq, ek, sv]
    exact L.fr
  by_cases et : t = t'
  case neg =>
    have hs : sameN (.mk k t n a ks) (.mk k' t' n' a' ks') = false := by simp [sameN, et]
    rw [hs]
    simp (implicitDefEqProofs := false) only [go_sem, ca, cb, ek, ba_eq, et, sv]
    exact L.fr
  by_cases en : n = n'
  case neg =>
    have hs : sameN (.mk k t n a ks) (.mk k' t' n' a' ks') = false := by simp [sameN, en]
    rw [hs]
    simp (implicitDefEqProofs := false) only [go_sem, ca, cb, ek, et, ba_eq, en, sv]
    exact L.fr
  by_cases el : ks.length = ks'.length
  case neg =>
    have hs : sameN (.mk k t n a ks) (.mk k' t' n' a' ks') = false := by simp [sameN, el]
    rw [hs]
    have el' : ¬ ((ks.length : Int) = (ks'.length : Int)) := by omega
    simp (implicitDefEqProofs := false) only [go_sem, ca, cb, ek, et, en, ba_eq, el', sv]
    exact L.fr
  have hs : sameN (.mk k t n a ks) (.mk k' t' n' a' ks') = sameL ks ks' := by simp [sameN, ek, et, en, el]
  rw [hs]
  have el' : (ks.length : Int) = (ks'.length : Int) := by omega
  simp (implicitDefEqProofs := false) only [go_sem, ca, cb, ek, et, en, ba_eq, el', sv]
  refine vc_loop (fun (i : Nat) H' => i ≤ ks.length ∧ Lv [] H [] (fun _ => True) H' [.blk bb 24 [.int .i64 k', sv t', .int .i64 n', .int .i64 a', .slice aa' ks'.length cc'], .blk bx 24 [.int .i64 k, sv t, .int .i64 n, .int .i64 a, .slice aa ks.length cc]] [] ∧ ∀ j (h : j < ks.length) (h' : j < ks'.length), j < i → sameN ks[j] ks'[j] = true)
    (fun i => [(2, .pointer (some ⟨bx, 0, none⟩)), (3, .pointer (some ⟨bb, 0, none⟩)), (5, .int .i64 i)]) (fun i => ks.length - i) 0 ?_ ?_ ?_
  · refine ⟨Nat.zero_le _, ?_, fun j _ _ h => by omega⟩
    exact L
  · simp (implicitDefEqProofs := false) only [go_sem, el']
  · rintro i H3 ⟨hi, L, hall⟩
    have ca := L.cell 1 rfl
    have cb := L.cell 0 rfl
    rcases Nat.lt_or_ge i ks.length with hlt | hge
    · have h0 : (0 : Int) ≤ (i : Int) := by omega
      have h1 : (i : Int) < (ks.length : Int) := by omega
      have h2 : (i : Int) < (ks'.length : Int) := by omega
      have hw := wrap_at hlt hmx
      obtain ⟨b, o, c, k1, t1, n1, a1, kks, kv1, e1, e2, ⟨q0, q1, q2, q3, q4⟩, hr⟩ := kid_at (hk.ext L.fr) i hlt
      obtain ⟨b', o', c', k2, t2, n2, a2, kks', kv2, e1', e2', ⟨p0, p1, p2, p3, p4⟩, hr'⟩ := kid_at (hk'.ext L.fr) i (by omega)
      cases e1; cases e1'
      simp only [Nat.add_zero] at q0 p0
      have hsz := sizeL_get ks i hlt
      simp only [sizeN] at hx
      have hcall := ih ks[i] ks'[i] (by omega) (H := H3) (e2 ▸ NA.mk hr) (e2' ▸ NA.mk hr')
      unfold sv at *
      simp (implicitDefEqProofs := false) only [go_sem, h0, h1, h2, ca, cb, q0, q1, q2, q3, q4, p0, p1, p2, p3, p4]
      refine hcall.mono ?_
      rintro v H4 ⟨rfl, hf⟩
      have L := L.ext hf
      cases e : sameN ks[i] ks'[i] with
      | false =>
        have hno : sameL ks ks' = false := by
          rw [sameL_drop ks ks' i fun j h h' hj => hall j h h' hj, List.drop_eq_getElem_cons hlt, List.drop_eq_getElem_cons (by omega : i < ks'.length)]
          simp [sameL, e]
        rw [hno]
        simp (implicitDefEqProofs := false) only [go_sem]
        exact L.fr
      | true =>
        simp (implicitDefEqProofs := false) only [go_sem, hw]
        refine loopK_intro (i + 1) ?_ ?_ ⟨by omega, L, fun j h h' hj => ?_⟩
        · show ks.length - (i + 1) < ks.length - i
          omega
        · simp (implicitDefEqProofs := false) only [go_sem, hw]
        · rcases Nat.lt_or_ge j i with q | q
          · exact hall j h h' q
          · obtain rfl : j = i := by omega
            exact e
    · have hfin : sameL ks ks' = true := by
        rw [sameL_drop ks ks' i fun j h h' hj => hall j h h' hj, List.drop_eq_nil_of_le hge]
        simp [sameL]
      rw [hfin]
      have h1 : ¬ ((i : Int) < (ks.length : Int)) := by omega
      have h2 : ¬ ((i : Int) < (ks'.length : Int)) := by omega
      simp (implicitDefEqProofs := false) only [go_sem, h1, h2, ca, cb]
      exact L.fr


theorem sizeL_take (l : List Nd) (i : Nat) (h : i < l.length) : sizeL (l.take (i + 1)) = sizeL (l.take i) + sizeN l[i] := by
  induction l generalizing i with
  | nil => simp at h
  | cons x xs ih =>
    cases i with
    | zero => simp [sizeL]
    | succ i =>
      have := ih i (by simpa using h)
      simp only [List.take_succ_cons, sizeL, List.getElem_cons_succ, this]; omega
theorem sizeL_all (l : List Nd) : sizeL (l.take l.length) = sizeL l := by rw [List.take_length]

theorem sizeL_le (l : List Nd) (i : Nat) : sizeL (l.take i) ≤ sizeL l := by
  induction l generalizing i with
  | nil => simp
  | cons x xs ih =>
    cases i with
    | zero => simp [sizeL]
    | succ i =>
      have := ih i
      simp only [List.take_succ_cons, sizeL]; omega

theorem size_ok : ∀ (N : Nat) (x : Nd), sizeN x ≤ N → ∀ {H : Heap} {vx : Value}, NA H x vx → HCalls Tryd.prog 14 #[vx] H fun v H' => v = .int .i64 (IntKind.i64.wrap (sizeN x)) ∧ Fr [] H H' := by
  intro N
  induction N with
  | zero =>
    intro x hx
    cases x; simp only [sizeN] at hx; omega
  | succ N ih =>
  intro x hx H vx hax
  obtain ⟨k, t, n, a, ks⟩ := x
  obtain ⟨kv, rfl, hk⟩ := hax.open
  obtain ⟨aa, cc, rfl, hcc, hmx⟩ := kids_len hk
  refine calls_of_vc (args := [_]) Tryd.func14 c14ok (Nat.le_of_ble_eq_true rfl) ?_
  have L := L0 H
  simp (implicitDefEqProofs := false) only [go_sem, c14]
  refine L.newP fun bx H1 L => ?_
  have ca := L.cell 0 rfl
  simp (implicitDefEqProofs := false) only [go_sem, ca]
  refine vc_loop (fun (i : Nat) H' => i ≤ ks.length ∧ Lv [] H [] (fun _ => True) H' [.blk bx 24 [.int .i64 k, sv t, .int .i64 n, .int .i64 a, .slice aa ks.length cc]] [])
    (fun i => [(3, .int .i64 (IntKind.i64.wrap ((1 + sizeL (ks.take i) : Nat) : Int))), (7, .slice aa ks.length cc), (8, .int .i64 ks.length), (9, .int .i64 i)]) (fun i => ks.length - i) 0 ?_ ?_ ?_
  · exact ⟨Nat.zero_le _, L⟩
  · simp (implicitDefEqProofs := false) only [go_sem, sizeL, List.take_zero]
    exact rfl
  · rintro i H3 ⟨hi, L⟩
    have ca := L.cell 0 rfl
    rcases Nat.lt_or_ge i ks.length with hlt | hge
    · have h0 : (0 : Int) ≤ (i : Int) := by omega
      have h1 : (i : Int) < (ks.length : Int) := by omega
      have hw := wrap_at hlt hmx
      obtain ⟨b, o, c, k1, t1, n1, a1, kks, kv1, e1, e2, ⟨q0, q1, q2, q3, q4⟩, hr⟩ := kid_at (hk.ext L.fr) i hlt
      cases e1
      simp only [Nat.add_zero] at q0
      have hsz := sizeL_get ks i hlt
      simp only [sizeN] at hx
      unfold sv at *
      simp (implicitDefEqProofs := false) only [go_sem, h0, h1, ca, q0, q1, q2, q3, q4]
      refine NewP_intro fun H5 hn5 hf5 _ => ?_
      have L5 := L.push hf5 hn5
      simp (implicitDefEqProofs := false) only [go_sem]
      refine Sto_all hn5 rfl (one_agg (nd_one (RepP.of_rep hr))) fun H6 hn6 hf6 _ => ?_
      have L := L5.sto 0 rfl hf6 hn6
      simp only [List.set_cons_zero, List.set_cons_succ, List.set_nil, List.eraseIdx_cons_zero, List.eraseIdx_cons_succ] at L
      have hr' := hr.ext (hf5.trans' hf6 (by simp) : Fr [] H3 H6)
      have ck := L.cell 0 rfl
      have hcall := ih ks[i] (by omega) (H := H6) (e2 ▸ (NA.mk hr').ext (Fr.refl [] _))
      unfold sv at *
      simp (implicitDefEqProofs := false) only [go_sem, ck]
      refine hcall.mono ?_
      rintro v H4 ⟨rfl, hf⟩
      have L := L.ext hf
      have hs := sizeL_take ks i hlt
      have hwa := wrap_add (1 + sizeL (ks.take i) : Nat) (sizeN ks[i])
      have hsum : ((1 + sizeL (ks.take i) : Nat) : Int) + (sizeN ks[i] : Int) = ((1 + sizeL (ks.take (i + 1)) : Nat) : Int) := by rw [hs]; omega
      rw [hsum] at hwa
      simp (implicitDefEqProofs := false) only [go_sem, hw, hwa]
      refine loopK_intro (i + 1) ?_ ?_ ⟨by omega, L.drop (List.sublist_cons_self _ _) (by simp)⟩
      · show ks.length - (i + 1) < ks.length - i
        omega
      · simp (implicitDefEqProofs := false) only [go_sem, hw, hwa]
    · have h1 : ¬ ((i : Int) < (ks.length : Int)) := by omega
      obtain rfl : i = ks.length := by omega
      simp (implicitDefEqProofs := false) only [go_sem, h1, ca]
      rw [sizeL_all]
      refine ⟨?_, L.fr⟩
      have e : 1 + sizeL ks = sizeL ks + 1 := by omega
      simp only [sizeN, e]

theorem rsize_ok : ∀ (N : Nat) (x : Nd), sizeN x ≤ N → ∀ {H : Heap} {vx : Value}, NA H x vx → HCalls Tryd.prog 15 #[vx] H fun v H' => v = .int .i64 (IntKind.i64.wrap (sizeN x)) ∧ Fr [] H H' := by
  intro N
  induction N with
  | zero =>
    intro x hx
    cases x; simp only [sizeN] at hx; omega
  | succ N ih =>
  intro x hx H vx hax
  obtain ⟨k, t, n, a, ks⟩ := x
  obtain ⟨kv, rfl, hk⟩ := hax.open
  obtain ⟨aa, cc, rfl, hcc, hmx⟩ := kids_len hk
  refine calls_of_vc (args := [_]) Tryd.func15 c15ok (Nat.le_of_ble_eq_true rfl) ?_
  have L := L0 H
  simp (implicitDefEqProofs := false) only [go_sem, c15]
  refine L.newP fun bx H1 L => ?_
  have ca := L.cell 0 rfl
  simp (implicitDefEqProofs := false) only [go_sem, ca]
  refine vc_loop (fun (i : Nat) H' => i ≤ ks.length ∧ Lv [] H [] (fun _ => True) H' [.blk bx 24 [.int .i64 k, sv t, .int .i64 n, .int .i64 a, .slice aa ks.length cc]] [])
    (fun i => [(1, .pointer (some ⟨bx, 0, none⟩)), (3, .int .i64 (IntKind.i64.wrap ((1 + sizeL (ks.take i) : Nat) : Int))), (4, .int .i64 i)]) (fun i => ks.length - i) 0 ?_ ?_ ?_
  · exact ⟨Nat.zero_le _, L⟩
  · simp (implicitDefEqProofs := false) only [go_sem, sizeL, List.take_zero]
    exact rfl
  · rintro i H3 ⟨hi, L⟩
    have ca := L.cell 0 rfl
    rcases Nat.lt_or_ge i ks.length with hlt | hge
    · have h0 : (0 : Int) ≤ (i : Int) := by omega
      have h1 : (i : Int) < (ks.length : Int) := by omega
      have hw := wrap_at hlt hmx
      obtain ⟨b, o, c, k1, t1, n1, a1, kks, kv1, e1, e2, ⟨q0, q1, q2, q3, q4⟩, hr⟩ := kid_at (hk.ext L.fr) i hlt
      cases e1
      simp only [Nat.add_zero] at q0
      have hsz := sizeL_get ks i hlt
      simp only [sizeN] at hx
      have hcall := ih ks[i] (by omega) (H := H3) (e2 ▸ NA.mk hr)
      unfold sv at *
      simp (implicitDefEqProofs := false) only [go_sem, h0, h1, ca, q0, q1, q2, q3, q4]
      refine hcall.mono ?_
      rintro v H4 ⟨rfl, hf⟩
      have L := L.ext hf
      have hs := sizeL_take ks i hlt
      have hwa := wrap_add (1 + sizeL (ks.take i) : Nat) (sizeN ks[i])
      have hsum : ((1 + sizeL (ks.take i) : Nat) : Int) + (sizeN ks[i] : Int) = ((1 + sizeL (ks.take (i + 1)) : Nat) : Int) := by rw [hs]; omega
      rw [hsum] at hwa
      simp (implicitDefEqProofs := false) only [go_sem, hw, hwa]
      refine loopK_intro (i + 1) ?_ ?_ ⟨by omega, L⟩
      · show ks.length - (i + 1) < ks.length - i
        omega
      · simp (implicitDefEqProofs := false) only [go_sem, hw, hwa]
    · have h1 : ¬ ((i : Int) < (ks.length : Int)) := by omega
      obtain rfl : i = ks.length := by omega
      simp (implicitDefEqProofs := false) only [go_sem, h1, ca]
      rw [sizeL_all]
      refine ⟨?_, L.fr⟩
      have e : 1 + sizeL ks = sizeL ks + 1 := by omega
      simp only [sizeN, e]

theorem room_ok : ∀ (N : Nat) (x : Nd), sizeN x ≤ N → ∀ {H : Heap} {vx : Value} {m : Nat}, m < 2^62 → NA H x vx → HCalls Tryd.prog 23 #[vx, .int .i64 m] H fun v H' => v = .int .i64 (if sizeN x ≤ m then (m : Int) - sizeN x else -1) ∧ Fr [] H H' := by
  intro N
  induction N with
  | zero =>
    intro x hx
    cases x; simp only [sizeN] at hx; omega
  | succ N ih =>
  intro x hx H vx m hm hax
  obtain ⟨k, t, n, a, ks⟩ := x
  obtain ⟨kv, rfl, hk⟩ := hax.open
  obtain ⟨aa, cc, rfl, hcc, hmx⟩ := kids_len hk
  refine calls_of_vc (args := [_, _]) Tryd.func23 c23ok (Nat.le_of_ble_eq_true rfl) ?_
  have L := L0 H
  have hw0 : IntKind.i64.wrap ((m : Int) - 1) = (m : Int) - 1 := wrap_i64_id _ (by omega) (by omega)
  simp (implicitDefEqProofs := false) only [go_sem, c23, hw0]
  refine L.newP fun bx H1 L => ?_
  simp (implicitDefEqProofs := false) only [go_sem, hw0]
  refine vc_loop (fun (i : Nat) H' => i ≤ ks.length ∧ Lv [] H [] (fun _ => True) H' [.blk bx 24 [.int .i64 k, sv t, .int .i64 n, .int .i64 a, .slice aa ks.length cc]] [])
    (fun i => [(1, .int .i64 (if 1 + sizeL (ks.take i) ≤ m then (m : Int) - (1 + sizeL (ks.take i) : Nat) else -1)), (2, .pointer (some ⟨bx, 0, none⟩)), (5, .int .i64 i)]) (fun i => ks.length - i) 0 ?_ ?_ ?_
  · exact ⟨Nat.zero_le _, L⟩
  · simp (implicitDefEqProofs := false) only [go_sem, sizeL, List.take_zero]
    split
    · simp
    · rename_i h
      have : m = 0 := by omega
      subst this; rfl
  · rintro i H3 ⟨hi, L⟩
    have ca := L.cell 0 rfl
    obtain ⟨cur, hcur⟩ : ∃ cur, cur = if 1 + sizeL (ks.take i) ≤ m then (m : Int) - (1 + sizeL (ks.take i) : Nat) else -1 := ⟨_, rfl⟩
    rw [← hcur]
    rcases Nat.lt_or_ge i ks.length with hlt | hge
    · have h0 : (0 : Int) ≤ (i : Int) := by omega
      have h1 : (i : Int) < (ks.length : Int) := by omega
      have hs := sizeL_take ks i hlt
      by_cases hc : 1 + sizeL (ks.take i) ≤ m
      · rw [if_pos hc] at hcur
        have hc0 : (0 : Int) ≤ cur := by omega
        obtain ⟨cn, hcn⟩ : ∃ cn : Nat, cur = cn := ⟨cur.toNat, by omega⟩
        have hw := wrap_at hlt hmx
        obtain ⟨b, o, c, k1, t1, n1, a1, kks, kv1, e1, e2, ⟨q0, q1, q2, q3, q4⟩, hr⟩ := kid_at (hk.ext L.fr) i hlt
        cases e1
        simp only [Nat.add_zero] at q0
        have hsz := sizeL_get ks i hlt
        simp only [sizeN] at hx
        have hcall := ih ks[i] (by omega) (H := H3) (m := cn) (by omega) (e2 ▸ NA.mk hr)
        rw [← hcn] at hcall
        unfold sv at *
        simp (implicitDefEqProofs := false) only [go_sem, h0, h1, hc0, ca, q0, q1, q2, q3, q4]
        refine hcall.mono ?_
        rintro v H4 ⟨rfl, hf⟩
        have L := L.ext hf
        have hval : (if sizeN ks[i] ≤ cn then cur - sizeN ks[i] else -1) = if 1 + sizeL (ks.take (i + 1)) ≤ m then (m : Int) - (1 + sizeL (ks.take (i + 1)) : Nat) else -1 := by
          rw [hs]
          by_cases h : sizeN ks[i] ≤ cn
          · rw [if_pos h, if_pos (by omega)]; omega
          · rw [if_neg h, if_neg (by omega)]
        rw [hval]
        simp (implicitDefEqProofs := false) only [go_sem, hw]
        refine loopK_intro (i + 1) ?_ ?_ ⟨by omega, L⟩
        · show ks.length - (i + 1) < ks.length - i
          omega
        · simp (implicitDefEqProofs := false) only [go_sem, hw]
      · rw [if_neg hc] at hcur
        have hfin : ¬ (sizeN (.mk k t n a ks) ≤ m) := by
          have h2 := sizeL_le ks i
          simp only [sizeN]; omega
        rw [if_neg hfin]
        subst hcur
        simp (implicitDefEqProofs := false) only [go_sem, h1, ca]
        exact L.fr
    · have h1 : ¬ ((i : Int) < (ks.length : Int)) := by omega
      obtain rfl : i = ks.length := by omega
      simp (implicitDefEqProofs := false) only [go_sem, h1, ca]
      have e : cur = if sizeN (.mk k t n a ks) ≤ m then (m : Int) - sizeN (.mk k t n a ks) else -1 := by
        rw [hcur, sizeL_all]
        by_cases h : 1 + sizeL ks ≤ m
        · rw [if_pos h, if_pos (by simp only [sizeN]; omega)]; simp only [sizeN]; omega
        · rw [if_neg h, if_neg (by simp only [sizeN]; omega)]
      rw [e]
      exact ⟨rfl, L.fr⟩
theorem small_ok (x : Nd) {H : Heap} {vx : Value} {m : Nat} (hm : m < 2^62) (hax : NA H x vx) : HCalls Tryd.prog 11 #[vx, .int .i64 m] H fun v H' => v = .bool (decide (sizeN x ≤ m)) ∧ Fr [] H H' := by
  obtain ⟨k, t, n, a, ks⟩ := x
  obtain ⟨kv, rfl, hk⟩ := hax.open
  obtain ⟨aa, cc, rfl, hcc, hmx⟩ := kids_len hk
  refine calls_of_vc (args := [_, _]) Tryd.func11 c11ok (Nat.le_of_ble_eq_true rfl) ?_
  have L := L0 H
  simp (implicitDefEqProofs := false) only [go_sem, c11]
  refine L.newP fun bx H1 L => ?_
  have ca := L.cell 0 rfl
  have hcall := room_ok _ (.mk k t n a ks) (Nat.le_refl _) (H := H1) hm ((NA.mk hk).ext L.fr)
  simp (implicitDefEqProofs := false) only [go_sem, ca]
  refine hcall.mono ?_
  rintro v H2 ⟨rfl, hf⟩
  have hF := L.fr.trans hf
  by_cases h : sizeN (.mk k t n a ks) ≤ m
  · rw [if_pos h]
    have h2 : (0 : Int) ≤ (m : Int) - sizeN (.mk k t n a ks) := by omega
    simp (implicitDefEqProofs := false) only [go_sem, h, h2]
    exact hF
  · rw [if_neg h]
    simp (implicitDefEqProofs := false) only [go_sem, h]
    exact hF
end Go.Proofs.YtbgjgaaobnbijaaDoor
