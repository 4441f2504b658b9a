/- Spellings and texts of the specification: contracts. -/
import Derived.Test.YtighpnijbnllaaaDoorXj
set_option linter.unusedSimpArgs false
set_option linter.unusedVariables false
set_option maxRecDepth 8000
namespace Go.Proofs.YtighpnijbnllaaaDoor
open Gx Go

theorem digs_at : ∀ n : Nat, n < 10 → (([48, 49, 50, 51, 52, 53, 54, 55, 56, 57] : Bs).take (n + 1)).drop n = [UInt8.ofNat (48 + n)] := by decide
theorem dd_small {n : Nat} (h : n < 10) : Lib.decDigits n = [UInt8.ofNat (48 + n)] := by rw [Lib.decDigits, dif_pos h]
theorem dd_big {n : Nat} (h : ¬ n < 10) : Lib.decDigits n = Lib.decDigits (n / 10) ++ Lib.decDigits (n % 10) := by
  rw [Lib.decDigits, dif_neg h, dd_small (n := n % 10) (by omega)]
theorem dd_len {n : Nat} (h : n ≤ 1000000000000000) : (Lib.decDigits n).length ≤ 16 := by
  rw [Lib.decDigits_eq, List.length_map, List.length_range]
  exact nDigits_le 15 n (Nat.lt_of_le_of_lt h (by decide))

theorem rnumber_ok (n : Nat) : n ≤ 1000000000000000 → ∀ H : Heap, HCalls Tryd.prog 40 #[.int .i64 n] H fun r H' => r = sv (Lib.decDigits n) ∧ H' = H := by
  induction n using Nat.strongRecOn with
  | _ n ih =>
    intro hn H
    refine calls_of_vc (args := [_]) Tryd.func40 c40ok (Nat.le_of_ble_eq_true rfl) ?_
    have h0 : (0 : Int) ≤ (n : Int) := by omega
    by_cases h : n < 10
    · have h' : (n : Int) < 10 := by omega
      have hw : IntKind.i64.wrap ((n : Int) + 1) = ((n + 1 : Nat) : Int) := by rw [wrap_i64_id _ (by omega) (by omega)]; omega
      have g1 : (0 : Int) ≤ ((n + 1 : Nat) : Int) := by omega
      have g2 : ((n + 1 : Nat) : Int) ≤ 10 := by omega
      have g3 : (n : Int) ≤ ((n + 1 : Nat) : Int) := by omega
      simp (implicitDefEqProofs := false) only [go_sem, c40, h', hw, ba_size, h0, g1, g2, g3]
      rw [dd_small h, ← digs_at n h]
      exact congrArg Value.string (ba_ext _ _ _)
    · have h' : ¬ (n : Int) < 10 := by omega
      have q1 : IntKind.i64.wrap ((n : Int).tdiv 10) = ((n / 10 : Nat) : Int) := by
        have : (n : Int).tdiv 10 = ((n / 10 : Nat) : Int) := by rw [Int.tdiv_eq_ediv_of_nonneg h0]; omega
        rw [this, wrap_i64_id _ (by omega) (by omega)]
      have q2 : (n : Int).tmod 10 = ((n % 10 : Nat) : Int) := by rw [Int.tmod_eq_emod_of_nonneg h0]; omega
      have q3 : ((10 : Int) = 0) = False := by simp
      simp (implicitDefEqProofs := false) only [go_sem, c40, h', q1, q2, q3]
      refine (ih (n / 10) (by omega) (by omega) H).mono ?_
      rintro r H1 ⟨rfl, hEq⟩
      obtain rfl := hEq.symm
      simp (implicitDefEqProofs := false) only [go_sem, q2, q3]
      refine (ih (n % 10) (by omega) (by omega) H).mono ?_
      rintro r H1 ⟨rfl, hEq⟩
      obtain rfl := hEq.symm
      have l1 := dd_len (n := n / 10) (by omega)
      have l2 := dd_len (n := n % 10) (by omega)
      have l3 : (Lib.decDigits (n / 10)).length + (Lib.decDigits (n % 10)).length ≤ 9223372036854775807 := by omega
      simp (implicitDefEqProofs := false) only [go_sem, sv, ba_size, l3, ba_app]
      rw [← dd_big h]

theorem itoa_nat (u : Nat) : Lib.itoa (u : Int) = Lib.decDigits u := by
  unfold Lib.itoa; rw [if_neg (by omega)]; simp
set_option maxHeartbeats 4000000 in
theorem rspelling_ok (t : Tk) (ht : t.text.length ≤ 1000000000000) (H : Heap) :
    HCalls Tryd.prog 26 #[tkV t] H fun r H' => (∃ s, r = .tuple #[sv s, .bool (poB t && !decide (t.kind = 6))] ∧ ((poB t && !decide (t.kind = 6)) = true → s = spT t)) ∧ Fr [] H H' := by
  refine calls_of_vc (args := [_]) Tryd.func26 c26ok (Nat.le_of_ble_eq_true rfl) ?_
  unfold tkV sv
  simp (implicitDefEqProofs := false) only [go_sem, c26]
  refine NewP_intro fun H1 hb1 hf1 hs1 => ?_
  have hc1 := hb1.cell
  generalize hx1 : H.size = x1 at *
  by_cases k3 : t.kind = 3
  · rw [show poB t = (decide (t.text = []) && (decide (0 ≤ t.n) && decide (t.n ≤ 1000000000000000))) by simp [poB, k3]]
    rw [show spT t = Lib.itoa t.n by simp [spT, k3], show (!decide (t.kind = 6)) = true by simp [k3], Bool.and_true]
    by_cases e1 : t.text = []
    · by_cases e2 : 0 ≤ t.n
      · have e2' : ¬ t.n < 0 := by omega
        by_cases e3 : t.n ≤ 1000000000000000
        · have e3' : ¬ 1000000000000000 < t.n := by omega
          obtain ⟨u, hu⟩ : ∃ u : Nat, t.n = u := ⟨t.n.toNat, by omega⟩
          simp (implicitDefEqProofs := false) only [go_sem, hc1, k3, ba_eq, e1, e2', e3']
          rw [hu, itoa_nat]
          refine (rnumber_ok u (by omega) H1).mono ?_
          rintro r H2 ⟨rfl, hEq⟩
          obtain rfl := hEq.symm
          rw [hu] at e2 e3
          simp (implicitDefEqProofs := false) only [go_sem, sv, e2, e3]
          exact ⟨⟨_, rfl, rfl⟩, hf1⟩
        · have e3' : 1000000000000000 < t.n := by omega
          simp (implicitDefEqProofs := false) only [go_sem, hc1, k3, ba_eq, e1, e2', e2, e3, e3']
          first | exact ⟨⟨_, rfl, fun _ => rfl⟩, hf1⟩ | exact ⟨⟨_, rfl⟩, hf1⟩
      · have e2' : t.n < 0 := by omega
        simp (implicitDefEqProofs := false) only [go_sem, hc1, k3, ba_eq, e1, e2', e2]
        first | exact ⟨⟨_, rfl, fun _ => rfl⟩, hf1⟩ | exact ⟨⟨_, rfl⟩, hf1⟩
    · simp (implicitDefEqProofs := false) only [go_sem, hc1, k3, ba_eq, e1]
      first | exact ⟨⟨_, rfl, fun _ => rfl⟩, hf1⟩ | exact ⟨⟨_, rfl⟩, hf1⟩
  by_cases n0 : t.n = 0
  case neg =>
    rw [show poB t = false by simp [poB, k3, n0]]
    simp (implicitDefEqProofs := false) only [go_sem, hc1, k3, n0]
    first | exact ⟨⟨_, rfl, fun _ => rfl⟩, hf1⟩ | exact ⟨⟨_, rfl⟩, hf1⟩
  by_cases k1 : t.kind = 1
  · rw [show poB t = (validN t.text && !kwB t.text) by simp [poB, n0, k1], show spT t = t.text by simp [spT, k1], show (!decide (t.kind = 6)) = true by simp [k1], Bool.and_true]
    simp (implicitDefEqProofs := false) only [go_sem, hc1, k3, n0, k1]
    refine (rvalid_ok t.text H1).mono ?_
    rintro r H2 ⟨rfl, hEq⟩
    obtain rfl := hEq.symm
    cases e1 : validN t.text
    · simp (implicitDefEqProofs := false) only [go_sem, hc1, k3, n0, k1]
      first | exact ⟨⟨_, rfl, fun _ => rfl⟩, hf1⟩ | exact ⟨⟨_, rfl⟩, hf1⟩
    · simp (implicitDefEqProofs := false) only [go_sem, hc1, k3, n0, k1]
      refine (rkeyword_ok t.text H1).mono ?_
      rintro r H3 ⟨rfl, hf3⟩
      have hc3 := (hb1.ext hf3).cell
      simp (implicitDefEqProofs := false) only [go_sem, hc1, hc3, k3, n0, k1, sv]
      first | exact ⟨⟨_, rfl, fun _ => rfl⟩, hf1.trans hf3⟩ | exact ⟨⟨_, rfl⟩, hf1.trans hf3⟩
  by_cases k2 : t.kind = 2
  · rw [show poB t = kwB t.text by simp [poB, n0, k2], show spT t = t.text by simp [spT, k2], show (!decide (t.kind = 6)) = true by simp [k2], Bool.and_true]
    simp (implicitDefEqProofs := false) only [go_sem, hc1, k3, n0, k1, k2]
    refine (rkeyword_ok t.text H1).mono ?_
    rintro r H3 ⟨rfl, hf3⟩
    have hc3 := (hb1.ext hf3).cell
    simp (implicitDefEqProofs := false) only [go_sem, hc1, hc3, k3, n0, k1, k2]
    first | exact ⟨⟨_, rfl, fun _ => rfl⟩, hf1.trans hf3⟩ | exact ⟨⟨_, rfl⟩, hf1.trans hf3⟩
  by_cases k4 : t.kind = 4
  · rw [show poB t = validN t.text by simp [poB, n0, k4], show spT t = 39 :: (t.text ++ [39]) by simp [spT, k4], show (!decide (t.kind = 6)) = true by simp [k4], Bool.and_true]
    simp (implicitDefEqProofs := false) only [go_sem, hc1, k3, n0, k1, k2, k4, ba_size]
    refine ⟨by omega, by omega, (rvalid_ok t.text H1).mono ?_⟩
    rintro r H2 ⟨rfl, hEq⟩
    obtain rfl := hEq.symm
    simp (implicitDefEqProofs := false) only [go_sem, hc1, k3, n0, k1, k2, k4, ba_app]
    first | exact ⟨⟨_, rfl, fun _ => rfl⟩, hf1⟩ | exact ⟨⟨_, rfl⟩, hf1⟩
  by_cases k5 : t.kind = 5
  · rw [show poB t = signB t.text by simp [poB, n0, k5], show spT t = t.text by simp [spT, k5], show (!decide (t.kind = 6)) = true by simp [k5], Bool.and_true]
    simp (implicitDefEqProofs := false) only [go_sem, hc1, k3, n0, k1, k2, k4, k5]
    refine (rsign_ok t.text H1).mono ?_
    rintro r H3 ⟨rfl, hf3⟩
    have hc3 := (hb1.ext hf3).cell
    simp (implicitDefEqProofs := false) only [go_sem, hc1, hc3, k3, n0, k1, k2, k4, k5]
    first | exact ⟨⟨_, rfl, fun _ => rfl⟩, hf1.trans hf3⟩ | exact ⟨⟨_, rfl⟩, hf1.trans hf3⟩
  by_cases k6 : t.kind = 6
  · simp (implicitDefEqProofs := false) only [go_sem, hc1, k3, n0, k1, k2, k4, k5, k6]
    exact ⟨⟨_, rfl⟩, hf1⟩
  · rw [show poB t = false by simp [poB, n0, k1, k2, k3, k4, k5, k6]]
    simp (implicitDefEqProofs := false) only [go_sem, hc1, k3, n0, k1, k2, k4, k5, k6]
    first | exact ⟨⟨_, rfl, fun _ => rfl⟩, hf1⟩ | exact ⟨⟨_, rfl⟩, hf1⟩

theorem join_snoc : ∀ (xs : List Bs) (x : Bs), Lib.join (xs ++ [x]) [32] = if xs = [] then x else Lib.join xs [32] ++ 32 :: x
  | [], x => by simp [Lib.join]
  | y :: r, x => by
    rw [List.cons_append, Lib.join_cons, Lib.join_cons, if_neg (by simp)]
    simp [Lib.joinTail]
theorem join_len' {l : List Tk} (h : ∀ t ∈ l, poB t = true) : (Lib.join (spells l) [32]).length ≤ 19 * l.length := by
  have h1 := join_len 18 (spells l) (spells_len h)
  have h2 : (spells l).length ≤ l.length := by
    unfold spells
    rw [List.length_map]
    exact List.length_filter_le _ _
  omega

set_option maxHeartbeats 4000000 in
theorem rtext_ok {H : Heap} {l : List Tk} {la : Option Addr} {lc : Nat} (hl : RowR tkC H la l) (hll : l.length ≤ 1000000000) (hn : ∀ t ∈ l, t.text.length ≤ 1000000000000) :
    HCalls Tryd.prog 25 #[.slice la l.length lc] H fun r H' => r = .tuple #[sv (textT l).1, .int .i64 (textT l).2] ∧ Fr [] H H' := by
  refine calls_of_vc (args := [_]) Tryd.func25 c25ok (Nat.le_of_ble_eq_true rfl) ?_
  have hwn : IntKind.i64.wrap ((l.length : Int) - 1) = (l.length : Int) - 1 := by rw [wrap_i64_id _ (by omega) (by omega)]
  have bad : okG l = false → textT l = ([], 1) := fun h => by unfold textT; rw [if_pos (.inr h)]
  by_cases h0 : l.length = 0
  · have h0' : ((l.length : Int) - 1 < 0) := by omega
    simp (implicitDefEqProofs := false) only [go_sem, c25, hwn, h0']
    unfold textT
    rw [if_pos (.inl (List.eq_nil_of_length_eq_zero h0))]
    exact ⟨rfl, Fr.refl _ _⟩
  have h0' : ¬ ((l.length : Int) - 1 < 0) := by omega
  have h0'' : (0 : Int) ≤ (l.length : Int) - 1 := by omega
  have hlast : l.length - 1 < l.length := by omega
  have hlt1 : (l.length : Int) - 1 < (l.length : Int) := by omega
  have htn : ((l.length : Int) - 1).toNat = l.length - 1 := by omega
  have hne : l ≠ [] := fun e => h0 (by rw [e]; rfl)
  obtain ⟨b1, o1, hla, p0, p1, p2, p3⟩ := rowT_at hl (l.length - 1) hlast
  subst hla
  unfold sv at p1
  have hlk := okG_drop l (l.length - 1) hlast
  rw [show l.length - 1 + 1 = l.length by omega, List.drop_eq_nil_of_le (Nat.le_refl l.length)] at hlk
  -- what the last token says
  have okl : okG l = true → poB l[l.length - 1] = true ∧ l[l.length - 1].kind = 6 := by
    intro h
    have key : ∀ (k : Nat) (i : Nat), i + k = l.length - 1 → okG (l.drop i) = true → okG (l.drop (l.length - 1)) = true := by
      intro k
      induction k with
      | zero => intro i hi h; rw [← hi]; exact h
      | succ k ih =>
        intro i hi h
        rw [okG_drop l i (by omega), Bool.and_eq_true] at h
        exact ih (i + 1) (by omega) h.2
    have := key (l.length - 1) 0 (by omega) h
    rw [hlk] at this
    simp only [Bool.and_eq_true, decide_true, beq_iff_eq, decide_eq_true_eq] at this
    exact this.1
  have hpl : poB l[l.length - 1] = true → l[l.length - 1].kind = 6 → l[l.length - 1].text = [] ∧ l[l.length - 1].n = 0 := by
    intro h k
    unfold poB at h
    rw [k] at h
    simpa [and_comm] using h
  have hst0 := spells_take l (l.length - 1) hlast
  rw [show l.length - 1 + 1 = l.length by omega, List.take_length] at hst0
  generalize l[l.length - 1] = z at *
  by_cases k6 : z.kind = 6
  case neg =>
    simp (implicitDefEqProofs := false) only [go_sem, c25, hwn, h0', h0'', hlt1, htn, p0, k6]
    rw [bad (by cases q : okG l; rfl; exact absurd (okl q).2 k6)]
    exact ⟨rfl, Fr.refl _ _⟩
  by_cases e1 : z.text = []
  case neg =>
    simp (implicitDefEqProofs := false) only [go_sem, c25, hwn, h0', h0'', hlt1, htn, p0, k6, p1, ba_eq, e1]
    rw [bad (by cases q : okG l; rfl; exact absurd (hpl (okl q).1 k6).1 e1)]
    exact ⟨rfl, Fr.refl _ _⟩
  by_cases e2 : z.n = 0
  case neg =>
    simp (implicitDefEqProofs := false) only [go_sem, c25, hwn, h0', h0'', hlt1, htn, p0, k6, p1, ba_eq, e1, p2, e2]
    rw [bad (by cases q : okG l; rfl; exact absurd (hpl (okl q).1 k6).2 e2)]
    exact ⟨rfl, Fr.refl _ _⟩
  have hpz : poB z = true := by simp [poB, k6, e1, e2]
  rw [hpz, k6] at hlk
  simp (implicitDefEqProofs := false) only [go_sem, c25, hwn, h0', h0'', hlt1, htn, p0, k6, p1, ba_eq, e1, p2, e2]
  refine vc_loop (fun (i : Nat) H' => (i ≤ l.length - 1 ∧ okG (l.drop i) = okG l ∧ (∀ t ∈ l.take i, poB t = true) ∧ (spells (l.take i)).length = i) ∧ Fr [] H H')
    (fun i => [(0, .slice (some ⟨b1, o1, none⟩) l.length lc), (4, .int .i64 ((l.length : Int) - 1)), (5, sv (Lib.join (spells (l.take i)) [32])), (6, .int .i64 i)]) (fun i => l.length - i) 0 ?_ ?_ ?_
  · exact ⟨⟨Nat.zero_le _, rfl, by simp, rfl⟩, Fr.refl _ _⟩
  · simp (implicitDefEqProofs := false) only [go_sem, z0]
    rfl
  · rintro i H' ⟨⟨h1, h2, hall, hsp⟩, hfr⟩
    rcases Nat.lt_or_ge i (l.length - 1) with hlt | hge
    · have hlt' : (i : Int) < (l.length : Int) - 1 := by omega
      have hlt2 : (i : Int) < (l.length : Int) := by omega
      have hi0 : (0 : Int) ≤ (i : Int) := by omega
      have hltn : i < l.length := by omega
      have hw := succ_i64 i l.length hltn (by unfold maxLen; omega)
      obtain ⟨b2, o2, e', q0, q1, q2, q3⟩ := rowT_at (hl.ext hfr) i hltn
      simp only [Option.some.injEq, Addr.mk.injEq, and_true] at e'
      obtain ⟨rfl, rfl⟩ := e'
      have hnt := hn _ (List.getElem_mem hltn)
      rw [okG_drop l i hltn, show decide (i + 1 = l.length) = false by simp; omega] at h2
      have hst := spells_take l i hltn
      have hall' : poB l[i] = true → ∀ t ∈ l.take (i + 1), poB t = true := by
        intro hp t ht
        rw [List.take_succ_eq_append_getElem hltn, List.mem_append] at ht
        rcases ht with ht | ht
        · exact hall t ht
        · simp at ht; rw [ht]; exact hp
      generalize l[i] = x at *
      simp (implicitDefEqProofs := false) only [go_sem, hlt', hlt2, hi0, q0, q1, q2, q3]
      refine (rspelling_ok x hnt H').mono ?_
      rintro r H3 ⟨⟨s, rfl, hs⟩, hf3⟩
      cases hpo : (poB x && !decide (x.kind = 6))
      · have h2' : okG l = false := by
          rw [← h2]
          cases a1 : poB x <;> cases a2 : decide (x.kind = 6) <;> simp [a1, a2] at hpo ⊢
        simp (implicitDefEqProofs := false) only [go_sem]
        rw [bad h2']
        exact ⟨rfl, hfr.trans hf3⟩
      · have hs := hs hpo
        rw [Bool.and_eq_true] at hpo
        have k6x : ¬ x.kind = 6 := by simpa using hpo.2
        rw [if_neg k6x] at hst
        rw [hpo.1, show (decide (x.kind = 6) == false) = true by simp [k6x], Bool.true_and, Bool.true_and] at h2
        subst hs
        have hjl := join_len' (hall' hpo.1)
        have htl : (l.take (i + 1)).length ≤ l.length := by rw [List.length_take]; omega
        have hjs := join_snoc (spells (l.take i)) (spT x)
        rw [← hst] at hjs
        have hsp' : (spells (l.take (i + 1))).length = i + 1 := by rw [hst]; simp [hsp]
        by_cases hi : i = 0
        · subst hi
          have hnil : spells (l.take 0) = [] := rfl
          have hj0 : Lib.join ([] : List Bs) [32] = [] := rfl
          have hn0 : spells [] = [] := rfl
          rw [hnil, if_pos rfl, Nat.zero_add] at hjs
          have hsz : (spT x).length ≤ 9223372036854775807 := by rw [← hjs]; rw [Nat.zero_add] at hjl htl; omega
          simp (implicitDefEqProofs := false) only [go_sem, z0, hnil, hn0, hj0, List.length_nil, Nat.zero_add, sv, ba_size, hsz, ba_app, hw]
          refine loopK_intro 1 (by show l.length - 1 < l.length - 0; omega) ?_ ⟨⟨by omega, h2, hall' hpo.1, hsp'⟩, hfr.trans hf3⟩
          have w1 : IntKind.i64.wrap 1 = 1 := by decide
          simp (implicitDefEqProofs := false) only [go_sem, hjs, n1, w1]
        · have hi' : (0 : Int) < (i : Int) := by omega
          have hnil : spells (l.take i) ≠ [] := fun e => hi (by rw [← hsp, e]; rfl)
          rw [if_neg hnil] at hjs
          have hlen : (Lib.join (spells (l.take i)) [32]).length + (1 + (spT x).length) = (Lib.join (spells (l.take (i + 1))) [32]).length := by rw [hjs]; simp; omega
          generalize Lib.join (spells (l.take i)) [32] = J at *
          have g1 : J.length + 1 ≤ 9223372036854775807 := by omega
          have g1' : J.length ≤ 9223372036854775806 := by omega
          have g2 : J.length + 1 + (spT x).length ≤ 9223372036854775807 := by omega
          have hja : J ++ [32] ++ spT x = J ++ 32 :: spT x := by simp
          simp (implicitDefEqProofs := false) only [go_sem, hi', sv, ba_size, g1, g1', g2, ba_app, hw, List.length_append]
          refine loopK_intro (i + 1) (by show l.length - (i + 1) < l.length - i; omega) ?_ ⟨⟨by omega, h2, hall' hpo.1, hsp'⟩, hfr.trans hf3⟩
          simp (implicitDefEqProofs := false) only [go_sem, hjs, sv, hja]
    · have hlt' : ¬ (i : Int) < (l.length : Int) - 1 := by omega
      obtain rfl : i = l.length - 1 := by omega
      have hok : okG l = true := by rw [← h2, hlk]; simp [okG]
      have hst : spells l = spells (l.take (l.length - 1)) := by
        rw [if_pos k6, List.append_nil] at hst0
        exact hst0
      have hfin : textT l = if 65536 < (Lib.join (spells l) [32]).length then ([], 6) else (Lib.join (spells l) [32], 0) := by
        unfold textT
        rw [if_neg]
        rintro (q | q)
        · exact hne q
        · rw [hok] at q; cases q
      rw [← hst]
      rw [hfin]
      by_cases hbig : 65536 < (Lib.join (spells l) [32]).length
      · have hbig' : (65536 : Int) < ((Lib.join (spells l) [32]).length : Int) := by omega
        rw [if_pos hbig]
        simp (implicitDefEqProofs := false) only [go_sem, hlt', sv, ba_size, hbig']
        exact hfr
      · have hbig' : ¬ (65536 : Int) < ((Lib.join (spells l) [32]).length : Int) := by omega
        rw [if_neg hbig]
        simp (implicitDefEqProofs := false) only [go_sem, hlt', sv, ba_size, hbig']
        exact hfr
end Go.Proofs.YtighpnijbnllaaaDoor
