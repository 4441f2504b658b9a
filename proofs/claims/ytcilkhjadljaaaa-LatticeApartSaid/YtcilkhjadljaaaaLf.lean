/- A field's part: contract. -/
import Derived.Test.YtcilkhjadljaaaaLo
set_option linter.unusedSimpArgs false
set_option linter.unusedVariables false
set_option maxRecDepth 8000
namespace Go.Proofs.Ytcilkhjadljaaaa
open Gx Go

def Lt.zero : Lt := .mk 0 0 0 [] [] []
theorem zeroA (H : Heap) (M : List Nat) : LtA H M Lt.zero [.int .i64 0, .int .i64 0, .int .i64 0, .slice none 0 0, .slice none 0 0, .slice none 0 0] := by
  have e : ∀ m, Rep H M (.list m []) [.slice none 0 0] := fun m => by
    simp only [Rep, Reps]
    exact ⟨none, 0, [], rfl, Nat.le_refl _, Nat.zero_le _, rfl, by simp, .inl rfl⟩
  exact LtA.mk (l := Lt.zero) (e 1) (e 6) (e 2)
def fieldF (s : Bs) : List Bs → List Lt → Lt × Bool
  | n :: ns, ps => if n = s then (match ps with | p :: _ => (p, true) | [] => (Lt.zero, false)) else fieldF s ns ps.tail
  | [], _ => (Lt.zero, false)
def fieldT (l : Lt) (s : Bs) : Lt × Bool := if l.kind = 6 then fieldF s l.names l.parts else (Lt.zero, false)
theorem fieldF_none {s : Bs} : ∀ {ns : List Bs} {ps : List Lt}, s ∉ ns → fieldF s ns ps = (Lt.zero, false)
  | [], _, _ => rfl
  | n :: ns, ps, h => by
    simp only [List.mem_cons, not_or] at h
    show (if n = s then _ else fieldF s ns ps.tail) = _
    rw [if_neg (Ne.symm h.1), fieldF_none h.2]
theorem fieldF_at {s : Bs} : ∀ {ns : List Bs} {ps : List Lt} {j : Nat} (hj : j < ns.length), ns[j] = s → (∀ (i : Nat) (hi : i < j), ns[i] ≠ s) → fieldF s ns ps = match ps[j]? with | some p => (p, true) | none => (Lt.zero, false)
  | [], _, _, hj, _, _ => by simp at hj
  | n :: ns, ps, 0, _, h, _ => by
    have : n = s := h
    show (if n = s then _ else fieldF s ns ps.tail) = _
    rw [if_pos this]
    cases ps <;> rfl
  | n :: ns, ps, j + 1, hj, h, hi => by
    have : n ≠ s := hi 0 (by omega)
    show (if n = s then _ else fieldF s ns ps.tail) = _
    rw [if_neg this, fieldF_at (j := j) (by simpa using hj) (by simpa using h) (fun i h' => by simpa using hi (i + 1) (by omega))]
    cases ps <;> simp

set_option maxHeartbeats 2000000 in
theorem field_ok {l : Lt} {H : Heap} {cs : List Value} {s : Bs} (ha : LtA H [] l cs) : HCalls Try.prog 24 #[.agg cs.toArray, sv s] H fun r H' => (∃ cs', r = .tuple #[.agg cs'.toArray, .bool (fieldT l s).2] ∧ LtA H' [] (fieldT l s).1 cs') ∧ Fr [] H H' := by
  obtain ⟨vn, vp, vr, rfl, h3, h4, h5⟩ := LtA.open ha
  obtain ⟨pa, pc, rfl, hpl, hpc⟩ := PartsA.slice h4
  refine calls_of_vc (args := [_, _]) Try.func24 c24ok (Nat.le_of_ble_eq_true rfl) ?_
  simp (implicitDefEqProofs := false) only [go_sem, c24]
  refine NewP_intro fun H1 hn1 hf1 hs1 => ?_
  simp (implicitDefEqProofs := false) only [go_sem]
  refine NewP_intro fun H2 hn2 hf2 hs2 => ?_
  have hF2 := hf1.trans hf2
  have hc1 := (hn1.ext hf2).cell
  have hc2 := hn2.cell
  simp (implicitDefEqProofs := false) only [go_sem, hc1]
  refine (index_ok s (h3.ext hF2)).mono ?_
  rintro r H3 ⟨k, rfl, hk, hEq⟩
  obtain rfl := hEq.symm
  have bad : fieldT l s = (Lt.zero, false) → ∀ H4, Fr [H1.size] H2 H4 → (∃ cs', Value.tuple #[.agg #[.int .i64 0, .int .i64 0, .int .i64 0, .slice none 0 0, .slice none 0 0, .slice none 0 0], .bool false] = .tuple #[.agg (List.toArray cs'), .bool (fieldT l s).2] ∧ LtA H4 [] (fieldT l s).1 cs') ∧ Fr [] H H4 := by
    intro hb H4 hf4
    rw [hb]
    exact ⟨⟨_, rfl, zeroA _ _⟩, (hf1.trans hf2).trans' hf4 (by simp; have := hf1.size; omega)⟩
  by_cases k6 : l.kind = 6
  case neg =>
    simp (implicitDefEqProofs := false) only [go_sem, hc1, k6]
    refine Sto_all hn2 rfl (by simp [Value.oneCell']) fun H4 hn4 hf4 hs4 => ?_
    have hc4 := hn4.cell
    simp (implicitDefEqProofs := false) only [go_sem, hc4]
    exact bad (by rw [fieldT, if_neg k6]) H4 hf4
  rcases hk with ⟨hk0, hns⟩ | ⟨j, rfl, hj, hjs, hmin⟩
  · simp (implicitDefEqProofs := false) only [go_sem, hc1, k6, hk0]
    refine Sto_all hn2 rfl (by simp [Value.oneCell']) fun H4 hn4 hf4 hs4 => ?_
    have hc4 := hn4.cell
    simp (implicitDefEqProofs := false) only [go_sem, hc4]
    exact bad (by rw [fieldT, if_pos k6, fieldF_none hns]) H4 hf4
  have hj0 : ¬ (j : Int) < 0 := by omega
  have hj0' : (0 : Int) ≤ (j : Int) := by omega
  rcases Nat.lt_or_ge j l.parts.length with hlt | hge
  · have hlt' : ¬ (l.parts.length : Int) ≤ (j : Int) := by omega
    have hlt2 : (j : Int) < (l.parts.length : Int) := by omega
    have hT : fieldT l s = (l.parts[j], true) := by
      rw [fieldT, if_pos k6, fieldF_at hj hjs hmin, List.getElem?_eq_getElem hlt]
    obtain ⟨bb, o, c, wn, wp, wr, e1, p0, p1, p2, p3, p4, p5, hp⟩ := PartsA.at h4 j hlt
    cases e1
    replace p0 := cellB_fr p0 hF2 (by simp)
    replace p1 := cellB_fr p1 hF2 (by simp)
    replace p2 := cellB_fr p2 hF2 (by simp)
    replace p3 := cellB_fr p3 hF2 (by simp)
    replace p4 := cellB_fr p4 hF2 (by simp)
    replace p5 := cellB_fr p5 hF2 (by simp)
    simp (implicitDefEqProofs := false) only [go_sem, hc1, k6, hj0, hlt', hj0', hlt2, p0, p1, p2, p3, p4, p5]
    refine Sto_all hn2 rfl (LtA.one6 hp) fun H4 hn4 hf4 hs4 => ?_
    have hF4 : Fr [] H H4 := hF2.trans' hf4 (by simp; have := hf1.size; omega)
    have hc4 := hn4.cell
    simp (implicitDefEqProofs := false) only [go_sem, hc4, hT]
    exact ⟨⟨_, rfl, Rep.ext hp hF4⟩, hF4⟩
  · have hge' : (l.parts.length : Int) ≤ (j : Int) := by omega
    simp (implicitDefEqProofs := false) only [go_sem, hc1, k6, hj0, hge']
    refine Sto_all hn2 rfl (by simp [Value.oneCell']) fun H4 hn4 hf4 hs4 => ?_
    have hc4 := hn4.cell
    simp (implicitDefEqProofs := false) only [go_sem, hc4]
    exact bad (by rw [fieldT, if_pos k6, fieldF_at hj hjs hmin, List.getElem?_eq_none hge]) H4 hf4

end Go.Proofs.Ytcilkhjadljaaaa
