/- The Reader of messages: what it is to read data of a shape. -/
import Derived.Test.YtdhlibkdcldioaaGreatFw
import Derived.Test.YtdhlibkdcldioaaGreatGx18
set_option linter.unusedSimpArgs false
set_option linter.unusedVariables false
set_option maxRecDepth 8000
namespace Go.Proofs.YtdhlibkdcldioaaGreat
open Gx Go

@[go_sem] theorem argOf_list (t : Ty) (v : Value) : argOf (.list t) [v] = v := rfl
@[go_sem] theorem argOf_bytes (v : Value) : argOf .bytes [v] = v := rfl
@[go_sem] theorem argOf_text (v : Value) : argOf .text [v] = v := rfl
/-- The panic with which reading stops. -/
def dmg : Chain := [{ v := .iface 154 (.agg #[]), recovered := false }]
def pF (b : Nat) : Value := .pointer (some ⟨b, 0, none⟩)
def pR (b : Nat) : Value := .agg #[.pointer (some ⟨b, 0, none⟩)]
def RdR (H : Heap) (b : Nat) (L : Bs) (s : Pl) (g : Option Nat) (t : Ty) (v : Value) (H' : Heap) : Prop :=
  ∃ cs, v = argOf t cs ∧ RepP H' (fun x => x < H.size) (datT t (dT L t s).1) cs ∧ RdO H' b L (dT L t s).2 g ∧ Fr [b] H H'
def RdE (H : Heap) (b : Nat) (L : Bs) (s : Pl) (t : Ty) (c : Chain) (H' : Heap) : Prop := c = dmg ∧ (dT L t s).2 = none ∧ Fr [b] H H'
/-- This function reads one of this shape. -/
def ROk (f : Nat) (t : Ty) (k : Nat → Value) : Prop := hasBody Tryz.prog f = true ∧ ∀ {H : Heap} {b : Nat} {L : Bs} {s : Pl} {g : Option Nat}, L.length < 2^36 → RdO H b L s g →
  PCalls Tryz.prog f #[k b] H (RdR H b L s g t) (RdE H b L s t)

theorem RepP.pair {H : Heap} {B : Nat → Prop} {x y : Dat} {c d : List Value} (h1 : RepP H B x c) (h2 : RepP H B y d) : RepP H B (.agg [x, y]) (c ++ d) := fun M hM => rep_pair.2 ⟨c, d, rfl, h1 M hM, h2 M hM⟩
theorem RepP.bytes {H : Heap} {B : Nat → Prop} {l : Bs} {a : Option Addr} {c : Nat} {g : Option Nat} (h : Own H 5 1 (.slice a l.length c) l.length (l.map bv) g) (hg : ∀ k, g = some k → ¬ B k) : RepP H B (datT .bytes l) [.slice a l.length c] := fun M hM => by
  rw [rep_bytes]
  have h' := h
  rcases h.2 with ⟨_, h2, h0⟩ | ⟨b, cap, cur, hb, h2, hc, h4, h5, h6, h7⟩
  · simp only [Value.slice.injEq] at h2
    obtain ⟨rfl, _, rfl⟩ := h2
    have : l = [] := List.eq_nil_of_length_eq_zero h0
    subst this
    exact ⟨none, 0, rfl, by simp, by decide, .inl rfl⟩
  · simp only [Value.slice.injEq] at h2
    obtain ⟨rfl, _, rfl⟩ := h2
    refine ⟨_, c, rfl, h4, h5, ?_⟩
    rcases Own.csR h' with h8 | ⟨b', o, h8, h9⟩
    · exact .inl h8
    · simp at h8; obtain ⟨rfl, rfl⟩ := h8
      exact .inr ⟨b, 0, rfl, fun hm => hg b hb (hM b hm), h9⟩

theorem rnum_ok {H : Heap} {b : Nat} {L : Bs} {s : Pl} {g : Option Nat} (h : RdO H b L s g) :
    HCalls Tryz.prog 132 #[pR b] H fun v H' => v = .int .i64 (dT L .num s).1 ∧ RdO H' b L (dT L .num s).2 g ∧ Fr [b] H H' := by
  refine calls_of_vc (args := [_]) Tryz.func132 c132ok (Nat.le_of_ble_eq_true rfl) ?_
  have hz := zag_in (uintO_lt L s)
  have hx : IntKind.i64.wrap (zag (uintO L s).1) = zag (uintO L s).1 := wrap_i64_id _ hz.1 hz.2
  simp (implicitDefEqProofs := false) only [go_sem, c132, pR]
  refine NewP_intro fun H1 hn1 hf1 hs1 => ?_
  have hc1 := hn1.cell
  simp (implicitDefEqProofs := false) only [go_sem, hc1]
  refine (rint_o (h.ext hf1)).mono ?_
  rintro v H2 ⟨rfl, h2, hf2⟩
  simp (implicitDefEqProofs := false) only [go_sem, hx]
  exact ⟨rfl, h2, (hf1.mono (by simp)).trans hf2⟩
theorem check_ok {H : Heap} {b : Nat} {L : Bs} {s : Pl} {g : Option Nat} (h : RdO H b L s g) :
    PCalls Tryz.prog 155 #[pR b] H (fun v H' => v = .tuple #[] ∧ s.isSome = true ∧ RdO H' b L s g ∧ Fr [] H H') (fun c H' => c = dmg ∧ s = none ∧ Fr [] H H') := by
  refine pcalls_of_vc (args := [_]) Tryz.func155 c155ok (Nat.le_of_ble_eq_true rfl) ?_
  simp (implicitDefEqProofs := false) only [go_sem, c155, pR]
  refine NewP_intro fun H1 hn1 hf1 hs1 => ?_
  have hc1 := hn1.cell
  simp (implicitDefEqProofs := false) only [go_sem, hc1]
  refine (rerr_o (h.ext hf1)).mono ?_
  rintro v H2 ⟨rfl, rfl⟩
  cases s with
  | some p =>
    simp (implicitDefEqProofs := false) only [go_sem]
    exact ⟨h.ext hf1, hf1⟩
  | none =>
    simp (implicitDefEqProofs := false) only [go_sem]
    exact ⟨rfl, hf1⟩
theorem rbytes_ok' : ROk 156 .bytes pF := by
  refine ⟨by kernel_rfl, fun {H b L s g} hL h => ?_⟩
  refine (rbytes_o h).mono ?_
  rintro v H' ⟨a, c, g', rfl, ho, hg, h1, hf⟩
  exact ⟨_, rfl, RepP.bytes ho fun k hk => by have := hg k hk; omega, h1, hf⟩
theorem rtext_ok' : ROk 147 .text pF := by
  refine ⟨by kernel_rfl, fun {H b L s g} hL h => ?_⟩
  refine (rtext_o h).mono ?_
  rintro v H' ⟨rfl, h1, hf⟩
  exact ⟨_, rfl, RepP.v _, h1, hf⟩

theorem cells_one {v : Value} (h : v.oneCell' = true) : v.cells = #[v] := by
  cases v <;> first | rfl | simp [Value.oneCell'] at h
/-- Data apart from the older blocks, behind writes to these. -/
theorem RepP.on {H H' : Heap} {d : Dat} {cs : List Value} {n m : Nat} {M : List Nat} (h : RepP H (fun x => x < n) d cs) (hf : Fr M H H') (hm : ∀ x ∈ M, x < n ∨ H.size ≤ x) (hn : m ≤ n) : RepP H' (fun x => x < m) d cs :=
  RepP.fr h hf hm fun x hx => .inl (Nat.lt_of_lt_of_le hx hn)
theorem dT_pair (L : Bs) (a b : Ty) (s : Pl) : dT L (.pair a b) s = (((dT L a s).1, (dT L b (dT L a s).2).1), (dT L b (dT L a s).2).2) := rfl
theorem repO_end {α : Type} {f : Pl → α × Pl} {n i p : Nat} (hi : i < n) (h : (f (some p)).2 = none) : (repO f (n - i) (some p)).2 = none := by
  rw [show n - i = (n - (i + 1)) + 1 by omega, repO_succ, h, repO_none]
theorem repO_step {α : Type} {f : Pl → α × Pl} {n i p q : Nat} {x : α} (hi : i < n) (h : f (some p) = (x, some q)) : repO f (n - i) (some p) = (x :: (repO f (n - (i + 1)) (some q)).1, (repO f (n - (i + 1)) (some q)).2) := by
  rw [show n - i = (n - (i + 1)) + 1 by omega, repO_succ, h]
end Go.Proofs.YtdhlibkdcldioaaGreat
