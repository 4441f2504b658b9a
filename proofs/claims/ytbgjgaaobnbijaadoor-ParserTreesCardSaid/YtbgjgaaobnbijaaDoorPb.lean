/- The parser's state, and its small functions: contracts. -/
import Derived.Test.YtbgjgaaobnbijaaDoorPa
import Derived.Test.YtbgjgaaobnbijaaDoorCodeP
set_option linter.unusedSimpArgs false
set_option linter.unusedVariables false
set_option maxRecDepth 8000
namespace Go.Proofs.YtbgjgaaobnbijaaDoor
open Gx Go

structure Cx where
  b : Nat
  a : Option Addr
  c : Nat
  T : List Tk
def ptr (b : Nat) : Value := .pointer (some ⟨b, 0, none⟩)
def flt (e : Flt) : Chain := [{ v := .iface 31 (.agg #[.int .i64 e.1, .int .i64 e.2]), recovered := false }]
/-- Where the parser stands: what is left, and how many levels may still open. -/
structure Ps (X : Cx) (H : Heap) (ts : List Tk) (k : Nat) : Prop where
  ex : ∃ i : Nat, Blk H X.b 67 [.slice X.a X.T.length X.c, .int .i64 i, .int .i64 ((64 - k : Nat) : Int)] ∧ ts = X.T.drop i ∧ i < X.T.length
  row : RowR tkC H X.a X.T
  ne : ∀ b o, X.a = some ⟨b, o, none⟩ → b ≠ X.b
  k64 : k ≤ 64
  cap : X.T.length ≤ 1048576
  fin : ∀ i t r, X.T.drop i = t :: r → t.kind ≠ 6 → r ≠ []

section
variable {X : Cx} {H H' : Heap} {ts r : List Tk} {k : Nat}
theorem Ps.ext (h : Ps X H ts k) (hf : Fr [] H H') : Ps X H' ts k := by
  obtain ⟨i, h1, h2, h3⟩ := h.ex
  exact ⟨⟨i, h1.ext hf, h2, h3⟩, h.row.ext hf, h.ne, h.k64, h.cap, h.fin⟩
theorem Ps.lt (h : Ps X H ts k) : X.b < H.size := by
  obtain ⟨i, h1, _⟩ := h.ex
  exact h1.lt
/-- Behind writes to blocks that are newer than the parser. -/
theorem Ps.on {M : List Nat} {H0 : Heap} {ts0 : List Tk} {k0 : Nat} (h0 : Ps X H0 ts0 k0) (h : Ps X H ts k) (hf : Fr M H H') (hM : ∀ x ∈ M, H0.size ≤ x) : Ps X H' ts k := by
  obtain ⟨i, h1, h2, h3⟩ := h.ex
  obtain ⟨i0, g1, _, g3⟩ := h0.ex
  have hb := g1.lt
  obtain ⟨b, o, ha, hp⟩ := RowR.get h0.row tkC_len i0 g3 (by decide)
  have hlt := cellB_lt (hp 0 (by decide))
  refine ⟨⟨i, h1.fr hf fun hm => by have := hM _ hm; omega, h2, h3⟩, h.row.fr hf fun b' o' e hm => ?_, h.ne, h.k64, h.cap, h.fin⟩
  rw [ha] at e
  cases e
  have := hM _ hm
  omega
theorem Ps.fr {M : List Nat} (h : Ps X H ts k) (hf : Fr M H H') (hM : ∀ x ∈ M, H.size ≤ x) : Ps X H' ts k := h.ext (hf.mono fun x hx => .inr (hM x hx))
theorem Ps.nil (h : Ps X H ts k) : ts ≠ [] := by
  obtain ⟨i, _, rfl, h3⟩ := h.ex
  intro e
  have := congrArg List.length e
  simp only [List.length_drop, List.length_nil] at this
  omega
/-- A token that is not the end is not the last. -/
theorem Ps.more (h : Ps X H ts k) (hk : (hd ts).kind ≠ 6) : ts.tail ≠ [] := by
  obtain ⟨i, _, rfl, h3⟩ := h.ex
  cases e : X.T.drop i with
  | nil => have := h.nil; exact absurd e this
  | cons t r =>
    rw [e] at hk
    exact h.fin i t r e hk
theorem isB_kind {s : Bs} (h : isB s ts = true) : (hd ts).kind ≠ 6 := by
  unfold isB at h
  simp only [Bool.and_eq_true, Bool.or_eq_true, decide_eq_true_eq] at h
  omega
theorem isB_text {s : Bs} (h : isB s ts = true) : (hd ts).text = s := by
  unfold isB at h
  simp only [Bool.and_eq_true, decide_eq_true_eq] at h
  exact h.2
end
theorem one_agg {k n a : Int} {t : Bs} {v : Value} (hv : v.oneCell' = true) : ∀ u ∈ [Value.int .i64 k, sv t, .int .i64 n, .int .i64 a, v], u.oneCell' = true := by
  intro u hu
  simp only [List.mem_cons, List.not_mem_nil, or_false] at hu
  rcases hu with rfl | rfl | rfl | rfl | rfl <;> first | rfl | exact hv

/-- What a call of one of the parser's functions does. -/
structure POk {α : Type} (k : Nat) (f : Nat) (l : List Value) (p : PP α) (R : α → Value → Heap → Heap → Prop) : Prop where
  ok : ∀ {X : Cx} {H : Heap} {ts : List Tk}, Ps X H ts k → PCalls Tryd.prog f (ptr X.b :: l).toArray H (fun v H' => ∃ a r, p ts = .ok (a, r) ∧ R a v H H' ∧ Ps X H' r k ∧ Fr [X.b] H H') fun ch H' => ∃ e, p ts = .error e ∧ ch = flt e ∧ Fr [X.b] H H'
theorem POk.use {α : Type} {k f : Nat} {l : List Value} {p : PP α} {R : α → Value → Heap → Heap → Prop} (h : POk k f l p R) {X : Cx} {H : Heap} {ts : List Tk} (hs : Ps X H ts k) {Q : Value → Heap → Prop} {E : Chain → Heap → Prop}
    (hE : ∀ e H', p ts = .error e → Fr [X.b] H H' → E (flt e) H') (hR : ∀ a r v H', p ts = .ok (a, r) → R a v H H' → Ps X H' r k → Fr [X.b] H H' → Q v H') : PCalls Tryd.prog f (ptr X.b :: l).toArray H Q E :=
  PCalls.mono (h.ok hs) (fun v H' ⟨a, r, h1, h2, h3, h4⟩ => hR a r v H' h1 h2 h3 h4) fun ch H' ⟨e, h1, h2, h3⟩ => h2 ▸ hE e H' h1 h3
def NdR (n : Nd) (v : Value) (H H' : Heap) : Prop := ∃ cs, v = .agg cs.toArray ∧ RepP H' (fun x => x < H.size) n.dat cs
def TkR (t : Tk) (v : Value) (_ _ : Heap) : Prop := v = .agg (tkC t).toArray
def IntR' (n : Int) (v : Value) (_ _ : Heap) : Prop := v = .int .i64 n
def BoolR' (b : Bool) (v : Value) (_ _ : Heap) : Prop := v = .bool b

section
variable {X : Cx} {H : Heap} {ts : List Tk} {k : Nat}
theorem look_ok (hs : Ps X H ts k) : HCalls Tryd.prog 29 #[ptr X.b] H fun v H' => v = .agg (tkC (hd ts)).toArray ∧ Fr [] H H' := by
  refine calls_of_vc (args := [_]) Tryd.func29 c29ok (Nat.le_of_ble_eq_true rfl) ?_
  obtain ⟨i, hb, hts, hi⟩ := hs.ex
  simp (implicitDefEqProofs := false) only [go_sem, c29, ptr]
  refine NewP_intro fun H1 hn1 hf1 hs1 => ?_
  have hb1 := (hb.ext hf1).cell
  have h0 : (0 : Int) ≤ (i : Int) := by omega
  have h1 : (i : Int) < (X.T.length : Int) := by omega
  have hrow := hs.row.ext hf1
  obtain ⟨bb, o, ha, p⟩ := RowR.get hrow tkC_len i hi (by decide)
  have q0 := p 0 (by decide)
  have q1 := p 1 (by decide)
  have q2 := p 2 (by decide)
  have q3 := p 3 (by decide)
  have hh : X.T[i] = hd ts := by rw [hts, List.drop_eq_getElem_cons hi]; rfl
  rw [hh] at q0 q1 q2 q3
  simp only [tkC, Nat.add_zero, List.getElem?_cons_zero, List.getElem?_cons_succ] at q0 q1 q2 q3
  rw [ha] at hb1
  simp (implicitDefEqProofs := false) only [go_sem, hb1, h0, h1, q0, q1, q2, q3]
  refine Sto_all hn1 rfl (by intro u hu; simp only [List.mem_cons, List.not_mem_nil, or_false] at hu; rcases hu with rfl | rfl | rfl | rfl <;> rfl) fun H2 hn2 hf2 hs2 => ?_
  have hc2 := hn2.cell
  simp (implicitDefEqProofs := false) only [go_sem, hc2]
  exact ⟨rfl, new_fr hf1 hf2⟩
theorem fail_ok (hs : Ps X H ts k) (c : Int) : PCalls Tryd.prog 34 #[ptr X.b, .int .i64 c] H (fun _ _ => False) fun ch H' => ch = flt (c, (hd ts).at_) ∧ Fr [] H H' := by
  refine pcalls_of_vc (args := [_, _]) Tryd.func34 c34ok (Nat.le_of_ble_eq_true rfl) ?_
  have hl := look_ok hs
  unfold ptr at *
  simp (implicitDefEqProofs := false) only [go_sem, c34]
  refine hl.mono ?_
  rintro v H1 ⟨rfl, hf⟩
  simp (implicitDefEqProofs := false) only [go_sem, tkC]
  exact ⟨rfl, hf⟩
theorem one4' (t : Tk) : ∀ u ∈ [Value.int .i64 t.kind, sv t.text, .int .i64 t.n, .int .i64 t.at_], u.oneCell' = true := by
  intro u hu
  simp only [List.mem_cons, List.not_mem_nil, or_false] at hu
  rcases hu with rfl | rfl | rfl | rfl <;> rfl
theorem is_ok (hs : Ps X H ts k) (s : Bs) : HCalls Tryd.prog 35 #[ptr X.b, sv s] H fun v H' => v = .bool (isB s ts) ∧ Fr [] H H' := by
  refine calls_of_vc (args := [_, _]) Tryd.func35 c35ok (Nat.le_of_ble_eq_true rfl) ?_
  have hl := look_ok hs
  unfold ptr at *
  simp (implicitDefEqProofs := false) only [go_sem, c35, sv]
  refine hl.mono ?_
  rintro v H1 ⟨rfl, hf1⟩
  simp (implicitDefEqProofs := false) only [go_sem, tkC]
  refine NewP_intro fun H2 hn2 hf2 hs2 => ?_
  simp (implicitDefEqProofs := false) only [go_sem]
  refine Sto_all hn2 rfl (one4' (hd ts)) fun H3 hn3 hf3 hs3 => ?_
  have hc3 := hn3.cell
  have hF := hf1.trans (new_fr hf2 hf3)
  unfold isB
  by_cases e2 : (hd ts).kind = 2
  · by_cases et : (hd ts).text = s
    · simp (implicitDefEqProofs := false) only [go_sem, hc3, e2, et, ba_eq, sv]
      exact hF
    · simp (implicitDefEqProofs := false) only [go_sem, hc3, e2, et, ba_eq, sv]
      exact hF
  · by_cases e5 : (hd ts).kind = 5
    · by_cases et : (hd ts).text = s
      · simp (implicitDefEqProofs := false) only [go_sem, hc3, e2, e5, et, ba_eq, sv]
        exact hF
      · simp (implicitDefEqProofs := false) only [go_sem, hc3, e2, e5, et, ba_eq, sv]
        exact hF
    · simp (implicitDefEqProofs := false) only [go_sem, hc3, e2, e5, ba_eq, sv]
      exact hF
/-- One token further. -/
theorem Ps.step (hs : Ps X H ts k) (hk : (hd ts).kind ≠ 6) : ∃ i : Nat, Blk H X.b 67 [.slice X.a X.T.length X.c, .int .i64 i, .int .i64 ((64 - k : Nat) : Int)] ∧ IntKind.i64.wrap ((i : Int) + 1) = ((i + 1 : Nat) : Int) ∧
    ∀ H', Blk H' X.b 67 [.slice X.a X.T.length X.c, .int .i64 ((i + 1 : Nat) : Int), .int .i64 ((64 - k : Nat) : Int)] → Fr [X.b] H H' → Ps X H' ts.tail k := by
  have hm := hs.more hk
  obtain ⟨i, hb, hts, hi⟩ := hs.ex
  have hcap := hs.cap
  refine ⟨i, hb, by rw [wrap_i64_id _ (by omega) (by omega)]; omega, fun H' hb' hf => ⟨⟨i + 1, hb', by rw [hts, List.tail_drop], ?_⟩, hs.row.fr hf (fun b o e => by have := hs.ne b o e; simpa using this), hs.ne, hs.k64, hs.cap, hs.fin⟩⟩
  rcases Nat.lt_or_ge (i + 1) X.T.length with q | q
  · exact q
  · exfalso; apply hm
    rw [hts, List.tail_drop]
    exact List.drop_eq_nil_of_le q
theorem accept_ok (hs : Ps X H ts k) (s : Bs) : HCalls Tryd.prog 42 #[ptr X.b, sv s] H fun v H' => v = .bool (isB s ts) ∧ Ps X H' (if isB s ts then ts.tail else ts) k ∧ Fr [X.b] H H' := by
  refine calls_of_vc (args := [_, _]) Tryd.func42 c42ok (Nat.le_of_ble_eq_true rfl) ?_
  have hl := is_ok hs s
  unfold ptr at *
  simp (implicitDefEqProofs := false) only [go_sem, c42]
  refine hl.mono ?_
  rintro v H1 ⟨rfl, hf1⟩
  cases e : isB s ts with
  | false =>
    simp (implicitDefEqProofs := false) only [go_sem]
    exact ⟨hs.ext hf1, hf1.mono (by simp)⟩
  | true =>
    obtain ⟨i, hb, hw, hnext⟩ := (hs.ext hf1).step (isB_kind e)
    have hc := hb.cell
    simp (implicitDefEqProofs := false) only [go_sem, hc, hw]
    refine Sto_one hb (by simp) rfl fun H2 hn2 hf2 hs2 => ?_
    simp (implicitDefEqProofs := false) only [go_sem]
    exact ⟨hnext H2 hn2 hf2, (hf1.mono (by simp)).trans hf2⟩
theorem fr1 {b : Nat} {A B : Heap} (h : Fr [] A B) : Fr [b] A B := h.mono (by simp)
theorem expect_ok (s : Bs) : POk k 38 [sv s] (expP s) IntR' := by
  refine ⟨fun {X H ts} hs => ?_⟩
  refine pcalls_of_vc (args := [_, _]) Tryd.func38 c38ok (Nat.le_of_ble_eq_true rfl) ?_
  have hl := look_ok hs
  unfold ptr at *
  simp (implicitDefEqProofs := false) only [go_sem, c38]
  refine hl.mono ?_
  rintro v H1 ⟨rfl, hf1⟩
  have hA := accept_ok (hs.ext hf1) s
  unfold ptr at *
  simp (implicitDefEqProofs := false) only [go_sem, tkC]
  refine hA.mono ?_
  rintro v H2 ⟨rfl, hs2, hf2⟩
  cases e : isB s ts with
  | true =>
    rw [e, if_pos rfl] at hs2
    simp (implicitDefEqProofs := false) only [go_sem]
    exact ⟨(hd ts).at_, ts.tail, by simp [expP, e], rfl, hs2, (fr1 hf1).trans hf2⟩
  | false =>
    rw [e] at hs2
    have hfl := fail_ok hs2 2
    unfold ptr at *
    simp (implicitDefEqProofs := false) only [go_sem]
    refine hfl.mono (fun _ _ h => h.elim) ?_
    rintro ch H3 ⟨rfl, hf3⟩
    exact ⟨(2, (hd ts).at_), by simp [expP, e], rfl, ((fr1 hf1).trans hf2).trans (fr1 hf3)⟩
theorem take_ok (n : Int) (hn : n ≠ 6) : POk k 43 [.int .i64 n] (takeP n) TkR := by
  refine ⟨fun {X H ts} hs => ?_⟩
  refine pcalls_of_vc (args := [_, _]) Tryd.func43 c43ok (Nat.le_of_ble_eq_true rfl) ?_
  unfold ptr at *
  simp (implicitDefEqProofs := false) only [go_sem, c43]
  refine NewP_intro fun H0 hn0 hf0 hs0 => ?_
  have hl := look_ok (hs.ext hf0)
  unfold ptr at *
  simp (implicitDefEqProofs := false) only [go_sem]
  refine hl.mono ?_
  rintro v H1 ⟨rfl, hf1⟩
  simp (implicitDefEqProofs := false) only [go_sem, tkC]
  refine NewP_intro fun H2 hn2 hf2 hs2 => ?_
  simp (implicitDefEqProofs := false) only [go_sem]
  refine Sto_all hn2 rfl (one4' (hd ts)) fun H3 hn3 hf3 hs3 => ?_
  have hc3 := hn3.cell
  have hfn := new_fr hf2 hf3
  have hF := (hf0.trans hf1).trans hfn
  by_cases e : (hd ts).kind = n
  · obtain ⟨i, hb, hw, hnext⟩ := (hs.ext hF).step (by rw [e]; exact hn)
    have hc := hb.cell
    simp (implicitDefEqProofs := false) only [go_sem, hc3, e, hc, hw]
    refine Sto_one hb (by simp) rfl fun H4 hn4 hf4 hs4 => ?_
    have hx : H1.size ≠ X.b := by have := (hs.ext (hf0.trans hf1)).lt; omega
    have hx0 : H.size ≠ X.b := by have := hs.lt; omega
    have hc4 := (hn3.fr hf4 (by simpa using hx)).cell
    simp (implicitDefEqProofs := false) only [go_sem, hc4]
    have hn0' := (hn0.ext (hf1.trans hfn)).fr hf4 (by simpa using hx0)
    refine Sto_all hn0' rfl (one4' (hd ts)) fun H5 hn5 hf5 hs5 => ?_
    have hc5 := hn5.cell
    simp (implicitDefEqProofs := false) only [go_sem, hc5]
    have hFb : Fr [X.b] H H5 := ((fr1 hF).trans hf4).trans' hf5 (by intro x hx'; simp only [List.mem_singleton] at hx'; subst hx'; exact .inr (Nat.le_refl _))
    refine ⟨hd ts, ts.tail, by simp [takeP, e], rfl, ?_, hFb⟩
    have hs4' := hnext H4 hn4 hf4
    exact Ps.on hs hs4' hf5 (by simp)
  · have hfl := fail_ok (hs.ext hF) 2
    unfold ptr at *
    simp (implicitDefEqProofs := false) only [go_sem, hc3, e]
    refine hfl.mono (fun _ _ h => h.elim) ?_
    rintro ch H4 ⟨rfl, hf4⟩
    exact ⟨(2, (hd ts).at_), by simp [takeP, e], rfl, fr1 (hF.trans hf4)⟩
theorem enter_ok (hs : Ps X H ts (k + 1)) {s : Bs} (e : isB s ts = true) : HCalls Tryd.prog 37 #[ptr X.b, sv s] H fun v H' => v = .int .i64 (hd ts).at_ ∧ Ps X H' ts.tail k ∧ Fr [X.b] H H' := by
  refine calls_of_vc (args := [_, _]) Tryd.func37 c37ok (Nat.le_of_ble_eq_true rfl) ?_
  have hl := is_ok hs s
  rw [e] at hl
  unfold ptr at *
  simp (implicitDefEqProofs := false) only [go_sem, c37]
  refine hl.mono ?_
  rintro v H1 ⟨rfl, hf1⟩
  have hs1 := hs.ext hf1
  obtain ⟨i, hb, hts, hi⟩ := hs1.ex
  have hc := hb.cell
  have hk := hs.k64
  have hk' : ¬ (((64 - (k + 1) : Nat) : Int) = 64) := by omega
  simp (implicitDefEqProofs := false) only [go_sem, hc, hk']
  refine (expect_ok s).use hs1 (fun e' H' he hf => ?_) fun a r v H2 he hv hs2 hf2 => ?_
  · simp [expP, e] at he
  simp only [expP, e, if_true, Except.ok.injEq, Prod.mk.injEq] at he
  obtain ⟨rfl, rfl⟩ := he
  cases hv
  obtain ⟨i2, hb2, hts2, hi2⟩ := hs2.ex
  have hc2 := hb2.cell
  have hw : IntKind.i64.wrap (((64 - (k + 1) : Nat) : Int) + 1) = ((64 - k : Nat) : Int) := by rw [wrap_i64_id _ (by omega) (by omega)]; omega
  simp (implicitDefEqProofs := false) only [go_sem, hc2, hw]
  refine Sto_one hb2 (by simp) rfl fun H3 hn3 hf3 hs3 => ?_
  simp (implicitDefEqProofs := false) only [go_sem]
  refine ⟨⟨⟨i2, hn3, hts2, hi2⟩, hs2.row.fr hf3 (fun b o e => by have := hs.ne b o e; simpa using this), hs2.ne, by omega, hs2.cap, hs2.fin⟩, ((fr1 hf1).trans hf2).trans hf3⟩
theorem enter_no (hs : Ps X H ts k) {s : Bs} (h : isB s ts = false ∨ k = 0) : PCalls Tryd.prog 37 #[ptr X.b, sv s] H (fun _ _ => False) fun ch H' => ch = flt (if isB s ts then 6 else 2, (hd ts).at_) ∧ Fr [X.b] H H' := by
  refine pcalls_of_vc (args := [_, _]) Tryd.func37 c37ok (Nat.le_of_ble_eq_true rfl) ?_
  have hl := is_ok hs s
  unfold ptr at *
  simp (implicitDefEqProofs := false) only [go_sem, c37]
  refine hl.mono ?_
  rintro v H1 ⟨rfl, hf1⟩
  have hs1 := hs.ext hf1
  cases e : isB s ts with
  | true =>
    have hk : k = 0 := by rcases h with h | h; rw [e] at h; cases h; exact h
    subst hk
    obtain ⟨i, hb, hts, hi⟩ := hs1.ex
    have hc := hb.cell
    have hfl := fail_ok hs1 6
    unfold ptr at *
    simp (implicitDefEqProofs := false) only [go_sem, hc]
    refine hfl.mono (fun _ _ h => h.elim) ?_
    rintro ch H4 ⟨rfl, hf4⟩
    exact ⟨rfl, fr1 (hf1.trans hf4)⟩
  | false =>
    obtain ⟨i, hb, hts, hi⟩ := hs1.ex
    have hc := hb.cell
    simp (implicitDefEqProofs := false) only [go_sem, hc]
    refine (expect_ok s).use hs1 (fun e' H' he hf => ?_) fun a r v H2 he hv hs2 hf2 => ?_
    · simp only [expP, e, Bool.false_eq_true, if_false, Except.error.injEq] at he
      subst he
      exact ⟨rfl, (fr1 hf1).trans hf⟩
    · simp [expP, e] at he
theorem leave_ok (hs : Ps X H ts k) (hk : k < 64) : HCalls Tryd.prog 39 #[ptr X.b] H fun v H' => Ps X H' ts (k + 1) ∧ Fr [X.b] H H' := by
  refine calls_of_vc (args := [_]) Tryd.func39 c39ok (Nat.le_of_ble_eq_true rfl) ?_
  obtain ⟨i, hb, hts, hi⟩ := hs.ex
  have hc := hb.cell
  have hw : IntKind.i64.wrap (((64 - k : Nat) : Int) - 1) = ((64 - (k + 1) : Nat) : Int) := by rw [wrap_i64_id _ (by omega) (by omega)]; omega
  unfold ptr at *
  simp (implicitDefEqProofs := false) only [go_sem, c39, hc, hw]
  refine Sto_one hb (by simp) rfl fun H3 hn3 hf3 hs3 => ?_
  simp (implicitDefEqProofs := false) only [go_sem]
  exact ⟨⟨⟨i, hn3, hts, hi⟩, hs.row.fr hf3 (fun b o e => by have := hs.ne b o e; simpa using this), hs.ne, by omega, hs.cap, hs.fin⟩, hf3⟩
theorem zeroKids {H : Heap} {B : Nat → Prop} : RepP H B (kidsD []) [.slice none 0 0] := RepP.nil 5
theorem named_ok (n : Int) : POk k 47 [.int .i64 n] (namedP n) NdR := by
  refine ⟨fun {X H ts} hs => ?_⟩
  refine pcalls_of_vc (args := [_, _]) Tryd.func47 c47ok (Nat.le_of_ble_eq_true rfl) ?_
  simp (implicitDefEqProofs := false) only [go_sem, c47]
  refine NewP_intro fun H0 hn0 hf0 hs0 => ?_
  simp (implicitDefEqProofs := false) only [go_sem]
  refine (take_ok 1 (by decide)).use (hs.ext hf0) (fun e H' he hf => ⟨e, bd_err he, rfl, (fr1 hf0).trans hf⟩) fun t r v H1 he hv hs1 hf1 => ?_
  have hF1 := (fr1 hf0).trans hf1
  cases hv
  simp (implicitDefEqProofs := false) only [go_sem, tkC]
  refine NewP_intro fun H2 hn2 hf2 hsz2 => ?_
  simp (implicitDefEqProofs := false) only [go_sem]
  refine Sto_all hn2 rfl (one4' t) fun H3 hn3 hf3 hs3 => ?_
  have hc3 := hn3.cell
  have hfn := new_fr hf2 hf3
  have hx0 : H.size ≠ X.b := by have := hs.lt; omega
  have hn0' := (hn0.fr hf1 (by simpa using hx0)).ext hfn
  simp (implicitDefEqProofs := false) only [go_sem, hc3, sv]
  refine Sto_all hn0' rfl (one_agg rfl) fun H4 hn4 hf4 hs4 => ?_
  have hc4 := hn4.cell
  simp (implicitDefEqProofs := false) only [go_sem, hc4]
  refine ⟨.mk n t.text 0 t.at_ [], r, bd_ok he, ⟨_, rfl, RepP.nd zeroKids⟩, Ps.on hs (hs1.ext hfn) hf4 (by simp), (hF1.trans (fr1 hfn)).trans' hf4 (by simp)⟩
theorem quote_ok : POk k 78 [] quoteP NdR := by
  refine ⟨fun {X H ts} hs => ?_⟩
  refine pcalls_of_vc (args := [_]) Tryd.func78 c78ok (Nat.le_of_ble_eq_true rfl) ?_
  simp (implicitDefEqProofs := false) only [go_sem, c78]
  refine NewP_intro fun H0 hn0 hf0 hs0 => ?_
  simp (implicitDefEqProofs := false) only [go_sem]
  refine (take_ok 4 (by decide)).use (hs.ext hf0) (fun e H' he hf => ⟨e, bd_err he, rfl, (fr1 hf0).trans hf⟩) fun t r v H1 he hv hs1 hf1 => ?_
  have hF1 := (fr1 hf0).trans hf1
  cases hv
  simp (implicitDefEqProofs := false) only [go_sem, tkC]
  refine NewP_intro fun H2 hn2 hf2 hsz2 => ?_
  simp (implicitDefEqProofs := false) only [go_sem]
  refine Sto_all hn2 rfl (one4' t) fun H3 hn3 hf3 hs3 => ?_
  have hc3 := hn3.cell
  have hfn := new_fr hf2 hf3
  have hx0 : H.size ≠ X.b := by have := hs.lt; omega
  have hn0' := (hn0.fr hf1 (by simpa using hx0)).ext hfn
  simp (implicitDefEqProofs := false) only [go_sem, hc3, sv]
  refine Sto_all hn0' rfl (one_agg rfl) fun H4 hn4 hf4 hs4 => ?_
  have hc4 := hn4.cell
  simp (implicitDefEqProofs := false) only [go_sem, hc4]
  refine ⟨.mk 47 t.text 0 t.at_ [], r, bd_ok he, ⟨_, rfl, RepP.nd zeroKids⟩, Ps.on hs (hs1.ext hfn) hf4 (by simp), (hF1.trans (fr1 hfn)).trans' hf4 (by simp)⟩
theorem comma_ok : POk k 45 [] commaP BoolR' := by
  refine ⟨fun {X H ts} hs => ?_⟩
  refine pcalls_of_vc (args := [_]) Tryd.func45 c45ok (Nat.le_of_ble_eq_true rfl) ?_
  have hA := accept_ok hs [44]
  unfold ptr sv at *
  simp (implicitDefEqProofs := false) only [go_sem, c45]
  refine hA.mono ?_
  rintro v H1 ⟨rfl, hs1, hf1⟩
  cases e : isB [44] ts with
  | true =>
    rw [e, if_pos rfl] at hs1
    simp (implicitDefEqProofs := false) only [go_sem]
    exact ⟨true, ts.tail, by simp [commaP, e], rfl, hs1, hf1⟩
  | false =>
    rw [e] at hs1
    simp (implicitDefEqProofs := false) only [go_sem]
    refine (expect_ok [41]).use hs1 (fun e' H' he hf => ⟨e', by simp only [commaP, e]; exact bd_err he, rfl, hf1.trans hf⟩) fun a r v H2 he hv hs2 hf2 => ?_
    simp (implicitDefEqProofs := false) only [go_sem]
    exact ⟨false, r, by simp only [commaP, e]; exact bd_ok he, rfl, hs2, hf1.trans hf2⟩
theorem integer_ok : POk k 67 [] intP NdR := by
  refine ⟨fun {X H ts} hs => ?_⟩
  refine pcalls_of_vc (args := [_]) Tryd.func67 c67ok (Nat.le_of_ble_eq_true rfl) ?_
  simp (implicitDefEqProofs := false) only [go_sem, c67]
  refine NewP_intro fun H0 hn0 hf0 hs0 => ?_
  simp (implicitDefEqProofs := false) only [go_sem]
  refine (look_ok (hs.ext hf0)).mono ?_
  rintro v H1 ⟨rfl, hf1⟩
  simp (implicitDefEqProofs := false) only [go_sem, tkC]
  refine NewP_intro fun H2 hn2 hf2 hsz2 => ?_
  simp (implicitDefEqProofs := false) only [go_sem]
  refine Sto_all hn2 rfl (one_agg (t := []) rfl) fun H3 hn3 hf3 hs3 => ?_
  have hfn := new_fr hf2 hf3
  have hF := (hf0.trans hf1).trans hfn
  have hA := accept_ok (hs.ext hF) [45]
  unfold sv at hA
  have hx0 : H.size ≠ X.b := by have := hs.lt; omega
  have hx1 : H1.size ≠ X.b := by have := hs.lt; have := (hf0.trans hf1).size; omega
  have hne : H.size ≠ H1.size := by have := hf1.size; omega
  simp (implicitDefEqProofs := false) only [go_sem]
  refine hA.mono ?_
  rintro v H4 ⟨rfl, hs4, hf4⟩
  have hn4 := hn3.fr hf4 (by simpa using hx1)
  have hF4 := (fr1 hF).trans hf4
  have hr4 := ((hn0.ext hf1).ext hfn).fr hf4 (by simpa using hx0)
  cases e : isB [45] ts with
  | true =>
    rw [e, if_pos rfl] at hs4
    simp (implicitDefEqProofs := false) only [go_sem]
    refine (take_ok 3 (by decide)).use hs4 (fun e' H' he hf => ⟨e', by simp only [intP, e]; exact bd_err he, rfl, hF4.trans hf⟩) fun t r v H5 he hv hs5 hf5 => ?_
    cases hv
    have hn5 := hn4.fr hf5 (by simpa using hx1)
    have hr5 := hr4.fr hf5 (by simpa using hx0)
    simp (implicitDefEqProofs := false) only [go_sem, tkC]
    refine Sto_one hn5 (by simp) rfl fun H6 hn6 hf6 hs6 => ?_
    have hr6 := hr5.fr hf6 (by simpa using hne)
    have hc6 := hn6.cell
    simp (implicitDefEqProofs := false) only [go_sem, hc6]
    refine Sto_all hr6 rfl (one_agg (t := []) rfl) fun H7 hn7 hf7 hs7 => ?_
    have hc7 := hn7.cell
    simp (implicitDefEqProofs := false) only [go_sem, hc7]
    refine ⟨.mk 44 [] (IntKind.i64.wrap (0 - t.n)) (hd ts).at_ [], r, by simp only [intP, e]; exact bd_ok he, ⟨_, rfl, RepP.nd zeroKids⟩, Ps.on hs (Ps.on hs hs5 hf6 (by simp; have := (hf0.trans hf1).size; omega)) hf7 (by simp), ?_⟩
    exact ((hF4.trans hf5).trans' hf6 (by simp; have := (hf0.trans hf1).size; omega)).trans' hf7 (by simp)
  | false =>
    rw [e] at hs4
    simp (implicitDefEqProofs := false) only [go_sem]
    refine (take_ok 3 (by decide)).use hs4 (fun e' H' he hf => ⟨e', by simp only [intP, e]; exact bd_err he, rfl, hF4.trans hf⟩) fun t r v H5 he hv hs5 hf5 => ?_
    cases hv
    have hn5 := hn4.fr hf5 (by simpa using hx1)
    have hr5 := hr4.fr hf5 (by simpa using hx0)
    simp (implicitDefEqProofs := false) only [go_sem, tkC]
    refine Sto_one hn5 (by simp) rfl fun H6 hn6 hf6 hs6 => ?_
    have hr6 := hr5.fr hf6 (by simpa using hne)
    have hc6 := hn6.cell
    simp (implicitDefEqProofs := false) only [go_sem, hc6]
    refine Sto_all hr6 rfl (one_agg (t := []) rfl) fun H7 hn7 hf7 hs7 => ?_
    have hc7 := hn7.cell
    simp (implicitDefEqProofs := false) only [go_sem, hc7]
    refine ⟨.mk 44 [] t.n (hd ts).at_ [], r, by simp only [intP, e]; exact bd_ok he, ⟨_, rfl, RepP.nd zeroKids⟩, Ps.on hs (Ps.on hs hs5 hf6 (by simp; have := (hf0.trans hf1).size; omega)) hf7 (by simp), ?_⟩
    exact ((hF4.trans hf5).trans' hf6 (by simp; have := (hf0.trans hf1).size; omega)).trans' hf7 (by simp)
end
end Go.Proofs.YtbgjgaaobnbijaaDoor
