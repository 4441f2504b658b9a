/- The laws of token lists, second part: positions, cuts, insertions, texts. -/
import Derived.Test.YtighpnijbnllaaaDoorXs
set_option linter.unusedSimpArgs false
set_option linter.unusedVariables false
set_option maxRecDepth 8000
namespace Go.Proofs.YtighpnijbnllaaaDoor
open Gx Go

theorem lexF_step (f : Nat) (s : Bs) (o : Nat) : lexF (f + 1) s o = match tokS (s.drop (skB false s)) with
    | .bad e => .bad e (o + skB false s)
    | .ok k t n m => if k = 6 then .ok [⟨k, t, n, (o + skB false s : Nat)⟩] else LR.cons ⟨k, t, n, (o + skB false s : Nat)⟩ (lexF f (s.drop (skB false s + m)) (o + skB false s + m)) := rfl
theorem end_nil {s : Bs} {k n : Int} {t : Bs} {m : Nat} (h : tokS s = .ok k t n m) : k = 6 ↔ s = [] := by
  obtain ⟨h1, h2, h3⟩ := tokS_len h
  exact ⟨fun h6 => by
    by_cases e : s = []
    · exact e
    · exact absurd h6 (h2 e).2, h3⟩
theorem end_val {k n : Int} {t : Bs} {m : Nat} (h : tokS [] = .ok k t n m) : k = 6 ∧ t = [] ∧ n = 0 ∧ m = 0 := by
  simp only [tokS, TR.ok.injEq] at h
  obtain ⟨rfl, rfl, rfl, rfl⟩ := h
  exact ⟨rfl, rfl, rfl, rfl⟩

/-- A list of tokens that follow each other in what is left, from the offset o on; e the end's offset. -/
def chainT (e : Nat) : Bs → Nat → List Tk → Prop
  | _, _, [] => False
  | s, o, t :: r => (r = [] ∧ t = ⟨6, [], 0, (e : Int)⟩ ∧ e = o + s.length) ∨
      (poB t = true ∧ t.kind ≠ 6 ∧ ∃ q : Nat, q + (spT t).length ≤ s.length ∧ t.at_ = (o + q : Nat) ∧ 1 ≤ (spT t).length ∧ (s.drop q).take (spT t).length = spT t ∧ chainT e (s.drop (q + (spT t).length)) (o + q + (spT t).length) r)

theorem lexF_chain : ∀ (f : Nat) (s : Bs) (o : Nat) (ts : List Tk), s.length < f → lexF f s o = .ok ts → chainT (o + s.length) s o ts
  | 0, s, o, ts, h, _ => by omega
  | f + 1, s, o, ts, hf, h => by
    rw [lexF_step] at h
    have hk := skB_le false s
    cases e : tokS (s.drop (skB false s)) with
    | bad c => rw [e] at h; cases h
    | ok k t n m =>
      rw [e] at h
      obtain ⟨l1, l2, l3⟩ := tokS_len e
      simp only at h
      split at h
      · rename_i h6
        have hnil := (end_nil e).1 h6
        rw [hnil] at e
        obtain ⟨_, rfl, rfl, _⟩ := end_val e
        cases h
        have hlen : s.length ≤ skB false s := by
          have := congrArg List.length hnil
          simp only [List.length_drop, List.length_nil] at this
          omega
        refine .inl ⟨rfl, ?_, rfl⟩
        have : skB false s = s.length := by omega
        rw [this, h6]
      · rename_i h6
        obtain ⟨p1, p2, p3⟩ := tokS_spell e h6 (o + skB false s : Nat)
        have hne : s.drop (skB false s) ≠ [] := fun q => h6 (l3 q)
        obtain ⟨hm, _⟩ := l2 hne
        simp only [List.length_drop] at l1
        cases er : lexF f (s.drop (skB false s + m)) (o + skB false s + m) with
        | bad c q => rw [er] at h; cases h
        | ok r =>
          rw [er] at h
          have h' : LR.ok (⟨k, t, n, (o + skB false s : Nat)⟩ :: r) = LR.ok ts := h
          cases h'
          have ih := lexF_chain f _ _ r (by simp only [List.length_drop]; omega) er
          have hlen : o + skB false s + m + (s.drop (skB false s + m)).length = o + s.length := by simp only [List.length_drop]; omega
          rw [hlen] at ih
          rw [p2] at ih hm p3
          refine .inr ⟨p1, h6, skB false s, by rw [← p2]; omega, rfl, hm, p3, ih⟩

/-- Where a fault is. -/
theorem lexF_bad : ∀ (f : Nat) (s : Bs) (o : Nat) (c : Int) (k : Nat), s.length < f → lexF f s o = .bad c k → c ≠ 0 ∧ o ≤ k ∧ k < o + s.length
  | 0, s, o, c, k, h, _ => by omega
  | f + 1, s, o, c, k, hf, h => by
    rw [lexF_step] at h
    have hk := skB_le false s
    cases e : tokS (s.drop (skB false s)) with
    | bad c' =>
      rw [e] at h
      simp only [LR.bad.injEq] at h
      obtain ⟨rfl, rfl⟩ := h
      have hne : s.drop (skB false s) ≠ [] := fun q => by rw [q] at e; simp [tokS] at e
      have h5 : 0 < (s.drop (skB false s)).length := List.length_pos_iff.2 hne
      simp only [List.length_drop] at h5
      exact ⟨bad_code e, by omega, by omega⟩
    | ok kd t n m =>
      rw [e] at h
      obtain ⟨l1, l2, l3⟩ := tokS_len e
      simp only at h
      split at h
      · cases h
      · rename_i h6
        have hne : s.drop (skB false s) ≠ [] := fun q => h6 (l3 q)
        obtain ⟨hm, _⟩ := l2 hne
        simp only [List.length_drop] at l1
        cases er : lexF f (s.drop (skB false s + m)) (o + skB false s + m) with
        | ok r => rw [er] at h; cases h
        | bad c' q =>
          rw [er] at h
          have h' : LR.bad c' q = LR.bad c k := h
          cases h'
          obtain ⟨a1, a2, a3⟩ := lexF_bad f _ _ c k (by simp only [List.length_drop]; omega) er
          simp only [List.length_drop] at a3
          exact ⟨a1, by omega, by omega⟩

/-- Another rest behind the first token. -/
theorem lexF_splice {f g : Nat} {s s2 : Bs} {o o' : Nat} {k n : Int} {t : Bs} {m : Nat} (hs : tokS (s.drop (skB false s)) = .ok k t n m) (h6 : k ≠ 6) (hf : FolB (s.drop (skB false s + m)) s2) :
    lexF (g + 1) (s.take (skB false s + m) ++ s2) o' = LR.cons ⟨k, t, n, (o' + skB false s : Nat)⟩ (lexF g s2 (o' + skB false s + m)) := by
  obtain ⟨l1, l2, l3⟩ := tokS_len hs
  have hne : s.drop (skB false s) ≠ [] := fun q => h6 (l3 q)
  obtain ⟨hm, _⟩ := l2 hne
  simp only [List.length_drop] at l1
  generalize hq : skB false s = q at *
  -- s = p ++ w ++ rest
  have hw : s.drop q = (s.drop q).take m ++ s.drop (q + m) := by rw [← List.drop_drop, List.take_append_drop]
  have htk : s.take (q + m) = s.take q ++ (s.drop q).take m := by rw [List.take_add]
  have hwl : ((s.drop q).take m).length = m := by rw [List.length_take, List.length_drop]; omega
  have hpl : (s.take q).length = q := by rw [List.length_take]; omega
  have hsq : s = s.take q ++ s.drop q := (List.take_append_drop q s).symm
  rw [htk, List.append_assoc]
  generalize hwv : (s.drop q).take m = w at *
  generalize hpv : s.take q = p at *
  generalize hrv : s.drop (q + m) = rest at *
  cases w with
  | nil => simp at hwl; omega
  | cons c w' =>
    have hsk : skB false (p ++ (c :: w' ++ s2)) = q := by
      have h1 : skB false (p ++ c :: (w' ++ rest)) = p.length := by
        rw [hpl, ← hq]
        congr 1
        rw [hsq, hw]; simp
      have := skB_same false p c (w' ++ rest) (w' ++ s2) h1
      rw [hpl] at this
      simpa using this
    have htok : tokS (c :: w' ++ s2) = .ok k t n m := by
      rw [hw] at hs
      have := tokS_behind (w := c :: w') (s := rest) (s' := s2) (k := k) (n := n) (t := t) (by rw [hwl]; exact hs) (by simp) hf
      rw [hwl] at this
      exact this
    rw [lexF_step, hsk]
    have hd1 : (p ++ (c :: w' ++ s2)).drop q = c :: w' ++ s2 := by rw [← hpl, List.drop_left]
    have hd2 : (p ++ (c :: w' ++ s2)).drop (q + m) = s2 := by
      rw [← List.drop_drop, hd1, ← hwl, List.drop_left]
    rw [hd1, htok]
    simp only
    rw [if_neg h6, hd2]

theorem folB_take {s : Bs} {j : Nat} : FolB s (s.take j) := by
  cases s with
  | nil => exact .inl (by simp)
  | cons c r =>
    cases j with
    | zero => exact .inl rfl
    | succ j => exact .inr (.inl ⟨rfl, by simp⟩)

/-- The part of a source in front of a fault. -/
theorem lexF_cut : ∀ (f : Nat) (s : Bs) (o : Nat) (c : Int) (k : Nat), s.length < f → lexF f s o = .bad c k → ∃ ts a, lexF f (s.take (k - o)) o = .ok ts ∧ ts.getLast? = some a ∧ a.at_ = k
  | 0, s, o, c, k, h, _ => by omega
  | f + 1, s, o, c, k, hf, h => by
    have hbd := lexF_bad (f + 1) s o c k hf h
    rw [lexF_step] at h
    have hk := skB_le false s
    cases e : tokS (s.drop (skB false s)) with
    | bad c' =>
      rw [e] at h
      simp only [LR.bad.injEq] at h
      obtain ⟨rfl, rfl⟩ := h
      rw [show o + skB false s - o = skB false s by omega]
      have h1 := skB_take false s [] rfl
      rw [List.append_nil, show skB false ([] : Bs) = 0 from rfl, Nat.add_zero] at h1
      rw [lexF_step, h1]
      have hd : (s.take (skB false s)).drop (skB false s) = [] := by rw [List.drop_eq_nil_of_le (by rw [List.length_take]; omega)]
      rw [hd]
      exact ⟨[⟨6, [], 0, (o + skB false s : Nat)⟩], _, rfl, rfl, rfl⟩
    | ok kd t n m =>
      rw [e] at h
      obtain ⟨l1, l2, l3⟩ := tokS_len e
      simp only at h
      split at h
      · cases h
      · rename_i h6
        have hne : s.drop (skB false s) ≠ [] := fun q => h6 (l3 q)
        obtain ⟨hm, _⟩ := l2 hne
        simp only [List.length_drop] at l1
        cases er : lexF f (s.drop (skB false s + m)) (o + skB false s + m) with
        | ok r => rw [er] at h; cases h
        | bad c' q =>
          rw [er] at h
          have h' : LR.bad c' q = LR.bad c k := h
          cases h'
          have hb2 := lexF_bad f _ _ c k (by simp only [List.length_drop]; omega) er
          obtain ⟨ts, a, i1, i2, i3⟩ := lexF_cut f _ _ c k (by simp only [List.length_drop]; omega) er
          have hsp := lexF_splice (f := f) (g := f) (o := o) (o' := o) e h6 (s2 := (s.drop (skB false s + m)).take (k - (o + skB false s + m))) folB_take
          have htk : s.take (k - o) = s.take (skB false s + m) ++ (s.drop (skB false s + m)).take (k - (o + skB false s + m)) := by
            rw [show k - o = (skB false s + m) + (k - (o + skB false s + m)) by omega, List.take_add]
          rw [htk, hsp, i1]
          refine ⟨_, a, rfl, ?_, i3⟩
          cases ts with
          | nil => simp at i2
          | cons x r => rw [List.getLast?_cons_cons]; exact i2

/-- The same tokens from another offset on. -/
theorem lexF_shift : ∀ (f : Nat) (s : Bs) (o d : Nat), (∀ c k, lexF f s o = .bad c k → f ≠ 0 → s.length < f → lexF f s (o + d) = .bad c (k + d)) ∧ (∀ ts, lexF f s o = .ok ts → ∃ ts', lexF f s (o + d) = .ok ts' ∧ sameT false ts ts' = true ∧ (∀ x r, ts = x :: r → ∃ r', ts' = ⟨x.kind, x.text, x.n, x.at_ + d⟩ :: r'))
  | 0, s, o, d => ⟨fun c k _ h => absurd rfl h, fun ts h => by simp [lexF] at h⟩
  | f + 1, s, o, d => by
    rw [lexF_step, lexF_step]
    have hk := skB_le false s
    cases e : tokS (s.drop (skB false s)) with
    | bad c' =>
      refine ⟨fun c k h _ _ => ?_, fun ts h => by cases h⟩
      simp only [LR.bad.injEq] at h ⊢
      omega
    | ok kd t n m =>
      obtain ⟨l1, l2, l3⟩ := tokS_len e
      simp only
      split
      · refine ⟨fun c k h _ _ => (by cases h), fun ts h => ?_⟩
        cases h
        refine ⟨_, rfl, by simp [sameT, tkEq], fun x r hx => ?_⟩
        simp only [List.cons.injEq] at hx
        obtain ⟨rfl, rfl⟩ := hx
        refine ⟨[], ?_⟩
        simp only [List.cons.injEq, Tk.mk.injEq, and_true, true_and]; omega
      · rename_i h6
        obtain ⟨i1, i2⟩ := lexF_shift f (s.drop (skB false s + m)) (o + skB false s + m) d
        rw [show o + skB false s + m + d = o + d + skB false s + m by omega] at i1 i2
        have hne : s.drop (skB false s) ≠ [] := fun q => h6 (l3 q)
        obtain ⟨hm, _⟩ := l2 hne
        simp only [List.length_drop] at l1
        cases er : lexF f (s.drop (skB false s + m)) (o + skB false s + m) with
        | bad c q =>
          refine ⟨fun c' k h _ hlt => ?_, fun ts h => by cases h⟩
          have h' : LR.bad c q = LR.bad c' k := h
          cases h'
          have hl : (s.drop (skB false s + m)).length < f := by simp only [List.length_drop]; omega
          rw [i1 c q er (by omega) hl]; rfl
        | ok r =>
          refine ⟨fun c' k h _ _ => (by cases h), fun ts h => ?_⟩
          have h' : LR.ok (⟨kd, t, n, (o + skB false s : Nat)⟩ :: r) = LR.ok ts := h
          cases h'
          obtain ⟨ts', j1, j2, _⟩ := i2 r er
          rw [j1]
          refine ⟨_, rfl, by simp [sameT, tkEq, j2], fun x r0 hx => ?_⟩
          simp only [List.cons.injEq] at hx
          obtain ⟨rfl, rfl⟩ := hx
          refine ⟨ts', ?_⟩
          simp only [List.cons.injEq, Tk.mk.injEq, and_true, true_and]; omega
theorem lexF_same (f : Nat) (s : Bs) (o o' : Nat) (ts : List Tk) (h : lexF f s o = .ok ts) : ∃ ts', lexF f s o' = .ok ts' ∧ sameT false ts ts' = true := by
  -- both are shifts of the list from 0 on
  have h0 : ∃ u, lexF f s 0 = .ok u := by
    cases e : lexF f s 0 with
    | ok u => exact ⟨u, rfl⟩
    | bad c k =>
      exfalso
      have key : ∀ (f : Nat) (s : Bs) (a b : Nat) (ts : List Tk), lexF f s a = .ok ts → ∃ us, lexF f s b = .ok us := by
        intro f
        induction f with
        | zero => intro s a b ts h; simp [lexF] at h
        | succ f ih =>
          intro s a b ts h
          rw [lexF_step] at h ⊢
          cases et : tokS (s.drop (skB false s)) with
          | bad c => rw [et] at h; cases h
          | ok kd t n m =>
            rw [et] at h
            simp only at h ⊢
            split at h
            · rename_i h6; rw [if_pos h6]; exact ⟨_, rfl⟩
            · rename_i h6
              rw [if_neg h6]
              cases er : lexF f (s.drop (skB false s + m)) (a + skB false s + m) with
              | bad c q => rw [er] at h; cases h
              | ok r =>
                obtain ⟨us, hu⟩ := ih _ _ (b + skB false s + m) r er
                rw [hu]; exact ⟨_, rfl⟩
      obtain ⟨us, hu⟩ := key f s o 0 ts h
      rw [hu] at e; cases e
  obtain ⟨u, hu⟩ := h0
  obtain ⟨t1, a1, a2, _⟩ := (lexF_shift f s 0 o).2 u hu
  obtain ⟨t2, b1, b2, _⟩ := (lexF_shift f s 0 o').2 u hu
  rw [Nat.zero_add] at a1 b1
  rw [h] at a1
  cases a1
  refine ⟨t2, b1, ?_⟩
  have trans : ∀ a b c : List Tk, sameT false a b = true → sameT false a c = true → sameT false b c = true := by
    intro a
    induction a with
    | nil => intro b c h1 h2; cases b <;> cases c <;> simp_all [sameT]
    | cons x a ih =>
      intro b c h1 h2
      cases b with
      | nil => simp [sameT] at h1
      | cons y b =>
        cases c with
        | nil => simp [sameT] at h2
        | cons z c =>
          simp only [sameT, Bool.and_eq_true] at h1 h2 ⊢
          refine ⟨?_, ih b c h1.2 h2.2⟩
          have g1 := h1.1
          have g2 := h2.1
          simp only [tkEq, Bool.and_eq_true, decide_eq_true_eq, Bool.not_false, Bool.true_or, and_true] at g1 g2 ⊢
          exact ⟨g1.1.symm.trans g2.1, g1.2.1.symm.trans g2.2.1, g1.2.2.symm.trans g2.2.2⟩
  exact trans u ts t2 a2 b2
end Go.Proofs.YtighpnijbnllaaaDoor
