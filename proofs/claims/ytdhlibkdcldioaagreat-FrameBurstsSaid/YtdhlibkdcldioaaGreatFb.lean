/- Shapes of data, their bytes, and the reading of them: plain facts. -/
import Derived.Test.YtdhlibkdcldioaaGreatRo
set_option linter.unusedSimpArgs false
set_option linter.unusedVariables false
set_option maxRecDepth 8000
namespace Go.Proofs.YtdhlibkdcldioaaGreat
open Gx Go

abbrev Bs := List UInt8
/-- Shapes of data. -/
inductive Ty where
  | num
  | bool
  | bytes
  | text
  | list (t : Ty)
  | pair (a b : Ty)
@[reducible] def den : Ty → Type
  | .num => Int
  | .bool => Bool
  | .bytes => Bs
  | .text => Bs
  | .list t => List (den t)
  | .pair a b => den a × den b
def encT : (t : Ty) → den t → Bs
  | .num, n => enc (zig n)
  | .bool, b => [if b then 1 else 0]
  | .bytes, l => enc l.length ++ l
  | .text, l => enc l.length ++ l
  | .list t, l => enc l.length ++ l.flatMap (encT t)
  | .pair a b, d => encT a d.1 ++ encT b d.2
def okT : (t : Ty) → den t → Prop
  | .num, n => -2^63 ≤ n ∧ n < 2^63
  | .bool, _ => True
  | .bytes, l => l.length < 2^63
  | .text, l => l.length < 2^63
  | .list t, l => l.length < 2^63 ∧ ∀ x ∈ l, okT t x
  | .pair a b, d => okT a d.1 ∧ okT b d.2
/-- So many elements, up to the first that fails. -/
def repO {α : Type} (f : Pl → α × Pl) : Nat → Pl → List α × Pl
  | 0, s => ([], s)
  | _ + 1, none => ([], none)
  | n + 1, some p => ((f (some p)).1 :: (repO f n (f (some p)).2).1, (repO f n (f (some p)).2).2)
def dT (L : Bs) : (t : Ty) → Pl → den t × Pl
  | .num, s => (zag (uintO L s).1, (uintO L s).2)
  | .bool, s => boolO L s
  | .bytes, s => bytesO L s
  | .text, s => bytesO L s
  | .list t, s => repO (dT L t) (countO L s).1 (countO L s).2
  | .pair a b, s => (((dT L a s).1, (dT L b (dT L a s).2).1), (dT L b (dT L a s).2).2)

/-- These bytes stand at this place. -/
def AtL (L : Bs) (p : Nat) (w : Bs) : Prop := ∃ r, L.drop p = w ++ r
theorem AtL.left {L : Bs} {p : Nat} {u v : Bs} (h : AtL L p (u ++ v)) : AtL L p u := by
  obtain ⟨r, h⟩ := h
  exact ⟨v ++ r, by rw [h, List.append_assoc]⟩
theorem AtL.right {L : Bs} {p : Nat} {u v : Bs} (h : AtL L p (u ++ v)) : AtL L (p + u.length) v := by
  obtain ⟨r, h⟩ := h
  refine ⟨r, ?_⟩
  rw [← List.drop_drop, h, List.append_assoc, List.drop_left]
theorem AtL.le {L : Bs} {p : Nat} {w : Bs} (h : AtL L p w) (h0 : 0 < w.length) : p + w.length ≤ L.length := by
  obtain ⟨r, h⟩ := h
  have := congrArg List.length h
  simp only [List.length_drop, List.length_append] at this
  omega
theorem num_at {L : Bs} {p n : Nat} (h : AtL L p (enc n)) (hn : n < 2^64) : num (L.drop p) = some (n, (enc n).length) := by
  obtain ⟨r, h⟩ := h
  rw [h]; exact num_enc n hn r
theorem uintO_at {L : Bs} {p n : Nat} (h : AtL L p (enc n)) (hn : n < 2^64) : uintO L (some p) = (n, some (p + (enc n).length)) := by
  simp only [uintO, num_at h hn]
theorem countO_at {L : Bs} {p n : Nat} {u : Bs} (h : AtL L p (enc n ++ u)) (hn : n ≤ u.length) (hL : L.length < 2^64) : countO L (some p) = (n, some (p + (enc n).length)) := by
  have h1 := len_enc_pos n
  have h2 := h.le (by simp; omega)
  simp only [List.length_append] at h2
  have : num (L.drop p) = some (n, (enc n).length) := num_at h.left (by omega)
  simp only [countO, this]
  rw [if_pos (by omega)]
theorem bytesO_at {L : Bs} {p : Nat} {s : Bs} (h : AtL L p (enc s.length ++ s)) (hL : L.length < 2^64) : bytesO L (some p) = (s, some (p + (enc s.length ++ s).length)) := by
  have h1 := len_enc_pos s.length
  have h2 := h.le (by simp; omega)
  simp only [List.length_append] at h2
  have h3 : num (L.drop p) = some (s.length, (enc s.length).length) := num_at h.left (by omega)
  simp only [bytesO, h3]
  rw [if_pos (by omega)]
  obtain ⟨r, h4⟩ := h.right
  rw [h4, List.take_left, List.length_append, Nat.add_assoc]
theorem flat_len {α : Type} {f : α → Bs} (hf : ∀ x, 1 ≤ (f x).length) : ∀ l : List α, l.length ≤ (l.flatMap f).length
  | [] => by simp
  | x :: l => by
    have h1 := flat_len hf l
    have h2 := hf x
    simp only [List.flatMap_cons, List.length_append, List.length_cons]; omega
theorem encT_pos : ∀ (t : Ty) (d : den t), 1 ≤ (encT t d).length
  | .num, n => len_enc_pos _
  | .bool, b => by simp [encT]
  | .bytes, l => by have := len_enc_pos l.length; simp only [encT, List.length_append]; omega
  | .text, l => by have := len_enc_pos l.length; simp only [encT, List.length_append]; omega
  | .list t, l => by have := len_enc_pos (List.length l); simp only [encT, List.length_append]; omega
  | .pair a b, d => by have := encT_pos a d.1; simp only [encT, List.length_append]; omega

theorem repO_none {α : Type} (f : Pl → α × Pl) (n : Nat) : repO f n none = ([], none) := by cases n <;> rfl
theorem repO_succ {α : Type} (f : Pl → α × Pl) (n p : Nat) : repO f (n + 1) (some p) = ((f (some p)).1 :: (repO f n (f (some p)).2).1, (repO f n (f (some p)).2).2) := rfl
theorem dT_none (L : Bs) : ∀ t : Ty, (dT L t none).2 = none
  | .num => rfl
  | .bool => rfl
  | .bytes => rfl
  | .text => rfl
  | .list t => by show (repO (dT L t) 0 none).2 = none; rfl
  | .pair a b => by show (dT L b (dT L a none).2).2 = none; rw [dT_none L a]; exact dT_none L b

theorem repO_at {L : Bs} {α : Type} {f : Pl → α × Pl} {e : α → Bs} : ∀ (l : List α), (∀ x ∈ l, ∀ p, AtL L p (e x) → f (some p) = (x, some (p + (e x).length))) → ∀ {p : Nat}, AtL L p (l.flatMap e) → repO f l.length (some p) = (l, some (p + (l.flatMap e).length))
  | [], _, p, _ => by simp [repO]
  | x :: l, hf, p, h => by
    rw [List.flatMap_cons] at h
    have h1 := hf x (by simp) p h.left
    have h2 := repO_at l (fun y hy => hf y (by simp [hy])) h.right
    simp only [List.length_cons, repO_succ, h1, h2, List.flatMap_cons, List.length_append, Nat.add_assoc]
theorem dT_at {L : Bs} (hL : L.length < 2^63) : ∀ (t : Ty) (d : den t), okT t d → ∀ {p : Nat}, AtL L p (encT t d) → dT L t (some p) = (d, some (p + (encT t d).length))
  | .num, n, ho, p, h => by
    simp only [encT] at h
    simp only [dT, uintO_at h (zig_lt n ho.1 ho.2), zag_zig, encT]
  | .bool, b, _, p, h => by
    obtain ⟨r, h⟩ := h
    simp only [encT, List.cons_append, List.nil_append] at h
    simp only [dT, boolO, h]
    cases b <;> simp [encT]
  | .bytes, l, _, p, h => bytesO_at h (by omega)
  | .text, l, _, p, h => bytesO_at h (by omega)
  | .list t, l, ho, p, h => by
    simp only [encT] at h
    have h1 := countO_at h (flat_len (encT_pos t) l) (by omega)
    have h2 := repO_at (L := L) (f := dT L t) (e := encT t) l (fun x hx p hp => dT_at hL t x (ho.2 x hx) hp) h.right
    simp only [dT, h1, h2, encT, List.length_append, Nat.add_assoc]
  | .pair a b, d, ho, p, h => by
    simp only [encT] at h
    have h1 := dT_at hL a d.1 ho.1 h.left
    have h2 := dT_at hL b d.2 ho.2 h.right
    simp only [dT, h1, h2, encT, List.length_append, Nat.add_assoc]

/-- From one place to another stand exactly these bytes. -/
def Span (L : Bs) (s : Pl) (w : Bs) (q : Nat) : Prop := ∃ p, s = some p ∧ AtL L p w ∧ q = p + w.length
theorem Span.app {L : Bs} {s : Pl} {u v : Bs} {m q : Nat} (h1 : Span L s u m) (h2 : Span L (some m) v q) : Span L s (u ++ v) q := by
  obtain ⟨p, rfl, ⟨r, h3⟩, rfl⟩ := h1
  obtain ⟨p', e, ⟨r', h4⟩, rfl⟩ := h2
  cases e
  refine ⟨p, rfl, ⟨r', ?_⟩, by rw [List.length_append]; omega⟩
  rw [← List.drop_drop, h3, List.drop_left] at h4
  rw [h3, h4, List.append_assoc]
theorem Span.nil (L : Bs) (p : Nat) : Span L (some p) [] p := ⟨p, rfl, ⟨L.drop p, rfl⟩, rfl⟩
theorem enc_len' {l : Bs} {n k : Nat} (h : num l = some (n, k)) : (enc n).length = k := by
  have h1 := num_canon h
  have h2 := (num_bound h).2.2.1
  rw [← h1, List.length_take]; omega
theorem span_num {L : Bs} {p n k : Nat} (h : num (L.drop p) = some (n, k)) : Span L (some p) (enc n) (p + k) := by
  refine ⟨p, rfl, ⟨(L.drop p).drop k, ?_⟩, by rw [enc_len' h]⟩
  rw [← num_canon h, List.take_append_drop]
theorem span_uint {L : Bs} {s : Pl} {n q : Nat} (h : uintO L s = (n, some q)) : Span L s (enc n) q := by
  unfold uintO at h
  split at h
  · split at h
    · rename_i p n' k e
      simp only [Prod.mk.injEq, Option.some.injEq] at h
      obtain ⟨rfl, rfl⟩ := h
      exact span_num e
    · cases h
  · cases h
theorem span_count {L : Bs} {s : Pl} {n q : Nat} (h : countO L s = (n, some q)) : Span L s (enc n) q := by
  unfold countO at h
  split at h
  · split at h
    · rename_i p n' k e
      split at h
      · simp only [Prod.mk.injEq, Option.some.injEq] at h
        obtain ⟨rfl, rfl⟩ := h
        exact span_num e
      · cases h
    · cases h
  · cases h
theorem span_bytes {L : Bs} {s : Pl} {x : Bs} {q : Nat} (h : bytesO L s = (x, some q)) : Span L s (enc x.length ++ x) q := by
  unfold bytesO at h
  split at h
  · split at h
    · rename_i _ p _ n k e
      split at h
      · rename_i hle
        simp only [Prod.mk.injEq, Option.some.injEq] at h
        obtain ⟨rfl, rfl⟩ := h
        have hl : ((L.drop (p + k)).take n).length = n := by rw [List.length_take, List.length_drop]; omega
        rw [hl]
        refine (span_num e).app ⟨p + k, rfl, ⟨(L.drop (p + k)).drop n, ?_⟩, by rw [hl]⟩
        rw [List.take_append_drop]
      · cases h
    · cases h
  · cases h
theorem span_bool {L : Bs} {s : Pl} {x : Bool} {q : Nat} (h : boolO L s = (x, some q)) : Span L s [if x then 1 else 0] q := by
  unfold boolO at h
  split at h
  · split at h
    · rename_i p _ y r e
      split at h
      · cases h
      · rename_i hle
        simp only [Prod.mk.injEq, Option.some.injEq] at h
        obtain ⟨rfl, rfl⟩ := h
        refine ⟨p, rfl, ⟨r, ?_⟩, rfl⟩
        rw [e]
        have hy : y = 0 ∨ y = 1 := by
          have : y.toNat = 0 ∨ y.toNat = 1 := by omega
          rcases this with h | h
          · exact .inl (UInt8.toNat_inj.1 (by rw [h]; rfl))
          · exact .inr (UInt8.toNat_inj.1 (by rw [h]; rfl))
        rcases hy with rfl | rfl <;> rfl
    · cases h
  · cases h
theorem repO_span {L : Bs} {α : Type} {f : Pl → α × Pl} {e : α → Bs} (hf : ∀ {s x q}, f s = (x, some q) → Span L s (e x) q) : ∀ (n : Nat) {s : Pl} {l : List α} {q : Nat}, repO f n s = (l, some q) → Span L s (l.flatMap e) q ∧ l.length = n
  | 0, s, l, q, h => by
    simp only [repO, Prod.mk.injEq] at h
    obtain ⟨rfl, rfl⟩ := h
    exact ⟨Span.nil L q, rfl⟩
  | n + 1, none, l, q, h => by rw [repO_none] at h; cases h
  | n + 1, some p, l, q, h => by
    rw [repO_succ] at h
    simp only [Prod.mk.injEq] at h
    obtain ⟨rfl, h⟩ := h
    cases e1 : f (some p) with
    | mk x m =>
      rw [e1] at h
      cases m with
      | none => rw [repO_none] at h; cases h
      | some m =>
        obtain ⟨h1, h2⟩ := repO_span hf n (s := some m) (l := (repO f n (some m)).1) (q := q) (by rw [← h])
        refine ⟨?_, by simp [h2]⟩
        rw [List.flatMap_cons]
        exact (hf e1).app h1
theorem dT_span (L : Bs) : ∀ (t : Ty) {s : Pl} {d : den t} {q : Nat}, dT L t s = (d, some q) → Span L s (encT t d) q
  | .num, s, d, q, h => by
    simp only [dT, Prod.mk.injEq] at h
    obtain ⟨rfl, h⟩ := h
    simp only [encT, zig_zag]
    exact span_uint (n := (uintO L s).1) (by rw [← h])
  | .bool, s, d, q, h => span_bool h
  | .bytes, s, d, q, h => span_bytes h
  | .text, s, d, q, h => span_bytes h
  | .list t, s, d, q, h => by
    simp only [dT] at h
    cases e : countO L s with
    | mk n m =>
      rw [e] at h
      cases m with
      | none => rw [repO_none] at h; cases h
      | some m =>
        obtain ⟨h1, h2⟩ := repO_span (e := encT t) (fun h => dT_span L t h) _ h
        simp only [encT, h2]
        exact (span_count e).app h1
  | .pair a b, s, d, q, h => by
    simp only [dT, Prod.mk.injEq] at h
    obtain ⟨rfl, h⟩ := h
    cases e : (dT L a s).2 with
    | none => rw [e, dT_none] at h; cases h
    | some m =>
      rw [e] at h
      simp only [encT, e]
      refine (dT_span L a (d := (dT L a s).1) (q := m) (by rw [← e])).app (dT_span L b (d := (dT L b (some m)).1) (q := q) (by rw [← h]))

theorem zag_in {n : Nat} (h : n < 2^64) : -2^63 ≤ zag n ∧ zag n < 2^63 := by unfold zag; split <;> omega
theorem bytesO_le (L : Bs) (s : Pl) : (bytesO L s).1.length ≤ L.length := by
  unfold bytesO
  split
  · split
    · split
      · simp only [List.length_take, List.length_drop]; omega
      · simp
    · simp
  · simp
theorem repO_len {α : Type} (f : Pl → α × Pl) : ∀ (n : Nat) (s : Pl), (repO f n s).1.length ≤ n
  | 0, s => by simp [repO]
  | n + 1, none => by simp [repO]
  | n + 1, some p => by
    have := repO_len f n (f (some p)).2
    simp only [repO_succ, List.length_cons]; omega
theorem repO_all {α : Type} {f : Pl → α × Pl} {P : α → Prop} (hf : ∀ s, P (f s).1) : ∀ (n : Nat) (s : Pl), ∀ x ∈ (repO f n s).1, P x
  | 0, s, x, h => by simp [repO] at h
  | n + 1, none, x, h => by simp [repO] at h
  | n + 1, some p, x, h => by
    simp only [repO_succ, List.mem_cons] at h
    rcases h with rfl | h
    · exact hf _
    · exact repO_all hf n _ x h
theorem dT_ok {L : Bs} (hL : L.length < 2^63) : ∀ (t : Ty) (s : Pl), okT t (dT L t s).1
  | .num, s => zag_in (uintO_lt L s)
  | .bool, s => trivial
  | .bytes, s => Nat.lt_of_le_of_lt (bytesO_le L s) hL
  | .text, s => Nat.lt_of_le_of_lt (bytesO_le L s) hL
  | .list t, s => ⟨Nat.lt_of_le_of_lt (Nat.le_trans (repO_len _ _ _) (countO_le L s)) hL, repO_all (fun s => dT_ok hL t s) _ _⟩
  | .pair a b, s => ⟨dT_ok hL a s, dT_ok hL b _⟩

/-- No encoding is a part of another at its beginning. -/
theorem encT_free {t : Ty} {d d' : den t} (h : okT t d) (h' : okT t d') {r r' : Bs} (hl : (encT t d ++ r).length < 2^63) (he : encT t d ++ r = encT t d' ++ r') : d = d' ∧ r = r' := by
  have h1 := dT_at (L := encT t d ++ r) hl t d h (p := 0) ⟨r, rfl⟩
  have h2 := dT_at (L := encT t d ++ r) hl t d' h' (p := 0) ⟨r', by rw [← he]; rfl⟩
  rw [h1] at h2
  simp only [Prod.mk.injEq] at h2
  obtain ⟨rfl, _⟩ := h2
  exact ⟨rfl, List.append_cancel_left he⟩
theorem encT_inj {t : Ty} {d d' : den t} (h : okT t d) (h' : okT t d') (hl : (encT t d).length < 2^63) (he : encT t d = encT t d') : d = d' :=
  (encT_free (r := []) (r' := []) h h' (by simpa using hl) (by simpa using he)).1

/-! ### in memory -/
/-- How many cells. -/
def wid : Ty → Nat
  | .pair a b => wid a + wid b
  | _ => 1
def datT : (t : Ty) → den t → Dat
  | .num, n => .v (.int .i64 n)
  | .bool, b => .v (.bool b)
  | .bytes, l => .list 1 (l.map fun b => .v (bv b))
  | .text, l => .v (.string ⟨⟨l⟩⟩)
  | .list t, l => .list (wid t) (l.map (datT t))
  | .pair a b, d => .agg [datT a d.1, datT b d.2]
theorem wid_pos : ∀ t, 0 < wid t
  | .num | .bool | .bytes | .text | .list _ => Nat.one_pos
  | .pair a b => by have := wid_pos a; simp only [wid]; omega
theorem rep_pair {H : Heap} {M : List Nat} {x y : Dat} {cs : List Value} : Rep H M (.agg [x, y]) cs ↔ ∃ c d, cs = c ++ d ∧ Rep H M x c ∧ Rep H M y d := by
  simp only [Rep, Reps]
  constructor
  · rintro ⟨css, h1, c, xs, rfl, h2, d, ys, rfl, h3, rfl⟩
    exact ⟨c, d, by simpa using h1, h2, h3⟩
  · rintro ⟨c, d, rfl, h2, h3⟩
    exact ⟨[c, d], by simp, c, [d], rfl, h2, d, [], rfl, h3, rfl⟩
theorem rep_wid {H : Heap} {M : List Nat} : ∀ {t : Ty} {d : den t} {cs : List Value}, Rep H M (datT t d) cs → cs.length = wid t
  | .num, d, cs, h => by simp only [datT, Rep] at h; subst h; rfl
  | .bool, d, cs, h => by simp only [datT, Rep] at h; subst h; rfl
  | .text, d, cs, h => by simp only [datT, Rep] at h; subst h; rfl
  | .bytes, d, cs, h => by simp only [datT, Rep] at h; obtain ⟨a, c, css, h, _⟩ := h; subst h; rfl
  | .list t, d, cs, h => by simp only [datT, Rep] at h; obtain ⟨a, c, css, h, _⟩ := h; subst h; rfl
  | .pair a b, d, cs, h => by
    simp only [datT] at h
    obtain ⟨c, e, rfl, h1, h2⟩ := rep_pair.1 h
    rw [List.length_append, rep_wid h1, rep_wid h2]; rfl
/-- A byte string in memory. -/
theorem rep_bytes {H : Heap} {M : List Nat} {l : Bs} {cs : List Value} : Rep H M (datT .bytes l) cs ↔ ∃ a c, cs = [.slice a l.length c] ∧ l.length ≤ c ∧ c ≤ maxLen ∧ CsA H M a (l.map bv) := by
  simp only [datT, Rep, List.length_map]
  have key : ∀ {l : Bs} {css : List (List Value)}, Reps H M (l.map fun b => .v (bv b)) css ↔ css = l.map fun b => [bv b] := by
    intro l
    induction l with
    | nil => intro css; simp [Reps]
    | cons b l ih =>
      intro css
      simp only [List.map_cons, Reps, Rep, ih]
      constructor
      · rintro ⟨x, xs, rfl, rfl, rfl⟩; rfl
      · rintro rfl; exact ⟨_, _, rfl, rfl, rfl⟩
  have key2 : ∀ l : Bs, (l.map fun b => [bv b]).flatten = l.map bv := fun l => by
    induction l with
    | nil => rfl
    | cons b l ih => simp [ih]
  constructor
  · rintro ⟨a, c, css, h1, h2, h3, h4, h5, h6⟩
    rw [key] at h4; subst h4
    rw [key2] at h6
    exact ⟨a, c, h1, h2, h3, h6⟩
  · rintro ⟨a, c, h1, h2, h3, h6⟩
    refine ⟨a, c, _, h1, h2, h3, key.2 rfl, ?_, by rw [key2]; exact h6⟩
    intro x hx
    simp only [List.mem_map] at hx
    obtain ⟨b, _, rfl⟩ := hx
    rfl
theorem csR_bsR {H : Heap} {a : Option Addr} {l : Bs} : CsR H a (l.map bv) ↔ BsR H a l := by
  unfold CsR BsR
  constructor
  · rintro (h | ⟨b, o, h1, h2⟩)
    · exact .inl (by simpa using h)
    · exact .inr ⟨b, o, h1, fun j hj => by have := h2 j (by simpa using hj); simpa using this⟩
  · rintro (h | ⟨b, o, h1, h2⟩)
    · exact .inl (by simp [h])
    · exact .inr ⟨b, o, h1, fun j hj => by have := h2 j (by simpa using hj); simpa using this⟩

/-! ### the shapes of messages -/
abbrev tRound : Ty := .pair .num (.pair .num .num)
abbrev tRead : Ty := .pair .num (.pair .num .bytes)
abbrev tWrite : Ty := .pair .text .bytes
abbrev tCmd : Ty := .pair .num (.pair .num (.pair .num (.pair (.list tWrite) (.pair .num .bytes))))
abbrev tAck : Ty := .pair .num .bytes
abbrev tCert : Ty := .pair tRound (.pair (.list tRead) (.pair (.list tCmd) (.pair (.list tCmd) (.pair .num (.pair .bytes (.list tAck))))))
abbrev tBase : Ty := .pair (.list tCert) (.list tCmd)
abbrev tProof : Ty := .pair (.list tCert) tCert
abbrev tDigest : Ty := .pair .bytes (.pair .bytes .num)
abbrev tItem : Ty := .pair .text (.pair .bool (.pair .bytes (.list .bytes)))
abbrev tMsg : Ty := .pair .num (.pair .num (.pair .num (.pair tRound (.pair (.list tRead) (.pair (.list tBase) (.pair (.list tCmd) (.pair (.list tAck) (.pair (.list tProof) (.pair (.list tDigest) (.pair (.list .text) (.pair .num (.list tItem))))))))))))
end Go.Proofs.YtdhlibkdcldioaaGreat
