import Derived.Test.YtbgjgaaobnbijaaGreatDoorB5
import Derived.Test.YtbgjgaaobnbijaaGreatDoorB3
section
/- The parser of the specification: its state, its small functions: contracts. -/
set_option linter.unusedSimpArgs false
set_option linter.unusedVariables false
set_option maxRecDepth 8000
namespace Go.Proofs.YtbgjgaaobnbijaaGreatDoor
open Gx Go

abbrev Sx := Except Flt (List Tk)
/-- What is parsed behind a state. -/
def liX {γ : Type} (q : PP γ) : Sx → Except Flt (γ × List Tk)
  | .error e => .error e
  | .ok ts => q ts
def isX (s : Bs) : Sx → Bool
  | .error _ => false
  | .ok ts => isB s ts
/-- The state behind a reading. -/
def LnX {α : Type} (p : PP α) (σ : Sx) (a : α) (σ' : Sx) : Prop := liX p σ = liX (ret a) σ'
theorem liX_step {α γ : Type} {p : PP α} {g : α → PP γ} {σ σ' : Sx} {a : α} (h : LnX p σ a σ') : liX (bd p g) σ = liX (g a) σ' := by
  unfold LnX at h
  cases σ with
  | error e =>
    cases σ' with
    | error e' => simpa [liX] using h
    | ok r => simp [liX, ret] at h
  | ok ts =>
    cases σ' with
    | error e' =>
      simp only [liX] at h ⊢
      rw [bd_err h]
    | ok r =>
      simp only [liX, ret] at h ⊢
      rw [bd_ok h]
theorem liX_bd {α β γ : Type} {p : PP α} {f : α → PP β} {g : β → PP γ} {σ : Sx} : liX (bd (bd p f) g) σ = liX (bd p fun a => bd (f a) g) σ := by
  cases σ with
  | error e => rfl
  | ok ts => exact bd_bd p f g ts
theorem liX_no {γ : Type} {s : Bs} {A B : List Tk → Except Flt (γ × List Tk)} {σ : Sx} (h : isX s σ = false) : liX (fun ts => if isB s ts = true then A ts else B ts) σ = liX B σ := by
  cases σ with
  | error e => rfl
  | ok ts =>
    have h' : isB s ts = false := h
    simp only [liX, h', Bool.false_eq_true, if_false]
theorem liX_if {γ : Type} {A B : List Tk → Except Flt (γ × List Tk)} {C : List Tk → Prop} [∀ ts, Decidable (C ts)] {σ : Sx} (h : ∀ ts, σ = .ok ts → C ts) : liX (fun ts => if C ts then A ts else B ts) σ = liX A σ := by
  cases σ with
  | error e => rfl
  | ok ts => simp only [liX, if_pos (h ts rfl)]
theorem liX_else {γ : Type} {A B : List Tk → Except Flt (γ × List Tk)} {C : List Tk → Prop} [∀ ts, Decidable (C ts)] {σ : Sx} (h : ∀ ts, σ = .ok ts → ¬ C ts) : liX (fun ts => if C ts then A ts else B ts) σ = liX B σ := by
  cases σ with
  | error e => rfl
  | ok ts => simp only [liX, if_neg (h ts rfl)]

/-- The cells of the parser. -/
def cells (X : Cx) (i o : Int) (b : Bool) (c a : Int) : List Value := [.slice X.a X.T.length X.c, .int .i64 i, .int .i64 o, .bool b, .int .i64 c, .int .i64 a]
/-- What they say. -/
def RsC (X : Cx) (σ : Sx) (k : Nat) (i o : Int) (b : Bool) (c a : Int) : Prop := ∃ n : Nat, i = n ∧ n < X.T.length ∧ match σ with
  | .ok ts => b = false ∧ o = ((64 - k : Nat) : Int) ∧ k ≤ 64 ∧ ts = X.T.drop n
  | .error e => b = true ∧ c = e.1 ∧ a = e.2
structure Rs (X : Cx) (H : Heap) (σ : Sx) (k : Nat) : Prop where
  ex : ∃ i o b c a, Blk H X.b 52 (cells X i o b c a) ∧ RsC X σ k i o b c a
  row : RowR tkC H X.a X.T
  ne : ∀ b o, X.a = some ⟨b, o, none⟩ → b ≠ X.b
  cap : X.T.length ≤ 1048576
  fin : ∀ i t r, X.T.drop i = t :: r → t.kind ≠ 6 → r ≠ []
  rng : ∀ t ∈ X.T, (-9223372036854775808 ≤ t.n ∧ t.n ≤ 9223372036854775807) ∧ (t.kind = 5 → t.text ∉ fnList)
section
variable {X : Cx} {H H' : Heap} {σ : Sx} {ts : List Tk} {k : Nat}
theorem Rs.lt (h : Rs X H σ k) : X.b < H.size := by
  obtain ⟨i, o, b, c, a, h1, _⟩ := h.ex
  exact h1.lt
theorem Rs.fr {M : List Nat} (h : Rs X H σ k) (hf : Fr M H H') (hb : X.b ∉ M) (ha : ∀ b o, X.a = some ⟨b, o, none⟩ → b ∉ M) : Rs X H' σ k := by
  obtain ⟨i, o, b, c, a, h1, h2⟩ := h.ex
  exact ⟨⟨i, o, b, c, a, h1.fr hf hb, h2⟩, h.row.fr hf ha, h.ne, h.cap, h.fin, h.rng⟩
theorem Rs.ext (h : Rs X H σ k) (hf : Fr [] H H') : Rs X H' σ k := h.fr hf (by simp) (by simp)
theorem Rs.alt {H0 : Heap} {σ0 : Sx} {k0 : Nat} (h0 : Rs X H0 σ0 k0) : ∀ b o, X.a = some ⟨b, o, none⟩ → b < H0.size := by
  intro b o e
  obtain ⟨_, _, _, _, _, _, n, _, hn, _⟩ := h0.ex
  obtain ⟨b', o', ha, hp⟩ := RowR.get h0.row tkC_len n hn (by decide)
  rw [ha] at e
  cases e
  exact cellB_lt (hp 0 (by decide))
/-- Behind writes to newer blocks. -/
theorem Rs.on {M : List Nat} {H0 : Heap} {σ0 : Sx} {k0 : Nat} (h0 : Rs X H0 σ0 k0) (h : Rs X H σ k) (hf : Fr M H H') (hM : ∀ x ∈ M, H0.size ≤ x) : Rs X H' σ k :=
  h.fr hf (fun hm => by have := hM _ hm; have := h0.lt; omega) fun b o e hm => by have := hM _ hm; have := h0.alt b o e; omega
theorem Rs.more (h : Rs X H (.ok ts) k) (hk : (hd ts).kind ≠ 6) : ts.tail ≠ [] := by
  obtain ⟨i, o, b, c, a, _, n, _, hn, _, _, _, rfl⟩ := h.ex
  cases e : X.T.drop n with
  | nil =>
    have := congrArg List.length e
    simp only [List.length_drop, List.length_nil] at this
    omega
  | cons t r =>
    rw [e] at hk
    exact h.fin n t r e hk
theorem Rs.nil (h : Rs X H (.ok ts) k) : ts ≠ [] := by
  obtain ⟨i, o, b, c, a, _, n, _, hn, _, _, _, rfl⟩ := h.ex
  intro e
  have := congrArg List.length e
  simp only [List.length_drop, List.length_nil] at this
  omega
theorem Rs.len (h : Rs X H (.ok ts) k) : ts.length ≤ 1048576 := by
  obtain ⟨i, o, b, c, a, _, n, _, hn, _, _, _, rfl⟩ := h.ex
  have := h.cap
  rw [List.length_drop]; omega
theorem Rs.k64 (h : Rs X H (.ok ts) k) : k ≤ 64 := by
  obtain ⟨i, o, b, c, a, _, n, _, hn, _, _, h3, _⟩ := h.ex
  exact h3
/-- In a state of fault the level says nothing. -/
theorem Rs.lev {e : Flt} (h : Rs X H (.error e) k) (j : Nat) : Rs X H (.error e) j := by
  obtain ⟨i, o, b, c, a, h1, h2⟩ := h.ex
  exact ⟨⟨i, o, b, c, a, h1, h2⟩, h.row, h.ne, h.cap, h.fin, h.rng⟩
theorem rinc {i o : Int} {b : Bool} {c a : Int} (h : RsC X (.ok ts) k i o b c a) (hr : Rs X H (.ok ts) k) (hk : (hd ts).kind ≠ 6) : IntKind.i64.wrap (i + 1) = i + 1 ∧ RsC X (.ok ts.tail) k (i + 1) o b c a := by
  obtain ⟨n, rfl, hn, h1, h2, h3, h4⟩ := h
  have hcap := hr.cap
  refine ⟨wrap_i64_id _ (by omega) (by omega), n + 1, by omega, ?_, h1, h2, h3, by rw [h4, List.tail_drop]⟩
  have hm := hr.more hk
  rcases Nat.lt_or_ge (n + 1) X.T.length with q | q
  · exact q
  · exfalso; apply hm
    rw [h4, List.tail_drop]
    exact List.drop_eq_nil_of_le q
/-- In a state of fault behind a token that was not the last. -/
theorem rincE {e : Flt} {j : Nat} {i o : Int} {b : Bool} {c a : Int} (h : RsC X (.error e) k i o b c a) (hr : Rs X H (.ok ts) j) (hk : (hd ts).kind ≠ 6) (hi : ∃ n : Nat, i = n ∧ ts = X.T.drop n) : IntKind.i64.wrap (i + 1) = i + 1 ∧ RsC X (.error e) k (i + 1) o b c a := by
  obtain ⟨n, rfl, hn, h1, h2, h3⟩ := h
  obtain ⟨n', e', h4⟩ := hi
  obtain rfl : n' = n := by omega
  have hcap := hr.cap
  refine ⟨wrap_i64_id _ (by omega) (by omega), n' + 1, by omega, ?_, h1, h2, h3⟩
  have hm := hr.more hk
  rcases Nat.lt_or_ge (n' + 1) X.T.length with q | q
  · exact q
  · exfalso; apply hm
    rw [h4, List.tail_drop]
    exact List.drop_eq_nil_of_le q
theorem rdec {i o : Int} {b : Bool} {c a : Int} {j : Nat} (h : RsC X σ j i o b c a) (hk : k = j + 1) (h64 : k ≤ 64) : RsC X σ k i (IntKind.i64.wrap (o - 1)) b c a := by
  obtain ⟨n, rfl, hn, h1⟩ := h
  refine ⟨n, rfl, hn, ?_⟩
  cases σ with
  | error e => exact h1
  | ok ts =>
    obtain ⟨h1, h2, h3, h4⟩ := h1
    refine ⟨h1, ?_, h64, h4⟩
    subst h2
    rw [wrap_i64_id _ (by omega) (by omega)]; omega
end
end Go.Proofs.YtbgjgaaobnbijaaGreatDoor
end
section
/- The grammar's functions do not depend on how much they may read. -/
set_option linter.unusedSimpArgs false
set_option linter.unusedVariables false
set_option maxRecDepth 8000
namespace Go.Proofs.YtbgjgaaobnbijaaGreatDoor
open Gx Go

theorem bd_eq {α β : Type} {p : PP α} {f g : α → PP β} {ts : List Tk} (h : ∀ a r, p ts = .ok (a, r) → f a r = g a r) : bd p f ts = bd p g ts := by
  unfold bd
  split
  · rfl
  · exact h _ _ (by assumption)
theorem hd_lt {ts : List Tk} {k : Int} (h : (hd ts).kind = k) (hk : k ≠ 6) : ts.tail.length < ts.length := by
  have := hd_pos h hk
  rw [List.length_tail]; omega
theorem tl_lt {ts : List Tk} {s : Bs} (h : isB s ts = true) : ts.tail.length < ts.length := by
  have := isB_pos h
  rw [List.length_tail]; omega
theorem quoteP_lt {ts r : List Tk} {n : Nd} (h : quoteP ts = .ok (n, r)) : r.length < ts.length := by
  obtain ⟨_, h2, rfl⟩ := quoteP_eq h
  exact hd_lt h2 (by decide)
theorem takeP_lt {k : Int} (hk : k ≠ 6) {ts r : List Tk} {t : Tk} (h : takeP k ts = .ok (t, r)) : r.length < ts.length := by
  obtain ⟨rfl, h2, rfl⟩ := takeP_eq h
  exact hd_lt h2 hk
theorem opAt_isB {kd : Kd} {ts : List Tk} (h : opAt kd ts = true) : isB (hd ts).text ts = true := by
  unfold opAt at h
  rw [Bool.and_eq_true] at h
  exact h.2

theorem quotesF_fuel : ∀ (f g : Nat) (l : List Nd) (ts : List Tk), ts.length ≤ f → ts.length ≤ g → quotesF f l ts = quotesF g l ts
  | 0, 0, l, ts, _, _ => rfl
  | 0, g + 1, l, ts, hf, hg => by
    have : ts = [] := List.eq_nil_of_length_eq_zero (by omega)
    subst this; rfl
  | f + 1, 0, l, ts, hf, hg => by
    have : ts = [] := List.eq_nil_of_length_eq_zero (by omega)
    subst this; rfl
  | f + 1, g + 1, l, ts, hf, hg => by
    simp only [quotesF]
    split
    · rename_i e
      have := tl_lt e
      exact bd_eq fun q r hq => by have := quoteP_lt hq; exact quotesF_fuel f g _ r (by omega) (by omega)
    · rfl
theorem chainF_fuel {op : PP Nd} {kd : Kd} (hop : Dn op) : ∀ (f g : Nat) (n : Nd) (ts : List Tk), ts.length ≤ f → ts.length ≤ g → chainF op kd f n ts = chainF op kd g n ts
  | 0, 0, n, ts, _, _ => rfl
  | 0, g + 1, n, ts, hf, hg => by
    have : ts = [] := List.eq_nil_of_length_eq_zero (by omega)
    subst this
    simp [chainF, opAt, isB, hd, ret]
  | f + 1, 0, n, ts, hf, hg => by
    have : ts = [] := List.eq_nil_of_length_eq_zero (by omega)
    subst this
    simp [chainF, opAt, isB, hd, ret]
  | f + 1, g + 1, n, ts, hf, hg => by
    simp only [chainF]
    split
    · rename_i e
      have := tl_lt (opAt_isB e)
      exact bd_eq fun q r hq => by have := hop.of hq; exact chainF_fuel hop f g _ r (by omega) (by omega)
    · rfl
theorem postF_fuel {lo : Lo} (hl : LoDn lo) : ∀ (f g : Nat) (n : Nd) (ts : List Tk), ts.length ≤ f → ts.length ≤ g → postF lo f n ts = postF lo g n ts
  | 0, 0, n, ts, _, _ => rfl
  | 0, g + 1, n, ts, hf, hg => by
    have : ts = [] := List.eq_nil_of_length_eq_zero (by omega)
    subst this
    simp [postF, isB, hd, ret]
  | f + 1, 0, n, ts, hf, hg => by
    have : ts = [] := List.eq_nil_of_length_eq_zero (by omega)
    subst this
    simp [postF, isB, hd, ret]
  | f + 1, g + 1, n, ts, hf, hg => by
    simp only [postF]
    split
    · rename_i e
      have := tl_lt e
      exact bd_eq fun q r hq => by have := takeP_lt (by decide) hq; exact postF_fuel hl f g _ r (by omega) (by omega)
    · split
      · rename_i e
        have := tl_lt e
        unfold entP
        rw [if_pos e, if_pos e]
        split
        · rfl
        · rename_i x
          exact bd_eq fun q r hq => by
            have := (hl x rfl).1.of hq
            exact bd_eq fun q r hq => by have := expP_lt hq; exact postF_fuel hl f g _ r (by omega) (by omega)
      · rfl
/-- A token is read at least. -/
def Lt {α : Type} (p : PP α) : Prop := ∀ (ts r : List Tk) (a : α), p ts = .ok (a, r) → r.length < ts.length
theorem Lt.of {α : Type} {p : PP α} (h : Lt p) {ts r : List Tk} {a : α} (hp : p ts = .ok (a, r)) : r.length < ts.length := h _ _ _ hp
theorem Lt.bnd {α β : Type} {p : PP α} {f : α → PP β} (h : Lt p) (hf : ∀ a, Dn (f a)) : Lt (bd p f) := by
  intro ts r b hb
  unfold bd at hb
  split at hb
  · cases hb
  · rename_i a q hq
    have := h.of hq; have := (hf a).of hb; omega
theorem Lt.bnd' {α β : Type} {p : PP α} {f : α → PP β} (h : Lt p) (hf : ∀ a ts r b, f a ts = .ok (b, r) → r.length ≤ ts.length) : Lt (bd p f) := h.bnd fun a ts r b hb => hf a ts r b hb
theorem Dn.lt {α : Type} {p : PP α} (h : Dn p) {ts r : List Tk} {a : α} {s : Bs} (e : isB s ts = true) (hp : p ts.tail = .ok (a, r)) : r.length < ts.length := by
  have := h.of hp; have := tl_lt e; omega
theorem takeP_Lt {k : Int} (hk : k ≠ 6) : Lt (takeP k) := fun _ _ _ h => takeP_lt hk h
theorem entP_Lt {α β : Type} {lo : Option β} {s : Bs} {body : β → PP α} (h : ∀ x, lo = some x → Dn (body x)) : Lt (entP lo s body) := by
  intro ts r b hb
  unfold entP at hb
  split at hb
  · rename_i e
    split at hb
    · cases hb
    · rename_i x
      exact Dn.lt (h x rfl) e hb
  · cases hb
theorem intP_Lt : Lt intP := by
  intro ts r b h
  unfold intP at h
  split at h
  · rename_i e
    exact Dn.lt ((takeP_dn 3).bnd fun _ => Dn.ret _) e h
  · exact Lt.of ((takeP_Lt (by decide)).bnd fun _ => Dn.ret _) h
theorem namedP_Lt (k : Int) : Lt (namedP k) := (takeP_Lt (by decide)).bnd fun _ => Dn.ret _
theorem quoteP_Lt : Lt quoteP := (takeP_Lt (by decide)).bnd fun _ => Dn.ret _
section
variable {lo : Lo} (hl : LoDn lo)
include hl
theorem primP_Lt : Lt (primP lo) := by
  intro ts r b hb
  unfold primP at hb
  split at hb
  · exact intP_Lt.of hb
  split at hb
  · exact quoteP_Lt.of hb
  split at hb
  · exact (namedP_Lt _).of hb
  split at hb
  · rename_i e; cases hb; exact tl_lt e
  split at hb
  · rename_i e; cases hb; exact tl_lt e
  split at hb
  · rename_i e; cases hb; exact tl_lt e
  split at hb
  · rename_i e; cases hb; exact tl_lt e
  split at hb
  · exact Lt.of (entP_Lt fun x hx => (hl x hx).1.bnd fun _ => (expP_dn _).bnd fun _ => Dn.ret _) hb
  split at hb
  · have := Lt.of (entP_Lt fun x hx => (listP_dn (argP_dn (hl x hx).1 _)).bnd fun _ => Dn.ret _) hb
    have := tail_le ts
    omega
  · cases hb
theorem postP_Lt : Lt (postP lo) := (primP_Lt hl).bnd' fun n ts r b hb => (postF_dn hl _ n).of hb
theorem sumP_Lt : Lt (sumP lo) := (postP_Lt hl).bnd' fun n ts r b hb => (chainF_dn (postP_dn hl) _ n).of hb
theorem joinP_Lt : Lt (joinP lo) := (sumP_Lt hl).bnd' fun n ts r b hb => (chainF_dn (sumP_dn hl) _ n).of hb
theorem cmpP_Lt : Lt (cmpP lo) := (joinP_Lt hl).bnd' fun n ts r b hb => by
  split at hb
  · exact Dn.tl ((joinP_dn hl).bnd fun _ => Dn.ret _) hb
  · cases hb; exact Nat.le_refl _
theorem notP_Lt : Lt (notP lo) := by
  intro ts r b hb
  unfold notP at hb
  split at hb
  · exact Lt.of (entP_Lt fun x hx => (hl x hx).2.bnd fun _ => Dn.ret _) hb
  · exact (cmpP_Lt hl).of hb
theorem andP_Lt : Lt (andP lo) := (notP_Lt hl).bnd' fun n ts r b hb => (chainF_dn (notP_dn hl) _ n).of hb
theorem orP_Lt : Lt (orP lo) := (andP_Lt hl).bnd' fun n ts r b hb => (chainF_dn (andP_dn hl) _ n).of hb
theorem exprP_Lt : Lt (exprP lo) := by
  intro ts r b hb
  unfold exprP at hb
  split at hb
  · exact Lt.of (entP_Lt fun x hx => (hl x hx).1.bnd fun _ => (expP_dn _).bnd fun _ => (hl x hx).1.bnd fun _ => (expP_dn _).bnd fun _ => (hl x hx).1.bnd fun _ => Dn.ret _) hb
  · exact (orP_Lt hl).of hb
end
theorem lev_Lt (k : Nat) : Lt (lev k).1 ∧ Lt (lev k).2 := by
  rw [lev_eq]
  exact ⟨exprP_Lt (loK_dn k), notP_Lt (loK_dn k)⟩
theorem argP_Lt {e : PP Nd} (he : Lt e) (hd : Dn e) (fn : Bs) : Lt (argP e fn) := by
  intro ts r b hb
  unfold argP at hb
  split at hb
  · exact Lt.of ((takeP_Lt (by decide)).bnd fun t => (expP_dn _).bnd fun _ => hd.bnd fun _ => Dn.ret _) hb
  · split at hb
    · exact Lt.of (he.bnd fun t => (expP_dn _).bnd fun _ => hd.bnd fun _ => Dn.ret _) hb
    · exact he.of hb
theorem paramP_Lt : Lt paramP := (takeP_Lt (by decide)).bnd fun _ => (expP_dn _).bnd fun _ => sortP_dn.bnd fun _ => Dn.ret _
theorem memP_Lt {x : PP Nd} (h : Dn x) : Lt (memP x) := (takeP_Lt (by decide)).bnd fun _ => (expP_dn _).bnd fun _ => h.bnd fun _ => Dn.ret _
theorem Lt.nil {α β : Type} {p : PP α} (h : Lt p) (f g : α → PP β) : bd p f [] = bd p g [] := bd_eq fun a r hp => by have := h.of hp; simp at this

theorem listF_fuel {arg : PP Nd} (h : Lt arg) : ∀ (f g : Nat) (l : List Nd) (ts : List Tk), ts.length ≤ f + 1 → ts.length ≤ g + 1 → listF arg (f + 1) l ts = listF arg (g + 1) l ts := by
  intro f
  induction f with
  | zero =>
    intro g l ts hf hg
    simp only [listF]
    refine bd_eq fun a r hq => bd_eq fun m r' hm => ?_
    have h1 := h.of hq
    have h2 := comma_lt' hm
    omega
  | succ f ih =>
    intro g l ts hf hg
    cases g with
    | zero =>
      simp only [listF]
      refine bd_eq fun a r hq => bd_eq fun m r' hm => ?_
      have h1 := h.of hq
      have h2 := comma_lt' hm
      omega
    | succ g =>
      rw [listF, listF]
      refine bd_eq fun a r hq => bd_eq fun m r' hm => ?_
      have h1 := h.of hq
      have h2 := comma_lt' hm
      cases m with
      | false => rfl
      | true =>
        simp only [if_true]
        exact ih g _ r' (by omega) (by omega)
theorem memF_fuel {x : PP Nd} (h : Dn x) : ∀ (f g : Nat) (l : List Nd) (ts : List Tk), ts.length ≤ f + 1 → ts.length ≤ g + 1 → memF x (f + 1) l ts = memF x (g + 1) l ts := by
  intro f
  induction f with
  | zero =>
    intro g l ts hf hg
    simp only [memF]
    refine bd_eq fun a r hq => ?_
    have h1 := (memP_Lt h).of hq
    show (if _ then _ else _) = (if _ then _ else _)
    split
    · rename_i e
      have := isB_pos e
      omega
    · rfl
  | succ f ih =>
    intro g l ts hf hg
    cases g with
    | zero =>
      simp only [memF]
      refine bd_eq fun a r hq => ?_
      have h1 := (memP_Lt h).of hq
      show (if _ then _ else _) = (if _ then _ else _)
      split
      · rename_i e
        have := isB_pos e
        omega
      · rfl
    | succ g =>
      rw [memF, memF]
      refine bd_eq fun a r hq => ?_
      have h1 := (memP_Lt h).of hq
      show (if _ then _ else _) = (if _ then _ else _)
      split
      · rename_i e
        have := tl_lt e
        exact ih g _ _ (by omega) (by omega)
      · rfl
theorem rulesF_fuel : ∀ (f g : Nat) (l : List Nd) (ts : List Tk), ts.length ≤ f → ts.length ≤ g → rulesF f l ts = rulesF g l ts
  | 0, 0, l, ts, _, _ => rfl
  | 0, g + 1, l, ts, hf, hg => by
    have : ts = [] := List.eq_nil_of_length_eq_zero (by omega)
    subst this; rfl
  | f + 1, 0, l, ts, hf, hg => by
    have : ts = [] := List.eq_nil_of_length_eq_zero (by omega)
    subst this; rfl
  | f + 1, g + 1, l, ts, hf, hg => by
    simp only [rulesF]
    split
    · rename_i e
      have := tl_lt e
      exact bd_eq fun q r hq => by have := ruleP_dn.of hq; exact rulesF_fuel f g _ r (by omega) (by omega)
    · rfl
end Go.Proofs.YtbgjgaaobnbijaaGreatDoor
end
section
/- The small functions of the specification's parser: contracts. -/
set_option linter.unusedSimpArgs false
set_option linter.unusedVariables false
set_option maxRecDepth 8000
namespace Go.Proofs.YtbgjgaaobnbijaaGreatDoor
open Gx Go

structure ROk {α : Type} (k : Nat) (f : Nat) (l : List Value) (p : PP α) (R : α → Value → Heap → Heap → Prop) : Prop where
  ok : ∀ {X : Cx} {H : Heap} {σ : Sx}, Rs X H σ k → HCalls Tryz.prog f (ptr X.b :: l).toArray H fun v H' => ∃ a σ', R a v H H' ∧ Rs X H' σ' k ∧ Fr [X.b] H H' ∧ LnX p σ a σ'
/-- A walk's memory with the specification's parser in it. -/
abbrev RLv (X : Cx) (H0 : Heap) (σ : Sx) (k : Nat) (H : Heap) (l : List Ent) (ds : List (Dat × List Value)) : Prop := Lv [X.b] H0 [X.b] (fun H => Rs X H σ k) H l ds
section
variable {X : Cx} {H0 H H' : Heap} {σ0 σ σ' : Sx} {k0 k : Nat} {l : List Ent} {ds : List (Dat × List Value)} {γ : Type} {P0 : Except Flt (γ × List Tk)} {Q : Value → Heap → Prop} {E : Chain → Heap → Prop}
theorem Rs.walk (h : Rs X H σ k) : RLv X H σ k H [] [] := Lv.start (by simpa using h.lt) fun M H' hf hM => Rs.on h h hf fun x hx => (hM x hx).1
theorem _root_.Gx.Lv.rs (L : RLv X H0 σ k H l ds) : Rs X H σ k := Lv.st L
theorem _root_.Gx.Lv.rto {k' : Nat} (L : RLv X H0 σ k H l ds) (h0 : Rs X H0 σ0 k0) (hf : Fr [X.b] H H') (h : Rs X H' σ' k') : RLv X H0 σ' k' H' l ds :=
  Lv.call L hf fun M H'' hf' hM => Rs.on h0 h hf' fun x hx => (hM x hx).1
/-- The parser is written to. -/
theorem rsto {σ' : Sx} {k' : Nat} {i o : Int} {b : Bool} {c a : Int} {i' o' : Int} {b' : Bool} {c' a' : Int} {j : Nat} {v : Value} {R : Heap → Prop} (h0 : Rs X H0 σ0 k0) (L : RLv X H0 σ k H l ds) (hb : Blk H X.b 52 (cells X i o b c a)) (hj : j < 6) (hv : v.oneCell' = true)
    (hset : (cells X i o b c a).set j v = cells X i' o' b' c' a') (hC : RsC X σ' k' i' o' b' c' a') (hR : ∀ H', RLv X H0 σ' k' H' l ds → Blk H' X.b 52 (cells X i' o' b' c' a') → R H') : Sto H ⟨X.b, j, none⟩ [v] 0 R :=
  Sto_one hb (by simpa [cells] using hj) hv fun H' hn hf _ => by
    rw [hset] at hn
    have hr := L.rs
    refine hR H' (L.rto h0 hf ⟨⟨_, _, _, _, _, hn, hC⟩, hr.row.fr hf (fun b o e => by have := hr.ne b o e; simpa using this), hr.ne, hr.cap, hr.fin, hr.rng⟩) hn
theorem ROk.go {α : Type} {f : Nat} {av : List Value} {p : PP α} {R : α → Value → Heap → Heap → Prop} {g : α → PP γ} (h : ROk k f av p R) (h0 : Rs X H0 σ0 k0) (L : RLv X H0 σ k H l ds) (hp : P0 = liX (bd p g) σ)
    (hR : ∀ a v σ' H', RLv X H0 σ' k H' l ds → P0 = liX (g a) σ' → LnX p σ a σ' → R a v H H' → Q v H') : PCalls Tryz.prog f (ptr X.b :: av).toArray H Q E :=
  (h.ok L.rs).mono fun v H' ⟨a, σ', h1, h2, h3, h4⟩ => hR a v σ' H' (L.rto h0 h3 h2) (by rw [hp, liX_step h4]) h4 h1
theorem ROk.goN {f : Nat} {av : List Value} {p : PP Nd} {g : Nd → PP γ} (h : ROk k f av p NdR) (h0 : Rs X H0 σ0 k0) (L : RLv X H0 σ k H l ds) (hp : P0 = liX (bd p g) σ)
    (hR : ∀ kk tt nn aa ks kv σ' H', RLv X H0 σ' k H' l ((kidsD ks, [kv]) :: ds) → P0 = liX (g (.mk kk tt nn aa ks)) σ' → LnX p σ (.mk kk tt nn aa ks) σ' → Q (.agg #[.int .i64 kk, sv tt, .int .i64 nn, .int .i64 aa, kv]) H') :
    PCalls Tryz.prog f (ptr X.b :: av).toArray H Q E :=
  h.go h0 L hp fun a v σ' H' L' hp' he ⟨cs, hv, hr⟩ => by
    subst hv
    obtain ⟨kk, tt, nn, aa, ks⟩ := a
    obtain ⟨kv, rfl, hkv⟩ := RepP.nd_open hr
    exact hR kk tt nn aa ks kv σ' H' (L'.add (L.built hkv)) hp' he
theorem ROk.goL {f : Nat} {av : List Value} {p : PP Nd} {P0 : Except Flt (Nd × List Tk)} (h : ROk k f av p NdR) (h0 : Rs X H0 σ0 k0) (L : RLv X H0 σ k H l ds) (hp : P0 = liX p σ)
    (hR : ∀ kk tt nn aa ks kv σ' H', RLv X H0 σ' k H' l ((kidsD ks, [kv]) :: ds) → P0 = liX (ret (.mk kk tt nn aa ks)) σ' → Q (.agg #[.int .i64 kk, sv tt, .int .i64 nn, .int .i64 aa, kv]) H') :
    PCalls Tryz.prog f (ptr X.b :: av).toArray H Q E :=
  h.goN (g := ret) h0 L (hp.trans (by cases σ with
    | error e => rfl
    | ok ts => exact (bd_ret p ts).symm)) fun kk tt nn aa ks kv σ' H' L' hp' he => hR kk tt nn aa ks kv σ' H' L' hp'
/-- A node is returned. -/
theorem _root_.Gx.Lv.rfin {p : PP Nd} {kk nn aa : Int} {tt : Bs} {ks : List Nd} {kv : Value} (L : RLv X H0 σ k H l ds) (hp : liX p σ0 = liX (ret (.mk kk tt nn aa ks)) σ) (hk : (kidsD ks, [kv]) ∈ ds ∨ (ks = [] ∧ kv = .slice none 0 0)) :
    ∃ a σ', NdR a (.agg #[.int .i64 kk, sv tt, .int .i64 nn, .int .i64 aa, kv]) H0 H ∧ Rs X H σ' k ∧ Fr [X.b] H0 H ∧ LnX p σ0 a σ' := by
  suffices hq : RepP H (Lk H0.size [X.b] l) (kidsD ks) [kv] by
    exact ⟨_, σ, ⟨_, rfl, RepP.nd (hq.more fun x hx => .inl (.inl hx))⟩, L.rs, L.fr, hp⟩
  rcases hk with hk | ⟨rfl, rfl⟩
  · exact L.dat _ hk
  · exact zeroKids
end

theorem rtoken_at {X : Cx} {H : Heap} {σ : Sx} {k n : Nat} {o : Int} {b : Bool} {c a : Int} (hs : Rs X H σ k) (hb : Blk H X.b 52 (cells X n o b c a)) (hn : n < X.T.length) : HCalls Tryz.prog 36 #[ptr X.b] H fun v H' => v = .agg (tkC X.T[n]).toArray ∧ Fr [] H H' := by
  refine calls_of_vc (args := [_]) Tryz.func36 c36ok (Nat.le_of_ble_eq_true rfl) ?_
  simp (implicitDefEqProofs := false) only [go_sem, c36, ptr]
  refine NewP_intro fun H1 hn1 hf1 hs1 => ?_
  obtain ⟨bb, ro, ha, p⟩ := RowR.get (hs.ext hf1).row tkC_len n hn (by decide)
  have q0 := p 0 (by decide)
  have q1 := p 1 (by decide)
  have q2 := p 2 (by decide)
  have q3 := p 3 (by decide)
  simp only [tkC, Nat.add_zero, List.getElem?_cons_zero, List.getElem?_cons_succ] at q0 q1 q2 q3
  have hb1 := (hb.ext hf1).cell
  unfold cells at hb1
  rw [ha] at hb1
  have h0 : (0 : Int) ≤ (n : Int) := by omega
  have h1 : (n : Int) < (X.T.length : Int) := by omega
  simp (implicitDefEqProofs := false) only [go_sem, hb1, h0, h1, q0, q1, q2, q3]
  refine Sto_all hn1 rfl (by intro u hu; simp only [List.mem_cons, List.not_mem_nil, or_false] at hu; rcases hu with rfl | rfl | rfl | rfl <;> rfl) fun H2 hn2 hf2 hs2 => ?_
  have hc2 := hn2.cell
  simp (implicitDefEqProofs := false) only [go_sem, hc2]
  exact ⟨rfl, new_fr hf1 hf2⟩
/-- The next token: in a state of fault, some token. -/
theorem rtoken_go {X : Cx} {H0 H : Heap} {σ : Sx} {k : Nat} {l : List Ent} {ds : List (Dat × List Value)} {Q : Value → Heap → Prop} {E : Chain → Heap → Prop} (L : RLv X H0 σ k H l ds)
    (hR : ∀ t H', RLv X H0 σ k H' l ds → (∀ ts, σ = .ok ts → t = hd ts) → (-9223372036854775808 ≤ t.n ∧ t.n ≤ 9223372036854775807) ∧ (t.kind = 5 → t.text ∉ fnList) → Q (.agg (tkC t).toArray) H') : PCalls Tryz.prog 36 #[ptr X.b] H Q E := by
  obtain ⟨i, o, b, c, a, hb, n, rfl, hn, hσ⟩ := L.rs.ex
  refine (rtoken_at L.rs hb hn).mono ?_
  rintro v H' ⟨rfl, hf⟩
  refine hR _ H' (L.ext hf) (fun ts e => ?_) (L.rs.rng _ (List.getElem_mem hn))
  subst e
  obtain ⟨_, _, _, rfl⟩ := hσ
  rw [List.drop_eq_getElem_cons hn]; rfl

def failX (c : Int) : Sx → Sx
  | .ok ts => .error (c, (hd ts).at_)
  | .error e => .error e
theorem rfail_ok {X : Cx} {H : Heap} {σ : Sx} {k : Nat} (hs : Rs X H σ k) (cd : Int) : HCalls Tryz.prog 38 #[ptr X.b, .int .i64 cd] H fun v H' => Rs X H' (failX cd σ) k ∧ Fr [X.b] H H' := by
  refine calls_of_vc (args := [_, _]) Tryz.func38 c38ok (Nat.le_of_ble_eq_true rfl) ?_
  have L := hs.walk
  obtain ⟨i, o, b, c, a, hb, n, rfl, hn, hσ⟩ := hs.ex
  have hc := hb.cell
  unfold cells at hc
  cases σ with
  | error e =>
    obtain ⟨rfl, rfl, rfl⟩ := hσ
    simp (implicitDefEqProofs := false) only [go_sem, c38, ptr, hc]
    exact ⟨hs, Fr.refl _ _⟩
  | ok ts =>
    obtain ⟨rfl, rfl, hk, rfl⟩ := hσ
    unfold ptr
    simp (implicitDefEqProofs := false) only [go_sem, c38, hc]
    refine rsto (σ' := .error (c, a)) (k' := k) (i' := n) (o' := ((64 - k : Nat) : Int)) (b' := true) (c' := c) (a' := a) hs L hb (by decide) rfl rfl ⟨n, rfl, hn, rfl, rfl, rfl⟩ fun H1 L hb1 => ?_
    have ht := rtoken_at L.rs hb1 hn
    unfold ptr at ht
    simp (implicitDefEqProofs := false) only [go_sem]
    refine ht.mono ?_
    rintro v H2 ⟨rfl, hf2⟩
    have L := L.ext hf2
    have hb2 := hb1.ext hf2
    simp (implicitDefEqProofs := false) only [go_sem, tkC]
    have he : (hd (X.T.drop n)).at_ = X.T[n].at_ := by rw [List.drop_eq_getElem_cons hn]; rfl
    refine Sto_blk [.int .i64 cd, .int .i64 X.T[n].at_] H2 _ 4 0 hb2 (by simp [cells]) (by simp [Value.oneCell']) fun H3 hn3 hf3 _ => ?_
    simp (implicitDefEqProofs := false) only [go_sem]
    simp only [cells, setL] at hn3
    have hr := L.rs
    refine ⟨⟨⟨n, _, true, cd, X.T[n].at_, hn3, n, rfl, hn, rfl, rfl, by rw [he]⟩, hr.row.fr hf3 (fun b o e => by have := hr.ne b o e; simpa using this), hr.ne, hr.cap, hr.fin, hr.rng⟩, L.fr.trans hf3⟩
section
variable {X : Cx} {H0 H H' : Heap} {σ0 σ σ' : Sx} {k0 k : Nat} {l : List Ent} {ds : List (Dat × List Value)} {γ : Type} {P0 : Except Flt (γ × List Tk)} {Q : Value → Heap → Prop} {E : Chain → Heap → Prop}
theorem rfail_go {cd : Int} (h0 : Rs X H0 σ0 k0) (L : RLv X H0 σ k H l ds) (hp : P0 = liX (fun ts => .error (cd, (hd ts).at_)) σ) (hR : ∀ v e H', RLv X H0 (.error e) k H' l ds → P0 = .error e → Q v H') : PCalls Tryz.prog 38 #[ptr X.b, .int .i64 cd] H Q E :=
  (rfail_ok L.rs cd).mono fun v H' ⟨hs, hf⟩ => by
    cases σ with
    | error e => exact hR v e H' (L.rto h0 hf hs) hp
    | ok ts => exact hR v _ H' (L.rto h0 hf hs) hp
theorem ris_ok (hs : Rs X H σ k) (s : Bs) : HCalls Tryz.prog 53 #[ptr X.b, sv s] H fun v H' => v = .bool (isX s σ) ∧ Fr [] H H' := by
  refine calls_of_vc (args := [_, _]) Tryz.func53 c53ok (Nat.le_of_ble_eq_true rfl) ?_
  have L := L0 H
  obtain ⟨i, o, b, c, a, hb, n, rfl, hn, hσ⟩ := hs.ex
  have ht := rtoken_at hs hb hn
  have hc := hb.cell
  unfold cells at hc
  unfold ptr at *
  simp (implicitDefEqProofs := false) only [go_sem, c53, sv]
  refine ht.mono ?_
  rintro v H1 ⟨rfl, hf1⟩
  have L := L.ext hf1
  have hb1 := hb.ext hf1
  simp (implicitDefEqProofs := false) only [go_sem, tkC]
  refine NewP_intro fun H2 hn2 hf2 hs2 => ?_
  have L2 := L.push hf2 hn2
  have hb2 := hb1.ext hf2
  simp (implicitDefEqProofs := false) only [go_sem]
  refine Sto_all hn2 rfl (one4' X.T[n]) fun H3 hn3 hf3 hs3 => ?_
  have L := L2.sto 0 rfl hf3 hn3
  simp only [List.set_cons_zero, List.set_cons_succ, List.set_nil, List.eraseIdx_cons_zero, List.eraseIdx_cons_succ] at L
  have hb3 := (hb2.fr hf3 (by have := hb1.lt; simp; omega)).cell
  unfold cells at hb3
  have ct := L.cell 0 rfl
  have hF := L.fr
  cases σ with
  | error e =>
    obtain ⟨rfl, _, _⟩ := hσ
    simp (implicitDefEqProofs := false) only [go_sem, hb3, ct, isX, ba_eq, sv]
    exact hF
  | ok ts =>
    obtain ⟨rfl, _, _, rfl⟩ := hσ
    have he : hd (X.T.drop n) = X.T[n] := by rw [List.drop_eq_getElem_cons hn]; rfl
    unfold isX isB
    simp only [he]
    by_cases e2 : X.T[n].kind = 2
    · by_cases et : X.T[n].text = s
      · simp (implicitDefEqProofs := false) only [go_sem, hb3, ct, e2, et, ba_eq, sv]
        exact hF
      · simp (implicitDefEqProofs := false) only [go_sem, hb3, ct, e2, et, ba_eq, sv]
        exact hF
    · by_cases e5 : X.T[n].kind = 5
      · by_cases et : X.T[n].text = s
        · simp (implicitDefEqProofs := false) only [go_sem, hb3, ct, e2, e5, et, ba_eq, sv]
          exact hF
        · simp (implicitDefEqProofs := false) only [go_sem, hb3, ct, e2, e5, et, ba_eq, sv]
          exact hF
      · simp (implicitDefEqProofs := false) only [go_sem, hb3, ct, e2, e5, ba_eq, sv]
        exact hF
theorem ris_go (L : RLv X H0 σ k H l ds) (s : Bs) (hT : ∀ ts H', σ = .ok ts → isB s ts = true → RLv X H0 (.ok ts) k H' l ds → Q (.bool true) H') (hF : ∀ H', isX s σ = false → RLv X H0 σ k H' l ds → Q (.bool false) H') : PCalls Tryz.prog 53 #[ptr X.b, sv s] H Q E :=
  (ris_ok L.rs s).mono fun v H' ⟨hv, hf⟩ => by
    subst hv
    cases e : isX s σ with
    | false => exact hF H' e (L.ext hf)
    | true =>
      cases σ with
      | error e' => simp [isX] at e
      | ok ts => exact hT ts H' rfl e (L.ext hf)
end

theorem take_sp {k : Nat} (s : Bs) : ROk k 56 [sv s] (expP s) (fun _ _ _ _ => True) := by
  refine ⟨fun {X H σ} hs => ?_⟩
  refine calls_of_vc (args := [_, _]) Tryz.func56 c56ok (Nat.le_of_ble_eq_true rfl) ?_
  have L := hs.walk
  simp (implicitDefEqProofs := false) only [go_sem, c56]
  refine ris_go L s (fun ts H1 hσ e L => ?_) fun H1 e L => ?_
  · simp (implicitDefEqProofs := false) only [go_sem]
    obtain ⟨iI, oI, bI, dI, aI, hbI, hCI⟩ := L.rs.ex
    have cI := hbI.cell
    unfold cells at cI
    obtain ⟨hwI, hCI'⟩ := rinc hCI L.rs (isB_kind e)
    unfold ptr
    simp (implicitDefEqProofs := false) only [go_sem, cI, hwI]
    refine rsto hs L hbI (by decide) rfl rfl hCI' fun HI L hbI => ?_
    simp (implicitDefEqProofs := false) only [go_sem]
    exact ⟨(hd ts).at_, .ok ts.tail, L.rs, L.fr, by rw [hσ]; simp [LnX, liX, expP, e, ret]⟩
  · simp (implicitDefEqProofs := false) only [go_sem]
    refine (rfail_ok L.rs 2).mono ?_
    rintro v H2 ⟨hs2, hf2⟩
    simp (implicitDefEqProofs := false) only [go_sem]
    refine ⟨0, _, hs2, L.fr.trans hf2, ?_⟩
    cases σ with
    | error e => rfl
    | ok ts =>
      have e' : isB s ts = false := e
      simp [LnX, liX, expP, e', failX]
def textP (n : Int) : PP Bs := bd (takeP n) fun t => ret t.text
theorem text_sp {k : Nat} (n : Int) (hn : n ≠ 6) : ROk k 57 [.int .i64 n] (textP n) (fun s v _ _ => v = sv s) := by
  refine ⟨fun {X H σ} hs => ?_⟩
  refine calls_of_vc (args := [_, _]) Tryz.func57 c57ok (Nat.le_of_ble_eq_true rfl) ?_
  have L := hs.walk
  simp (implicitDefEqProofs := false) only [go_sem, c57]
  refine rtoken_go L fun t H1 L ht _ => ?_
  simp (implicitDefEqProofs := false) only [go_sem, tkC]
  refine L.newP fun b1 H2 L => ?_
  simp (implicitDefEqProofs := false) only [go_sem]
  refine L.stoAll 0 rfl rfl (one4' t) fun H3 L => ?_
  simp only [List.set_cons_zero, List.set_cons_succ, List.set_nil, List.eraseIdx_cons_zero, List.eraseIdx_cons_succ] at L
  have ct := L.cell 0 rfl
  obtain ⟨i, o, b, c, a, hb, hC⟩ := L.rs.ex
  have hc := hb.cell
  unfold cells at hc
  have no : ∀ {v : Value} {H' : Heap}, (∀ ts, σ = .ok ts → (hd ts).kind ≠ n) → Rs X H' (failX 2 σ) k → Fr [X.b] H H' → v = sv [] → ∃ a σ', v = sv a ∧ Rs X H' σ' k ∧ Fr [X.b] H H' ∧ LnX (textP n) σ a σ' := fun hne hs' hf hv => by
    refine ⟨[], _, hv, hs', hf, ?_⟩
    cases σ with
    | error e => rfl
    | ok ts => simp [LnX, liX, textP, bd, takeP, hne ts rfl, failX]
  cases σ with
  | error e =>
    have hbad : b = true := by obtain ⟨m, _, _, h, _⟩ := hC; exact h
    subst hbad
    unfold ptr at *
    simp (implicitDefEqProofs := false) only [go_sem, hc, ct]
    have hf := rfail_ok L.rs 2
    unfold ptr at hf
    refine hf.mono ?_
    rintro v H4 ⟨hs4, hf4⟩
    simp (implicitDefEqProofs := false) only [go_sem]
    exact no (fun ts h => by cases h) hs4 (L.fr.trans hf4) rfl
  | ok ts =>
    have hbad : b = false := by obtain ⟨m, _, _, h, _⟩ := hC; exact h
    subst hbad
    have hte := ht ts rfl
    by_cases e : (hd ts).kind = n
    · have hk : t.kind = n := by rw [hte]; exact e
      unfold ptr at *
      simp (implicitDefEqProofs := false) only [go_sem, hc, ct, hk]
      obtain ⟨hwI, hCI'⟩ := rinc hC L.rs (by rw [e]; exact hn)
      simp (implicitDefEqProofs := false) only [go_sem, hc, hwI]
      refine rsto hs L hb (by decide) rfl rfl hCI' fun HI L hbI => ?_
      have ct := L.cell 0 rfl
      simp (implicitDefEqProofs := false) only [go_sem, ct]
      exact ⟨_, .ok ts.tail, rfl, L.rs, L.fr, by simp [LnX, liX, textP, bd, takeP, e, ret, hte]⟩
    · have hk : ¬ t.kind = n := by rw [hte]; exact e
      unfold ptr at *
      simp (implicitDefEqProofs := false) only [go_sem, hc, ct, hk]
      have hf := rfail_ok L.rs 2
      unfold ptr at hf
      refine hf.mono ?_
      rintro v H4 ⟨hs4, hf4⟩
      simp (implicitDefEqProofs := false) only [go_sem]
      exact no (fun ts' h => by cases h; exact e) hs4 (L.fr.trans hf4) rfl
theorem liX_take {γ : Type} {k : Int} {G : Tk → PP γ} {σ : Sx} {t : Tk} (ht : ∀ ts, σ = .ok ts → t = hd ts) : liX (bd (takeP k) G) σ = liX (bd (textP k) fun s => G ⟨t.kind, s, t.n, t.at_⟩) σ := by
  cases σ with
  | error e => rfl
  | ok ts =>
    obtain rfl := ht ts rfl
    simp only [liX, textP, bd_bd]
    refine bd_eq fun a r h => ?_
    obtain ⟨rfl, _, rfl⟩ := takeP_eq h
    rfl
theorem enter_sp {X : Cx} {H : Heap} {ts : List Tk} {k : Nat} (hs : Rs X H (.ok ts) k) : HCalls Tryz.prog 55 #[ptr X.b] H fun v H' => (k = 0 ∧ Rs X H' (.error (6, (hd ts).at_)) 0 ∨ ∃ j, k = j + 1 ∧ Rs X H' (.ok ts) j) ∧ Fr [X.b] H H' := by
  refine calls_of_vc (args := [_]) Tryz.func55 c55ok (Nat.le_of_ble_eq_true rfl) ?_
  have L := hs.walk
  obtain ⟨i, o, b, c, a, hb, hC⟩ := hs.ex
  have hc := hb.cell
  unfold cells at hc
  obtain ⟨n, rfl, hn, rfl, rfl, hk, rfl⟩ := hC
  unfold ptr
  cases k with
  | zero =>
    have h1 : (64 : Int) ≤ ((64 - 0 : Nat) : Int) := by omega
    have hf := rfail_ok hs 6
    unfold ptr at hf
    simp (implicitDefEqProofs := false) only [go_sem, c55, hc, h1]
    refine hf.mono ?_
    rintro v H1 ⟨hs1, hf1⟩
    have L := L.rto hs hf1 hs1
    obtain ⟨i, o, b, c, a, hb, hC⟩ := hs1.ex
    have hc := hb.cell
    unfold cells at hc
    simp (implicitDefEqProofs := false) only [go_sem, hc]
    refine rsto (σ' := failX 6 (.ok (X.T.drop n))) (k' := 0) (o' := IntKind.i64.wrap (o + 1)) hs L hb (by decide) rfl rfl hC fun HI L hbI => ?_
    simp (implicitDefEqProofs := false) only [go_sem]
    exact ⟨.inl L.rs, L.fr⟩
  | succ j =>
    have h1 : ¬ ((64 : Int) ≤ ((64 - (j + 1) : Nat) : Int)) := by omega
    have hw : IntKind.i64.wrap (((64 - (j + 1) : Nat) : Int) + 1) = ((64 - j : Nat) : Int) := by rw [wrap_i64_id _ (by omega) (by omega)]; omega
    simp (implicitDefEqProofs := false) only [go_sem, c55, hc, h1, hw]
    refine rsto (σ' := .ok (X.T.drop n)) (k' := j) (o' := ((64 - j : Nat) : Int)) hs L hb (by decide) rfl rfl ⟨n, rfl, hn, rfl, rfl, by omega, rfl⟩ fun HI L hbI => ?_
    simp (implicitDefEqProofs := false) only [go_sem]
    exact ⟨⟨j, rfl, L.rs⟩, L.fr⟩
theorem enter_spgo {X : Cx} {H0 H : Heap} {σ0 : Sx} {k0 : Nat} {ts : List Tk} {k : Nat} {l : List Ent} {ds : List (Dat × List Value)} {Q : Value → Heap → Prop} {E : Chain → Heap → Prop} (h0 : Rs X H0 σ0 k0) (L : RLv X H0 (.ok ts) k H l ds)
    (hE : ∀ v H', k = 0 → RLv X H0 (.error (6, (hd ts).at_)) 0 H' l ds → Q v H') (hO : ∀ v j H', k = j + 1 → RLv X H0 (.ok ts) j H' l ds → Q v H') : PCalls Tryz.prog 55 #[ptr X.b] H Q E :=
  (enter_sp L.rs).mono fun v H' ⟨h, hf⟩ => by
    rcases h with ⟨h1, h2⟩ | ⟨j, h1, h2⟩
    · exact hE v H' h1 (L.rto h0 hf h2)
    · exact hO v j H' h1 (L.rto h0 hf h2)
theorem liX_yes {γ : Type} {P0 : Except Flt (γ × List Tk)} {s : Bs} {A B : List Tk → Except Flt (γ × List Tk)} {σ : Sx} {ts : List Tk} (hp : P0 = liX (fun ts => if isB s ts = true then A ts else B ts) σ) (hσ : σ = .ok ts) (e : isB s ts = true) : P0 = A ts := by
  rw [hp, hσ]; simp only [liX, e, if_true]
theorem LnX.okd {α : Type} {p : PP α} {σ : Sx} {a : α} {r : List Tk} (h : LnX p σ a (.ok r)) : ∃ ts, σ = .ok ts ∧ p ts = .ok (a, r) := by
  unfold LnX at h
  cases σ with
  | error e => simp [liX, ret] at h
  | ok ts => exact ⟨ts, rfl, h⟩
end Go.Proofs.YtbgjgaaobnbijaaGreatDoor
end
section
/- Parts of the specification's grammar: contracts. -/
set_option linter.unusedSimpArgs false
set_option linter.unusedVariables false
set_option maxRecDepth 8000
namespace Go.Proofs.YtbgjgaaobnbijaaGreatDoor
open Gx Go
section
variable {X : Cx} {H0 H H' : Heap} {σ : Sx} {k : Nat} {l : List Ent} {ds : List (Dat × List Value)} {b t : Nat}
theorem _root_.Gx.Lv.one' (L : RLv X H0 σ k H l ds) {ks : List Nd} {kv : Value} (h : (kidsD ks, [kv]) ∈ ds) : kv.oneCell' = true := nd_one (L.dat _ h)
theorem _root_.Gx.Lv.ndr' (L : RLv X H0 σ k H l ds) {kk nn aa : Int} {tt : Bs} {ks : List Nd} {kv : Value} (h : (kidsD ks, [kv]) ∈ ds) : RepP H (Lk H0.size [X.b] l) (Nd.dat (.mk kk tt nn aa ks)) [.int .i64 kk, sv tt, .int .i64 nn, .int .i64 aa, kv] := RepP.nd (L.dat _ h)
theorem _root_.Gx.Lv.rowN' (L : RLv X H0 σ k H l ds) (i : Nat) (ns : List Nd) {v : Value} {g : Option Nat} (hi : l[i]? = some (.row 25 5 v (ns.map Nd.dat) g)) : RLv X H0 σ k H (l.eraseIdx i) ((kidsD ns, [v]) :: ds) := Lv.rowDone L i hi
theorem _root_.Gx.Lv.rowN1' {kk nn aa : Int} {tt : Bs} {ks : List Nd} {kv : Value} (L : RLv X H0 σ k H (.blk b 25 [.int .i64 kk, sv tt, .int .i64 nn, .int .i64 aa, kv] :: l) ds) (hk : (kidsD ks, [kv]) ∈ ds) :
    RLv X H0 σ k H (.row 25 5 (.slice (some ⟨b, 0, none⟩) 1 1) ([Nd.mk kk tt nn aa ks].map Nd.dat) (some b) :: l) ds :=
  Lv.rowOwn L (css := [[.int .i64 kk, sv tt, .int .i64 nn, .int .i64 aa, kv]]) (by simp) (by simp) (RepsP.nil.cons (L.ndr' hk)) (by simp) (by simp [maxLen])
theorem _root_.Gx.Lv.appN' {nb tn : Nat} {R : Value → Heap → Prop} {kk nn aa : Int} {tt : Bs} {ks : List Nd} {kv v : Value} {g : Option Nat} {ns : List Nd} (L : RLv X H0 σ k H (.blk nb tn [.int .i64 kk, sv tt, .int .i64 nn, .int .i64 aa, kv] :: l) ds)
    (i : Nat) (hi : l[i]? = some (.row 25 5 v (ns.map Nd.dat) g)) (hk : (kidsD ks, [kv]) ∈ ds ∨ (ks = [] ∧ kv = .slice none 0 0)) (h63 : ns.length + 1 ≤ 2097152)
    (hR : ∀ a c g' H', RLv X H0 σ k H' (l.set i (.row 25 5 (.slice a (ns ++ [Nd.mk kk tt nn aa ks]).length c) ((ns ++ [Nd.mk kk tt nn aa ks]).map Nd.dat) g')) ds → R (.slice a (ns ++ [Nd.mk kk tt nn aa ks]).length c) H') :
    App Tryz.prog 23 23 23 H v (.slice (some ⟨nb, 0, none⟩) 1 1) R := by
  have L1 : RLv X H0 σ k H l ds := Lv.drop L (List.sublist_cons_self _ _) fun p hp => hp
  have hq : RepP H (Lk H0.size [X.b] l) (kidsD ks) [kv] := by
    rcases hk with hk | ⟨rfl, rfl⟩
    · exact L1.dat _ hk
    · exact zeroKids
  refine Lv.app L ENd i hi Tryz.underlying23 rfl (one_agg (nd_one hq)) (d := Nd.dat (.mk kk tt nn aa ks)) (RepP.nd hq) rfl (by simp [maxLen]; omega) (by simp; omega) fun a c g' H' L' => ?_
  have e : ns.map Nd.dat ++ [Nd.dat (.mk kk tt nn aa ks)] = (ns ++ [Nd.mk kk tt nn aa ks]).map Nd.dat := by simp
  have e2 : (ns.map Nd.dat).length + 1 = (ns ++ [Nd.mk kk tt nn aa ks]).length := by simp
  rw [e, e2] at L'
  rw [e2]
  exact hR a c g' H' L'
end
theorem integer_sp {k : Nat} : ROk k 59 [] intP NdR := by
  refine ⟨fun {X H σ} hs => ?_⟩
  refine calls_of_vc (args := [_]) Tryz.func59 c59ok (Nat.le_of_ble_eq_true rfl) ?_
  have L := hs.walk
  obtain ⟨P0, hP0⟩ : ∃ P0, P0 = liX intP σ := ⟨_, rfl⟩
  have hp := hP0
  simp (implicitDefEqProofs := false) only [go_sem, c59]
  refine L.newP fun b1 H1 L => ?_
  simp (implicitDefEqProofs := false) only [go_sem]
  refine rtoken_go L fun t0 H2 L ht0 _ => ?_
  simp (implicitDefEqProofs := false) only [go_sem, tkC]
  refine L.newP fun b2 H3 L => ?_
  simp (implicitDefEqProofs := false) only [go_sem]
  refine L.stoAll 0 rfl rfl (one_agg (t := []) rfl) fun H4 L => ?_
  simp only [List.set_cons_zero, List.set_cons_succ, List.set_nil, List.eraseIdx_cons_zero, List.eraseIdx_cons_succ] at L
  simp (implicitDefEqProofs := false) only [go_sem]
  refine ris_go L [45] (fun ts H5 hσ e L => ?_) fun H5 e L => ?_
  · replace hp : P0 = liX (bd (takeP 3) (fun t => ret (.mk 44 [] (IntKind.i64.wrap (0 - t.n)) (hd ts).at_ []))) (.ok ts.tail) := liX_yes hp hσ e
    rw [← ht0 ts hσ] at hp
    simp (implicitDefEqProofs := false) only [go_sem]
    obtain ⟨iI, oI, bI, dI, aI, hbI, hCI⟩ := L.rs.ex
    have cI := hbI.cell
    unfold cells at cI
    obtain ⟨hwI, hCI'⟩ := rinc hCI L.rs (isB_kind e)
    first | unfold ptr | skip
    simp (implicitDefEqProofs := false) only [go_sem, cI, hwI]
    refine rsto hs L hbI (by decide) rfl rfl hCI' fun HI L hbI => ?_
    simp (implicitDefEqProofs := false) only [go_sem]
    refine rtoken_go L fun t H6 L ht _ => ?_
    simp (implicitDefEqProofs := false) only [go_sem, tkC]
    refine L.newP fun b3 H7 L => ?_
    simp (implicitDefEqProofs := false) only [go_sem]
    refine L.stoAll 0 rfl rfl (one4' t) fun H8 L => ?_
    simp only [List.set_cons_zero, List.set_cons_succ, List.set_nil, List.eraseIdx_cons_zero, List.eraseIdx_cons_succ] at L
    rw [liX_take ht] at hp
    simp (implicitDefEqProofs := false) only [go_sem]
    refine (text_sp 3 (by decide)).go hs L hp fun s v σ' H9 L hp _ hv => ?_
    cases hv
    have ct := L.cell 0 rfl
    have hm : -1 * t.n = 0 - t.n := by omega
    simp (implicitDefEqProofs := false) only [go_sem, ct, hm]
    refine L.stoOne 1 rfl (by simp) rfl fun H10 L => ?_
    simp only [List.set_cons_zero, List.set_cons_succ, List.set_nil, List.eraseIdx_cons_zero, List.eraseIdx_cons_succ] at L
    have c := L.cell 1 rfl
    simp (implicitDefEqProofs := false) only [go_sem, c]
    refine L.stoAll 2 rfl rfl (one_agg (t := []) rfl) fun HZ L => ?_
    simp only [List.set_cons_zero, List.set_cons_succ, List.set_nil, List.eraseIdx_cons_zero, List.eraseIdx_cons_succ] at L
    have c := L.cell 2 rfl
    simp (implicitDefEqProofs := false) only [go_sem, c]
    exact L.rfin (hP0 ▸ hp) (.inr ⟨rfl, rfl⟩)
  · replace hp : P0 = liX (fun ts => bd (takeP 3) (fun t => ret (.mk 44 [] t.n (hd ts).at_ [])) ts) σ := by rw [hp]; exact liX_no e
    replace hp : P0 = liX (bd (takeP 3) (fun t => ret (.mk 44 [] t.n t0.at_ []))) σ := by
      rw [hp]
      cases σ with
      | error e => rfl
      | ok ts => simp only [liX, ht0 ts rfl]
    simp (implicitDefEqProofs := false) only [go_sem]
    refine rtoken_go L fun t H6 L ht hr => ?_
    simp (implicitDefEqProofs := false) only [go_sem, tkC]
    refine L.newP fun b3 H7 L => ?_
    simp (implicitDefEqProofs := false) only [go_sem]
    refine L.stoAll 0 rfl rfl (one4' t) fun H8 L => ?_
    simp only [List.set_cons_zero, List.set_cons_succ, List.set_nil, List.eraseIdx_cons_zero, List.eraseIdx_cons_succ] at L
    rw [liX_take ht] at hp
    simp (implicitDefEqProofs := false) only [go_sem]
    refine (text_sp 3 (by decide)).go hs L hp fun s v σ' H9 L hp _ hv => ?_
    cases hv
    have ct := L.cell 0 rfl
    have hw : IntKind.i64.wrap t.n = t.n := wrap_i64_id _ (by omega) (by omega)
    simp (implicitDefEqProofs := false) only [go_sem, ct, Int.one_mul, hw]
    refine L.stoOne 1 rfl (by simp) rfl fun H10 L => ?_
    simp only [List.set_cons_zero, List.set_cons_succ, List.set_nil, List.eraseIdx_cons_zero, List.eraseIdx_cons_succ] at L
    have c := L.cell 1 rfl
    simp (implicitDefEqProofs := false) only [go_sem, c]
    refine L.stoAll 2 rfl rfl (one_agg (t := []) rfl) fun HZ L => ?_
    simp only [List.set_cons_zero, List.set_cons_succ, List.set_nil, List.eraseIdx_cons_zero, List.eraseIdx_cons_succ] at L
    have c := L.cell 2 rfl
    simp (implicitDefEqProofs := false) only [go_sem, c]
    exact L.rfin (hP0 ▸ hp) (.inr ⟨rfl, rfl⟩)

def lenX : Sx → Nat
  | .error _ => 0
  | .ok ts => ts.length
theorem liX_ret {α γ : Type} {a : α} {g : α → PP γ} {σ : Sx} : liX (bd (ret a) g) σ = liX (g a) σ := by cases σ <;> rfl
theorem liX_eq {γ : Type} {p q : PP γ} {σ : Sx} (h : ∀ ts, σ = .ok ts → p ts = q ts) : liX p σ = liX q σ := by
  cases σ with
  | error e => rfl
  | ok ts => exact h ts rfl
theorem Rs.lenX {X : Cx} {H : Heap} {σ : Sx} {k : Nat} (h : Rs X H σ k) : Go.Proofs.YtbgjgaaobnbijaaGreatDoor.lenX σ ≤ 1048576 := by
  cases σ with
  | error e => exact Nat.zero_le _
  | ok ts => exact h.len
/-- append to a row without room. -/
theorem App_new {P : Program} {t tx e size bytes : Nat} {z : Value} (hE : ElemOk P t e size bytes z) {H : Heap} {a : Option Addr} {x : Value} {m : Nat} {news : List Value} (hsrc : SrcH P H size tx x m news) (hm : 0 < m) (h63 : m ≤ maxLen) (hb : m * bytes ≤ 140737488355328) {R : Value → Heap → Prop}
    (hR : ∀ a c H', Own H' e size (.slice a m c) m news (some H.size) → Fr [] H H' → R (.slice a m c) H') : App P t tx t H (.slice a 0 0) x R := by
  intro w hw
  have hs := hsrc w hw
  subst hw
  have hinfo := hE.info
  simp only [Option.map_eq_some_iff, Prod.mk.injEq] at hinfo
  obtain ⟨i, hi, hz, hsz, hbt⟩ := hinfo
  subst hsz; subst hbt
  have hlen : news.length = m * i.size := hs.newsLen
  have h63' : ((0 + m : Nat) : Int) ≤ 9223372036854775807 := by simp only [maxLen] at h63; omega
  have hold : (Builtin.firstCells i.size 0 (.slice a 0 0)).run P w.drew = .ok ([] : List Value).toArray w.drew := by
    cases a with
    | none => exact run_firstCells_none _ _ _ _ _
    | some a => exact run_firstCells_some w.drew i.size 0 a 0 0 [] (by simp) fun j u hj => by simp at hj
  have hr := run_append_grow_src (P := P) w t tx t e i z hE.und hi hz a 0 0 [] hold x m news hs (by omega) h63' (growslice_fits (by omega) (by simpa using hb))
  rw [Nat.zero_add] at hr
  refine ⟨_, _, hr, hR _ _ _ ⟨hlen, .inr ⟨w.heap.size, _, _, rfl, rfl, heap_alloc_new w.drew _, ?_, grownCap_le_maxLen _ _ _ _ h63, ?_, ?_⟩⟩ ?_, ⟨rfl, rfl, rfl⟩⟩
  · simpa using grownCap_ge w m 0 e
  · have hge := grownCap_ge w m 0 e
    rw [Array.size_append, size_zeroCells, hE.zs]
    simp only [List.size_toArray, hlen, ← Nat.add_mul, List.nil_append]
    congr 1; omega
  · simp only [Array.toList_append, List.nil_append]
    rw [← hlen]; exact List.take_left
  · exact fr_push _ _ _

/-- append of a first tree. -/
theorem _root_.Gx.Lv.app0 {X : Cx} {H0 H : Heap} {σ : Sx} {k : Nat} {l : List Ent} {ds : List (Dat × List Value)} {nb tn : Nat} {R : Value → Heap → Prop} {kk nn aa : Int} {tt : Bs} {ks : List Nd} {kv : Value} {a : Option Addr} (L : RLv X H0 σ k H (.blk nb tn [.int .i64 kk, sv tt, .int .i64 nn, .int .i64 aa, kv] :: l) ds)
    (hk : (kidsD ks, [kv]) ∈ ds ∨ (ks = [] ∧ kv = .slice none 0 0))
    (hR : ∀ a c g' H', RLv X H0 σ k H' (.row 25 5 (.slice a 1 c) ([Nd.mk kk tt nn aa ks].map Nd.dat) g' :: l) ds → R (.slice a 1 c) H') :
    App Tryz.prog 23 23 23 H (.slice a 0 0) (.slice (some ⟨nb, 0, none⟩) 1 1) R := by
  have L1 : RLv X H0 σ k H l ds := Lv.drop L (List.sublist_cons_self _ _) fun p hp => hp
  have hq : RepP H (Lk H0.size [X.b] (.blk nb tn [.int .i64 kk, sv tt, .int .i64 nn, .int .i64 aa, kv] :: l)) (kidsD ks) [kv] := by
    rcases hk with hk | ⟨rfl, rfl⟩
    · exact L.dat _ hk
    · exact zeroKids
  have hb := L.get 0 rfl
  refine App_new ENd (m := 1) (SrcH.blk Tryz.underlying23 hb (by simp) (one_agg (nd_one hq))) (by decide) (by decide) (by decide) fun a c H' ho hf => hR a c (some H.size) H' ?_
  have L2 := L1.ext hf
  have hsz := L1.fr.size
  have hnew : ∀ x, Lk H0.size [X.b] l x → x < H.size := by
    rintro x (q | q | q)
    · omega
    · exact (L1.own x q).1
    · exact (L1.lo x q).2.2
  have hlt : H.size < H'.size := by
    rcases ho.2 with ⟨q, _⟩ | ⟨b, cap, cur, q, _, q2, _⟩
    · cases q
    · cases q
      exact (Array.getElem?_eq_some_iff.1 q2).1
  have hlk : ∀ x, Lk H0.size [X.b] (.row 25 5 (.slice a 1 c) ([Nd.mk kk tt nn aa ks].map Nd.dat) (some H.size) :: l) x → Lk H0.size [X.b] l x ∨ H.size ≤ x := by
    rintro x (q | q | q)
    · exact .inl (.inl q)
    · exact .inl (.inr (.inl q))
    · simp only [List.flatMap_cons, Ent.bs, Option.toList_some, List.cons_append, List.nil_append, List.mem_cons] at q
      rcases q with rfl | q
      · exact .inr (Nat.le_refl _)
      · exact .inl (.inr (.inr q))
  refine ⟨L2.fr, L2.own, ?_, fun x hx => ?_, fun p hp => ?_, fun p hp => RepP.fr (L1.dat p hp) hf (by simp) hlk, L2.stb⟩
  · simp only [List.flatMap_cons, Ent.bs, Option.toList_some, List.cons_append, List.nil_append, List.nodup_cons]
    exact ⟨fun q => by have := (L1.lo _ q).2.2; omega, L1.nd⟩
  · simp only [List.flatMap_cons, Ent.bs, Option.toList_some, List.cons_append, List.nil_append, List.mem_cons] at hx
    rcases hx with rfl | hx
    · exact ⟨hsz, fun q => by have := (L1.own _ q).1; omega, hlt⟩
    · exact L2.lo x hx
  · rcases List.mem_cons.1 hp with rfl | hp
    · refine ⟨[[.int .i64 kk, sv tt, .int .i64 nn, .int .i64 aa, kv]], by simpa using ho, by simp, RepsP.nil.cons (RepP.nd (RepP.fr hq hf (by simp) fun x hx => ?_))⟩
      rcases hx with hx | hx
      · exact (hlk x hx).imp (fun q => by
          rcases q with q | q | q
          · exact .inl q
          · exact .inr (.inl q)
          · exact .inr (.inr (by rw [List.flatMap_cons]; exact List.mem_append.2 (.inr q)))) id
      · simp only [Option.some.injEq] at hx
        exact .inr (by omega)
    · exact Ent.ok_step (L1.ok p hp) hf (by simp) (by simp) hlk
/-- A row is returned. -/
theorem _root_.Gx.Lv.rfinR {X : Cx} {H0 H : Heap} {σ0 σ : Sx} {k : Nat} {l : List Ent} {ds : List (Dat × List Value)} {p : PP (List Nd)} {ns : List Nd} {v : Value} {g : Option Nat} (L : RLv X H0 σ k H l ds) (hp : liX p σ0 = liX (ret ns) σ) (i : Nat) (hi : l[i]? = some (.row 25 5 v (ns.map Nd.dat) g)) :
    ∃ a σ', KdR a v H0 H ∧ Rs X H σ' k ∧ Fr [X.b] H0 H ∧ LnX p σ0 a σ' :=
  ⟨ns, σ, ⟨g, (L.rowGet i hi).ext (Fr.refl [] _) fun x hx => .inl (.inl hx), fun b hb => (L.lo b (List.mem_flatMap.2 ⟨_, List.mem_of_getElem? hi, by simp [Ent.bs, hb]⟩)).1⟩, L.rs, L.fr, hp⟩
/-- A row of few nodes. -/
def KdB (ns : List Nd) (v : Value) (H H' : Heap) : Prop := KdR ns v H H' ∧ ns.length ≤ 1048577
theorem ROk.weak {α : Type} {k f : Nat} {l : List Value} {p : PP α} {R R' : α → Value → Heap → Heap → Prop} (h : ROk k f l p R) (hR : ∀ a v H H', R a v H H' → R' a v H H') : ROk k f l p R' :=
  ⟨fun hs => (h.ok hs).mono fun v H' ⟨a, σ', h1, h2⟩ => ⟨a, σ', hR _ _ _ _ h1, h2⟩⟩
theorem _root_.Gx.Lv.rfinB {X : Cx} {H0 H : Heap} {σ0 σ : Sx} {k : Nat} {l : List Ent} {ds : List (Dat × List Value)} {p : PP (List Nd)} {ns : List Nd} {v : Value} {g : Option Nat} (L : RLv X H0 σ k H l ds) (hp : liX p σ0 = liX (ret ns) σ) (i : Nat) (hi : l[i]? = some (.row 25 5 v (ns.map Nd.dat) g)) (hb : ns.length ≤ 1048577) :
    ∃ a σ', KdB a v H0 H ∧ Rs X H σ' k ∧ Fr [X.b] H0 H ∧ LnX p σ0 a σ' :=
  ⟨ns, σ, ⟨⟨g, (L.rowGet i hi).ext (Fr.refl [] _) fun x hx => .inl (.inl hx), fun b hb => (L.lo b (List.mem_flatMap.2 ⟨_, List.mem_of_getElem? hi, by simp [Ent.bs, hb]⟩)).1⟩, hb⟩, L.rs, L.fr, hp⟩
set_option maxHeartbeats 1000000 in
theorem quotes_spB {k : Nat} (a : Option Addr) : ROk k 60 [.slice a 0 0] quotesP KdB := by
  refine ⟨fun {X H σ} hs => ?_⟩
  refine calls_of_vc (args := [_, _]) Tryz.func60 c60ok (Nat.le_of_ble_eq_true rfl) ?_
  have L := hs.walk
  obtain ⟨P0, hP0⟩ : ∃ P0, P0 = liX quotesP σ := ⟨_, rfl⟩
  simp (implicitDefEqProofs := false) only [go_sem, c60]
  refine vc_loop (fun (s : Sx × List Nd × Value) H' => ∃ f, ((s.2.1 = [] ∧ s.2.2 = .slice a 0 0 ∧ RLv X H s.1 k H' [] []) ∨ ∃ g, RLv X H s.1 k H' [.row 25 5 s.2.2 (s.2.1.map Nd.dat) g] []) ∧ P0 = liX (bd quoteP fun q => quotesF f (s.2.1 ++ [q])) s.1 ∧ lenX s.1 ≤ f + 1 ∧ s.2.1.length + lenX s.1 ≤ 1048576)
    (fun s => [(0, ptr X.b), (1, s.2.2)]) (fun s => lenX s.1) (σ, [], .slice a 0 0) ?_ ?_ ?_
  · refine ⟨lenX σ, .inl ⟨rfl, rfl, L⟩, ?_, Nat.le_succ _, by have := hs.lenX; simpa using this⟩
    rw [hP0]
    refine liX_eq fun ts hts => bd_eq fun q r hq => ?_
    have := quoteP_lt hq
    simp only [List.nil_append]
    refine quotesF_fuel _ _ _ _ (Nat.le_refl _) ?_
    subst hts
    show r.length ≤ ts.length
    omega
  · simp (implicitDefEqProofs := false) only [go_sem, ptr]
  · rintro ⟨σ1, ns, v⟩ H1 ⟨f, hL, hp, hf, hle⟩
    simp only at hL hp hf hle ⊢
    rcases hL with ⟨rfl, rfl, L⟩ | ⟨g, L⟩
    · simp (implicitDefEqProofs := false) only [go_sem]
      refine rtoken_go L fun t H2 L ht _ => ?_
      simp (implicitDefEqProofs := false) only [go_sem, tkC]
      refine L.newP fun b1 H3 L => ?_
      simp (implicitDefEqProofs := false) only [go_sem]
      refine L.stoAll 0 rfl rfl (one_agg (t := []) rfl) fun H4 L => ?_
      simp only [List.set_cons_zero, List.set_cons_succ, List.set_nil, List.eraseIdx_cons_zero, List.eraseIdx_cons_succ] at L
      unfold quoteP at hp
      rw [liX_bd, liX_take ht] at hp
      simp (implicitDefEqProofs := false) only [go_sem]
      refine (text_sp 4 (by decide)).go hs L hp fun s v σ' H5 L hp he hv => ?_
      cases hv
      replace hp := hp.trans liX_ret
      simp (implicitDefEqProofs := false) only [go_sem, sv]
      refine L.stoOne 0 rfl (by simp) rfl fun H6 L => ?_
      simp only [List.set_cons_zero, List.set_cons_succ, List.set_nil, List.eraseIdx_cons_zero, List.eraseIdx_cons_succ] at L
      have ct := L.cell 0 rfl
      simp (implicitDefEqProofs := false) only [go_sem, ct]
      refine L.newS fun bA HA L => ?_
      simp (implicitDefEqProofs := false) only [go_sem]
      refine L.app0 (ks := []) (.inr ⟨rfl, rfl⟩) fun a c g' HB L => ?_
      first | simp only [List.set_cons_zero, List.set_cons_succ, List.set_nil] at L | skip
      simp (implicitDefEqProofs := false) only [go_sem]
      refine ris_go L [44] (fun ts' H7 hσ e L => ?_) fun H7 e L => ?_
      · rw [hσ] at he hp
        obtain ⟨ts, hts, hok⟩ := he.okd
        have hl1 : ts'.length < ts.length := by
          unfold textP bd at hok
          split at hok
          · cases hok
          · rename_i t' q hq
            have := takeP_lt (by decide) hq
            simp only [ret, Except.ok.injEq, Prod.mk.injEq] at hok
            rw [← hok.2]; exact this
        rw [hts] at hf hle
        have hf1 : ts.length ≤ f + 1 := hf
        have hle1 : [].length + ts.length ≤ 1048576 := hle
        have hl2 := isB_pos e
        have hl3 := tl_lt e
        obtain ⟨f, rfl⟩ : ∃ f', f = f' + 1 := ⟨f - 1, by omega⟩
        have hp : P0 = liX (bd quoteP fun q => quotesF f ([] ++ [.mk 47 s 0 t.at_ []] ++ [q])) (.ok ts'.tail) := by
          rw [hp]
          simp only [liX, quotesF, e, if_true]
        simp (implicitDefEqProofs := false) only [go_sem]
        obtain ⟨iI, oI, bI, dI, aI, hbI, hCI⟩ := L.rs.ex
        have cI := hbI.cell
        unfold cells at cI
        obtain ⟨hwI, hCI'⟩ := rinc hCI L.rs (isB_kind e)
        first | unfold ptr | skip
        simp (implicitDefEqProofs := false) only [go_sem, cI, hwI]
        refine rsto hs L hbI (by decide) rfl rfl hCI' fun HI L hbI => ?_
        simp (implicitDefEqProofs := false) only [go_sem]
        have L : RLv X H (.ok ts'.tail) k HI [.row 25 5 (.slice a ([] ++ [Nd.mk 47 s 0 t.at_ []]).length c) (([] ++ [Nd.mk 47 s 0 t.at_ []]).map Nd.dat) g'] [] := L.drop (List.take_sublist 1 _) (ds' := []) (by simp)
        refine loopK_intro (.ok ts'.tail, [] ++ [Nd.mk 47 s 0 t.at_ []], .slice a ([] ++ [Nd.mk 47 s 0 t.at_ []]).length c) ?_ ?_ ⟨f, .inr ⟨_, L⟩, hp, show ts'.tail.length ≤ f + 1 by omega, ?_⟩
        · show ts'.tail.length < lenX σ1
          rw [hts]; show ts'.tail.length < ts.length; omega
        · simp (implicitDefEqProofs := false) only [go_sem, ptr]
        · show ([] ++ [Nd.mk 47 s 0 t.at_ []]).length + ts'.tail.length ≤ 1048576
          simp only [List.length_append, List.length_cons, List.length_nil]; omega
      · have hp : P0 = liX (ret ([] ++ [.mk 47 s 0 t.at_ []])) σ' := by
          rw [hp]
          refine liX_eq fun ts hts => ?_
          subst hts
          have e' : isB [44] ts = false := e
          cases f with
          | zero => rfl
          | succ f => simp only [quotesF, e', Bool.false_eq_true, if_false]; rfl
        have L : RLv X H σ' k H7 [.row 25 5 (.slice a ([] ++ [Nd.mk 47 s 0 t.at_ []]).length c) (([] ++ [Nd.mk 47 s 0 t.at_ []]).map Nd.dat) g'] [] := L.drop (List.take_sublist 1 _) (ds' := []) (by simp)
        simp (implicitDefEqProofs := false) only [go_sem]
        exact L.rfinB (hP0 ▸ hp) 0 rfl (by simp only [List.length_append, List.length_cons, List.length_nil]; omega)
    · simp (implicitDefEqProofs := false) only [go_sem]
      refine rtoken_go L fun t H2 L ht _ => ?_
      simp (implicitDefEqProofs := false) only [go_sem, tkC]
      refine L.newP fun b1 H3 L => ?_
      simp (implicitDefEqProofs := false) only [go_sem]
      refine L.stoAll 0 rfl rfl (one_agg (t := []) rfl) fun H4 L => ?_
      simp only [List.set_cons_zero, List.set_cons_succ, List.set_nil, List.eraseIdx_cons_zero, List.eraseIdx_cons_succ] at L
      unfold quoteP at hp
      rw [liX_bd, liX_take ht] at hp
      simp (implicitDefEqProofs := false) only [go_sem]
      refine (text_sp 4 (by decide)).go hs L hp fun s v σ' H5 L hp he hv => ?_
      cases hv
      replace hp := hp.trans liX_ret
      simp (implicitDefEqProofs := false) only [go_sem, sv]
      refine L.stoOne 0 rfl (by simp) rfl fun H6 L => ?_
      simp only [List.set_cons_zero, List.set_cons_succ, List.set_nil, List.eraseIdx_cons_zero, List.eraseIdx_cons_succ] at L
      have ct := L.cell 0 rfl
      simp (implicitDefEqProofs := false) only [go_sem, ct]
      refine L.newS fun bA HA L => ?_
      simp (implicitDefEqProofs := false) only [go_sem]
      refine L.appN' (ns := ns) (ks := []) 1 rfl (.inr ⟨rfl, rfl⟩) (by omega) fun a c g' HB L => ?_
      first | simp only [List.set_cons_zero, List.set_cons_succ, List.set_nil] at L | skip
      simp (implicitDefEqProofs := false) only [go_sem]
      refine ris_go L [44] (fun ts' H7 hσ e L => ?_) fun H7 e L => ?_
      · rw [hσ] at he hp
        obtain ⟨ts, hts, hok⟩ := he.okd
        have hl1 : ts'.length < ts.length := by
          unfold textP bd at hok
          split at hok
          · cases hok
          · rename_i t' q hq
            have := takeP_lt (by decide) hq
            simp only [ret, Except.ok.injEq, Prod.mk.injEq] at hok
            rw [← hok.2]; exact this
        rw [hts] at hf hle
        have hf1 : ts.length ≤ f + 1 := hf
        have hle1 : ns.length + ts.length ≤ 1048576 := hle
        have hl2 := isB_pos e
        have hl3 := tl_lt e
        obtain ⟨f, rfl⟩ : ∃ f', f = f' + 1 := ⟨f - 1, by omega⟩
        have hp : P0 = liX (bd quoteP fun q => quotesF f (ns ++ [.mk 47 s 0 t.at_ []] ++ [q])) (.ok ts'.tail) := by
          rw [hp]
          simp only [liX, quotesF, e, if_true]
        simp (implicitDefEqProofs := false) only [go_sem]
        obtain ⟨iI, oI, bI, dI, aI, hbI, hCI⟩ := L.rs.ex
        have cI := hbI.cell
        unfold cells at cI
        obtain ⟨hwI, hCI'⟩ := rinc hCI L.rs (isB_kind e)
        first | unfold ptr | skip
        simp (implicitDefEqProofs := false) only [go_sem, cI, hwI]
        refine rsto hs L hbI (by decide) rfl rfl hCI' fun HI L hbI => ?_
        simp (implicitDefEqProofs := false) only [go_sem]
        have L : RLv X H (.ok ts'.tail) k HI [.row 25 5 (.slice a (ns ++ [Nd.mk 47 s 0 t.at_ []]).length c) ((ns ++ [Nd.mk 47 s 0 t.at_ []]).map Nd.dat) g'] [] := L.drop (List.drop_sublist 1 _) (ds' := []) (by simp)
        refine loopK_intro (.ok ts'.tail, ns ++ [Nd.mk 47 s 0 t.at_ []], .slice a (ns ++ [Nd.mk 47 s 0 t.at_ []]).length c) ?_ ?_ ⟨f, .inr ⟨_, L⟩, hp, show ts'.tail.length ≤ f + 1 by omega, ?_⟩
        · show ts'.tail.length < lenX σ1
          rw [hts]; show ts'.tail.length < ts.length; omega
        · simp (implicitDefEqProofs := false) only [go_sem, ptr]
        · show (ns ++ [Nd.mk 47 s 0 t.at_ []]).length + ts'.tail.length ≤ 1048576
          simp only [List.length_append, List.length_cons, List.length_nil]; omega
      · have hp : P0 = liX (ret (ns ++ [.mk 47 s 0 t.at_ []])) σ' := by
          rw [hp]
          refine liX_eq fun ts hts => ?_
          subst hts
          have e' : isB [44] ts = false := e
          cases f with
          | zero => rfl
          | succ f => simp only [quotesF, e', Bool.false_eq_true, if_false]; rfl
        have L : RLv X H σ' k H7 [.row 25 5 (.slice a (ns ++ [Nd.mk 47 s 0 t.at_ []]).length c) ((ns ++ [Nd.mk 47 s 0 t.at_ []]).map Nd.dat) g'] [] := L.drop (List.drop_sublist 1 _) (ds' := []) (by simp)
        simp (implicitDefEqProofs := false) only [go_sem]
        exact L.rfinB (hP0 ▸ hp) 0 rfl (by simp only [List.length_append, List.length_cons, List.length_nil]; omega)

theorem quotes_sp {k : Nat} (a : Option Addr) : ROk k 60 [.slice a 0 0] quotesP KdR := (quotes_spB a).weak fun _ _ _ _ h => h.1
theorem ROk.goR {X : Cx} {H0 H : Heap} {σ0 σ : Sx} {k0 k : Nat} {l : List Ent} {ds : List (Dat × List Value)} {γ : Type} {P0 : Except Flt (γ × List Tk)} {Q : Value → Heap → Prop} {E : Chain → Heap → Prop} {f : Nat} {av : List Value} {p : PP (List Nd)} {g : List Nd → PP γ} (h : ROk k f av p KdR) (h0 : Rs X H0 σ0 k0) (L : RLv X H0 σ k H l ds) (hp : P0 = liX (bd p g) σ)
    (hR : ∀ ns a c gb σ' H', RLv X H0 σ' k H' (.row 25 5 (.slice a ns.length c) (ns.map Nd.dat) gb :: l) ds → P0 = liX (g ns) σ' → LnX p σ ns σ' → Q (.slice a ns.length c) H') : PCalls Tryz.prog f (ptr X.b :: av).toArray H Q E :=
  (h.ok L.rs).mono fun v H' ⟨ns, σ', ⟨gb, h1, h2⟩, hs, hf, he⟩ => by
    obtain ⟨a, c, hv, _⟩ := h1.slice
    rw [List.length_map] at hv
    subst hv
    exact hR ns a c gb σ' H' (L.callRow hf (fun M H'' hf' hM => Rs.on h0 hs hf' fun x hx => (hM x hx).1) h1 h2) (by rw [hp, liX_step he]) he
theorem ROk.goB {X : Cx} {H0 H : Heap} {σ0 σ : Sx} {k0 k : Nat} {l : List Ent} {ds : List (Dat × List Value)} {γ : Type} {P0 : Except Flt (γ × List Tk)} {Q : Value → Heap → Prop} {E : Chain → Heap → Prop} {f : Nat} {av : List Value} {p : PP (List Nd)} {g : List Nd → PP γ} (h : ROk k f av p KdB) (h0 : Rs X H0 σ0 k0) (L : RLv X H0 σ k H l ds) (hp : P0 = liX (bd p g) σ)
    (hR : ∀ ns a c gb σ' H', RLv X H0 σ' k H' (.row 25 5 (.slice a ns.length c) (ns.map Nd.dat) gb :: l) ds → P0 = liX (g ns) σ' → LnX p σ ns σ' → ns.length ≤ 1048577 → Q (.slice a ns.length c) H') : PCalls Tryz.prog f (ptr X.b :: av).toArray H Q E :=
  (h.ok L.rs).mono fun v H' ⟨ns, σ', ⟨⟨gb, h1, h2⟩, hb⟩, hs, hf, he⟩ => by
    obtain ⟨a, c, hv, _⟩ := h1.slice
    rw [List.length_map] at hv
    subst hv
    exact hR ns a c gb σ' H' (L.callRow hf (fun M H'' hf' hM => Rs.on h0 hs hf' fun x hx => (hM x hx).1) h1 h2) (by rw [hp, liX_step he]) he hb
theorem allowed_spB {k : Nat} : ROk k 58 [] allowedP KdB := by
  refine ⟨fun {X H σ} hs => ?_⟩
  refine calls_of_vc (args := [_]) Tryz.func58 c58ok (Nat.le_of_ble_eq_true rfl) ?_
  have L := hs.walk
  obtain ⟨P0, hP0⟩ : ∃ P0, P0 = liX allowedP σ := ⟨_, rfl⟩
  have hp := hP0
  simp (implicitDefEqProofs := false) only [go_sem, c58]
  refine L.newS fun b1 H1 L => ?_
  simp (implicitDefEqProofs := false) only [go_sem]
  refine ris_go L [40] (fun ts H2 hσ e L => ?_) fun H2 e L => ?_
  · replace hp : P0 = liX (bd quotesP (fun l => bd (expP [41]) fun _ => ret l)) (.ok ts.tail) := liX_yes hp hσ e
    have L := L.drop (l' := []) (by simp) (ds' := []) (by simp)
    simp (implicitDefEqProofs := false) only [go_sem]
    obtain ⟨iI, oI, bI, dI, aI, hbI, hCI⟩ := L.rs.ex
    have cI := hbI.cell
    unfold cells at cI
    obtain ⟨hwI, hCI'⟩ := rinc hCI L.rs (isB_kind e)
    first | unfold ptr | skip
    simp (implicitDefEqProofs := false) only [go_sem, cI, hwI]
    refine rsto hs L hbI (by decide) rfl rfl hCI' fun HI L hbI => ?_
    simp (implicitDefEqProofs := false) only [go_sem]
    refine (quotes_spB _).goB hs L hp fun ns a c gb σ' H3 L hp _ hns => ?_
    simp (implicitDefEqProofs := false) only [go_sem]
    refine (take_sp [41]).go hs L hp fun _ v σ' H4 L hp _ _ => ?_
    simp (implicitDefEqProofs := false) only [go_sem]
    exact L.rfinB (hP0 ▸ hp) 0 rfl hns
  · replace hp : P0 = liX (ret []) σ := hp.trans (liX_no e)
    have L := L.rowOwn (m := 5) (dl := []) (css := []) (n := 0) rfl (by simp) RepsP.nil rfl (by decide)
    simp (implicitDefEqProofs := false) only [go_sem]
    exact L.rfinB (ns := []) (hP0 ▸ hp) 0 rfl (by simp)
theorem allowed_sp {k : Nat} : ROk k 58 [] allowedP KdR := allowed_spB.weak fun _ _ _ _ h => h.1
theorem isX_of {s : Bs} {σ : Sx} (h : isX s σ = false) (ts : List Tk) (hσ : σ = .ok ts) : isB s ts = false := by subst hσ; exact h
set_option maxHeartbeats 1000000 in
theorem sort_sp {k : Nat} : ROk k 61 [] sortP IntR' := by
  refine ⟨fun {X H σ} hs => ?_⟩
  refine calls_of_vc (args := [_]) Tryz.func61 c61ok (Nat.le_of_ble_eq_true rfl) ?_
  have L := hs.walk
  obtain ⟨P0, hP0⟩ : ∃ P0, P0 = liX sortP σ := ⟨_, rfl⟩
  have hp := hP0
  simp (implicitDefEqProofs := false) only [go_sem, c61]
  refine L.newS fun b1 H1 L => ?_
  simp (implicitDefEqProofs := false) only [go_sem]
  refine vc_loop (fun (i : Nat) H' => i ≤ 4 ∧ RLv X H σ k H' [.blk b1 9 [.string ⟨⟨[105, 110, 116]⟩⟩, .string ⟨⟨[98, 111, 111, 108]⟩⟩, .string ⟨⟨[110, 97, 109, 101]⟩⟩, .string ⟨⟨[110, 97, 109, 101, 115]⟩⟩]] [] ∧ ∀ j s, j < i → sorts[j]? = some s → isX s σ = false)
    (fun i => [(0, ptr X.b), (3, .slice (some ⟨b1, 0, none⟩) 4 4), (4, .int .i64 i)]) (fun i => 4 - i) 0 ?_ ?_ ?_
  · exact ⟨by decide, L, fun j s h => by omega⟩
  · simp (implicitDefEqProofs := false) only [go_sem, ptr]
  · rintro i H2 ⟨hi, L, hno⟩
    have h5 : i = 0 ∨ i = 1 ∨ i = 2 ∨ i = 3 ∨ i = 4 := by omega
    have n0 := fun h ts hσ => nb (isX_of (hno 0 _ h rfl) ts hσ)
    have n1 := fun h ts hσ => nb (isX_of (hno 1 _ h rfl) ts hσ)
    have n2 := fun h ts hσ => nb (isX_of (hno 2 _ h rfl) ts hσ)
    have n3 := fun h ts hσ => nb (isX_of (hno 3 _ h rfl) ts hσ)
    rcases h5 with rfl | rfl | rfl | rfl | rfl
    · have c := L.cell 0 rfl
      have w : IntKind.i64.wrap 1 = 1 := rfl
      simp (implicitDefEqProofs := false) only [go_sem, c]
      refine ris_go L [105, 110, 116] (fun ts H3 hσ e L => ?_) fun H3 e L => ?_
      · simp (implicitDefEqProofs := false) only [go_sem]
        obtain ⟨iI, oI, bI, dI, aI, hbI, hCI⟩ := L.rs.ex
        have cI := hbI.cell
        unfold cells at cI
        obtain ⟨hwI, hCI'⟩ := rinc hCI L.rs (isB_kind e)
        first | unfold ptr | skip
        simp (implicitDefEqProofs := false) only [go_sem, cI, hwI]
        refine rsto hs L hbI (by decide) rfl rfl hCI' fun HI L hbI => ?_
        simp (implicitDefEqProofs := false) only [go_sem, w]
        refine ⟨1, .ok ts.tail, rfl, L.rs, L.fr, ?_⟩
        show liX sortP σ = _
        rw [hσ]
        show sortP ts = _
        unfold sortP
        skip
        rw [if_pos e]
        rfl
      · simp (implicitDefEqProofs := false) only [go_sem, w]
        refine loopK_intro (1 : Nat) (by simp) ?_ ⟨by simp, L, fun j s hj hsj => ?_⟩
        · simp (implicitDefEqProofs := false) only [go_sem, w]
        · rcases Nat.lt_or_ge j (1 - 1) with q | q
          · exact hno j s (by omega) hsj
          · obtain rfl : j = 1 - 1 := by omega
            simp [sorts] at hsj
            subst hsj; exact e
    · have c := L.cell 0 rfl
      have w : IntKind.i64.wrap 2 = 2 := rfl
      simp (implicitDefEqProofs := false) only [go_sem, c]
      refine ris_go L [98, 111, 111, 108] (fun ts H3 hσ e L => ?_) fun H3 e L => ?_
      · simp (implicitDefEqProofs := false) only [go_sem]
        obtain ⟨iI, oI, bI, dI, aI, hbI, hCI⟩ := L.rs.ex
        have cI := hbI.cell
        unfold cells at cI
        obtain ⟨hwI, hCI'⟩ := rinc hCI L.rs (isB_kind e)
        first | unfold ptr | skip
        simp (implicitDefEqProofs := false) only [go_sem, cI, hwI]
        refine rsto hs L hbI (by decide) rfl rfl hCI' fun HI L hbI => ?_
        simp (implicitDefEqProofs := false) only [go_sem, w]
        refine ⟨2, .ok ts.tail, rfl, L.rs, L.fr, ?_⟩
        show liX sortP σ = _
        rw [hσ]
        show sortP ts = _
        unfold sortP
        rw [if_neg (n0 (by omega) ts hσ)]
        rw [if_pos e]
        rfl
      · simp (implicitDefEqProofs := false) only [go_sem, w]
        refine loopK_intro (2 : Nat) (by simp) ?_ ⟨by simp, L, fun j s hj hsj => ?_⟩
        · simp (implicitDefEqProofs := false) only [go_sem, w]
        · rcases Nat.lt_or_ge j (2 - 1) with q | q
          · exact hno j s (by omega) hsj
          · obtain rfl : j = 2 - 1 := by omega
            simp [sorts] at hsj
            subst hsj; exact e
    · have c := L.cell 0 rfl
      have w : IntKind.i64.wrap 3 = 3 := rfl
      simp (implicitDefEqProofs := false) only [go_sem, c]
      refine ris_go L [110, 97, 109, 101] (fun ts H3 hσ e L => ?_) fun H3 e L => ?_
      · simp (implicitDefEqProofs := false) only [go_sem]
        obtain ⟨iI, oI, bI, dI, aI, hbI, hCI⟩ := L.rs.ex
        have cI := hbI.cell
        unfold cells at cI
        obtain ⟨hwI, hCI'⟩ := rinc hCI L.rs (isB_kind e)
        first | unfold ptr | skip
        simp (implicitDefEqProofs := false) only [go_sem, cI, hwI]
        refine rsto hs L hbI (by decide) rfl rfl hCI' fun HI L hbI => ?_
        simp (implicitDefEqProofs := false) only [go_sem, w]
        refine ⟨3, .ok ts.tail, rfl, L.rs, L.fr, ?_⟩
        show liX sortP σ = _
        rw [hσ]
        show sortP ts = _
        unfold sortP
        rw [if_neg (n0 (by omega) ts hσ), if_neg (n1 (by omega) ts hσ)]
        rw [if_pos e]
        rfl
      · simp (implicitDefEqProofs := false) only [go_sem, w]
        refine loopK_intro (3 : Nat) (by simp) ?_ ⟨by simp, L, fun j s hj hsj => ?_⟩
        · simp (implicitDefEqProofs := false) only [go_sem, w]
        · rcases Nat.lt_or_ge j (3 - 1) with q | q
          · exact hno j s (by omega) hsj
          · obtain rfl : j = 3 - 1 := by omega
            simp [sorts] at hsj
            subst hsj; exact e
    · have c := L.cell 0 rfl
      have w : IntKind.i64.wrap 4 = 4 := rfl
      simp (implicitDefEqProofs := false) only [go_sem, c]
      refine ris_go L [110, 97, 109, 101, 115] (fun ts H3 hσ e L => ?_) fun H3 e L => ?_
      · simp (implicitDefEqProofs := false) only [go_sem]
        obtain ⟨iI, oI, bI, dI, aI, hbI, hCI⟩ := L.rs.ex
        have cI := hbI.cell
        unfold cells at cI
        obtain ⟨hwI, hCI'⟩ := rinc hCI L.rs (isB_kind e)
        first | unfold ptr | skip
        simp (implicitDefEqProofs := false) only [go_sem, cI, hwI]
        refine rsto hs L hbI (by decide) rfl rfl hCI' fun HI L hbI => ?_
        simp (implicitDefEqProofs := false) only [go_sem, w]
        refine ⟨4, .ok ts.tail, rfl, L.rs, L.fr, ?_⟩
        show liX sortP σ = _
        rw [hσ]
        show sortP ts = _
        unfold sortP
        rw [if_neg (n0 (by omega) ts hσ), if_neg (n1 (by omega) ts hσ), if_neg (n2 (by omega) ts hσ)]
        rw [if_pos e]
        rfl
      · simp (implicitDefEqProofs := false) only [go_sem, w]
        refine loopK_intro (4 : Nat) (by simp) ?_ ⟨by simp, L, fun j s hj hsj => ?_⟩
        · simp (implicitDefEqProofs := false) only [go_sem, w]
        · rcases Nat.lt_or_ge j (4 - 1) with q | q
          · exact hno j s (by omega) hsj
          · obtain rfl : j = 4 - 1 := by omega
            simp [sorts] at hsj
            subst hsj; exact e
    · replace hp : P0 = liX (fun ts => .error (2, (hd ts).at_)) σ := by
        rw [hp]
        refine liX_eq fun ts hσ => ?_
        unfold sortP
        rw [if_neg (n0 (by omega) ts hσ), if_neg (n1 (by omega) ts hσ), if_neg (n2 (by omega) ts hσ), if_neg (n3 (by omega) ts hσ)]
      simp (implicitDefEqProofs := false) only [go_sem]
      refine rfail_go hs L hp fun v e H3 L hp => ?_
      simp (implicitDefEqProofs := false) only [go_sem]
      exact ⟨0, .error e, rfl, L.rs, L.fr, show liX sortP σ = _ by rw [← hP0, hp]; rfl⟩

def isFn : Sx → Bool
  | .error _ => false
  | .ok ts => fnList.any fun s => isB s ts
theorem functions_sp (H : Heap) : HCalls Tryz.prog 110 #[] H fun v H' => v = .slice (some ⟨H.size, 0, none⟩) 17 17 ∧ Blk H' H.size 9 (fnList.map sv) ∧ Fr [] H H' := by
  refine calls_of_vc (args := []) Tryz.func110 c110ok (Nat.le_of_ble_eq_true rfl) ?_
  simp (implicitDefEqProofs := false) only [go_sem, c110]
  refine NewS_intro fun H1 hn hf _ => ?_
  simp (implicitDefEqProofs := false) only [go_sem]
  exact ⟨hn, hf⟩
set_option maxHeartbeats 1000000 in
theorem function_sp {X : Cx} {H : Heap} {σ : Sx} {k : Nat} (hs : Rs X H σ k) : HCalls Tryz.prog 101 #[ptr X.b] H fun v H' => v = .bool (isFn σ) ∧ Fr [] H H' := by
  refine calls_of_vc (args := [_]) Tryz.func101 c101ok (Nat.le_of_ble_eq_true rfl) ?_
  have L : Lv [] H [] (fun A => Rs X A σ k) H [] [] := Lv.start (by simp) fun M H' hf hM => Rs.on hs hs hf fun x hx => (hM x hx).1
  simp (implicitDefEqProofs := false) only [go_sem, c101]
  refine (functions_sp H).mono ?_
  rintro v H1 ⟨rfl, hn, hf⟩
  have L := L.push hf hn
  simp (implicitDefEqProofs := false) only [go_sem]
  refine vc_loop (fun (i : Nat) H' => i ≤ 17 ∧ Lv [] H [] (fun A => Rs X A σ k) H' [.blk H.size 9 (fnList.map sv)] [] ∧ ∀ j s, j < i → fnList[j]? = some s → isX s σ = false)
    (fun i => [(0, ptr X.b), (3, .slice (some ⟨H.size, 0, none⟩) 17 17), (4, .int .i64 i)]) (fun i => 17 - i) 0 ?_ ?_ ?_
  · exact ⟨by decide, L, fun j s h => by omega⟩
  · simp (implicitDefEqProofs := false) only [go_sem]
  · rintro i H2 ⟨hi, L, hno⟩
    rcases Nat.lt_or_ge i 17 with hlt | hge
    · have hlen : fnList.length = 17 := rfl
      have h0 : (0 : Int) ≤ (i : Int) := by omega
      have h1 : (i : Int) < 17 := by omega
      have c : cellB H2 H.size i = some (sv (fnList[i]'(by omega))) := by
        rw [L.cell 0 rfl, List.getElem?_map, List.getElem?_eq_getElem (by omega)]; rfl
      have hw : IntKind.i64.wrap ((i : Int) + 1) = ((i + 1 : Nat) : Int) := wrap_at hlt (by decide)
      simp (implicitDefEqProofs := false) only [go_sem, h0, h1, c]
      refine (ris_ok L.st (fnList[i]'(by omega))).mono ?_
      rintro v H3 ⟨rfl, hf3⟩
      have L := L.ext hf3
      cases e : isX (fnList[i]'(by omega)) σ with
      | true =>
        have hy : isFn σ = true := by
          cases σ with
          | error e' => simp [isX] at e
          | ok ts => exact List.any_eq_true.2 ⟨_, List.getElem_mem (by omega : i < fnList.length), e⟩
        rw [hy]
        simp (implicitDefEqProofs := false) only [go_sem]
        exact L.fr
      | false =>
        simp (implicitDefEqProofs := false) only [go_sem, hw]
        refine loopK_intro (i + 1) ?_ ?_ ⟨by omega, L, fun j s hj hsj => ?_⟩
        · show 17 - (i + 1) < 17 - i
          omega
        · simp (implicitDefEqProofs := false) only [go_sem, hw]
        · rcases Nat.lt_or_ge j i with q | q
          · exact hno j s q hsj
          · obtain rfl : j = i := by omega
            rw [List.getElem?_eq_getElem (by omega)] at hsj
            cases hsj; exact e
    · have h1 : ¬ ((i : Int) < 17) := by omega
      have hy : isFn σ = false := by
        cases σ with
        | error e' => rfl
        | ok ts =>
          refine Bool.eq_false_iff.2 fun h => ?_
          obtain ⟨s, hm, he⟩ := List.any_eq_true.1 h
          obtain ⟨j, hj, rfl⟩ := List.getElem_of_mem hm
          have hj' : j < 17 := hj
          have := hno j _ (by omega) (List.getElem?_eq_getElem hj)
          have he' : isX fnList[j] (.ok ts) = true := he
          cases this.symm.trans he'
      rw [hy]
      simp (implicitDefEqProofs := false) only [go_sem, h1]
      exact L.fr
end Go.Proofs.YtbgjgaaobnbijaaGreatDoor
end
section
/- Operators, arguments, primaries of the specification: contracts. -/
set_option linter.unusedSimpArgs false
set_option linter.unusedVariables false
set_option maxRecDepth 8000
namespace Go.Proofs.YtbgjgaaobnbijaaGreatDoor
open Gx Go
def kdN : Nat → Kd
  | 0 => kOr
  | 1 => kAnd
  | 2 => kCmp
  | 3 => kJoin
  | _ => kSum
def opX (kd : Kd) : Sx → Int
  | .error _ => 0
  | .ok ts => if opAt kd ts then kdOf kd (hd ts).text else 0
theorem opX_no {kd : Kd} {σ : Sx} (h : ∀ p ∈ kd, isX p.1 σ = false) : opX kd σ = 0 := by
  cases σ with
  | error e => rfl
  | ok ts =>
    show (if opAt kd ts = true then kdOf kd (hd ts).text else 0) = 0
    rw [if_neg]
    intro ho
    have hb := opAt_isB ho
    unfold opAt at ho
    rw [Bool.and_eq_true] at ho
    have hk : kdOf kd (hd ts).text ≠ 0 := by simpa using ho.1
    apply hk
    unfold kdOf
    cases e : kd.lookup (hd ts).text with
    | none => rfl
    | some n =>
      exfalso
      have : ∃ p ∈ kd, p.1 = (hd ts).text := by
        clear h ho hk
        induction kd with
        | nil => simp at e
        | cons p kd ih =>
          by_cases q : (hd ts).text = p.1
          · exact ⟨p, by simp, q.symm⟩
          · obtain ⟨a, b⟩ := p
            have hne : ((hd ts).text == a) = false := by simpa using q
            simp only [List.lookup, hne] at e
            obtain ⟨p', h1, h2⟩ := ih e
            exact ⟨p', List.mem_cons_of_mem _ h1, h2⟩
      obtain ⟨p, hp, hpt⟩ := this
      have := h p hp
      rw [hpt] at this
      have h2 : isX (hd ts).text (.ok ts) = true := hb
      rw [this] at h2; cases h2
section
variable {X : Cx} {H : Heap} {σ : Sx} {k : Nat} (hs : Rs X H σ k)
include hs
theorem op0_sp : HCalls Tryz.prog 71 #[ptr X.b, .int .i64 0] H fun v H' => v = .int .i64 (opX kOr σ) ∧ Rs X H' σ k ∧ Fr [X.b] H H' := by
  refine calls_of_vc (args := [_, _]) Tryz.func71 c71ok (Nat.le_of_ble_eq_true rfl) ?_
  have L := hs.walk
  simp (implicitDefEqProofs := false) only [go_sem, c71]
  refine ris_go L [111, 114] (fun ts H1 hσ e L => ?_) fun H1 e1 L => ?_
  · simp (implicitDefEqProofs := false) only [go_sem]
    refine ⟨?_, hσ ▸ L.rs, L.fr⟩
    rw [hσ]
    have ht := isB_text e
    have e' : isB (hd ts).text ts = true := by rw [ht]; exact e
    simp only [opX, opAt, e', Bool.and_true]
    rw [ht]; rfl
  rw [opX_no (kd := kOr) (by simp [kOr, e1])]
  simp (implicitDefEqProofs := false) only [go_sem]
  exact ⟨L.rs, L.fr⟩
theorem op1_sp : HCalls Tryz.prog 71 #[ptr X.b, .int .i64 1] H fun v H' => v = .int .i64 (opX kAnd σ) ∧ Rs X H' σ k ∧ Fr [X.b] H H' := by
  refine calls_of_vc (args := [_, _]) Tryz.func71 c71ok (Nat.le_of_ble_eq_true rfl) ?_
  have L := hs.walk
  simp (implicitDefEqProofs := false) only [go_sem, c71]
  refine ris_go L [97, 110, 100] (fun ts H1 hσ e L => ?_) fun H1 e1 L => ?_
  · simp (implicitDefEqProofs := false) only [go_sem]
    refine ⟨?_, hσ ▸ L.rs, L.fr⟩
    rw [hσ]
    have ht := isB_text e
    have e' : isB (hd ts).text ts = true := by rw [ht]; exact e
    simp only [opX, opAt, e', Bool.and_true]
    rw [ht]; rfl
  rw [opX_no (kd := kAnd) (by simp [kAnd, e1])]
  simp (implicitDefEqProofs := false) only [go_sem]
  exact ⟨L.rs, L.fr⟩
theorem op3_sp : HCalls Tryz.prog 71 #[ptr X.b, .int .i64 3] H fun v H' => v = .int .i64 (opX kJoin σ) ∧ Rs X H' σ k ∧ Fr [X.b] H H' := by
  refine calls_of_vc (args := [_, _]) Tryz.func71 c71ok (Nat.le_of_ble_eq_true rfl) ?_
  have L := hs.walk
  simp (implicitDefEqProofs := false) only [go_sem, c71]
  refine ris_go L [106, 111, 105, 110] (fun ts H1 hσ e L => ?_) fun H1 e1 L => ?_
  · simp (implicitDefEqProofs := false) only [go_sem]
    refine ⟨?_, hσ ▸ L.rs, L.fr⟩
    rw [hσ]
    have ht := isB_text e
    have e' : isB (hd ts).text ts = true := by rw [ht]; exact e
    simp only [opX, opAt, e', Bool.and_true]
    rw [ht]; rfl
  rw [opX_no (kd := kJoin) (by simp [kJoin, e1])]
  simp (implicitDefEqProofs := false) only [go_sem]
  exact ⟨L.rs, L.fr⟩
theorem op4_sp : HCalls Tryz.prog 71 #[ptr X.b, .int .i64 4] H fun v H' => v = .int .i64 (opX kSum σ) ∧ Rs X H' σ k ∧ Fr [X.b] H H' := by
  refine calls_of_vc (args := [_, _]) Tryz.func71 c71ok (Nat.le_of_ble_eq_true rfl) ?_
  have L := hs.walk
  simp (implicitDefEqProofs := false) only [go_sem, c71]
  refine ris_go L [43] (fun ts H1 hσ e L => ?_) fun H1 e1 L => ?_
  · simp (implicitDefEqProofs := false) only [go_sem]
    refine ⟨?_, hσ ▸ L.rs, L.fr⟩
    rw [hσ]
    have ht := isB_text e
    have e' : isB (hd ts).text ts = true := by rw [ht]; exact e
    simp only [opX, opAt, e', Bool.and_true]
    rw [ht]; rfl
  simp (implicitDefEqProofs := false) only [go_sem]
  refine ris_go L [45] (fun ts H1 hσ e L => ?_) fun H1 e2 L => ?_
  · simp (implicitDefEqProofs := false) only [go_sem]
    refine ⟨?_, hσ ▸ L.rs, L.fr⟩
    rw [hσ]
    have ht := isB_text e
    have e' : isB (hd ts).text ts = true := by rw [ht]; exact e
    simp only [opX, opAt, e', Bool.and_true]
    rw [ht]; rfl
  rw [opX_no (kd := kSum) (by simp [kSum, e1, e2])]
  simp (implicitDefEqProofs := false) only [go_sem]
  exact ⟨L.rs, L.fr⟩
theorem op2_sp : HCalls Tryz.prog 71 #[ptr X.b, .int .i64 2] H fun v H' => v = .int .i64 (opX kCmp σ) ∧ Rs X H' σ k ∧ Fr [X.b] H H' := by
  refine calls_of_vc (args := [_, _]) Tryz.func71 c71ok (Nat.le_of_ble_eq_true rfl) ?_
  have L := hs.walk
  simp (implicitDefEqProofs := false) only [go_sem, c71]
  refine ris_go L [60, 61] (fun ts H1 hσ e L => ?_) fun H1 e1 L => ?_
  · simp (implicitDefEqProofs := false) only [go_sem]
    refine ⟨?_, hσ ▸ L.rs, L.fr⟩
    rw [hσ]
    have ht := isB_text e
    have e' : isB (hd ts).text ts = true := by rw [ht]; exact e
    simp only [opX, opAt, e', Bool.and_true]
    rw [ht]; rfl
  simp (implicitDefEqProofs := false) only [go_sem]
  refine ris_go L [60] (fun ts H1 hσ e L => ?_) fun H1 e2 L => ?_
  · simp (implicitDefEqProofs := false) only [go_sem]
    refine ⟨?_, hσ ▸ L.rs, L.fr⟩
    rw [hσ]
    have ht := isB_text e
    have e' : isB (hd ts).text ts = true := by rw [ht]; exact e
    simp only [opX, opAt, e', Bool.and_true]
    rw [ht]; rfl
  simp (implicitDefEqProofs := false) only [go_sem]
  refine ris_go L [61, 61] (fun ts H1 hσ e L => ?_) fun H1 e3 L => ?_
  · simp (implicitDefEqProofs := false) only [go_sem]
    refine ⟨?_, hσ ▸ L.rs, L.fr⟩
    rw [hσ]
    have ht := isB_text e
    have e' : isB (hd ts).text ts = true := by rw [ht]; exact e
    simp only [opX, opAt, e', Bool.and_true]
    rw [ht]; rfl
  simp (implicitDefEqProofs := false) only [go_sem]
  refine ris_go L [105, 110] (fun ts H1 hσ e L => ?_) fun H1 e4 L => ?_
  · simp (implicitDefEqProofs := false) only [go_sem]
    refine ⟨?_, hσ ▸ L.rs, L.fr⟩
    rw [hσ]
    have ht := isB_text e
    have e' : isB (hd ts).text ts = true := by rw [ht]; exact e
    simp only [opX, opAt, e', Bool.and_true]
    rw [ht]; rfl
  simp (implicitDefEqProofs := false) only [go_sem]
  refine ris_go L [108, 101, 113] (fun ts H1 hσ e L => ?_) fun H1 e5 L => ?_
  · simp (implicitDefEqProofs := false) only [go_sem]
    refine ⟨?_, hσ ▸ L.rs, L.fr⟩
    rw [hσ]
    have ht := isB_text e
    have e' : isB (hd ts).text ts = true := by rw [ht]; exact e
    simp only [opX, opAt, e', Bool.and_true]
    rw [ht]; rfl
  rw [opX_no (kd := kCmp) (by simp [kCmp, e1, e2, e3, e4, e5])]
  simp (implicitDefEqProofs := false) only [go_sem]
  exact ⟨L.rs, L.fr⟩
end
/-- A token's offset that is read ahead. -/
theorem liX_at {γ : Type} {G : Int → PP γ} {σ : Sx} {t : Tk} (ht : ∀ ts, σ = .ok ts → t = hd ts) : liX (fun ts => G (hd ts).at_ ts) σ = liX (G t.at_) σ := liX_eq fun ts hts => by rw [ht ts hts]
theorem argument_sp {k : Nat} {e : PP Nd} (hex : ROk k 34 [] e NdR) (fn : Bs) : ROk k 102 [sv fn] (argP e fn) NdR := by
  refine ⟨fun {X H σ} hs => ?_⟩
  refine calls_of_vc (args := [_, _]) Tryz.func102 c102ok (Nat.le_of_ble_eq_true rfl) ?_
  have L := hs.walk
  obtain ⟨P0, hP0⟩ : ∃ P0, P0 = liX (argP e fn) σ := ⟨_, rfl⟩
  have hp := hP0
  unfold sv
  simp (implicitDefEqProofs := false) only [go_sem, c102]
  refine L.newP fun b1 H1 L => ?_
  simp (implicitDefEqProofs := false) only [go_sem]
  refine rtoken_go L fun t H2 L ht _ => ?_
  simp (implicitDefEqProofs := false) only [go_sem, tkC]
  refine L.newP fun b2 H3 L => ?_
  simp (implicitDefEqProofs := false) only [go_sem]
  refine L.stoAll 0 rfl rfl (one_agg (t := []) rfl) fun H4 L => ?_
  simp only [List.set_cons_zero, List.set_cons_succ, List.set_nil, List.eraseIdx_cons_zero, List.eraseIdx_cons_succ] at L
  by_cases e1 : fn = [114, 101, 99]
  · subst e1
    replace hp : P0 = liX (bd (takeP 1) (fun t' => bd (expP [58]) fun _ => bd e fun x => ret (.mk 52 t'.text 0 t.at_ [x]))) σ := by
      rw [hp]
      refine liX_eq fun ts hts => ?_
      simp only [argP, if_true, ht ts hts]
    rw [liX_take ht] at hp
    simp (implicitDefEqProofs := false) only [go_sem, ba_eq]
    refine (text_sp 1 (by decide)).go hs L hp fun s v σ1 H5 L hp _ hv => ?_
    cases hv
    simp (implicitDefEqProofs := false) only [go_sem, sv]
    refine L.stoOne 0 rfl (by simp) rfl fun H6 L => ?_
    simp only [List.set_cons_zero, List.set_cons_succ, List.set_nil, List.eraseIdx_cons_zero, List.eraseIdx_cons_succ] at L
    simp (implicitDefEqProofs := false) only [go_sem]
    refine (take_sp [58]).go hs L hp fun _ v σ2 H7 L hp _ _ => ?_
    simp (implicitDefEqProofs := false) only [go_sem]
    refine hex.goN hs L hp fun kk tt nn aa ks kv σ3 H8 L hp _ => ?_
    simp (implicitDefEqProofs := false) only [go_sem]
    refine L.newS fun b3 H9 L => ?_
    have L := L.rowN1' (ks := ks) (by simp)
    have L := L.rowN' 0 [.mk kk tt nn aa ks] rfl
    simp only [List.set_cons_zero, List.set_cons_succ, List.set_nil, List.eraseIdx_cons_zero, List.eraseIdx_cons_succ] at L
    simp (implicitDefEqProofs := false) only [go_sem]
    refine L.stoOne 0 rfl (by simp) rfl fun H10 L => ?_
    simp only [List.set_cons_zero, List.set_cons_succ, List.set_nil, List.eraseIdx_cons_zero, List.eraseIdx_cons_succ] at L
    simp (implicitDefEqProofs := false) only [go_sem]
    have c := L.cell 0 rfl
    simp (implicitDefEqProofs := false) only [go_sem, c]
    refine L.stoAll 1 rfl rfl (one_agg rfl) fun HZ L => ?_
    simp only [List.set_cons_zero, List.set_cons_succ, List.set_nil, List.eraseIdx_cons_zero, List.eraseIdx_cons_succ] at L
    have c := L.cell 1 rfl
    simp (implicitDefEqProofs := false) only [go_sem, c]
    exact L.rfin (hP0 ▸ hp) (.inl (by simp))
  · by_cases e2 : fn = [109, 97, 112]
    · subst e2
      replace hp : P0 = liX (bd e fun x => bd (expP [58]) fun _ => bd e fun y => ret (.mk 52 [] 0 t.at_ [x, y])) σ := by
        rw [hp]
        refine liX_eq fun ts hts => ?_
        simp [argP, ht ts hts]
      simp (implicitDefEqProofs := false) only [go_sem, ba_eq, e1]
      refine hex.goN hs L hp fun kk tt nn aa ks kv σ1 H5 L hp _ => ?_
      simp (implicitDefEqProofs := false) only [go_sem]
      refine L.newP fun b3 H6 L => ?_
      simp (implicitDefEqProofs := false) only [go_sem]
      refine L.stoAll 0 rfl rfl (one_agg (L.one' (ks := ks) (by simp))) fun H7 L => ?_
      simp only [List.set_cons_zero, List.set_cons_succ, List.set_nil, List.eraseIdx_cons_zero, List.eraseIdx_cons_succ] at L
      simp (implicitDefEqProofs := false) only [go_sem]
      refine (take_sp [58]).go hs L hp fun _ v σ2 H8 L hp _ _ => ?_
      have c := L.cell 0 rfl
      simp (implicitDefEqProofs := false) only [go_sem, c]
      refine hex.goN hs L hp fun kk' tt' nn' aa' ks' kv' σ3 H9 L hp _ => ?_
      have c := L.cell 0 rfl
      simp (implicitDefEqProofs := false) only [go_sem, c]
      refine L.newS fun b4 H10 L => ?_
      have L := L.rowOwn (dl := [Nd.mk kk tt nn aa ks, Nd.mk kk' tt' nn' aa' ks'].map Nd.dat) (m := 5) (n := 2) (css := [[.int .i64 kk, sv tt, .int .i64 nn, .int .i64 aa, kv], [.int .i64 kk', sv tt', .int .i64 nn', .int .i64 aa', kv']]) (by simp only [List.flatten_cons, List.flatten_nil, List.append_nil, List.cons_append, List.nil_append]) (by simp) ((RepsP.nil.cons (L.ndr' (ks := ks') (by simp))).cons (L.ndr' (ks := ks) (by simp))) rfl (by simp [maxLen])
      have L := L.rowN' 0 [.mk kk tt nn aa ks, .mk kk' tt' nn' aa' ks'] rfl
      simp only [List.set_cons_zero, List.set_cons_succ, List.set_nil, List.eraseIdx_cons_zero, List.eraseIdx_cons_succ] at L
      simp (implicitDefEqProofs := false) only [go_sem]
      refine L.stoOne 1 rfl (by simp) rfl fun H11 L => ?_
      simp only [List.set_cons_zero, List.set_cons_succ, List.set_nil, List.eraseIdx_cons_zero, List.eraseIdx_cons_succ] at L
      simp (implicitDefEqProofs := false) only [go_sem]
      have c := L.cell 1 rfl
      simp (implicitDefEqProofs := false) only [go_sem, c]
      refine L.stoAll 2 rfl rfl (one_agg (t := []) rfl) fun HZ L => ?_
      simp only [List.set_cons_zero, List.set_cons_succ, List.set_nil, List.eraseIdx_cons_zero, List.eraseIdx_cons_succ] at L
      have c := L.cell 2 rfl
      simp (implicitDefEqProofs := false) only [go_sem, c]
      exact L.rfin (hP0 ▸ hp) (.inl (by simp))
    · replace hp : P0 = liX e σ := by
        rw [hp]
        refine liX_eq fun ts hts => ?_
        simp only [argP, e1, e2, if_false]
      simp (implicitDefEqProofs := false) only [go_sem, ba_eq, e1, e2]
      refine hex.goL hs L hp fun kk tt nn aa ks kv σ1 H5 L hp => ?_
      simp (implicitDefEqProofs := false) only [go_sem]
      refine L.newP fun b3 H6 L => ?_
      simp (implicitDefEqProofs := false) only [go_sem]
      refine L.stoAll 0 rfl rfl (one_agg (L.one' (ks := ks) (by simp))) fun H7 L => ?_
      simp only [List.set_cons_zero, List.set_cons_succ, List.set_nil, List.eraseIdx_cons_zero, List.eraseIdx_cons_succ] at L
      have c := L.cell 0 rfl
      simp (implicitDefEqProofs := false) only [go_sem, c, ba_eq, e2]
      refine L.stoAll 2 rfl rfl (one_agg (L.one' (ks := ks) (by simp))) fun H8 L => ?_
      simp only [List.set_cons_zero, List.set_cons_succ, List.set_nil, List.eraseIdx_cons_zero, List.eraseIdx_cons_succ] at L
      have c := L.cell 2 rfl
      simp (implicitDefEqProofs := false) only [go_sem, c]
      exact L.rfin (hP0 ▸ hp) (.inl (by simp))
theorem lenX_le {α : Type} {p : PP α} {σ σ' : Sx} {a : α} (h : Dn p) (he : LnX p σ a σ') : lenX σ' ≤ lenX σ := by
  cases σ' with
  | error e => exact Nat.zero_le _
  | ok r =>
    obtain ⟨ts, rfl, hp⟩ := he.okd
    exact h.of hp
theorem isFn_iff {ts : List Tk} (h5 : (hd ts).kind = 5 → (hd ts).text ∉ fnList) : isFn (.ok ts) = true ↔ (hd ts).kind = 2 ∧ (hd ts).text ∈ fnList := by
  show (fnList.any fun s => isB s ts) = true ↔ _
  rw [List.any_eq_true]
  constructor
  · rintro ⟨s, hs, he⟩
    have ht := isB_text he
    unfold isB at he
    simp only [Bool.and_eq_true, Bool.or_eq_true, decide_eq_true_eq] at he
    rw [← ht] at hs
    rcases he.1 with h | h
    · exact ⟨h, hs⟩
    · exact absurd hs (h5 h)
  · rintro ⟨h1, h2⟩
    exact ⟨_, h2, by simp [isB, h1]⟩
set_option maxHeartbeats 2000000 in
theorem primary_sp {k : Nat} (hex : ∀ j, k = j + 1 → ROk j 34 [] (lev j).1 NdR) : ROk k 91 [] (primP (loK k)) NdR := by
  refine ⟨fun {X H σ} hs => ?_⟩
  refine calls_of_vc (args := [_]) Tryz.func91 c91ok (Nat.le_of_ble_eq_true rfl) ?_
  have L := hs.walk
  obtain ⟨P0, hP0⟩ : ∃ P0, P0 = liX (primP (loK k)) σ := ⟨_, rfl⟩
  have hp := hP0
  unfold primP at hp
  simp (implicitDefEqProofs := false) only [go_sem, c91]
  refine L.newP fun b1 H1 L => ?_
  simp (implicitDefEqProofs := false) only [go_sem]
  refine rtoken_go L fun t H2 L ht hrng => ?_
  simp (implicitDefEqProofs := false) only [go_sem, tkC]
  refine L.newP fun b2 H3 L => ?_
  simp (implicitDefEqProofs := false) only [go_sem]
  refine L.stoAll 0 rfl rfl (one4' t) fun H4 L => ?_
  simp only [List.set_cons_zero, List.set_cons_succ, List.set_nil, List.eraseIdx_cons_zero, List.eraseIdx_cons_succ] at L
  have ct := L.cell 0 rfl
  simp (implicitDefEqProofs := false) only [go_sem, ct]
  refine L.newP fun b3 H5 L => ?_
  simp (implicitDefEqProofs := false) only [go_sem]
  refine L.stoAll 0 rfl rfl (one_agg (t := []) rfl) fun H6 L => ?_
  simp only [List.set_cons_zero, List.set_cons_succ, List.set_nil, List.eraseIdx_cons_zero, List.eraseIdx_cons_succ] at L
  simp (implicitDefEqProofs := false) only [go_sem]
  refine ris_go L [45] (fun ts H7 hσ e L => ?_) fun H7 e45 L => ?_
  · replace hp : P0 = liX intP σ := by
      rw [hp]
      exact liX_if fun ts' h => by rw [hσ] at h; cases h; exact .inr e
    rw [hσ] at hp
    simp (implicitDefEqProofs := false) only [go_sem]
    refine integer_sp.goL hs L hp fun kk tt nn aa ks kv σ1 H8 L hp => ?_
    simp (implicitDefEqProofs := false) only [go_sem]
    refine L.stoAll 2 rfl rfl (one_agg (L.one' (ks := ks) (by simp))) fun HZ L => ?_
    simp only [List.set_cons_zero, List.set_cons_succ, List.set_nil, List.eraseIdx_cons_zero, List.eraseIdx_cons_succ] at L
    have c := L.cell 2 rfl
    simp (implicitDefEqProofs := false) only [go_sem, c]
    exact L.rfin (hP0 ▸ hp) (.inl (by simp))
  have ct := L.cell 1 rfl
  by_cases k3 : t.kind = 3
  · replace hp : P0 = liX intP σ := by
      rw [hp]
      exact liX_if fun ts h => .inl (by rw [← ht ts h]; exact k3)
    simp (implicitDefEqProofs := false) only [go_sem, ct, k3]
    refine integer_sp.goL hs L hp fun kk tt nn aa ks kv σ1 H8 L hp => ?_
    simp (implicitDefEqProofs := false) only [go_sem]
    refine L.stoAll 2 rfl rfl (one_agg (L.one' (ks := ks) (by simp))) fun HZ L => ?_
    simp only [List.set_cons_zero, List.set_cons_succ, List.set_nil, List.eraseIdx_cons_zero, List.eraseIdx_cons_succ] at L
    have c := L.cell 2 rfl
    simp (implicitDefEqProofs := false) only [go_sem, c]
    exact L.rfin (hP0 ▸ hp) (.inl (by simp))
  replace hp := hp.trans (liX_else fun ts h => by
    have h1 := isX_of e45 ts h
    rw [h1, ← ht ts h]
    simp [k3])
  simp (implicitDefEqProofs := false) only [go_sem, ct, k3]
  by_cases k4 : t.kind = 4
  · replace hp : P0 = liX quoteP σ := hp.trans (liX_if fun ts h => by rw [← ht ts h]; exact k4)
    unfold quoteP at hp
    rw [liX_take ht] at hp
    simp (implicitDefEqProofs := false) only [go_sem, k4]
    refine L.stoOne 0 rfl (by simp) rfl fun H8 L => ?_
    simp only [List.set_cons_zero, List.set_cons_succ, List.set_nil, List.eraseIdx_cons_zero, List.eraseIdx_cons_succ] at L
    simp (implicitDefEqProofs := false) only [go_sem]
    refine (text_sp 4 (by decide)).go hs L hp fun s v σ1 H9 L hp _ hv => ?_
    cases hv
    simp (implicitDefEqProofs := false) only [go_sem, sv]
    refine L.stoOne 0 rfl (by simp) rfl fun H10 L => ?_
    simp only [List.set_cons_zero, List.set_cons_succ, List.set_nil, List.eraseIdx_cons_zero, List.eraseIdx_cons_succ] at L
    simp (implicitDefEqProofs := false) only [go_sem]
    have c := L.cell 0 rfl
    simp (implicitDefEqProofs := false) only [go_sem, c]
    refine L.stoAll 2 rfl rfl (one_agg rfl) fun HZ L => ?_
    simp only [List.set_cons_zero, List.set_cons_succ, List.set_nil, List.eraseIdx_cons_zero, List.eraseIdx_cons_succ] at L
    have c := L.cell 2 rfl
    simp (implicitDefEqProofs := false) only [go_sem, c]
    exact L.rfin (hP0 ▸ hp) (.inr ⟨rfl, rfl⟩)
  replace hp := hp.trans (liX_else fun ts h => by rw [← ht ts h]; exact k4)
  simp (implicitDefEqProofs := false) only [go_sem, k4]
  by_cases k1 : t.kind = 1
  · replace hp : P0 = liX (namedP 48) σ := hp.trans (liX_if fun ts h => by rw [← ht ts h]; exact k1)
    unfold namedP at hp
    rw [liX_take ht] at hp
    simp (implicitDefEqProofs := false) only [go_sem, ct, k1]
    refine L.stoOne 0 rfl (by simp) rfl fun H8 L => ?_
    simp only [List.set_cons_zero, List.set_cons_succ, List.set_nil, List.eraseIdx_cons_zero, List.eraseIdx_cons_succ] at L
    simp (implicitDefEqProofs := false) only [go_sem]
    refine (text_sp 1 (by decide)).go hs L hp fun s v σ1 H9 L hp _ hv => ?_
    cases hv
    simp (implicitDefEqProofs := false) only [go_sem, sv]
    refine L.stoOne 0 rfl (by simp) rfl fun H10 L => ?_
    simp only [List.set_cons_zero, List.set_cons_succ, List.set_nil, List.eraseIdx_cons_zero, List.eraseIdx_cons_succ] at L
    simp (implicitDefEqProofs := false) only [go_sem]
    have c := L.cell 0 rfl
    simp (implicitDefEqProofs := false) only [go_sem, c]
    refine L.stoAll 2 rfl rfl (one_agg rfl) fun HZ L => ?_
    simp only [List.set_cons_zero, List.set_cons_succ, List.set_nil, List.eraseIdx_cons_zero, List.eraseIdx_cons_succ] at L
    have c := L.cell 2 rfl
    simp (implicitDefEqProofs := false) only [go_sem, c]
    exact L.rfin (hP0 ▸ hp) (.inr ⟨rfl, rfl⟩)
  replace hp := hp.trans (liX_else fun ts h => by rw [← ht ts h]; exact k1)
  simp (implicitDefEqProofs := false) only [go_sem, ct, k1]
  refine ris_go L [116, 114, 117, 101] (fun ts H7 hσ e L => ?_) fun H7 e L => ?_
  · replace hp : P0 = liX (ret (.mk 45 [] 0 t.at_ [])) (.ok ts.tail) := by
      rw [hp, hσ]
      simp only [liX, e, if_true, ht ts hσ]
      rfl
    simp (implicitDefEqProofs := false) only [go_sem]
    refine L.stoOne 0 rfl (by simp) rfl fun H8 L => ?_
    simp only [List.set_cons_zero, List.set_cons_succ, List.set_nil, List.eraseIdx_cons_zero, List.eraseIdx_cons_succ] at L
    simp (implicitDefEqProofs := false) only [go_sem]
    obtain ⟨iI, oI, bI, dI, aI, hbI, hCI⟩ := L.rs.ex
    have cI := hbI.cell
    unfold cells at cI
    obtain ⟨hwI, hCI'⟩ := rinc hCI L.rs (isB_kind e)
    first | unfold ptr | skip
    simp (implicitDefEqProofs := false) only [go_sem, cI, hwI]
    refine rsto hs L hbI (by decide) rfl rfl hCI' fun HI L hbI => ?_
    simp (implicitDefEqProofs := false) only [go_sem]
    have c := L.cell 0 rfl
    simp (implicitDefEqProofs := false) only [go_sem, c]
    refine L.stoAll 2 rfl rfl (one_agg (t := []) rfl) fun HZ L => ?_
    simp only [List.set_cons_zero, List.set_cons_succ, List.set_nil, List.eraseIdx_cons_zero, List.eraseIdx_cons_succ] at L
    have c := L.cell 2 rfl
    simp (implicitDefEqProofs := false) only [go_sem, c]
    exact L.rfin (hP0 ▸ hp) (.inr ⟨rfl, rfl⟩)
  replace hp := hp.trans (liX_no e)
  simp (implicitDefEqProofs := false) only [go_sem]
  refine ris_go L [102, 97, 108, 115, 101] (fun ts H7 hσ e L => ?_) fun H7 e L => ?_
  · replace hp : P0 = liX (ret (.mk 46 [] 0 t.at_ [])) (.ok ts.tail) := by
      rw [hp, hσ]
      simp only [liX, e, if_true, ht ts hσ]
      rfl
    simp (implicitDefEqProofs := false) only [go_sem]
    refine L.stoOne 0 rfl (by simp) rfl fun H8 L => ?_
    simp only [List.set_cons_zero, List.set_cons_succ, List.set_nil, List.eraseIdx_cons_zero, List.eraseIdx_cons_succ] at L
    simp (implicitDefEqProofs := false) only [go_sem]
    obtain ⟨iI, oI, bI, dI, aI, hbI, hCI⟩ := L.rs.ex
    have cI := hbI.cell
    unfold cells at cI
    obtain ⟨hwI, hCI'⟩ := rinc hCI L.rs (isB_kind e)
    first | unfold ptr | skip
    simp (implicitDefEqProofs := false) only [go_sem, cI, hwI]
    refine rsto hs L hbI (by decide) rfl rfl hCI' fun HI L hbI => ?_
    simp (implicitDefEqProofs := false) only [go_sem]
    have c := L.cell 0 rfl
    simp (implicitDefEqProofs := false) only [go_sem, c]
    refine L.stoAll 2 rfl rfl (one_agg (t := []) rfl) fun HZ L => ?_
    simp only [List.set_cons_zero, List.set_cons_succ, List.set_nil, List.eraseIdx_cons_zero, List.eraseIdx_cons_succ] at L
    have c := L.cell 2 rfl
    simp (implicitDefEqProofs := false) only [go_sem, c]
    exact L.rfin (hP0 ▸ hp) (.inr ⟨rfl, rfl⟩)
  replace hp := hp.trans (liX_no e)
  simp (implicitDefEqProofs := false) only [go_sem]
  refine ris_go L [115] (fun ts H7 hσ e L => ?_) fun H7 e L => ?_
  · replace hp : P0 = liX (ret (.mk 49 [] 0 t.at_ [])) (.ok ts.tail) := by
      rw [hp, hσ]
      simp only [liX, e, if_true, ht ts hσ]
      rfl
    simp (implicitDefEqProofs := false) only [go_sem]
    refine L.stoOne 0 rfl (by simp) rfl fun H8 L => ?_
    simp only [List.set_cons_zero, List.set_cons_succ, List.set_nil, List.eraseIdx_cons_zero, List.eraseIdx_cons_succ] at L
    simp (implicitDefEqProofs := false) only [go_sem]
    obtain ⟨iI, oI, bI, dI, aI, hbI, hCI⟩ := L.rs.ex
    have cI := hbI.cell
    unfold cells at cI
    obtain ⟨hwI, hCI'⟩ := rinc hCI L.rs (isB_kind e)
    first | unfold ptr | skip
    simp (implicitDefEqProofs := false) only [go_sem, cI, hwI]
    refine rsto hs L hbI (by decide) rfl rfl hCI' fun HI L hbI => ?_
    simp (implicitDefEqProofs := false) only [go_sem]
    have c := L.cell 0 rfl
    simp (implicitDefEqProofs := false) only [go_sem, c]
    refine L.stoAll 2 rfl rfl (one_agg (t := []) rfl) fun HZ L => ?_
    simp only [List.set_cons_zero, List.set_cons_succ, List.set_nil, List.eraseIdx_cons_zero, List.eraseIdx_cons_succ] at L
    have c := L.cell 2 rfl
    simp (implicitDefEqProofs := false) only [go_sem, c]
    exact L.rfin (hP0 ▸ hp) (.inr ⟨rfl, rfl⟩)
  replace hp := hp.trans (liX_no e)
  simp (implicitDefEqProofs := false) only [go_sem]
  refine ris_go L [98, 111, 116, 116, 111, 109] (fun ts H7 hσ e L => ?_) fun H7 e L => ?_
  · replace hp : P0 = liX (ret (.mk 50 [] 0 t.at_ [])) (.ok ts.tail) := by
      rw [hp, hσ]
      simp only [liX, e, if_true, ht ts hσ]
      rfl
    simp (implicitDefEqProofs := false) only [go_sem]
    refine L.stoOne 0 rfl (by simp) rfl fun H8 L => ?_
    simp only [List.set_cons_zero, List.set_cons_succ, List.set_nil, List.eraseIdx_cons_zero, List.eraseIdx_cons_succ] at L
    simp (implicitDefEqProofs := false) only [go_sem]
    obtain ⟨iI, oI, bI, dI, aI, hbI, hCI⟩ := L.rs.ex
    have cI := hbI.cell
    unfold cells at cI
    obtain ⟨hwI, hCI'⟩ := rinc hCI L.rs (isB_kind e)
    first | unfold ptr | skip
    simp (implicitDefEqProofs := false) only [go_sem, cI, hwI]
    refine rsto hs L hbI (by decide) rfl rfl hCI' fun HI L hbI => ?_
    simp (implicitDefEqProofs := false) only [go_sem]
    have c := L.cell 0 rfl
    simp (implicitDefEqProofs := false) only [go_sem, c]
    refine L.stoAll 2 rfl rfl (one_agg (t := []) rfl) fun HZ L => ?_
    simp only [List.set_cons_zero, List.set_cons_succ, List.set_nil, List.eraseIdx_cons_zero, List.eraseIdx_cons_succ] at L
    have c := L.cell 2 rfl
    simp (implicitDefEqProofs := false) only [go_sem, c]
    exact L.rfin (hP0 ▸ hp) (.inr ⟨rfl, rfl⟩)
  replace hp := hp.trans (liX_no e)
  simp (implicitDefEqProofs := false) only [go_sem]
  refine ris_go L [40] (fun ts H7 hσ e L => ?_) fun H7 e L => ?_
  · replace hp : P0 = entP (loK k) [40] (fun x => bd x.1 fun n => bd (expP [41]) fun _ => ret n) ts := liX_yes hp hσ e
    simp (implicitDefEqProofs := false) only [go_sem]
    refine enter_spgo hs L (fun v H8 hk L => ?_) fun v j H8 hk L => ?_
    · rw [hk] at hp
      replace hp := hp.trans (entP_0 e)
      obtain ⟨iI, oI, bI, dI, aI, hbI, hCI⟩ := L.rs.ex
      obtain ⟨nI, _, _, rfl, _⟩ := hCI
      have cI := hbI.cell
      unfold cells at cI
      first | unfold ptr | skip
      simp (implicitDefEqProofs := false) only [go_sem, cI]
      replace hp : P0 = liX (ret (.mk 0 [] 0 t.at_ [])) (.error (6, (hd ts).at_)) := hp
      have L := (show RLv X H _ k _ _ _ from L.rto hs (Fr.refl _ _) (L.rs.lev k))
      have c := L.cell 0 rfl
      simp (implicitDefEqProofs := false) only [go_sem, c]
      refine L.stoAll 2 rfl rfl (one_agg (t := []) rfl) fun HZ L => ?_
      simp only [List.set_cons_zero, List.set_cons_succ, List.set_nil, List.eraseIdx_cons_zero, List.eraseIdx_cons_succ] at L
      have c := L.cell 2 rfl
      simp (implicitDefEqProofs := false) only [go_sem, c]
      exact L.rfin (hP0 ▸ hp) (.inr ⟨rfl, rfl⟩)
    · rw [hk] at hp
      replace hp := hp.trans (entP_s e)
      obtain ⟨iI, oI, bI, dI, aI, hbI, hCI⟩ := L.rs.ex
      have hbad : bI = false := by obtain ⟨m, _, _, h, _⟩ := hCI; exact h
      subst hbad
      have cI := hbI.cell
      unfold cells at cI
      first | unfold ptr | skip
      simp (implicitDefEqProofs := false) only [go_sem, cI]
      obtain ⟨hwI, hCI'⟩ := rinc hCI L.rs (isB_kind e)
      simp (implicitDefEqProofs := false) only [go_sem, cI, hwI]
      refine rsto hs L hbI (by decide) rfl rfl hCI' fun HI L hbI => ?_
      replace hp : P0 = liX (bd (lev j).1 fun n => bd (expP [41]) fun _ => ret n) (.ok ts.tail) := hp
      have hx := hex j hk
      simp (implicitDefEqProofs := false) only [go_sem]
      refine hx.goN hs L hp fun kk tt nn aa ks kv σ1 H9 L hp _ => ?_
      simp (implicitDefEqProofs := false) only [go_sem]
      refine L.stoAll 0 rfl rfl (one_agg (L.one' (ks := ks) (by simp))) fun H10 L => ?_
      simp only [List.set_cons_zero, List.set_cons_succ, List.set_nil, List.eraseIdx_cons_zero, List.eraseIdx_cons_succ] at L
      simp (implicitDefEqProofs := false) only [go_sem]
      refine (take_sp [41]).go hs L hp fun _ v σ2 H11 L hp _ _ => ?_
      have h64 : k ≤ 64 := Rs.k64 (ts := ts) (hσ ▸ hs)
      simp (implicitDefEqProofs := false) only [go_sem]
      obtain ⟨iI, oI, bI, dI, aI, hbI, hCI⟩ := L.rs.ex
      have cI := hbI.cell
      unfold cells at cI
      have hCI' := rdec hCI hk h64
      first | unfold ptr | skip
      simp (implicitDefEqProofs := false) only [go_sem, cI]
      refine rsto hs L hbI (by decide) rfl rfl hCI' fun HI L hbI => ?_
      simp (implicitDefEqProofs := false) only [go_sem]
      have c := L.cell 0 rfl
      simp (implicitDefEqProofs := false) only [go_sem, c]
      refine L.stoAll 2 rfl rfl (one_agg (L.one' (ks := ks) (by simp))) fun HZ L => ?_
      simp only [List.set_cons_zero, List.set_cons_succ, List.set_nil, List.eraseIdx_cons_zero, List.eraseIdx_cons_succ] at L
      have c := L.cell 2 rfl
      simp (implicitDefEqProofs := false) only [go_sem, c]
      exact L.rfin (hP0 ▸ hp) (.inl (by simp))
  replace hp := hp.trans (liX_no e)
  simp (implicitDefEqProofs := false) only [go_sem]
  refine (function_sp L.rs).mono ?_
  rintro v H8 ⟨rfl, hf8⟩
  have L := L.ext hf8
  cases ef : isFn σ with
  | false =>
    replace hp : P0 = liX (fun ts => .error (2, (hd ts).at_)) σ := hp.trans (liX_else fun ts h hc => by
      rw [h] at ef
      have h5 : (hd ts).kind = 5 → (hd ts).text ∉ fnList := by rw [← ht ts h]; exact hrng.2
      rw [(isFn_iff h5).2 hc] at ef; cases ef)
    simp (implicitDefEqProofs := false) only [go_sem]
    refine rfail_go hs L hp fun v e H9 L hp => ?_
    replace hp : P0 = liX (ret (.mk 0 [] 0 t.at_ [])) (.error e) := hp
    simp (implicitDefEqProofs := false) only [go_sem]
    have c := L.cell 0 rfl
    simp (implicitDefEqProofs := false) only [go_sem, c]
    refine L.stoAll 2 rfl rfl (one_agg (t := []) rfl) fun HZ L => ?_
    simp only [List.set_cons_zero, List.set_cons_succ, List.set_nil, List.eraseIdx_cons_zero, List.eraseIdx_cons_succ] at L
    have c := L.cell 2 rfl
    simp (implicitDefEqProofs := false) only [go_sem, c]
    exact L.rfin (hP0 ▸ hp) (.inr ⟨rfl, rfl⟩)
  | true =>
    obtain ⟨ts, hσ⟩ : ∃ ts, σ = .ok ts := by
      cases σ with
      | error e => cases ef
      | ok ts => exact ⟨ts, rfl⟩
    have hte := ht ts hσ
    have h5 : (hd ts).kind = 5 → (hd ts).text ∉ fnList := by rw [← hte]; exact hrng.2
    have hk2 : (hd ts).kind = 2 ∧ (hd ts).text ∈ fnList := (isFn_iff h5).1 (by rw [← hσ]; exact ef)
    have h64 : k ≤ 64 := Rs.k64 (ts := ts) (hσ ▸ hs)
    replace hp : P0 = entP (loK k) [40] (fun x => bd (listP (argP x.1 t.text)) fun l => ret (.mk 51 t.text 0 t.at_ l)) ts.tail := by
      rw [hp, hσ, hte]
      simp only [liX, if_pos hk2]
    rw [hσ] at L
    simp (implicitDefEqProofs := false) only [go_sem]
    refine L.stoOne 0 rfl (by simp) rfl fun H9 L => ?_
    simp only [List.set_cons_zero, List.set_cons_succ, List.set_nil, List.eraseIdx_cons_zero, List.eraseIdx_cons_succ] at L
    have ct := L.cell 1 rfl
    simp (implicitDefEqProofs := false) only [go_sem, ct, sv]
    refine L.stoOne 0 rfl (by simp) rfl fun H10 L => ?_
    simp only [List.set_cons_zero, List.set_cons_succ, List.set_nil, List.eraseIdx_cons_zero, List.eraseIdx_cons_succ] at L
    have L : RLv X H (.ok ts) k H10 [.blk b3 25 [.int .i64 51, sv t.text, .int .i64 0, .int .i64 t.at_, .slice none 0 0], .blk b2 41 (tkC t), .blk b1 25 [.int .i64 0, sv [], .int .i64 0, .int .i64 0, .slice none 0 0]] [] := L
    simp (implicitDefEqProofs := false) only [go_sem]
    have hk6 : (hd ts).kind ≠ 6 := by rw [hk2.1]; decide
    obtain ⟨iI, oI, bI, dI, aI, hbI, hCI⟩ := L.rs.ex
    have cI := hbI.cell
    unfold cells at cI
    obtain ⟨hwI, hCI'⟩ := rinc hCI L.rs hk6
    first | unfold ptr | skip
    simp (implicitDefEqProofs := false) only [go_sem, cI, hwI]
    refine rsto hs L hbI (by decide) rfl rfl hCI' fun HI L hbI => ?_
    simp (implicitDefEqProofs := false) only [go_sem]
    refine ris_go L [40] (fun ts' H11 hσ' e L => ?_) fun H11 e L => ?_
    · cases hσ'
      simp (implicitDefEqProofs := false) only [go_sem]
      refine enter_spgo hs L (fun v H12 hk L => ?_) fun v j H12 hk L => ?_
      · rw [hk] at hp
        replace hp := hp.trans (entP_0 e)
        obtain ⟨iI, oI, bI, dI, aI, hbI, hCI⟩ := L.rs.ex
        obtain ⟨nI, _, _, rfl, _⟩ := hCI
        have cI := hbI.cell
        unfold cells at cI
        first | unfold ptr | skip
        simp (implicitDefEqProofs := false) only [go_sem, cI]
        replace hp : P0 = liX (ret (.mk 51 t.text 0 t.at_ [])) (.error (6, (hd ts.tail).at_)) := hp
        have L := (show RLv X H _ k _ _ _ from L.rto hs (Fr.refl _ _) (L.rs.lev k))
        have c := L.cell 0 rfl
        simp (implicitDefEqProofs := false) only [go_sem, c]
        refine L.stoAll 2 rfl rfl (one_agg rfl) fun HZ L => ?_
        simp only [List.set_cons_zero, List.set_cons_succ, List.set_nil, List.eraseIdx_cons_zero, List.eraseIdx_cons_succ] at L
        have c := L.cell 2 rfl
        simp (implicitDefEqProofs := false) only [go_sem, c]
        exact L.rfin (hP0 ▸ hp) (.inr ⟨rfl, rfl⟩)
      · rw [hk] at hp
        replace hp := hp.trans (entP_s e)
        obtain ⟨iI, oI, bI, dI, aI, hbI, hCI⟩ := L.rs.ex
        have hbad : bI = false := by obtain ⟨m, _, _, h, _⟩ := hCI; exact h
        subst hbad
        have cI := hbI.cell
        unfold cells at cI
        first | unfold ptr | skip
        simp (implicitDefEqProofs := false) only [go_sem, cI]
        obtain ⟨hwI, hCI'⟩ := rinc hCI L.rs (isB_kind e)
        simp (implicitDefEqProofs := false) only [go_sem, cI, hwI]
        refine rsto hs L hbI (by decide) rfl rfl hCI' fun HI L hbI => ?_
        have hx := hex j hk
        have harg := argument_sp hx t.text
        have hdn : Dn (argP (lev j).1 t.text) := argP_dn (lev_dn j).1 _
        obtain ⟨cur, hcur⟩ : ∃ cur, cur = ts.tail.tail := ⟨_, rfl⟩
        rw [← hcur] at L hp
        have hlen := L.rs.len
        have hne := List.length_pos_iff.2 L.rs.nil
        have L := L.row0 25 5
        simp (implicitDefEqProofs := false) only [go_sem]
        refine ris_go L [41] (fun ts' H13 hσ' e L => ?_) fun H13 e L => ?_
        · cases hσ'
          replace hp : P0 = liX (bd (expP [41]) fun _ => ret (.mk 51 t.text 0 t.at_ [])) (.ok cur) := by
            rw [hp]
            unfold bd listP expP
            simp only [liX, e, if_true]
          have L := L.rowN' 0 [] rfl
          simp only [List.set_cons_zero, List.set_cons_succ, List.set_nil, List.eraseIdx_cons_zero, List.eraseIdx_cons_succ] at L
          simp (implicitDefEqProofs := false) only [go_sem]
          refine (take_sp [41]).go hs L hp fun _ v σ2 H18 L hp _ _ => ?_
          simp (implicitDefEqProofs := false) only [go_sem]
          obtain ⟨iI, oI, bI, dI, aI, hbI, hCI⟩ := L.rs.ex
          have cI := hbI.cell
          unfold cells at cI
          have hCI' := rdec hCI hk h64
          first | unfold ptr | skip
          simp (implicitDefEqProofs := false) only [go_sem, cI]
          refine rsto hs L hbI (by decide) rfl rfl hCI' fun HI L hbI => ?_
          simp (implicitDefEqProofs := false) only [go_sem]
          have c := L.cell 0 rfl
          simp (implicitDefEqProofs := false) only [go_sem, c]
          refine L.stoAll 2 rfl rfl (one_agg (L.one' (ks := []) (by simp))) fun HZ L => ?_
          simp only [List.set_cons_zero, List.set_cons_succ, List.set_nil, List.eraseIdx_cons_zero, List.eraseIdx_cons_succ] at L
          have c := L.cell 2 rfl
          simp (implicitDefEqProofs := false) only [go_sem, c]
          exact L.rfin (hP0 ▸ hp) (.inl (by simp))
        · replace hp : P0 = bd (listF (argP (lev j).1 t.text) cur.length []) (fun l => ret (.mk 51 t.text 0 t.at_ l)) cur := by
            rw [hp]
            have e' : isB [41] cur = false := e
            unfold bd listP
            simp only [e', Bool.false_eq_true, if_false]
          obtain ⟨f0, hf0⟩ : ∃ f0, cur.length = f0 + 1 := ⟨cur.length - 1, by omega⟩
          rw [hf0] at hp
          replace hp : P0 = liX (bd (argP (lev j).1 t.text) fun a => bd commaP fun m => bd (if m then listF (argP (lev j).1 t.text) f0 ([] ++ [a]) else ret ([] ++ [a])) (fun l => ret (.mk 51 t.text 0 t.at_ l))) (.ok cur) := by
            rw [hp]
            simp only [listF, bd_bd]
            exact bd_eq fun a r _ => bd_bd _ _ _ r
          have ct := L.cell 2 rfl
          have cn := L.cell 1 rfl
          simp (implicitDefEqProofs := false) only [go_sem, ct, cn, tkC]
          refine harg.goN hs L hp fun kk tt nn aa ks kv σ1 H14 L hp he => ?_
          have hl1 := lenX_le hdn he
          have cn := L.cell 1 rfl
          simp (implicitDefEqProofs := false) only [go_sem, cn]
          refine L.newS fun bA HA L => ?_
          have cn := L.cell 2 rfl
          simp (implicitDefEqProofs := false) only [go_sem, cn]
          refine L.appN' (ns := []) (ks := ks) 0 rfl (.inl (by simp)) (by simp) fun a c g' HB L => ?_
          simp only [List.set_cons_zero, List.set_cons_succ, List.set_nil, List.eraseIdx_cons_zero, List.eraseIdx_cons_succ] at L
          simp (implicitDefEqProofs := false) only [go_sem]
          refine L.stoOne 1 rfl (by simp) rfl fun HC L => ?_
          simp only [List.set_cons_zero, List.set_cons_succ, List.set_nil, List.eraseIdx_cons_zero, List.eraseIdx_cons_succ] at L
          have L := L.drop (List.Sublist.refl _) (ds' := []) (by simp)
          simp (implicitDefEqProofs := false) only [go_sem]
          refine vc_loop (fun (s : Sx × List Nd × (Option Addr × Nat)) H' => ∃ g f, RLv X H s.1 j H' [.row 25 5 (.slice s.2.2.1 s.2.1.length s.2.2.2) (s.2.1.map Nd.dat) g, .blk b3 25 [.int .i64 51, sv t.text, .int .i64 0, .int .i64 t.at_, .slice s.2.2.1 s.2.1.length s.2.2.2], .blk b2 41 (tkC t), .blk b1 25 [.int .i64 0, sv [], .int .i64 0, .int .i64 0, .slice none 0 0]] [] ∧
            P0 = liX (bd commaP fun m => bd (if m then listF (argP (lev j).1 t.text) f s.2.1 else ret s.2.1) (fun l => ret (.mk 51 t.text 0 t.at_ l))) s.1 ∧ lenX s.1 ≤ f + 1 ∧ s.2.1.length + lenX s.1 ≤ 1048577)
            (fun s => [(0, ptr X.b), (2, .pointer (some ⟨b1, 0, none⟩)), (3, .pointer (some ⟨b2, 0, none⟩)), (4, .pointer (some ⟨b3, 0, none⟩))]) (fun s => lenX s.1) (σ1, [] ++ [.mk kk tt nn aa ks], (a, c)) ?_ ?_ ?_
          · refine ⟨g', f0, L, hp, ?_, ?_⟩
            · have : lenX (.ok cur) = cur.length := rfl
              show lenX σ1 ≤ f0 + 1
              omega
            · have : lenX (.ok cur) = cur.length := rfl
              show ([] ++ [Nd.mk kk tt nn aa ks]).length + lenX σ1 ≤ 1048577
              simp only [List.length_append, List.length_cons, List.length_nil]; omega
          · simp (implicitDefEqProofs := false) only [go_sem, ptr]
          · rintro ⟨σ1, ns, va, vc⟩ H15 ⟨g, f, L, hp, hf, hle⟩
            simp only at L hp hf hle ⊢
            simp (implicitDefEqProofs := false) only [go_sem]
            refine ris_go L [44] (fun ts' H16 hσ' e L => ?_) fun H16 e L => ?_
            · rw [hσ'] at hp hf hle
              have hf1 : ts'.length ≤ f + 1 := hf
              have hle1 : ns.length + ts'.length ≤ 1048577 := hle
              have hm := List.length_pos_iff.2 (L.rs.more (isB_kind e))
              have hl3 := tl_lt e
              obtain ⟨f, rfl⟩ : ∃ f', f = f' + 1 := ⟨f - 1, by omega⟩
              replace hp : P0 = liX (bd (argP (lev j).1 t.text) fun a => bd commaP fun m => bd (if m then listF (argP (lev j).1 t.text) f (ns ++ [a]) else ret (ns ++ [a])) (fun l => ret (.mk 51 t.text 0 t.at_ l))) (.ok ts'.tail) := by
                rw [hp]
                show bd commaP _ ts' = _
                rw [bd_ok (a := true) (r := ts'.tail) (by simp [commaP, e])]
                simp only [if_true, listF, bd_bd]
                exact bd_eq fun a r _ => bd_bd _ _ _ r
              simp (implicitDefEqProofs := false) only [go_sem]
              obtain ⟨iI, oI, bI, dI, aI, hbI, hCI⟩ := L.rs.ex
              have cI := hbI.cell
              unfold cells at cI
              obtain ⟨hwI, hCI'⟩ := rinc hCI L.rs (isB_kind e)
              first | unfold ptr | skip
              simp (implicitDefEqProofs := false) only [go_sem, cI, hwI]
              refine rsto hs L hbI (by decide) rfl rfl hCI' fun HI L hbI => ?_
              have ct := L.cell 2 rfl
              have cn := L.cell 1 rfl
              simp (implicitDefEqProofs := false) only [go_sem, ct, cn, tkC]
              refine harg.goN hs L hp fun kk tt nn aa ks kv σ2 H17 L hp he => ?_
              have hl1 := lenX_le hdn he
              have hl2 : lenX (.ok ts'.tail) = ts'.tail.length := rfl
              have cn := L.cell 1 rfl
              simp (implicitDefEqProofs := false) only [go_sem, cn]
              refine L.newS fun bA HA L => ?_
              have cn := L.cell 2 rfl
              simp (implicitDefEqProofs := false) only [go_sem, cn]
              refine L.appN' (ns := ns) (ks := ks) 0 rfl (.inl (by simp)) (by omega) fun a c g' HB L => ?_
              simp only [List.set_cons_zero, List.set_cons_succ, List.set_nil, List.eraseIdx_cons_zero, List.eraseIdx_cons_succ] at L
              simp (implicitDefEqProofs := false) only [go_sem]
              refine L.stoOne 1 rfl (by simp) rfl fun HC L => ?_
              simp only [List.set_cons_zero, List.set_cons_succ, List.set_nil, List.eraseIdx_cons_zero, List.eraseIdx_cons_succ] at L
              simp (implicitDefEqProofs := false) only [go_sem]
              refine loopK_intro (σ2, ns ++ [.mk kk tt nn aa ks], (a, c)) ?_ ?_ ⟨g', f, L.drop (List.Sublist.refl _) (by simp), hp, ?_, ?_⟩
              · show lenX σ2 < lenX σ1
                rw [hσ']; show _ < ts'.length; omega
              · simp (implicitDefEqProofs := false) only [go_sem, ptr]
              · show lenX σ2 ≤ f + 1
                omega
              · show (ns ++ [Nd.mk kk tt nn aa ks]).length + lenX σ2 ≤ 1048577
                simp only [List.length_append, List.length_cons, List.length_nil]; omega
            · replace hp : P0 = liX (bd (expP [41]) fun _ => ret (.mk 51 t.text 0 t.at_ ns)) σ1 := by
                rw [hp]
                refine liX_eq fun ts' hσ' => ?_
                have e' := isX_of e ts' hσ'
                unfold bd commaP
                simp only [e', Bool.false_eq_true, if_false]
                unfold bd
                cases expP [41] ts' with
                | error e => rfl
                | ok x => rfl
              have L := L.rowN' 0 ns rfl
              simp only [List.set_cons_zero, List.set_cons_succ, List.set_nil, List.eraseIdx_cons_zero, List.eraseIdx_cons_succ] at L
              simp (implicitDefEqProofs := false) only [go_sem]
              refine (take_sp [41]).go hs L hp fun _ v σ2 H18 L hp _ _ => ?_
              simp (implicitDefEqProofs := false) only [go_sem]
              obtain ⟨iI, oI, bI, dI, aI, hbI, hCI⟩ := L.rs.ex
              have cI := hbI.cell
              unfold cells at cI
              have hCI' := rdec hCI hk h64
              first | unfold ptr | skip
              simp (implicitDefEqProofs := false) only [go_sem, cI]
              refine rsto hs L hbI (by decide) rfl rfl hCI' fun HI L hbI => ?_
              simp (implicitDefEqProofs := false) only [go_sem]
              have c := L.cell 0 rfl
              simp (implicitDefEqProofs := false) only [go_sem, c]
              refine L.stoAll 2 rfl rfl (one_agg (L.one' (ks := ns) (by simp))) fun HZ L => ?_
              simp only [List.set_cons_zero, List.set_cons_succ, List.set_nil, List.eraseIdx_cons_zero, List.eraseIdx_cons_succ] at L
              have c := L.cell 2 rfl
              simp (implicitDefEqProofs := false) only [go_sem, c]
              exact L.rfin (hP0 ▸ hp) (.inl (by simp))
    · replace hp : P0 = liX (fun ts => .error (2, (hd ts).at_)) (.ok ts.tail) := hp.trans (entP_no e)
      simp (implicitDefEqProofs := false) only [go_sem]
      refine rfail_go hs L hp fun v e H12 L hp => ?_
      replace hp : P0 = liX (ret (.mk 51 t.text 0 t.at_ [])) (.error e) := hp
      simp (implicitDefEqProofs := false) only [go_sem]
      have c := L.cell 0 rfl
      simp (implicitDefEqProofs := false) only [go_sem, c]
      refine L.stoAll 2 rfl rfl (one_agg rfl) fun HZ L => ?_
      simp only [List.set_cons_zero, List.set_cons_succ, List.set_nil, List.eraseIdx_cons_zero, List.eraseIdx_cons_succ] at L
      have c := L.cell 2 rfl
      simp (implicitDefEqProofs := false) only [go_sem, c]
      exact L.rfin (hP0 ▸ hp) (.inr ⟨rfl, rfl⟩)
end Go.Proofs.YtbgjgaaobnbijaaGreatDoor
end
section
/- Expressions of the specification: contracts. -/
set_option linter.unusedSimpArgs false
set_option linter.unusedVariables false
set_option maxRecDepth 8000
namespace Go.Proofs.YtbgjgaaobnbijaaGreatDoor
open Gx Go
theorem liX_text {γ : Type} {k : Int} {G : Bs → PP γ} {σ : Sx} : liX (bd (takeP k) fun t => G t.text) σ = liX (bd (textP k) G) σ := by
  unfold textP
  rw [liX_bd]
  exact liX_eq fun ts _ => bd_eq fun t r _ => rfl
set_option maxHeartbeats 2000000 in
theorem postfix_sp {k : Nat} (hex : ∀ j, k = j + 1 → ROk j 34 [] (lev j).1 NdR) (hprim : ROk k 91 [] (primP (loK k)) NdR) : ROk k 70 [] (postP (loK k)) NdR := by
  refine ⟨fun {X H σ} hs => ?_⟩
  refine calls_of_vc (args := [_]) Tryz.func70 c70ok (Nat.le_of_ble_eq_true rfl) ?_
  have L := hs.walk
  obtain ⟨P0, hP0⟩ : ∃ P0, P0 = liX (postP (loK k)) σ := ⟨_, rfl⟩
  have hp := hP0
  simp (implicitDefEqProofs := false) only [go_sem, c70]
  refine L.newP fun b1 H1 L => ?_
  simp (implicitDefEqProofs := false) only [go_sem]
  refine hprim.goN hs L hp fun kk tt nn aa ks kv σ1 H2 L hp he => ?_
  simp (implicitDefEqProofs := false) only [go_sem]
  refine L.newP fun b3 H3 L => ?_
  simp (implicitDefEqProofs := false) only [go_sem]
  refine L.stoAll 0 rfl rfl (one_agg (L.one' (ks := ks) (by simp))) fun H4 L => ?_
  simp only [List.set_cons_zero, List.set_cons_succ, List.set_nil, List.eraseIdx_cons_zero, List.eraseIdx_cons_succ] at L
  simp (implicitDefEqProofs := false) only [go_sem]
  refine vc_loop (fun (s : Sx × (Int × Bs × Int × Int × List Nd) × Value) H' => ∃ f, RLv X H s.1 k H' [.blk b3 25 [.int .i64 s.2.1.1, sv s.2.1.2.1, .int .i64 s.2.1.2.2.1, .int .i64 s.2.1.2.2.2.1, s.2.2], .blk b1 25 [.int .i64 0, sv [], .int .i64 0, .int .i64 0, .slice none 0 0]] [(kidsD s.2.1.2.2.2.2, [s.2.2])] ∧
    P0 = liX (postF (loK k) f (.mk s.2.1.1 s.2.1.2.1 s.2.1.2.2.1 s.2.1.2.2.2.1 s.2.1.2.2.2.2)) s.1 ∧ lenX s.1 ≤ f)
    (fun s => [(0, ptr X.b), (2, .pointer (some ⟨b1, 0, none⟩)), (3, .pointer (some ⟨b3, 0, none⟩))]) (fun s => lenX s.1) (σ1, (kk, tt, nn, aa, ks), kv) ?_ ?_ ?_
  · refine ⟨1048576, L, ?_, L.rs.lenX⟩
    rw [hp]
    refine liX_eq fun ts hts => ?_
    rw [hts] at L
    exact postF_fuel (loK_dn k) _ _ _ ts (Nat.le_refl _) L.rs.len
  · simp (implicitDefEqProofs := false) only [go_sem, ptr]
  · rintro ⟨σ1, ⟨kk, tt, nn, aa, ks⟩, kv⟩ H5 ⟨f, L, hp, hf⟩
    simp only at L hp hf ⊢
    simp (implicitDefEqProofs := false) only [go_sem]
    refine rtoken_go L fun t H6 L ht _ => ?_
    simp (implicitDefEqProofs := false) only [go_sem, tkC]
    refine L.newP fun b4 H7 L => ?_
    simp (implicitDefEqProofs := false) only [go_sem]
    refine L.stoAll 0 rfl rfl (one_agg (t := []) rfl) fun H8 L => ?_
    simp only [List.set_cons_zero, List.set_cons_succ, List.set_nil, List.eraseIdx_cons_zero, List.eraseIdx_cons_succ] at L
    simp (implicitDefEqProofs := false) only [go_sem]
    refine ris_go L [46] (fun ts H9 hσ e L => ?_) fun H9 e46 L => ?_
    · rw [hσ] at hp hf
      have hf1 : ts.length ≤ f := hf
      have hl := tl_lt e
      obtain ⟨f, rfl⟩ : ∃ f', f = f' + 1 := ⟨f - 1, by omega⟩
      replace hp : P0 = liX (bd (takeP 1) fun t' => postF (loK k) f (.mk 42 t'.text 0 t.at_ [.mk kk tt nn aa ks])) (.ok ts.tail) := by
        rw [hp, ht ts hσ]
        simp only [liX, postF, e, if_true]
      rw [liX_text (G := fun s => postF (loK k) f (.mk 42 s 0 t.at_ [.mk kk tt nn aa ks]))] at hp
      simp (implicitDefEqProofs := false) only [go_sem]
      obtain ⟨iI, oI, bI, dI, aI, hbI, hCI⟩ := L.rs.ex
      have cI := hbI.cell
      unfold cells at cI
      obtain ⟨hwI, hCI'⟩ := rinc hCI L.rs (isB_kind e)
      first | unfold ptr | skip
      simp (implicitDefEqProofs := false) only [go_sem, cI, hwI]
      refine rsto hs L hbI (by decide) rfl rfl hCI' fun HI L hbI => ?_
      simp (implicitDefEqProofs := false) only [go_sem]
      refine L.stoOne 0 rfl (by simp) rfl fun H10 L => ?_
      simp only [List.set_cons_zero, List.set_cons_succ, List.set_nil, List.eraseIdx_cons_zero, List.eraseIdx_cons_succ] at L
      simp (implicitDefEqProofs := false) only [go_sem]
      refine (text_sp 1 (by decide)).go hs L hp fun s v σ2 H11 L hp he hv => ?_
      have hl2 := lenX_le ((takeP_dn 1).bnd fun _ => Dn.ret _) he
      have hl3 : lenX (.ok ts.tail) = ts.tail.length := rfl
      cases hv
      simp (implicitDefEqProofs := false) only [go_sem, sv]
      refine L.stoOne 0 rfl (by simp) rfl fun H12 L => ?_
      simp only [List.set_cons_zero, List.set_cons_succ, List.set_nil, List.eraseIdx_cons_zero, List.eraseIdx_cons_succ] at L
      have c := L.cell 1 rfl
      simp (implicitDefEqProofs := false) only [go_sem, c]
      refine L.newS fun b5 H13 L => ?_
      have L := L.rowN1' (ks := ks) (by simp)
      have L := L.rowN' 0 [.mk kk tt nn aa ks] rfl
      simp only [List.set_cons_zero, List.set_cons_succ, List.set_nil, List.eraseIdx_cons_zero, List.eraseIdx_cons_succ] at L
      simp (implicitDefEqProofs := false) only [go_sem]
      refine L.stoOne 0 rfl (by simp) rfl fun H14 L => ?_
      simp only [List.set_cons_zero, List.set_cons_succ, List.set_nil, List.eraseIdx_cons_zero, List.eraseIdx_cons_succ] at L
      have c := L.cell 0 rfl
      simp (implicitDefEqProofs := false) only [go_sem, c]
      refine L.stoAll 1 rfl rfl (one_agg rfl) fun H15 L => ?_
      simp only [List.set_cons_zero, List.set_cons_succ, List.set_nil, List.eraseIdx_cons_zero, List.eraseIdx_cons_succ] at L
      simp (implicitDefEqProofs := false) only [go_sem]
      refine loopK_intro (σ2, (42, s, 0, t.at_, [.mk kk tt nn aa ks]), .slice (some ⟨b5, 0, none⟩) 1 1) ?_ ?_ ⟨f, L.drop (List.sublist_cons_self _ _) (by simp), hp, ?_⟩
      · show lenX σ2 < lenX σ1
        rw [hσ]; show _ < ts.length; omega
      · simp (implicitDefEqProofs := false) only [go_sem, ptr]
      · show lenX σ2 ≤ f
        omega
    simp (implicitDefEqProofs := false) only [go_sem]
    refine ris_go L [91] (fun ts H9 hσ e L => ?_) fun H9 e91 L => ?_
    · rw [hσ] at hp hf
      have hf1 : ts.length ≤ f := hf
      have hl := tl_lt e
      have h64 : k ≤ 64 := L.rs.k64
      obtain ⟨f, rfl⟩ : ∃ f', f = f' + 1 := ⟨f - 1, by omega⟩
      replace hp : P0 = entP (loK k) [91] (fun x => bd x.1 fun m => bd (expP [93]) fun _ => postF (loK k) f (.mk 43 [] 0 t.at_ [.mk kk tt nn aa ks, m])) ts := by
        have e46' := isX_of e46 ts hσ
        rw [hp, ht ts hσ]
        simp only [liX, postF, e46', e, if_true, Bool.false_eq_true, if_false]
      simp (implicitDefEqProofs := false) only [go_sem]
      refine enter_spgo hs L (fun v H12 hk L => ?_) fun v j H12 hk L => ?_
      · rw [hk] at hp
        replace hp := hp.trans (entP_0 e)
        obtain ⟨iI, oI, bI, dI, aI, hbI, hCI⟩ := L.rs.ex
        obtain ⟨nI, _, _, rfl, _⟩ := hCI
        have cI := hbI.cell
        unfold cells at cI
        first | unfold ptr | skip
        have c := L.cell 1 rfl
        simp (implicitDefEqProofs := false) only [go_sem, cI, c]
        replace hp : P0 = liX (ret (.mk kk tt nn aa ks)) (.error (6, (hd ts).at_)) := hp
        have L := (show RLv X H _ k _ _ _ from L.rto hs (Fr.refl _ _) (L.rs.lev k))
        refine L.stoAll 2 rfl rfl (one_agg (L.one' (ks := ks) (by simp))) fun HZ L => ?_
        simp only [List.set_cons_zero, List.set_cons_succ, List.set_nil, List.eraseIdx_cons_zero, List.eraseIdx_cons_succ] at L
        have c := L.cell 2 rfl
        simp (implicitDefEqProofs := false) only [go_sem, c]
        exact L.rfin (hP0 ▸ hp) (.inl (by simp))
      · rw [hk] at hp
        replace hp := hp.trans (entP_s e)
        obtain ⟨iI, oI, bI, dI, aI, hbI, hCI⟩ := L.rs.ex
        have hbad : bI = false := by obtain ⟨m, _, _, h, _⟩ := hCI; exact h
        subst hbad
        have cI := hbI.cell
        unfold cells at cI
        first | unfold ptr | skip
        simp (implicitDefEqProofs := false) only [go_sem, cI]
        obtain ⟨hwI, hCI'⟩ := rinc hCI L.rs (isB_kind e)
        simp (implicitDefEqProofs := false) only [go_sem, cI, hwI]
        refine rsto hs L hbI (by decide) rfl rfl hCI' fun HI L hbI => ?_
        replace hp : P0 = liX (bd (lev j).1 fun m => bd (expP [93]) fun _ => postF (loK k) f (.mk 43 [] 0 t.at_ [.mk kk tt nn aa ks, m])) (.ok ts.tail) := hk ▸ hp
        simp (implicitDefEqProofs := false) only [go_sem]
        refine L.stoOne 0 rfl (by simp) rfl fun H13 L => ?_
        simp only [List.set_cons_zero, List.set_cons_succ, List.set_nil, List.eraseIdx_cons_zero, List.eraseIdx_cons_succ] at L
        have c := L.cell 1 rfl
        simp (implicitDefEqProofs := false) only [go_sem, c]
        refine (hex j hk).goN hs L hp fun kk' tt' nn' aa' ks' kv' σ2 H14 L hp he => ?_
        have hl2 := lenX_le (lev_dn j).1 he
        have hl3 : lenX (.ok ts.tail) = ts.tail.length := rfl
        have c := L.cell 1 rfl
        simp (implicitDefEqProofs := false) only [go_sem, c]
        refine L.newS fun b5 H15 L => ?_
        have L := L.rowOwn (dl := [Nd.mk kk tt nn aa ks, Nd.mk kk' tt' nn' aa' ks'].map Nd.dat) (m := 5) (n := 2) (css := [[.int .i64 kk, sv tt, .int .i64 nn, .int .i64 aa, kv], [.int .i64 kk', sv tt', .int .i64 nn', .int .i64 aa', kv']]) (by simp only [List.flatten_cons, List.flatten_nil, List.append_nil, List.cons_append, List.nil_append]) (by simp) ((RepsP.nil.cons (L.ndr' (ks := ks') (by simp))).cons (L.ndr' (ks := ks) (by simp))) rfl (by simp [maxLen])
        have L := L.rowN' 0 [.mk kk tt nn aa ks, .mk kk' tt' nn' aa' ks'] rfl
        simp only [List.set_cons_zero, List.set_cons_succ, List.set_nil, List.eraseIdx_cons_zero, List.eraseIdx_cons_succ] at L
        simp (implicitDefEqProofs := false) only [go_sem]
        refine L.stoOne 0 rfl (by simp) rfl fun H16 L => ?_
        simp only [List.set_cons_zero, List.set_cons_succ, List.set_nil, List.eraseIdx_cons_zero, List.eraseIdx_cons_succ] at L
        simp (implicitDefEqProofs := false) only [go_sem]
        refine (take_sp [93]).go hs L hp fun _ v σ3 H17 L hp he _ => ?_
        have hl4 := lenX_le (expP_dn _) he
        simp (implicitDefEqProofs := false) only [go_sem]
        obtain ⟨iI, oI, bI, dI, aI, hbI, hCI⟩ := L.rs.ex
        have cI := hbI.cell
        unfold cells at cI
        have hCI' := rdec hCI hk h64
        first | unfold ptr | skip
        simp (implicitDefEqProofs := false) only [go_sem, cI]
        refine rsto hs L hbI (by decide) rfl rfl hCI' fun HI L hbI => ?_
        have c := L.cell 0 rfl
        simp (implicitDefEqProofs := false) only [go_sem, c]
        refine L.stoAll 1 rfl rfl (one_agg (t := []) rfl) fun H18 L => ?_
        simp only [List.set_cons_zero, List.set_cons_succ, List.set_nil, List.eraseIdx_cons_zero, List.eraseIdx_cons_succ] at L
        simp (implicitDefEqProofs := false) only [go_sem]
        refine loopK_intro (σ3, (43, [], 0, t.at_, [.mk kk tt nn aa ks, .mk kk' tt' nn' aa' ks']), .slice (some ⟨b5, 0, none⟩) 2 2) ?_ ?_ ⟨f, L.drop (List.sublist_cons_self _ _) (by simp), hp, ?_⟩
        · show lenX σ3 < lenX σ1
          rw [hσ]; show _ < ts.length; omega
        · simp (implicitDefEqProofs := false) only [go_sem, ptr]
        · show lenX σ3 ≤ f
          omega
    · replace hp : P0 = liX (ret (.mk kk tt nn aa ks)) σ1 := by
        rw [hp]
        refine liX_eq fun ts hσ => ?_
        have e1 := isX_of e46 ts hσ
        have e2 := isX_of e91 ts hσ
        cases f with
        | zero => rfl
        | succ f => simp only [postF, e1, e2, Bool.false_eq_true, if_false]; rfl
      have c := L.cell 1 rfl
      simp (implicitDefEqProofs := false) only [go_sem, c]
      refine L.stoAll 2 rfl rfl (one_agg (L.one' (ks := ks) (by simp))) fun HZ L => ?_
      simp only [List.set_cons_zero, List.set_cons_succ, List.set_nil, List.eraseIdx_cons_zero, List.eraseIdx_cons_succ] at L
      have c := L.cell 2 rfl
      simp (implicitDefEqProofs := false) only [go_sem, c]
      exact L.rfin (hP0 ▸ hp) (.inl (by simp))

theorem opAt_of {kd : Kd} {σ : Sx} (h : opX kd σ = 0) (ts : List Tk) (hσ : σ = .ok ts) : opAt kd ts = false := by
  subst hσ
  cases e : opAt kd ts with
  | false => rfl
  | true =>
    exfalso
    have h1 : opX kd (.ok ts) = kdOf kd (hd ts).text := by simp only [opX, e, if_true]
    rw [h1] at h
    unfold opAt at e
    simp [h] at e
theorem opX_yes {kd : Kd} {σ : Sx} (h : opX kd σ ≠ 0) : ∃ ts, σ = .ok ts ∧ opAt kd ts = true := by
  cases σ with
  | error e => exact absurd rfl h
  | ok ts =>
    refine ⟨ts, rfl, ?_⟩
    cases e : opAt kd ts with
    | true => rfl
    | false => exact absurd (by simp only [opX, e, Bool.false_eq_true, if_false]) h
theorem bin5_sp {k : Nat} (hop : ROk k 70 [] (postP (loK k)) NdR) : ROk k 54 [.int .i64 5] (postP (loK k)) NdR := by
  refine ⟨fun {X H σ} hs => ?_⟩
  refine calls_of_vc (args := [_, _]) Tryz.func54 c54ok (Nat.le_of_ble_eq_true rfl) ?_
  have L := hs.walk
  obtain ⟨P0, hP0⟩ : ∃ P0, P0 = liX (postP (loK k)) σ := ⟨_, rfl⟩
  have hp := hP0
  simp (implicitDefEqProofs := false) only [go_sem, c54]
  refine L.newP fun b1 H1 L => ?_
  simp (implicitDefEqProofs := false) only [go_sem]
  refine hop.goL hs L hp fun kk tt nn aa ks kv σ1 H2 L hp => ?_
  simp (implicitDefEqProofs := false) only [go_sem]
  refine L.stoAll 0 rfl rfl (one_agg (L.one' (ks := ks) (by simp))) fun HZ L => ?_
  simp only [List.set_cons_zero, List.set_cons_succ, List.set_nil, List.eraseIdx_cons_zero, List.eraseIdx_cons_succ] at L
  have c := L.cell 0 rfl
  simp (implicitDefEqProofs := false) only [go_sem, c]
  exact L.rfin (hP0 ▸ hp) (.inl (by simp))

set_option maxHeartbeats 2000000 in
theorem bin4_sp {k : Nat} (hop : ROk k 54 [.int .i64 5] (postP (loK k)) NdR) : ROk k 54 [.int .i64 4] (sumP (loK k)) NdR := by
  refine ⟨fun {X H σ} hs => ?_⟩
  refine calls_of_vc (args := [_, _]) Tryz.func54 c54ok (Nat.le_of_ble_eq_true rfl) ?_
  have L := hs.walk
  obtain ⟨P0, hP0⟩ : ∃ P0, P0 = liX (sumP (loK k)) σ := ⟨_, rfl⟩
  have hp := hP0
  have w1 : IntKind.i64.wrap 5 = 5 := rfl
  simp (implicitDefEqProofs := false) only [go_sem, c54, w1]
  refine L.newP fun b1 H1 L => ?_
  simp (implicitDefEqProofs := false) only [go_sem, w1]
  refine hop.goN hs L hp fun kk tt nn aa ks kv σ1 H2 L hp he => ?_
  simp (implicitDefEqProofs := false) only [go_sem]
  refine L.newP fun b3 H3 L => ?_
  simp (implicitDefEqProofs := false) only [go_sem]
  refine L.stoAll 0 rfl rfl (one_agg (L.one' (ks := ks) (by simp))) fun H4 L => ?_
  simp only [List.set_cons_zero, List.set_cons_succ, List.set_nil, List.eraseIdx_cons_zero, List.eraseIdx_cons_succ] at L
  simp (implicitDefEqProofs := false) only [go_sem]
  refine vc_loop (fun (s : Sx × (Int × Bs × Int × Int × List Nd) × Value) H' => ∃ f, RLv X H s.1 k H' [.blk b3 25 [.int .i64 s.2.1.1, sv s.2.1.2.1, .int .i64 s.2.1.2.2.1, .int .i64 s.2.1.2.2.2.1, s.2.2], .blk b1 25 [.int .i64 0, sv [], .int .i64 0, .int .i64 0, .slice none 0 0]] [(kidsD s.2.1.2.2.2.2, [s.2.2])] ∧
    P0 = liX (chainF (postP (loK k)) kSum f (.mk s.2.1.1 s.2.1.2.1 s.2.1.2.2.1 s.2.1.2.2.2.1 s.2.1.2.2.2.2)) s.1 ∧ lenX s.1 ≤ f)
    (fun s => [(0, ptr X.b), (1, .int .i64 4), (4, .pointer (some ⟨b1, 0, none⟩)), (6, .pointer (some ⟨b3, 0, none⟩))]) (fun s => lenX s.1) (σ1, (kk, tt, nn, aa, ks), kv) ?_ ?_ ?_
  · refine ⟨1048576, L, ?_, L.rs.lenX⟩
    rw [hp]
    refine liX_eq fun ts hts => ?_
    rw [hts] at L
    exact chainF_fuel (postP_dn (loK_dn k)) _ _ _ ts (Nat.le_refl _) L.rs.len
  · simp (implicitDefEqProofs := false) only [go_sem, ptr]
  · rintro ⟨σ1, ⟨kk, tt, nn, aa, ks⟩, kv⟩ H5 ⟨f, L, hp, hf⟩
    simp only at L hp hf ⊢
    simp (implicitDefEqProofs := false) only [go_sem]
    refine (op4_sp L.rs).mono ?_
    rintro v H6 ⟨rfl, hs6, hf6⟩
    have L := L.rto hs hf6 hs6
    by_cases ho : opX kSum σ1 = 0
    · replace hp : P0 = liX (ret (.mk kk tt nn aa ks)) σ1 := by
        rw [hp]
        refine liX_eq fun ts hσ => ?_
        have hno := opAt_of ho ts hσ
        cases f with
        | zero => rfl
        | succ f => simp only [chainF, hno, Bool.false_eq_true, if_false]; rfl
      have c := L.cell 0 rfl
      simp (implicitDefEqProofs := false) only [go_sem, ho, c]
      refine L.stoAll 1 rfl rfl (one_agg (L.one' (ks := ks) (by simp))) fun HZ L => ?_
      simp only [List.set_cons_zero, List.set_cons_succ, List.set_nil, List.eraseIdx_cons_zero, List.eraseIdx_cons_succ] at L
      have c := L.cell 1 rfl
      simp (implicitDefEqProofs := false) only [go_sem, c]
      exact L.rfin (hP0 ▸ hp) (.inl (by simp))
    · obtain ⟨ts, hσ, hop'⟩ := opX_yes ho
      have hib := opAt_isB hop'
      have hv : opX kSum σ1 = kdOf kSum (hd ts).text := by rw [hσ]; simp only [opX, hop', if_true]
      rw [hσ] at hp hf
      have hf1 : ts.length ≤ f := hf
      have hl := tl_lt hib
      obtain ⟨f, rfl⟩ : ∃ f', f = f' + 1 := ⟨f - 1, by omega⟩
      simp (implicitDefEqProofs := false) only [go_sem, ho]
      refine rtoken_go L fun t H7 L ht _ => ?_
      have L := (show RLv X H (.ok ts) k H7 _ _ from hσ ▸ L)
      replace hp : P0 = liX (bd (postP (loK k)) fun m => chainF (postP (loK k)) kSum f (.mk (kdOf kSum (hd ts).text) [] 0 t.at_ [.mk kk tt nn aa ks, m])) (.ok ts.tail) := by
        rw [hp, ht ts hσ]
        simp only [liX, chainF, hop', if_true]
      rw [hv]
      simp (implicitDefEqProofs := false) only [go_sem, tkC]
      refine L.newP fun b4 H8 L => ?_
      simp (implicitDefEqProofs := false) only [go_sem]
      refine L.stoAll 0 rfl rfl (one_agg (t := []) rfl) fun H9 L => ?_
      simp only [List.set_cons_zero, List.set_cons_succ, List.set_nil, List.eraseIdx_cons_zero, List.eraseIdx_cons_succ] at L
      simp (implicitDefEqProofs := false) only [go_sem]
      obtain ⟨iI, oI, bI, dI, aI, hbI, hCI⟩ := L.rs.ex
      have cI := hbI.cell
      unfold cells at cI
      obtain ⟨hwI, hCI'⟩ := rinc hCI L.rs (isB_kind hib)
      first | unfold ptr | skip
      simp (implicitDefEqProofs := false) only [go_sem, cI, hwI]
      refine rsto hs L hbI (by decide) rfl rfl hCI' fun HI L hbI => ?_
      have c := L.cell 1 rfl
      simp (implicitDefEqProofs := false) only [go_sem, c, w1]
      refine hop.goN hs L hp fun kk' tt' nn' aa' ks' kv' σ2 H10 L hp he => ?_
      have hl2 := lenX_le (postP_dn (loK_dn k)) he
      have hl3 : lenX (.ok ts.tail) = ts.tail.length := rfl
      have c := L.cell 1 rfl
      simp (implicitDefEqProofs := false) only [go_sem, c, w1]
      refine L.newS fun b5 H11 L => ?_
      have L := L.rowOwn (dl := [Nd.mk kk tt nn aa ks, Nd.mk kk' tt' nn' aa' ks'].map Nd.dat) (m := 5) (n := 2) (css := [[.int .i64 kk, sv tt, .int .i64 nn, .int .i64 aa, kv], [.int .i64 kk', sv tt', .int .i64 nn', .int .i64 aa', kv']]) (by simp only [List.flatten_cons, List.flatten_nil, List.append_nil, List.cons_append, List.nil_append]) (by simp) ((RepsP.nil.cons (L.ndr' (ks := ks') (by simp))).cons (L.ndr' (ks := ks) (by simp))) rfl (by simp [maxLen])
      have L := L.rowN' 0 [.mk kk tt nn aa ks, .mk kk' tt' nn' aa' ks'] rfl
      simp only [List.set_cons_zero, List.set_cons_succ, List.set_nil, List.eraseIdx_cons_zero, List.eraseIdx_cons_succ] at L
      simp (implicitDefEqProofs := false) only [go_sem]
      refine L.stoOne 0 rfl (by simp) rfl fun H12 L => ?_
      simp only [List.set_cons_zero, List.set_cons_succ, List.set_nil, List.eraseIdx_cons_zero, List.eraseIdx_cons_succ] at L
      have c := L.cell 0 rfl
      simp (implicitDefEqProofs := false) only [go_sem, c]
      refine L.stoAll 1 rfl rfl (one_agg (t := []) rfl) fun H13 L => ?_
      simp only [List.set_cons_zero, List.set_cons_succ, List.set_nil, List.eraseIdx_cons_zero, List.eraseIdx_cons_succ] at L
      simp (implicitDefEqProofs := false) only [go_sem]
      refine loopK_intro (σ2, (kdOf kSum (hd ts).text, [], 0, t.at_, [.mk kk tt nn aa ks, .mk kk' tt' nn' aa' ks']), .slice (some ⟨b5, 0, none⟩) 2 2) ?_ ?_ ⟨f, L.drop (List.sublist_cons_self _ _) (by simp), hp, ?_⟩
      · show lenX σ2 < lenX σ1
        rw [hσ]; show _ < ts.length; omega
      · simp (implicitDefEqProofs := false) only [go_sem, ptr]
      · show lenX σ2 ≤ f
        omega

set_option maxHeartbeats 2000000 in
theorem bin3_sp {k : Nat} (hop : ROk k 54 [.int .i64 4] (sumP (loK k)) NdR) : ROk k 54 [.int .i64 3] (joinP (loK k)) NdR := by
  refine ⟨fun {X H σ} hs => ?_⟩
  refine calls_of_vc (args := [_, _]) Tryz.func54 c54ok (Nat.le_of_ble_eq_true rfl) ?_
  have L := hs.walk
  obtain ⟨P0, hP0⟩ : ∃ P0, P0 = liX (joinP (loK k)) σ := ⟨_, rfl⟩
  have hp := hP0
  have w1 : IntKind.i64.wrap 4 = 4 := rfl
  simp (implicitDefEqProofs := false) only [go_sem, c54, w1]
  refine L.newP fun b1 H1 L => ?_
  simp (implicitDefEqProofs := false) only [go_sem, w1]
  refine hop.goN hs L hp fun kk tt nn aa ks kv σ1 H2 L hp he => ?_
  simp (implicitDefEqProofs := false) only [go_sem]
  refine L.newP fun b3 H3 L => ?_
  simp (implicitDefEqProofs := false) only [go_sem]
  refine L.stoAll 0 rfl rfl (one_agg (L.one' (ks := ks) (by simp))) fun H4 L => ?_
  simp only [List.set_cons_zero, List.set_cons_succ, List.set_nil, List.eraseIdx_cons_zero, List.eraseIdx_cons_succ] at L
  simp (implicitDefEqProofs := false) only [go_sem]
  refine vc_loop (fun (s : Sx × (Int × Bs × Int × Int × List Nd) × Value) H' => ∃ f, RLv X H s.1 k H' [.blk b3 25 [.int .i64 s.2.1.1, sv s.2.1.2.1, .int .i64 s.2.1.2.2.1, .int .i64 s.2.1.2.2.2.1, s.2.2], .blk b1 25 [.int .i64 0, sv [], .int .i64 0, .int .i64 0, .slice none 0 0]] [(kidsD s.2.1.2.2.2.2, [s.2.2])] ∧
    P0 = liX (chainF (sumP (loK k)) kJoin f (.mk s.2.1.1 s.2.1.2.1 s.2.1.2.2.1 s.2.1.2.2.2.1 s.2.1.2.2.2.2)) s.1 ∧ lenX s.1 ≤ f)
    (fun s => [(0, ptr X.b), (1, .int .i64 3), (4, .pointer (some ⟨b1, 0, none⟩)), (6, .pointer (some ⟨b3, 0, none⟩))]) (fun s => lenX s.1) (σ1, (kk, tt, nn, aa, ks), kv) ?_ ?_ ?_
  · refine ⟨1048576, L, ?_, L.rs.lenX⟩
    rw [hp]
    refine liX_eq fun ts hts => ?_
    rw [hts] at L
    exact chainF_fuel (sumP_dn (loK_dn k)) _ _ _ ts (Nat.le_refl _) L.rs.len
  · simp (implicitDefEqProofs := false) only [go_sem, ptr]
  · rintro ⟨σ1, ⟨kk, tt, nn, aa, ks⟩, kv⟩ H5 ⟨f, L, hp, hf⟩
    simp only at L hp hf ⊢
    simp (implicitDefEqProofs := false) only [go_sem]
    refine (op3_sp L.rs).mono ?_
    rintro v H6 ⟨rfl, hs6, hf6⟩
    have L := L.rto hs hf6 hs6
    by_cases ho : opX kJoin σ1 = 0
    · replace hp : P0 = liX (ret (.mk kk tt nn aa ks)) σ1 := by
        rw [hp]
        refine liX_eq fun ts hσ => ?_
        have hno := opAt_of ho ts hσ
        cases f with
        | zero => rfl
        | succ f => simp only [chainF, hno, Bool.false_eq_true, if_false]; rfl
      have c := L.cell 0 rfl
      simp (implicitDefEqProofs := false) only [go_sem, ho, c]
      refine L.stoAll 1 rfl rfl (one_agg (L.one' (ks := ks) (by simp))) fun HZ L => ?_
      simp only [List.set_cons_zero, List.set_cons_succ, List.set_nil, List.eraseIdx_cons_zero, List.eraseIdx_cons_succ] at L
      have c := L.cell 1 rfl
      simp (implicitDefEqProofs := false) only [go_sem, c]
      exact L.rfin (hP0 ▸ hp) (.inl (by simp))
    · obtain ⟨ts, hσ, hop'⟩ := opX_yes ho
      have hib := opAt_isB hop'
      have hv : opX kJoin σ1 = kdOf kJoin (hd ts).text := by rw [hσ]; simp only [opX, hop', if_true]
      rw [hσ] at hp hf
      have hf1 : ts.length ≤ f := hf
      have hl := tl_lt hib
      obtain ⟨f, rfl⟩ : ∃ f', f = f' + 1 := ⟨f - 1, by omega⟩
      simp (implicitDefEqProofs := false) only [go_sem, ho]
      refine rtoken_go L fun t H7 L ht _ => ?_
      have L := (show RLv X H (.ok ts) k H7 _ _ from hσ ▸ L)
      replace hp : P0 = liX (bd (sumP (loK k)) fun m => chainF (sumP (loK k)) kJoin f (.mk (kdOf kJoin (hd ts).text) [] 0 t.at_ [.mk kk tt nn aa ks, m])) (.ok ts.tail) := by
        rw [hp, ht ts hσ]
        simp only [liX, chainF, hop', if_true]
      rw [hv]
      simp (implicitDefEqProofs := false) only [go_sem, tkC]
      refine L.newP fun b4 H8 L => ?_
      simp (implicitDefEqProofs := false) only [go_sem]
      refine L.stoAll 0 rfl rfl (one_agg (t := []) rfl) fun H9 L => ?_
      simp only [List.set_cons_zero, List.set_cons_succ, List.set_nil, List.eraseIdx_cons_zero, List.eraseIdx_cons_succ] at L
      simp (implicitDefEqProofs := false) only [go_sem]
      obtain ⟨iI, oI, bI, dI, aI, hbI, hCI⟩ := L.rs.ex
      have cI := hbI.cell
      unfold cells at cI
      obtain ⟨hwI, hCI'⟩ := rinc hCI L.rs (isB_kind hib)
      first | unfold ptr | skip
      simp (implicitDefEqProofs := false) only [go_sem, cI, hwI]
      refine rsto hs L hbI (by decide) rfl rfl hCI' fun HI L hbI => ?_
      have c := L.cell 1 rfl
      simp (implicitDefEqProofs := false) only [go_sem, c, w1]
      refine hop.goN hs L hp fun kk' tt' nn' aa' ks' kv' σ2 H10 L hp he => ?_
      have hl2 := lenX_le (sumP_dn (loK_dn k)) he
      have hl3 : lenX (.ok ts.tail) = ts.tail.length := rfl
      have c := L.cell 1 rfl
      simp (implicitDefEqProofs := false) only [go_sem, c, w1]
      refine L.newS fun b5 H11 L => ?_
      have L := L.rowOwn (dl := [Nd.mk kk tt nn aa ks, Nd.mk kk' tt' nn' aa' ks'].map Nd.dat) (m := 5) (n := 2) (css := [[.int .i64 kk, sv tt, .int .i64 nn, .int .i64 aa, kv], [.int .i64 kk', sv tt', .int .i64 nn', .int .i64 aa', kv']]) (by simp only [List.flatten_cons, List.flatten_nil, List.append_nil, List.cons_append, List.nil_append]) (by simp) ((RepsP.nil.cons (L.ndr' (ks := ks') (by simp))).cons (L.ndr' (ks := ks) (by simp))) rfl (by simp [maxLen])
      have L := L.rowN' 0 [.mk kk tt nn aa ks, .mk kk' tt' nn' aa' ks'] rfl
      simp only [List.set_cons_zero, List.set_cons_succ, List.set_nil, List.eraseIdx_cons_zero, List.eraseIdx_cons_succ] at L
      simp (implicitDefEqProofs := false) only [go_sem]
      refine L.stoOne 0 rfl (by simp) rfl fun H12 L => ?_
      simp only [List.set_cons_zero, List.set_cons_succ, List.set_nil, List.eraseIdx_cons_zero, List.eraseIdx_cons_succ] at L
      have c := L.cell 0 rfl
      simp (implicitDefEqProofs := false) only [go_sem, c]
      refine L.stoAll 1 rfl rfl (one_agg (t := []) rfl) fun H13 L => ?_
      simp only [List.set_cons_zero, List.set_cons_succ, List.set_nil, List.eraseIdx_cons_zero, List.eraseIdx_cons_succ] at L
      simp (implicitDefEqProofs := false) only [go_sem]
      refine loopK_intro (σ2, (kdOf kJoin (hd ts).text, [], 0, t.at_, [.mk kk tt nn aa ks, .mk kk' tt' nn' aa' ks']), .slice (some ⟨b5, 0, none⟩) 2 2) ?_ ?_ ⟨f, L.drop (List.sublist_cons_self _ _) (by simp), hp, ?_⟩
      · show lenX σ2 < lenX σ1
        rw [hσ]; show _ < ts.length; omega
      · simp (implicitDefEqProofs := false) only [go_sem, ptr]
      · show lenX σ2 ≤ f
        omega
end Go.Proofs.YtbgjgaaobnbijaaGreatDoor
end
section
/- Expressions of the specification at all levels: contracts. -/
set_option linter.unusedSimpArgs false
set_option linter.unusedVariables false
set_option maxRecDepth 8000
namespace Go.Proofs.YtbgjgaaobnbijaaGreatDoor
open Gx Go
set_option maxHeartbeats 2000000 in
theorem bin2_sp {k : Nat} (hnot : ∀ j, k = j + 1 → ROk j 54 [.int .i64 2] (lev j).2 NdR) (hop : ROk k 54 [.int .i64 3] (joinP (loK k)) NdR) : ROk k 54 [.int .i64 2] (notP (loK k)) NdR := by
  refine ⟨fun {X H σ} hs => ?_⟩
  refine calls_of_vc (args := [_, _]) Tryz.func54 c54ok (Nat.le_of_ble_eq_true rfl) ?_
  have L := hs.walk
  obtain ⟨P0, hP0⟩ : ∃ P0, P0 = liX (notP (loK k)) σ := ⟨_, rfl⟩
  have hp := hP0
  unfold notP at hp
  have w1 : IntKind.i64.wrap 3 = 3 := rfl
  simp (implicitDefEqProofs := false) only [go_sem, c54, w1]
  refine L.newP fun b1 H1 L => ?_
  simp (implicitDefEqProofs := false) only [go_sem, w1]
  refine ris_go L [110, 111, 116] (fun ts H2 hσ e L => ?_) fun H2 e L => ?_
  · have hp2 := liX_yes hp hσ e
    replace hp : P0 = entP (loK k) [110, 111, 116] (fun x => bd x.2 fun n => ret (.mk 33 [] 0 (hd ts).at_ [n])) ts := hp2
    have h64 : k ≤ 64 := L.rs.k64
    simp (implicitDefEqProofs := false) only [go_sem]
    refine rtoken_go L fun t H3 L ht _ => ?_
    rw [← ht ts rfl] at hp
    simp (implicitDefEqProofs := false) only [go_sem, tkC]
    refine L.newP fun b2 H4 L => ?_
    simp (implicitDefEqProofs := false) only [go_sem]
    refine L.stoAll 0 rfl rfl (one_agg (t := []) rfl) fun H5 L => ?_
    simp only [List.set_cons_zero, List.set_cons_succ, List.set_nil, List.eraseIdx_cons_zero, List.eraseIdx_cons_succ] at L
    simp (implicitDefEqProofs := false) only [go_sem]
    refine enter_spgo hs L (fun v H12 hk L => ?_) fun v j H12 hk L => ?_
    · rw [hk] at hp
      replace hp := hp.trans (entP_0 e)
      obtain ⟨iI, oI, bI, dI, aI, hbI, hCI⟩ := L.rs.ex
      obtain ⟨nI, _, _, rfl, _⟩ := hCI
      have cI := hbI.cell
      unfold cells at cI
      first | unfold ptr | skip
      simp (implicitDefEqProofs := false) only [go_sem, cI]
      replace hp : P0 = liX (ret (.mk 33 [] 0 t.at_ [])) (.error (6, (hd ts).at_)) := hp
      have L := (show RLv X H _ k _ _ _ from L.rto hs (Fr.refl _ _) (L.rs.lev k))
      have c := L.cell 0 rfl
      simp (implicitDefEqProofs := false) only [go_sem, c]
      refine L.stoAll 1 rfl rfl (one_agg (t := []) rfl) fun HZ L => ?_
      simp only [List.set_cons_zero, List.set_cons_succ, List.set_nil, List.eraseIdx_cons_zero, List.eraseIdx_cons_succ] at L
      have c := L.cell 1 rfl
      simp (implicitDefEqProofs := false) only [go_sem, c]
      exact L.rfin (hP0 ▸ hp) (.inr ⟨rfl, rfl⟩)
    · rw [hk] at hp
      replace hp := hp.trans (entP_s e)
      obtain ⟨iI, oI, bI, dI, aI, hbI, hCI⟩ := L.rs.ex
      have hbad : bI = false := by obtain ⟨m, _, _, h, _⟩ := hCI; exact h
      subst hbad
      have cI := hbI.cell
      unfold cells at cI
      first | unfold ptr | skip
      simp (implicitDefEqProofs := false) only [go_sem, cI]
      obtain ⟨hwI, hCI'⟩ := rinc hCI L.rs (isB_kind e)
      simp (implicitDefEqProofs := false) only [go_sem, cI, hwI]
      refine rsto hs L hbI (by decide) rfl rfl hCI' fun HI L hbI => ?_
      replace hp : P0 = liX (bd (lev j).2 fun n => ret (.mk 33 [] 0 t.at_ [n])) (.ok ts.tail) := hp
      simp (implicitDefEqProofs := false) only [go_sem]
      refine (hnot j hk).goN hs L hp fun kk tt nn aa ks kv σ2 H14 L hp he => ?_
      simp (implicitDefEqProofs := false) only [go_sem]
      refine L.newS fun b5 H15 L => ?_
      have L := L.rowN1' (ks := ks) (by simp)
      have L := L.rowN' 0 [.mk kk tt nn aa ks] rfl
      simp only [List.set_cons_zero, List.set_cons_succ, List.set_nil, List.eraseIdx_cons_zero, List.eraseIdx_cons_succ] at L
      simp (implicitDefEqProofs := false) only [go_sem]
      refine L.stoOne 0 rfl (by simp) rfl fun H16 L => ?_
      simp only [List.set_cons_zero, List.set_cons_succ, List.set_nil, List.eraseIdx_cons_zero, List.eraseIdx_cons_succ] at L
      simp (implicitDefEqProofs := false) only [go_sem]
      obtain ⟨iI, oI, bI, dI, aI, hbI, hCI⟩ := L.rs.ex
      have cI := hbI.cell
      unfold cells at cI
      have hCI' := rdec hCI hk h64
      first | unfold ptr | skip
      simp (implicitDefEqProofs := false) only [go_sem, cI]
      refine rsto hs L hbI (by decide) rfl rfl hCI' fun HI L hbI => ?_
      have c := L.cell 0 rfl
      simp (implicitDefEqProofs := false) only [go_sem, c]
      refine L.stoAll 1 rfl rfl (one_agg (t := []) rfl) fun HZ L => ?_
      simp only [List.set_cons_zero, List.set_cons_succ, List.set_nil, List.eraseIdx_cons_zero, List.eraseIdx_cons_succ] at L
      have c := L.cell 1 rfl
      simp (implicitDefEqProofs := false) only [go_sem, c]
      exact L.rfin (hP0 ▸ hp) (.inl (by simp))
  · replace hp : P0 = liX (cmpP (loK k)) σ := hp.trans (liX_no e)
    simp (implicitDefEqProofs := false) only [go_sem, w1]
    refine hop.goN hs L hp fun kk tt nn aa ks kv σ1 H3 L hp _ => ?_
    simp (implicitDefEqProofs := false) only [go_sem]
    refine L.newP fun b3 H4 L => ?_
    simp (implicitDefEqProofs := false) only [go_sem]
    refine L.stoAll 0 rfl rfl (one_agg (L.one' (ks := ks) (by simp))) fun H5 L => ?_
    simp only [List.set_cons_zero, List.set_cons_succ, List.set_nil, List.eraseIdx_cons_zero, List.eraseIdx_cons_succ] at L
    simp (implicitDefEqProofs := false) only [go_sem]
    refine vc_loop (fun (_ : Unit) H' => RLv X H σ1 k H' [.blk b3 25 [.int .i64 kk, sv tt, .int .i64 nn, .int .i64 aa, kv], .blk b1 25 [.int .i64 0, sv [], .int .i64 0, .int .i64 0, .slice none 0 0]] [(kidsD ks, [kv])])
      (fun _ => [(0, ptr X.b), (1, .int .i64 2), (4, .pointer (some ⟨b1, 0, none⟩)), (6, .pointer (some ⟨b3, 0, none⟩))]) (fun _ => 0) () ?_ ?_ ?_
    · exact L
    · simp (implicitDefEqProofs := false) only [go_sem, ptr]
    · rintro ⟨⟩ H5 L
      simp (implicitDefEqProofs := false) only [go_sem]
      refine (op2_sp L.rs).mono ?_
      rintro v H6 ⟨rfl, hs6, hf6⟩
      have L := L.rto hs hf6 hs6
      by_cases ho : opX kCmp σ1 = 0
      · replace hp : P0 = liX (ret (.mk kk tt nn aa ks)) σ1 := by
          rw [hp]
          refine liX_eq fun ts hσ => ?_
          have hno := opAt_of ho ts hσ
          simp only [hno, Bool.false_eq_true, if_false]; rfl
        have c := L.cell 0 rfl
        simp (implicitDefEqProofs := false) only [go_sem, ho, c]
        refine L.stoAll 1 rfl rfl (one_agg (L.one' (ks := ks) (by simp))) fun HZ L => ?_
        simp only [List.set_cons_zero, List.set_cons_succ, List.set_nil, List.eraseIdx_cons_zero, List.eraseIdx_cons_succ] at L
        have c := L.cell 1 rfl
        simp (implicitDefEqProofs := false) only [go_sem, c]
        exact L.rfin (hP0 ▸ hp) (.inl (by simp))
      · obtain ⟨ts, hσ, hop'⟩ := opX_yes ho
        have hib := opAt_isB hop'
        have hv : opX kCmp σ1 = kdOf kCmp (hd ts).text := by rw [hσ]; simp only [opX, hop', if_true]
        simp (implicitDefEqProofs := false) only [go_sem, ho]
        refine rtoken_go L fun t H7 L ht _ => ?_
        have L := (show RLv X H (.ok ts) k H7 _ _ from hσ ▸ L)
        replace hp : P0 = liX (bd (joinP (loK k)) fun m => ret (.mk (kdOf kCmp (hd ts).text) [] 0 t.at_ [.mk kk tt nn aa ks, m])) (.ok ts.tail) := by
          rw [hp, hσ, ht ts hσ]
          simp only [liX, hop', if_true]
        rw [hv]
        simp (implicitDefEqProofs := false) only [go_sem, tkC]
        refine L.newP fun b4 H8 L => ?_
        simp (implicitDefEqProofs := false) only [go_sem]
        refine L.stoAll 0 rfl rfl (one_agg (t := []) rfl) fun H9 L => ?_
        simp only [List.set_cons_zero, List.set_cons_succ, List.set_nil, List.eraseIdx_cons_zero, List.eraseIdx_cons_succ] at L
        simp (implicitDefEqProofs := false) only [go_sem]
        obtain ⟨iI, oI, bI, dI, aI, hbI, hCI⟩ := L.rs.ex
        have cI := hbI.cell
        unfold cells at cI
        obtain ⟨hwI, hCI'⟩ := rinc hCI L.rs (isB_kind hib)
        first | unfold ptr | skip
        simp (implicitDefEqProofs := false) only [go_sem, cI, hwI]
        refine rsto hs L hbI (by decide) rfl rfl hCI' fun HI L hbI => ?_
        have c := L.cell 1 rfl
        simp (implicitDefEqProofs := false) only [go_sem, c, w1]
        refine hop.goN hs L hp fun kk' tt' nn' aa' ks' kv' σ2 H10 L hp he => ?_
        have c := L.cell 1 rfl
        simp (implicitDefEqProofs := false) only [go_sem, c, w1]
        refine L.newS fun b5 H11 L => ?_
        have L := L.rowOwn (dl := [Nd.mk kk tt nn aa ks, Nd.mk kk' tt' nn' aa' ks'].map Nd.dat) (m := 5) (n := 2) (css := [[.int .i64 kk, sv tt, .int .i64 nn, .int .i64 aa, kv], [.int .i64 kk', sv tt', .int .i64 nn', .int .i64 aa', kv']]) (by simp only [List.flatten_cons, List.flatten_nil, List.append_nil, List.cons_append, List.nil_append]) (by simp) ((RepsP.nil.cons (L.ndr' (ks := ks') (by simp))).cons (L.ndr' (ks := ks) (by simp))) rfl (by simp [maxLen])
        have L := L.rowN' 0 [.mk kk tt nn aa ks, .mk kk' tt' nn' aa' ks'] rfl
        simp only [List.set_cons_zero, List.set_cons_succ, List.set_nil, List.eraseIdx_cons_zero, List.eraseIdx_cons_succ] at L
        simp (implicitDefEqProofs := false) only [go_sem]
        refine L.stoOne 0 rfl (by simp) rfl fun H12 L => ?_
        simp only [List.set_cons_zero, List.set_cons_succ, List.set_nil, List.eraseIdx_cons_zero, List.eraseIdx_cons_succ] at L
        have c := L.cell 0 rfl
        simp (implicitDefEqProofs := false) only [go_sem, c]
        refine L.stoAll 1 rfl rfl (one_agg (t := []) rfl) fun H13 L => ?_
        simp only [List.set_cons_zero, List.set_cons_succ, List.set_nil, List.eraseIdx_cons_zero, List.eraseIdx_cons_succ] at L
        have c := L.cell 1 rfl
        simp (implicitDefEqProofs := false) only [go_sem, c]
        refine L.stoAll 2 rfl rfl (one_agg (t := []) rfl) fun H14 L => ?_
        simp only [List.set_cons_zero, List.set_cons_succ, List.set_nil, List.eraseIdx_cons_zero, List.eraseIdx_cons_succ] at L
        have c := L.cell 2 rfl
        simp (implicitDefEqProofs := false) only [go_sem, c]
        exact L.rfin (hP0 ▸ hp) (.inl (by simp))

set_option maxHeartbeats 2000000 in
theorem bin1_sp {k : Nat} (hop : ROk k 54 [.int .i64 2] (notP (loK k)) NdR) : ROk k 54 [.int .i64 1] (andP (loK k)) NdR := by
  refine ⟨fun {X H σ} hs => ?_⟩
  refine calls_of_vc (args := [_, _]) Tryz.func54 c54ok (Nat.le_of_ble_eq_true rfl) ?_
  have L := hs.walk
  obtain ⟨P0, hP0⟩ : ∃ P0, P0 = liX (andP (loK k)) σ := ⟨_, rfl⟩
  have hp := hP0
  have w1 : IntKind.i64.wrap 2 = 2 := rfl
  simp (implicitDefEqProofs := false) only [go_sem, c54, w1]
  refine L.newP fun b1 H1 L => ?_
  simp (implicitDefEqProofs := false) only [go_sem, w1]
  refine hop.goN hs L hp fun kk tt nn aa ks kv σ1 H2 L hp he => ?_
  simp (implicitDefEqProofs := false) only [go_sem]
  refine L.newP fun b3 H3 L => ?_
  simp (implicitDefEqProofs := false) only [go_sem]
  refine L.stoAll 0 rfl rfl (one_agg (L.one' (ks := ks) (by simp))) fun H4 L => ?_
  simp only [List.set_cons_zero, List.set_cons_succ, List.set_nil, List.eraseIdx_cons_zero, List.eraseIdx_cons_succ] at L
  simp (implicitDefEqProofs := false) only [go_sem]
  refine vc_loop (fun (s : Sx × (Int × Bs × Int × Int × List Nd) × Value) H' => ∃ f, RLv X H s.1 k H' [.blk b3 25 [.int .i64 s.2.1.1, sv s.2.1.2.1, .int .i64 s.2.1.2.2.1, .int .i64 s.2.1.2.2.2.1, s.2.2], .blk b1 25 [.int .i64 0, sv [], .int .i64 0, .int .i64 0, .slice none 0 0]] [(kidsD s.2.1.2.2.2.2, [s.2.2])] ∧
    P0 = liX (chainF (notP (loK k)) kAnd f (.mk s.2.1.1 s.2.1.2.1 s.2.1.2.2.1 s.2.1.2.2.2.1 s.2.1.2.2.2.2)) s.1 ∧ lenX s.1 ≤ f)
    (fun s => [(0, ptr X.b), (1, .int .i64 1), (4, .pointer (some ⟨b1, 0, none⟩)), (6, .pointer (some ⟨b3, 0, none⟩))]) (fun s => lenX s.1) (σ1, (kk, tt, nn, aa, ks), kv) ?_ ?_ ?_
  · refine ⟨1048576, L, ?_, L.rs.lenX⟩
    rw [hp]
    refine liX_eq fun ts hts => ?_
    rw [hts] at L
    exact chainF_fuel (notP_dn (loK_dn k)) _ _ _ ts (Nat.le_refl _) L.rs.len
  · simp (implicitDefEqProofs := false) only [go_sem, ptr]
  · rintro ⟨σ1, ⟨kk, tt, nn, aa, ks⟩, kv⟩ H5 ⟨f, L, hp, hf⟩
    simp only at L hp hf ⊢
    simp (implicitDefEqProofs := false) only [go_sem]
    refine (op1_sp L.rs).mono ?_
    rintro v H6 ⟨rfl, hs6, hf6⟩
    have L := L.rto hs hf6 hs6
    by_cases ho : opX kAnd σ1 = 0
    · replace hp : P0 = liX (ret (.mk kk tt nn aa ks)) σ1 := by
        rw [hp]
        refine liX_eq fun ts hσ => ?_
        have hno := opAt_of ho ts hσ
        cases f with
        | zero => rfl
        | succ f => simp only [chainF, hno, Bool.false_eq_true, if_false]; rfl
      have c := L.cell 0 rfl
      simp (implicitDefEqProofs := false) only [go_sem, ho, c]
      refine L.stoAll 1 rfl rfl (one_agg (L.one' (ks := ks) (by simp))) fun HZ L => ?_
      simp only [List.set_cons_zero, List.set_cons_succ, List.set_nil, List.eraseIdx_cons_zero, List.eraseIdx_cons_succ] at L
      have c := L.cell 1 rfl
      simp (implicitDefEqProofs := false) only [go_sem, c]
      exact L.rfin (hP0 ▸ hp) (.inl (by simp))
    · obtain ⟨ts, hσ, hop'⟩ := opX_yes ho
      have hib := opAt_isB hop'
      have hv : opX kAnd σ1 = kdOf kAnd (hd ts).text := by rw [hσ]; simp only [opX, hop', if_true]
      rw [hσ] at hp hf
      have hf1 : ts.length ≤ f := hf
      have hl := tl_lt hib
      obtain ⟨f, rfl⟩ : ∃ f', f = f' + 1 := ⟨f - 1, by omega⟩
      simp (implicitDefEqProofs := false) only [go_sem, ho]
      refine rtoken_go L fun t H7 L ht _ => ?_
      have L := (show RLv X H (.ok ts) k H7 _ _ from hσ ▸ L)
      replace hp : P0 = liX (bd (notP (loK k)) fun m => chainF (notP (loK k)) kAnd f (.mk (kdOf kAnd (hd ts).text) [] 0 t.at_ [.mk kk tt nn aa ks, m])) (.ok ts.tail) := by
        rw [hp, ht ts hσ]
        simp only [liX, chainF, hop', if_true]
      rw [hv]
      simp (implicitDefEqProofs := false) only [go_sem, tkC]
      refine L.newP fun b4 H8 L => ?_
      simp (implicitDefEqProofs := false) only [go_sem]
      refine L.stoAll 0 rfl rfl (one_agg (t := []) rfl) fun H9 L => ?_
      simp only [List.set_cons_zero, List.set_cons_succ, List.set_nil, List.eraseIdx_cons_zero, List.eraseIdx_cons_succ] at L
      simp (implicitDefEqProofs := false) only [go_sem]
      obtain ⟨iI, oI, bI, dI, aI, hbI, hCI⟩ := L.rs.ex
      have cI := hbI.cell
      unfold cells at cI
      obtain ⟨hwI, hCI'⟩ := rinc hCI L.rs (isB_kind hib)
      first | unfold ptr | skip
      simp (implicitDefEqProofs := false) only [go_sem, cI, hwI]
      refine rsto hs L hbI (by decide) rfl rfl hCI' fun HI L hbI => ?_
      have c := L.cell 1 rfl
      simp (implicitDefEqProofs := false) only [go_sem, c, w1]
      refine hop.goN hs L hp fun kk' tt' nn' aa' ks' kv' σ2 H10 L hp he => ?_
      have hl2 := lenX_le (notP_dn (loK_dn k)) he
      have hl3 : lenX (.ok ts.tail) = ts.tail.length := rfl
      have c := L.cell 1 rfl
      simp (implicitDefEqProofs := false) only [go_sem, c, w1]
      refine L.newS fun b5 H11 L => ?_
      have L := L.rowOwn (dl := [Nd.mk kk tt nn aa ks, Nd.mk kk' tt' nn' aa' ks'].map Nd.dat) (m := 5) (n := 2) (css := [[.int .i64 kk, sv tt, .int .i64 nn, .int .i64 aa, kv], [.int .i64 kk', sv tt', .int .i64 nn', .int .i64 aa', kv']]) (by simp only [List.flatten_cons, List.flatten_nil, List.append_nil, List.cons_append, List.nil_append]) (by simp) ((RepsP.nil.cons (L.ndr' (ks := ks') (by simp))).cons (L.ndr' (ks := ks) (by simp))) rfl (by simp [maxLen])
      have L := L.rowN' 0 [.mk kk tt nn aa ks, .mk kk' tt' nn' aa' ks'] rfl
      simp only [List.set_cons_zero, List.set_cons_succ, List.set_nil, List.eraseIdx_cons_zero, List.eraseIdx_cons_succ] at L
      simp (implicitDefEqProofs := false) only [go_sem]
      refine L.stoOne 0 rfl (by simp) rfl fun H12 L => ?_
      simp only [List.set_cons_zero, List.set_cons_succ, List.set_nil, List.eraseIdx_cons_zero, List.eraseIdx_cons_succ] at L
      have c := L.cell 0 rfl
      simp (implicitDefEqProofs := false) only [go_sem, c]
      refine L.stoAll 1 rfl rfl (one_agg (t := []) rfl) fun H13 L => ?_
      simp only [List.set_cons_zero, List.set_cons_succ, List.set_nil, List.eraseIdx_cons_zero, List.eraseIdx_cons_succ] at L
      simp (implicitDefEqProofs := false) only [go_sem]
      refine loopK_intro (σ2, (kdOf kAnd (hd ts).text, [], 0, t.at_, [.mk kk tt nn aa ks, .mk kk' tt' nn' aa' ks']), .slice (some ⟨b5, 0, none⟩) 2 2) ?_ ?_ ⟨f, L.drop (List.sublist_cons_self _ _) (by simp), hp, ?_⟩
      · show lenX σ2 < lenX σ1
        rw [hσ]; show _ < ts.length; omega
      · simp (implicitDefEqProofs := false) only [go_sem, ptr]
      · show lenX σ2 ≤ f
        omega

set_option maxHeartbeats 2000000 in
theorem bin0_sp {k : Nat} (hop : ROk k 54 [.int .i64 1] (andP (loK k)) NdR) : ROk k 54 [.int .i64 0] (orP (loK k)) NdR := by
  refine ⟨fun {X H σ} hs => ?_⟩
  refine calls_of_vc (args := [_, _]) Tryz.func54 c54ok (Nat.le_of_ble_eq_true rfl) ?_
  have L := hs.walk
  obtain ⟨P0, hP0⟩ : ∃ P0, P0 = liX (orP (loK k)) σ := ⟨_, rfl⟩
  have hp := hP0
  have w1 : IntKind.i64.wrap 1 = 1 := rfl
  simp (implicitDefEqProofs := false) only [go_sem, c54, w1]
  refine L.newP fun b1 H1 L => ?_
  simp (implicitDefEqProofs := false) only [go_sem, w1]
  refine hop.goN hs L hp fun kk tt nn aa ks kv σ1 H2 L hp he => ?_
  simp (implicitDefEqProofs := false) only [go_sem]
  refine L.newP fun b3 H3 L => ?_
  simp (implicitDefEqProofs := false) only [go_sem]
  refine L.stoAll 0 rfl rfl (one_agg (L.one' (ks := ks) (by simp))) fun H4 L => ?_
  simp only [List.set_cons_zero, List.set_cons_succ, List.set_nil, List.eraseIdx_cons_zero, List.eraseIdx_cons_succ] at L
  simp (implicitDefEqProofs := false) only [go_sem]
  refine vc_loop (fun (s : Sx × (Int × Bs × Int × Int × List Nd) × Value) H' => ∃ f, RLv X H s.1 k H' [.blk b3 25 [.int .i64 s.2.1.1, sv s.2.1.2.1, .int .i64 s.2.1.2.2.1, .int .i64 s.2.1.2.2.2.1, s.2.2], .blk b1 25 [.int .i64 0, sv [], .int .i64 0, .int .i64 0, .slice none 0 0]] [(kidsD s.2.1.2.2.2.2, [s.2.2])] ∧
    P0 = liX (chainF (andP (loK k)) kOr f (.mk s.2.1.1 s.2.1.2.1 s.2.1.2.2.1 s.2.1.2.2.2.1 s.2.1.2.2.2.2)) s.1 ∧ lenX s.1 ≤ f)
    (fun s => [(0, ptr X.b), (1, .int .i64 0), (4, .pointer (some ⟨b1, 0, none⟩)), (6, .pointer (some ⟨b3, 0, none⟩))]) (fun s => lenX s.1) (σ1, (kk, tt, nn, aa, ks), kv) ?_ ?_ ?_
  · refine ⟨1048576, L, ?_, L.rs.lenX⟩
    rw [hp]
    refine liX_eq fun ts hts => ?_
    rw [hts] at L
    exact chainF_fuel (andP_dn (loK_dn k)) _ _ _ ts (Nat.le_refl _) L.rs.len
  · simp (implicitDefEqProofs := false) only [go_sem, ptr]
  · rintro ⟨σ1, ⟨kk, tt, nn, aa, ks⟩, kv⟩ H5 ⟨f, L, hp, hf⟩
    simp only at L hp hf ⊢
    simp (implicitDefEqProofs := false) only [go_sem]
    refine (op0_sp L.rs).mono ?_
    rintro v H6 ⟨rfl, hs6, hf6⟩
    have L := L.rto hs hf6 hs6
    by_cases ho : opX kOr σ1 = 0
    · replace hp : P0 = liX (ret (.mk kk tt nn aa ks)) σ1 := by
        rw [hp]
        refine liX_eq fun ts hσ => ?_
        have hno := opAt_of ho ts hσ
        cases f with
        | zero => rfl
        | succ f => simp only [chainF, hno, Bool.false_eq_true, if_false]; rfl
      have c := L.cell 0 rfl
      simp (implicitDefEqProofs := false) only [go_sem, ho, c]
      refine L.stoAll 1 rfl rfl (one_agg (L.one' (ks := ks) (by simp))) fun HZ L => ?_
      simp only [List.set_cons_zero, List.set_cons_succ, List.set_nil, List.eraseIdx_cons_zero, List.eraseIdx_cons_succ] at L
      have c := L.cell 1 rfl
      simp (implicitDefEqProofs := false) only [go_sem, c]
      exact L.rfin (hP0 ▸ hp) (.inl (by simp))
    · obtain ⟨ts, hσ, hop'⟩ := opX_yes ho
      have hib := opAt_isB hop'
      have hv : opX kOr σ1 = kdOf kOr (hd ts).text := by rw [hσ]; simp only [opX, hop', if_true]
      rw [hσ] at hp hf
      have hf1 : ts.length ≤ f := hf
      have hl := tl_lt hib
      obtain ⟨f, rfl⟩ : ∃ f', f = f' + 1 := ⟨f - 1, by omega⟩
      simp (implicitDefEqProofs := false) only [go_sem, ho]
      refine rtoken_go L fun t H7 L ht _ => ?_
      have L := (show RLv X H (.ok ts) k H7 _ _ from hσ ▸ L)
      replace hp : P0 = liX (bd (andP (loK k)) fun m => chainF (andP (loK k)) kOr f (.mk (kdOf kOr (hd ts).text) [] 0 t.at_ [.mk kk tt nn aa ks, m])) (.ok ts.tail) := by
        rw [hp, ht ts hσ]
        simp only [liX, chainF, hop', if_true]
      rw [hv]
      simp (implicitDefEqProofs := false) only [go_sem, tkC]
      refine L.newP fun b4 H8 L => ?_
      simp (implicitDefEqProofs := false) only [go_sem]
      refine L.stoAll 0 rfl rfl (one_agg (t := []) rfl) fun H9 L => ?_
      simp only [List.set_cons_zero, List.set_cons_succ, List.set_nil, List.eraseIdx_cons_zero, List.eraseIdx_cons_succ] at L
      simp (implicitDefEqProofs := false) only [go_sem]
      obtain ⟨iI, oI, bI, dI, aI, hbI, hCI⟩ := L.rs.ex
      have cI := hbI.cell
      unfold cells at cI
      obtain ⟨hwI, hCI'⟩ := rinc hCI L.rs (isB_kind hib)
      first | unfold ptr | skip
      simp (implicitDefEqProofs := false) only [go_sem, cI, hwI]
      refine rsto hs L hbI (by decide) rfl rfl hCI' fun HI L hbI => ?_
      have c := L.cell 1 rfl
      simp (implicitDefEqProofs := false) only [go_sem, c, w1]
      refine hop.goN hs L hp fun kk' tt' nn' aa' ks' kv' σ2 H10 L hp he => ?_
      have hl2 := lenX_le (andP_dn (loK_dn k)) he
      have hl3 : lenX (.ok ts.tail) = ts.tail.length := rfl
      have c := L.cell 1 rfl
      simp (implicitDefEqProofs := false) only [go_sem, c, w1]
      refine L.newS fun b5 H11 L => ?_
      have L := L.rowOwn (dl := [Nd.mk kk tt nn aa ks, Nd.mk kk' tt' nn' aa' ks'].map Nd.dat) (m := 5) (n := 2) (css := [[.int .i64 kk, sv tt, .int .i64 nn, .int .i64 aa, kv], [.int .i64 kk', sv tt', .int .i64 nn', .int .i64 aa', kv']]) (by simp only [List.flatten_cons, List.flatten_nil, List.append_nil, List.cons_append, List.nil_append]) (by simp) ((RepsP.nil.cons (L.ndr' (ks := ks') (by simp))).cons (L.ndr' (ks := ks) (by simp))) rfl (by simp [maxLen])
      have L := L.rowN' 0 [.mk kk tt nn aa ks, .mk kk' tt' nn' aa' ks'] rfl
      simp only [List.set_cons_zero, List.set_cons_succ, List.set_nil, List.eraseIdx_cons_zero, List.eraseIdx_cons_succ] at L
      simp (implicitDefEqProofs := false) only [go_sem]
      refine L.stoOne 0 rfl (by simp) rfl fun H12 L => ?_
      simp only [List.set_cons_zero, List.set_cons_succ, List.set_nil, List.eraseIdx_cons_zero, List.eraseIdx_cons_succ] at L
      have c := L.cell 0 rfl
      simp (implicitDefEqProofs := false) only [go_sem, c]
      refine L.stoAll 1 rfl rfl (one_agg (t := []) rfl) fun H13 L => ?_
      simp only [List.set_cons_zero, List.set_cons_succ, List.set_nil, List.eraseIdx_cons_zero, List.eraseIdx_cons_succ] at L
      simp (implicitDefEqProofs := false) only [go_sem]
      refine loopK_intro (σ2, (kdOf kOr (hd ts).text, [], 0, t.at_, [.mk kk tt nn aa ks, .mk kk' tt' nn' aa' ks']), .slice (some ⟨b5, 0, none⟩) 2 2) ?_ ?_ ⟨f, L.drop (List.sublist_cons_self _ _) (by simp), hp, ?_⟩
      · show lenX σ2 < lenX σ1
        rw [hσ]; show _ < ts.length; omega
      · simp (implicitDefEqProofs := false) only [go_sem, ptr]
      · show lenX σ2 ≤ f
        omega

set_option maxHeartbeats 2000000 in
theorem expression_sp {k : Nat} (hex : ∀ j, k = j + 1 → ROk j 34 [] (lev j).1 NdR) (hor : ROk k 54 [.int .i64 0] (orP (loK k)) NdR) : ROk k 34 [] (exprP (loK k)) NdR := by
  refine ⟨fun {X H σ} hs => ?_⟩
  refine calls_of_vc (args := [_]) Tryz.func34 c34ok (Nat.le_of_ble_eq_true rfl) ?_
  have L := hs.walk
  obtain ⟨P0, hP0⟩ : ∃ P0, P0 = liX (exprP (loK k)) σ := ⟨_, rfl⟩
  have hp := hP0
  unfold exprP at hp
  simp (implicitDefEqProofs := false) only [go_sem, c34]
  refine L.newP fun b1 H1 L => ?_
  simp (implicitDefEqProofs := false) only [go_sem]
  refine ris_go L [105, 102] (fun ts H2 hσ e L => ?_) fun H2 e L => ?_
  · have hp2 := liX_yes hp hσ e
    replace hp : P0 = entP (loK k) [105, 102] (fun x => bd x.1 fun a => bd (expP [116, 104, 101, 110]) fun _ => bd x.1 fun b => bd (expP [101, 108, 115, 101]) fun _ => bd x.1 fun c => ret (.mk 30 [] 0 (hd ts).at_ [a, b, c])) ts := hp2
    have h64 : k ≤ 64 := L.rs.k64
    simp (implicitDefEqProofs := false) only [go_sem]
    refine rtoken_go L fun t H3 L ht _ => ?_
    rw [← ht ts rfl] at hp
    simp (implicitDefEqProofs := false) only [go_sem, tkC]
    refine L.newP fun b2 H4 L => ?_
    simp (implicitDefEqProofs := false) only [go_sem]
    refine L.stoAll 0 rfl rfl (one_agg (t := []) rfl) fun H5 L => ?_
    simp only [List.set_cons_zero, List.set_cons_succ, List.set_nil, List.eraseIdx_cons_zero, List.eraseIdx_cons_succ] at L
    simp (implicitDefEqProofs := false) only [go_sem]
    refine enter_spgo hs L (fun v H12 hk L => ?_) fun v j H12 hk L => ?_
    · rw [hk] at hp
      replace hp := hp.trans (entP_0 e)
      obtain ⟨iI, oI, bI, dI, aI, hbI, hCI⟩ := L.rs.ex
      obtain ⟨nI, _, _, rfl, _⟩ := hCI
      have cI := hbI.cell
      unfold cells at cI
      first | unfold ptr | skip
      simp (implicitDefEqProofs := false) only [go_sem, cI]
      replace hp : P0 = liX (ret (.mk 30 [] 0 t.at_ [])) (.error (6, (hd ts).at_)) := hp
      have L := (show RLv X H _ k _ _ _ from L.rto hs (Fr.refl _ _) (L.rs.lev k))
      have c := L.cell 0 rfl
      simp (implicitDefEqProofs := false) only [go_sem, c]
      refine L.stoAll 1 rfl rfl (one_agg (t := []) rfl) fun HZ L => ?_
      simp only [List.set_cons_zero, List.set_cons_succ, List.set_nil, List.eraseIdx_cons_zero, List.eraseIdx_cons_succ] at L
      have c := L.cell 1 rfl
      simp (implicitDefEqProofs := false) only [go_sem, c]
      exact L.rfin (hP0 ▸ hp) (.inr ⟨rfl, rfl⟩)
    · rw [hk] at hp
      replace hp := hp.trans (entP_s e)
      obtain ⟨iI, oI, bI, dI, aI, hbI, hCI⟩ := L.rs.ex
      have hbad : bI = false := by obtain ⟨m, _, _, h, _⟩ := hCI; exact h
      subst hbad
      have cI := hbI.cell
      unfold cells at cI
      first | unfold ptr | skip
      simp (implicitDefEqProofs := false) only [go_sem, cI]
      obtain ⟨hwI, hCI'⟩ := rinc hCI L.rs (isB_kind e)
      simp (implicitDefEqProofs := false) only [go_sem, cI, hwI]
      refine rsto hs L hbI (by decide) rfl rfl hCI' fun HI L hbI => ?_
      replace hp : P0 = liX (bd (lev j).1 fun a => bd (expP [116, 104, 101, 110]) fun _ => bd (lev j).1 fun b => bd (expP [101, 108, 115, 101]) fun _ => bd (lev j).1 fun c => ret (.mk 30 [] 0 t.at_ [a, b, c])) (.ok ts.tail) := hp
      have hx := hex j hk
      simp (implicitDefEqProofs := false) only [go_sem]
      refine hx.goN hs L hp fun k1 t1 n1 a1 ks1 kv1 σ1 H13 L hp _ => ?_
      simp (implicitDefEqProofs := false) only [go_sem]
      refine L.newP fun b3 H14 L => ?_
      simp (implicitDefEqProofs := false) only [go_sem]
      refine L.stoAll 0 rfl rfl (one_agg (L.one' (ks := ks1) (by simp))) fun H15 L => ?_
      simp only [List.set_cons_zero, List.set_cons_succ, List.set_nil, List.eraseIdx_cons_zero, List.eraseIdx_cons_succ] at L
      simp (implicitDefEqProofs := false) only [go_sem]
      refine (take_sp [116, 104, 101, 110]).go hs L hp fun _ v σ2 H16 L hp _ _ => ?_
      simp (implicitDefEqProofs := false) only [go_sem]
      refine hx.goN hs L hp fun k2 t2 n2 a2 ks2 kv2 σ3 H17 L hp _ => ?_
      simp (implicitDefEqProofs := false) only [go_sem]
      refine L.newP fun b4 H18 L => ?_
      simp (implicitDefEqProofs := false) only [go_sem]
      refine L.stoAll 0 rfl rfl (one_agg (L.one' (ks := ks2) (by simp))) fun H19 L => ?_
      simp only [List.set_cons_zero, List.set_cons_succ, List.set_nil, List.eraseIdx_cons_zero, List.eraseIdx_cons_succ] at L
      simp (implicitDefEqProofs := false) only [go_sem]
      refine (take_sp [101, 108, 115, 101]).go hs L hp fun _ v σ4 H20 L hp _ _ => ?_
      simp (implicitDefEqProofs := false) only [go_sem]
      refine hx.goN hs L hp fun k3 t3 n3 a3 ks3 kv3 σ5 H21 L hp _ => ?_
      simp (implicitDefEqProofs := false) only [go_sem]
      refine L.newP fun b5 H22 L => ?_
      simp (implicitDefEqProofs := false) only [go_sem]
      refine L.stoAll 0 rfl rfl (one_agg (L.one' (ks := ks3) (by simp))) fun H23 L => ?_
      simp only [List.set_cons_zero, List.set_cons_succ, List.set_nil, List.eraseIdx_cons_zero, List.eraseIdx_cons_succ] at L
      have c0 := L.cell 0 rfl
      have c1 := L.cell 1 rfl
      have c2 := L.cell 2 rfl
      simp (implicitDefEqProofs := false) only [go_sem, c0, c1, c2]
      refine L.newS fun b6 H24 L => ?_
      have L := L.rowOwn (dl := [Nd.mk k1 t1 n1 a1 ks1, Nd.mk k2 t2 n2 a2 ks2, Nd.mk k3 t3 n3 a3 ks3].map Nd.dat) (m := 5) (n := 3) (css := [[.int .i64 k1, sv t1, .int .i64 n1, .int .i64 a1, kv1], [.int .i64 k2, sv t2, .int .i64 n2, .int .i64 a2, kv2], [.int .i64 k3, sv t3, .int .i64 n3, .int .i64 a3, kv3]]) (by simp only [List.flatten_cons, List.flatten_nil, List.append_nil, List.cons_append, List.nil_append]) (by simp)
        (((RepsP.nil.cons (L.ndr' (ks := ks3) (by simp))).cons (L.ndr' (ks := ks2) (by simp))).cons (L.ndr' (ks := ks1) (by simp))) rfl (by simp [maxLen])
      have L := L.rowN' 0 [.mk k1 t1 n1 a1 ks1, .mk k2 t2 n2 a2 ks2, .mk k3 t3 n3 a3 ks3] rfl
      simp only [List.set_cons_zero, List.set_cons_succ, List.set_nil, List.eraseIdx_cons_zero, List.eraseIdx_cons_succ] at L
      simp (implicitDefEqProofs := false) only [go_sem]
      refine L.stoOne 3 rfl (by simp) rfl fun H25 L => ?_
      simp only [List.set_cons_zero, List.set_cons_succ, List.set_nil, List.eraseIdx_cons_zero, List.eraseIdx_cons_succ] at L
      simp (implicitDefEqProofs := false) only [go_sem]
      obtain ⟨iI, oI, bI, dI, aI, hbI, hCI⟩ := L.rs.ex
      have cI := hbI.cell
      unfold cells at cI
      have hCI' := rdec hCI hk h64
      first | unfold ptr | skip
      simp (implicitDefEqProofs := false) only [go_sem, cI]
      refine rsto hs L hbI (by decide) rfl rfl hCI' fun HI L hbI => ?_
      have c := L.cell 3 rfl
      simp (implicitDefEqProofs := false) only [go_sem, c]
      refine L.stoAll 4 rfl rfl (one_agg (t := []) rfl) fun HZ L => ?_
      simp only [List.set_cons_zero, List.set_cons_succ, List.set_nil, List.eraseIdx_cons_zero, List.eraseIdx_cons_succ] at L
      have c := L.cell 4 rfl
      simp (implicitDefEqProofs := false) only [go_sem, c]
      exact L.rfin (hP0 ▸ hp) (.inl (by simp))
  · replace hp : P0 = liX (orP (loK k)) σ := hp.trans (liX_no e)
    simp (implicitDefEqProofs := false) only [go_sem]
    refine hor.goL hs L hp fun kk tt nn aa ks kv σ1 H3 L hp => ?_
    simp (implicitDefEqProofs := false) only [go_sem]
    refine L.stoAll 0 rfl rfl (one_agg (L.one' (ks := ks) (by simp))) fun HZ L => ?_
    simp only [List.set_cons_zero, List.set_cons_succ, List.set_nil, List.eraseIdx_cons_zero, List.eraseIdx_cons_succ] at L
    have c := L.cell 0 rfl
    simp (implicitDefEqProofs := false) only [go_sem, c]
    exact L.rfin (hP0 ▸ hp) (.inl (by simp))
theorem lev_sp : ∀ k : Nat, ROk k 34 [] (exprP (loK k)) NdR ∧ ROk k 54 [.int .i64 2] (notP (loK k)) NdR := by
  have key : ∀ k : Nat, (∀ j, k = j + 1 → ROk j 34 [] (lev j).1 NdR ∧ ROk j 54 [.int .i64 2] (lev j).2 NdR) → ROk k 34 [] (exprP (loK k)) NdR ∧ ROk k 54 [.int .i64 2] (notP (loK k)) NdR := fun k h => by
    have h1 := primary_sp fun j hj => (h j hj).1
    have h2 := postfix_sp (fun j hj => (h j hj).1) h1
    have h3 := bin5_sp h2
    have h4 := bin4_sp h3
    have h5 := bin3_sp h4
    have h6 := bin2_sp (fun j hj => (h j hj).2) h5
    have h7 := bin1_sp h6
    have h8 := bin0_sp h7
    exact ⟨expression_sp (fun j hj => (h j hj).1) h8, h6⟩
  intro k
  induction k with
  | zero => exact key 0 fun j hj => by omega
  | succ k ih =>
    refine key (k + 1) fun j hj => ?_
    obtain rfl : j = k := by omega
    rw [lev_eq]; exact ih
end Go.Proofs.YtbgjgaaobnbijaaGreatDoor
end
section
/- A whole source, parsed by the specification: contracts. -/
set_option linter.unusedSimpArgs false
set_option linter.unusedVariables false
set_option maxRecDepth 8000
namespace Go.Proofs.YtbgjgaaobnbijaaGreatDoor
open Gx Go
/-! ### the tokens' ranges -/
theorem tokS_rng {s : Bs} {kd : Int} {t : Bs} {n : Int} {m : Nat} (h : tokS s = .ok kd t n m) : (-9223372036854775808 ≤ n ∧ n ≤ 9223372036854775807) ∧ (kd = 5 → t ∉ fnList) := by
  unfold tokS at h
  split at h
  · cases h; exact ⟨by decide, fun h => by cases h⟩
  · split at h
    · unfold tokW at h
      split at h
      · cases h
      · cases h
        refine ⟨by decide, fun h => ?_⟩
        split at h <;> cases h
    split at h
    · unfold tokD at h
      split at h
      · cases h
      split at h
      · cases h
      · cases h
        exact ⟨by omega, fun h => by cases h⟩
    split at h
    · unfold tokQ at h
      split at h
      · cases h
      split at h
      · cases h; exact ⟨by decide, fun h => by cases h⟩
      · cases h
    · have key0 : ∀ w ∈ signList, w ∉ fnList := by decide
      have key : ∀ w : Bs, signB w = true → w ∉ fnList := by
        intro w hw
        unfold signB at hw
        exact key0 w (by simpa using hw)
      unfold tokG at h
      split at h
      · rename_i hg; cases h; exact ⟨by decide, fun _ => key _ hg.2⟩
      split at h
      · rename_i hg; cases h; exact ⟨by decide, fun _ => key _ hg⟩
      · cases h
theorem lexF_rng : ∀ (f : Nat) (s : Bs) (o : Nat) (T : List Tk), lexF f s o = .ok T → ∀ t ∈ T, (-9223372036854775808 ≤ t.n ∧ t.n ≤ 9223372036854775807) ∧ (t.kind = 5 → t.text ∉ fnList)
  | 0, s, o, T, h => by simp [lexF] at h
  | f + 1, s, o, T, h => by
    unfold lexF at h
    split at h
    · cases h
    · rename_i k t n m he
      have hr := tokS_rng he
      split at h
      · cases h
        intro t' ht'
        simp only [List.mem_singleton] at ht'
        subst ht'; exact hr
      · cases e : lexF f (s.drop (skB false s + m)) (o + skB false s + m) with
        | bad c j => rw [e] at h; cases h
        | ok T' =>
          rw [e] at h
          simp only [LR.cons, LR.ok.injEq] at h
          subst h
          intro t' ht'
          rcases List.mem_cons.1 ht' with rfl | ht'
          · exact hr
          · exact lexF_rng f _ _ _ e t' ht'
theorem lexT_rng {s : Bs} {T : List Tk} (h : lexT s = .ok T) : ∀ t ∈ T, (-9223372036854775808 ≤ t.n ∧ t.n ≤ 9223372036854775807) ∧ (t.kind = 5 → t.text ∉ fnList) := by
  unfold lexT at h
  split at h
  · cases h
  · exact lexF_rng _ _ _ _ h
def topX (n : Nd) : Sx → Except Flt Nd
  | .error e => .error e
  | .ok r => if (hd r).kind = 6 then .ok n else .error (2, (hd r).at_)
theorem topX_eq {p : PP Nd} {T : List Tk} {n : Nd} {σ' : Sx} (h : LnX p (.ok T) n σ') : topP p T = topX n σ' := by
  unfold LnX at h
  unfold topP
  have h' : p T = liX (ret n) σ' := h
  rw [h']
  cases σ' <;> rfl
/-- The parser's blocks, from the call of `parse` on. -/
structure Pd (H : Heap) (X : Cx) (O : List Nat) (rb : Nat) : Prop where
  o1 : X.b ∈ O
  o2 : ∀ x ∈ O, x = X.b ∨ (x = rb ∧ H.size ≤ rb)
  o3 : H.size ≤ rb → rb ∈ O
  ro : ∀ b o, X.a = some ⟨b, o, none⟩ → b = rb
theorem Pd.stb {H : Heap} {X : Cx} {O : List Nat} {rb : Nat} (h : Pd H X O rb) {A : Heap} {σ : Sx} {k : Nat} (hr : Rs X A σ k) : ∀ (M : List Nat) (B : Heap), Fr M A B → (∀ x ∈ M, H.size ≤ x ∧ x ∉ O) → Rs X B σ k := fun M B hf hM => by
  refine hr.fr hf (fun hm => (hM _ hm).2 h.o1) fun b o e hm => ?_
  have := h.ro b o e
  subst this
  exact (hM _ hm).2 (h.o3 (hM _ hm).1)
section
variable {H : Heap} {X : Cx} {O : List Nat} {rb : Nat} {A B : Heap} {σ σ' : Sx} {k k' : Nat} {l : List Ent} {ds : List (Dat × List Value)}
theorem Pd.step (h : Pd H X O rb) (L : Lv [] H O (fun A => Rs X A σ k) A l ds) (hf : Fr [X.b] A B) (hs : Rs X B σ' k') : Lv [] H O (fun A => Rs X A σ' k') B l ds :=
  L.call (hf.mono fun x hx => .inl (by simp only [List.mem_singleton] at hx; subst hx; exact h.o1)) (h.stb hs)
end
def pP' (x : Nat) : Value := .pointer (some ⟨x, 0, none⟩)
set_option maxHeartbeats 1000000 in
/-- Behind the reading: the end, the answer. -/
theorem parse_tail {H : Heap} {X : Cx} {O : List Nat} {rb : Nat} {H1 : Heap} {σ : Sx} {b5 b3 b2 b1 : Nat} {kk nn aa : Int} {tt : Bs} {ks : List Nd} {kv : Value} {xs : List Value} {R : Except Flt Nd} {y0 y1 y4 y5 y8 y9 y10 y11 y12 y13 y14 : Option Value}
    (hP : Pd H X O rb) (L : Lv [] H O (fun A => Rs X A σ 64) H1 [.blk b5 25 [.int .i64 kk, sv tt, .int .i64 nn, .int .i64 aa, kv], .blk b3 28 xs, .blk b2 28 [.int .i64 0, .int .i64 0], .blk b1 25 [.int .i64 0, sv [], .int .i64 0, .int .i64 0, .slice none 0 0]] [(kidsD ks, [kv])])
    (hR : R = topX (.mk kk tt nn aa ks) σ) :
    vc Tryz.prog (fun _ _ => False) c18s31 [y0, y1, some (pP' b1), some (pP' b2), y4, y5, some (ptr X.b), some (pP' b5), y8, y9, y10, y11, y12, y13, y14] H1 (finQ c18.res fun v H' => ResR R v H H' ∧ Fr [] H H') := by
  rw [c18s31eq]
  unfold pP'
  obtain ⟨i, o, b, c, a, hb, hC⟩ := L.st.ex
  have hc := hb.cell
  unfold cells at hc
  have bad : ∀ {A : Heap} {e : Flt} {y13 y14 : Option Value}, Lv [] H O (fun A => Rs X A (.error e) 64) A [.blk b5 25 [.int .i64 kk, sv tt, .int .i64 nn, .int .i64 aa, kv], .blk b3 28 xs, .blk b2 28 [.int .i64 0, .int .i64 0], .blk b1 25 [.int .i64 0, sv [], .int .i64 0, .int .i64 0, .slice none 0 0]] [(kidsD ks, [kv])] → R = .error e →
      vc Tryz.prog (fun _ _ => False) c18s30 [y0, y1, some (.pointer (some ⟨b1, 0, none⟩)), some (.pointer (some ⟨b2, 0, none⟩)), y4, y5, some (ptr X.b), some (.pointer (some ⟨b5, 0, none⟩)), y8, y9, y10, y11, y12, y13, y14] A (finQ c18.res fun v H' => ResR R v H H' ∧ Fr [] H H') := by
    intro A e y13 y14 L hR
    obtain ⟨i, o, b, c, a, hb, n, _, _, rfl, rfl, rfl⟩ := L.st.ex
    have hc := hb.cell
    unfold cells at hc
    unfold ptr
    rw [c18s30eq]
    simp (implicitDefEqProofs := false) only [go_sem, hc, c18]
    refine L.stoAll 3 rfl rfl (by simp [Value.oneCell', sv]) fun H2 L => ?_
    simp only [List.set_cons_zero, List.set_cons_succ, List.set_nil, List.eraseIdx_cons_zero, List.eraseIdx_cons_succ] at L
    obtain ⟨i', o', b', c', a', hb', n', _, _, rfl, rfl, rfl⟩ := L.st.ex
    have hc' := hb'.cell
    unfold cells at hc'
    simp (implicitDefEqProofs := false) only [go_sem, hc']
    refine L.stoAll 2 rfl rfl (by simp [Value.oneCell']) fun H3 L => ?_
    simp only [List.set_cons_zero, List.set_cons_succ, List.set_nil, List.eraseIdx_cons_zero, List.eraseIdx_cons_succ] at L
    have c1 := L.cell 3 rfl
    have c2 := L.cell 2 rfl
    simp (implicitDefEqProofs := false) only [go_sem, c1, c2]
    rw [hR]
    exact ⟨by simp [ResR, zeroN, sv], L.fr⟩
  cases σ with
  | error e =>
    obtain ⟨n, _, _, rfl, rfl, rfl⟩ := hC
    unfold ptr
    simp (implicitDefEqProofs := false) only [go_sem, hc]
    exact bad L hR
  | ok r =>
    obtain ⟨n, rfl, hn, rfl, rfl, _, hr⟩ := hC
    have ht := rtoken_at L.st hb hn
    have he : X.T[n] = hd r := by rw [hr, List.drop_eq_getElem_cons hn]; rfl
    rw [he] at ht
    unfold ptr at ht ⊢
    simp (implicitDefEqProofs := false) only [go_sem, hc]
    refine ht.mono ?_
    rintro v H2 ⟨rfl, hf2⟩
    have L := L.ext hf2
    by_cases k6 : (hd r).kind = 6
    · have hR2 : R = .ok (.mk kk tt nn aa ks) := by rw [hR]; simp only [topX, k6, if_true]
      obtain ⟨i', o', b', c', a', hb', n', _, _, rfl, _⟩ := L.st.ex
      have hc' := hb'.cell
      unfold cells at hc'
      have c5 := L.cell 0 rfl
      simp (implicitDefEqProofs := false) only [go_sem, tkC, k6, hc', c5, c18]
      rw [c18s30eq]
      simp (implicitDefEqProofs := false) only [go_sem, hc', c5]
      refine L.stoAll 3 rfl rfl (one_agg (nd_one (L.dat (kidsD ks, [kv]) (by simp)))) fun H3 L => ?_
      simp only [List.set_cons_zero, List.set_cons_succ, List.set_nil, List.eraseIdx_cons_zero, List.eraseIdx_cons_succ] at L
      simp (implicitDefEqProofs := false) only [go_sem]
      refine L.stoAll 2 rfl rfl (by simp [Value.oneCell']) fun H4 L => ?_
      simp only [List.set_cons_zero, List.set_cons_succ, List.set_nil, List.eraseIdx_cons_zero, List.eraseIdx_cons_succ] at L
      have c1 := L.cell 3 rfl
      have c2 := L.cell 2 rfl
      simp (implicitDefEqProofs := false) only [go_sem, c1, c2]
      rw [hR2]
      exact ⟨⟨_, rfl, RepP.nd ((L.dat (kidsD ks, [kv]) (by simp)).more fun x hx => .inl (.inl hx))⟩, L.fr⟩
    · have hR2 : R = .error (2, (hd r).at_) := by rw [hR]; simp only [topX, k6, if_false]
      have hf := rfail_ok L.st 2
      unfold ptr at hf
      simp (implicitDefEqProofs := false) only [go_sem, tkC, k6]
      refine hf.mono ?_
      rintro v H3 ⟨hs3, hf3⟩
      have L := hP.step L hf3 hs3
      simp (implicitDefEqProofs := false) only [go_sem]
      exact bad L hR2

/-- What the reading of a kind of source does. -/
def SwOk (w : Int) (p : PP Nd) : Prop := ∀ {H : Heap} {X : Cx} {O : List Nat} {rb : Nat} {H1 : Heap} {b5 b3 b2 b1 : Nat} {xs : List Value} {T : List Tk} {y0 y4 y5 y8 y9 y10 y11 y12 y13 y14 : Option Value} {Q : Post}, Pd H X O rb →
  Lv [] H O (fun A => Rs X A (.ok T) 64) H1 [.blk b5 25 [.int .i64 1, sv [], .int .i64 0, .int .i64 0, .slice none 0 0], .blk b3 28 xs, .blk b2 28 [.int .i64 0, .int .i64 0], .blk b1 25 [.int .i64 0, sv [], .int .i64 0, .int .i64 0, .slice none 0 0]] [] →
  (∀ σ' kk tt nn aa ks kv H' z0 z1 z4 z5 z8 z9 z10 z11 z12 z13 z14, Lv [] H O (fun A => Rs X A σ' 64) H' [.blk b5 25 [.int .i64 kk, sv tt, .int .i64 nn, .int .i64 aa, kv], .blk b3 28 xs, .blk b2 28 [.int .i64 0, .int .i64 0], .blk b1 25 [.int .i64 0, sv [], .int .i64 0, .int .i64 0, .slice none 0 0]] [(kidsD ks, [kv])] →
    LnX p (.ok T) (.mk kk tt nn aa ks) σ' → Q .nrm [z0, z1, some (pP' b1), some (pP' b2), z4, z5, some (ptr X.b), some (pP' b5), z8, z9, z10, z11, z12, z13, z14] H') →
  vc Tryz.prog (fun _ _ => False) (.seq (.ops c18r7) c18s20) [y0, some (.int .i64 w), some (pP' b1), some (pP' b2), y4, y5, some (ptr X.b), some (pP' b5), y8, y9, y10, y11, y12, y13, y14] H1 Q
theorem sw1_ok : SwOk 1 (exprP (loK 64)) := by
  intro H X O rb H1 b5 b3 b2 b1 xs T y0 y4 y5 y8 y9 y10 y11 y12 y13 y14 Q hP L hQ
  unfold pP' at *
  simp (implicitDefEqProofs := false) only [go_sem]
  refine ((lev_sp 64).1.ok L.st).mono ?_
  rintro v H2 ⟨a, σ', ⟨cs, rfl, hr⟩, hs2, hf2, he⟩
  obtain ⟨kk, tt, nn, aa, ks⟩ := a
  obtain ⟨kv, rfl, hkv⟩ := RepP.nd_open hr
  have L := (hP.step L hf2 hs2).add (L.built hkv)
  simp (implicitDefEqProofs := false) only [go_sem]
  refine L.stoAll 0 rfl rfl (one_agg (nd_one (L.dat (kidsD ks, [kv]) (by simp)))) fun H3 L => ?_
  simp only [List.set_cons_zero, List.set_cons_succ, List.set_nil, List.eraseIdx_cons_zero, List.eraseIdx_cons_succ] at L
  simp (implicitDefEqProofs := false) only [go_sem]
  exact hQ σ' kk tt nn aa ks kv H3 _ _ _ _ _ _ _ _ _ _ _ L he
set_option maxHeartbeats 1000000 in
theorem rparse_ok {w : Int} {p : PP Nd} (hsw : SwOk w p) (s : Bs) (hl : s.length ≤ maxLen) {H : Heap} (hG : GlobH H) : HCalls Tryz.prog 18 #[sv s, .int .i64 w] H fun v H' => ResR (srcP p s) v H H' ∧ Fr [] H H' := by
  refine calls_of_vc (args := [_, _]) Tryz.func18 c18ok (Nat.le_of_ble_eq_true rfl) ?_
  have L : Lv [] H [] (fun _ => True) H [] [] := Lv.start (by simp) (fun _ _ _ _ => trivial)
  simp (implicitDefEqProofs := false) only [go_sem, c18]
  refine L.newP fun b1 H1 L => ?_
  simp (implicitDefEqProofs := false) only [go_sem]
  refine L.newP fun b2 H2 L => ?_
  simp (implicitDefEqProofs := false) only [go_sem]
  refine (rlex_ok s hl (hG.ext L.fr)).mono ?_
  rintro r H3 ⟨hr, hf3⟩
  have L := L.ext hf3
  cases hlex : lexT s with
  | bad c k =>
    rw [hlex] at hr
    simp only [LexR] at hr
    subst hr
    have hc := lexT_bad hlex
    have hsp : srcP p s = .error (c, k) := by unfold srcP; rw [hlex]
    rw [hsp]
    simp (implicitDefEqProofs := false) only [go_sem, ftV]
    refine L.newP fun b3 H4 L => ?_
    simp (implicitDefEqProofs := false) only [go_sem]
    refine L.stoAll 0 rfl rfl (by simp [Value.oneCell']) fun H5 L => ?_
    simp only [List.set_cons_zero, List.set_cons_succ, List.set_nil, List.eraseIdx_cons_zero, List.eraseIdx_cons_succ] at L
    have c0 := L.cell 0 rfl
    simp (implicitDefEqProofs := false) only [go_sem, c0, hc]
    refine L.stoAll 2 rfl rfl (by simp [Value.oneCell', sv]) fun H6 L => ?_
    simp only [List.set_cons_zero, List.set_cons_succ, List.set_nil, List.eraseIdx_cons_zero, List.eraseIdx_cons_succ] at L
    have c0 := L.cell 0 rfl
    simp (implicitDefEqProofs := false) only [go_sem, c0]
    refine L.stoAll 1 rfl rfl (by simp [Value.oneCell']) fun H7 L => ?_
    simp only [List.set_cons_zero, List.set_cons_succ, List.set_nil, List.eraseIdx_cons_zero, List.eraseIdx_cons_succ] at L
    have c1 := L.cell 1 rfl
    have c2 := L.cell 2 rfl
    simp (implicitDefEqProofs := false) only [go_sem, c1, c2]
    exact ⟨by simp [ResR, zeroN, sv], L.fr⟩
  | ok T =>
    rw [hlex] at hr
    simp only [LexR] at hr
    obtain ⟨a, cT, rfl, hcap1, hcap2, hrow⟩ := hr
    have hsp : srcP p s = topP p T := by unfold srcP; rw [hlex]
    rw [hsp]
    obtain ⟨hT1, hT2, hT3⟩ := lexT_len hlex
    simp (implicitDefEqProofs := false) only [go_sem, ftV]
    obtain ⟨rb, ro, ha, hget⟩ := RowR.get hrow tkC_len (T.length - 1) (by have := List.length_pos_iff.2 hT2; omega) (by decide)
    have hk6 : (T[T.length - 1]'(by have := List.length_pos_iff.2 hT2; omega)).kind = 6 := by
      have hlt : T.length - 1 < T.length := by have := List.length_pos_iff.2 hT2; omega
      refine Decidable.byContradiction fun hn => ?_
      exact hT3 (T.length - 1) _ _ (List.drop_eq_getElem_cons hlt) hn (List.drop_eq_nil_of_le (by omega))
    have h6 := hget 0 (by decide)
    rw [Nat.add_zero] at h6
    simp only [tkC, List.getElem?_cons_zero, hk6] at h6
    have hne1 : rb ≠ b1 := by
      rintro rfl
      have c := L.cell 1 rfl
      rw [c] at h6
      have := List.mem_of_getElem? h6
      simp [sv] at this
    have hne2 : rb ≠ b2 := by
      rintro rfl
      have c := L.cell 0 rfl
      rw [c] at h6
      have := List.mem_of_getElem? h6
      simp at this
    have hrlt := cellB_lt h6
    refine NewP_intro fun H4 hn4 hf4 hs4 => ?_
    have L := L.push hf4 hn4
    simp (implicitDefEqProofs := false) only [go_sem]
    refine Sto_all hn4 rfl (by simp [Value.oneCell']) fun H5 hn5 hf5 hs5 => ?_
    have L := L.sto 0 rfl hf5 hn5
    simp only [List.set_cons_zero, List.set_cons_succ, List.set_nil, List.eraseIdx_cons_zero, List.eraseIdx_cons_succ] at L
    have hrow5 : RowR tkC H5 a T := (hrow.ext hf4).fr hf5 fun b o e hm => by
      rw [ha] at e; cases e
      simp only [List.mem_singleton] at hm
      omega
    have c := L.cell 0 rfl
    simp (implicitDefEqProofs := false) only [go_sem, c]
    refine NewP_intro fun H6 hn6 hf6 hs6 => ?_
    have hsz4 := hf4.size
    have hsz5 := hf5.size
    have hsz0 := L.fr.size
    have hrs : Rs ⟨H5.size, a, cT, T⟩ H6 (.ok T) 64 := ⟨⟨((0 : Nat) : Int), 0, false, 0, 0, hn6, 0, rfl, List.length_pos_iff.2 hT2, rfl, rfl, Nat.le_refl _, rfl⟩, hrow5.ext hf6, fun b o e => by rw [ha] at e; cases e; show rb ≠ H5.size; omega, by show T.length ≤ _; omega, hT3, lexT_rng hlex⟩
    obtain ⟨O, hO1, hO2, hO3⟩ : ∃ O : List Nat, H5.size ∈ O ∧ (∀ x ∈ O, x = H5.size ∨ (x = rb ∧ H.size ≤ rb)) ∧ (H.size ≤ rb → rb ∈ O) := by
      by_cases q : H.size ≤ rb
      · exact ⟨[H5.size, rb], by simp, fun x hx => by simp at hx; rcases hx with h | h; exact .inl h; exact .inr ⟨h, q⟩, fun _ => by simp⟩
      · exact ⟨[H5.size], by simp, fun x hx => by simp at hx; exact .inl hx, fun h => absurd h q⟩
    have hP : Pd H ⟨H5.size, a, cT, T⟩ O rb := ⟨hO1, hO2, hO3, fun b o e => by
      replace e : a = some ⟨b, o, none⟩ := e
      rw [ha] at e; cases e; rfl⟩
    have hbs : rb ∉ [Ent.blk H3.size 28 [.int .i64 0, .int .i64 0], .blk b2 28 [.int .i64 0, .int .i64 0], .blk b1 25 [.int .i64 0, sv [], .int .i64 0, .int .i64 0, .slice none 0 0]].flatMap Ent.bs := by
      simp [Ent.bs]; omega
    have L6 : Lv [] H O (fun A => Rs ⟨H5.size, a, cT, T⟩ A (.ok T) 64) H6 [.blk H3.size 28 [.int .i64 0, .int .i64 0], .blk b2 28 [.int .i64 0, .int .i64 0], .blk b1 25 [.int .i64 0, sv [], .int .i64 0, .int .i64 0, .slice none 0 0]] [] := by
      have hlo5 := fun x hx => (L.lo x hx).2.2
      have L := L.ext hf6
      refine ⟨L.fr, fun x hx => ?_, L.nd, fun x hx => ?_, fun p hp => ?_, by simp, hP.stb hrs⟩
      · rcases hO2 x hx with q | ⟨q, q2⟩
        · subst q; exact ⟨hn6.lt, .inr (by omega)⟩
        · subst q; exact ⟨by have := hf6.size; omega, .inr q2⟩
      · obtain ⟨h1, h2, h3⟩ := L.lo x hx
        refine ⟨h1, fun hm => ?_, h3⟩
        rcases hO2 x hm with q | ⟨q, q2⟩
        · have := hlo5 x hx; omega
        · subst q; exact hbs hx
      · have h := L.ok p hp
        simp only [List.mem_cons, List.not_mem_nil, or_false] at hp
        rcases hp with rfl | rfl | rfl <;> exact h
    simp (implicitDefEqProofs := false) only [go_sem]
    refine L6.newP fun b5 H7 L => ?_
    simp (implicitDefEqProofs := false) only [go_sem]
    refine L.stoAll 0 rfl rfl (one_agg (t := []) rfl) fun H8 L => ?_
    simp only [List.set_cons_zero, List.set_cons_succ, List.set_nil, List.eraseIdx_cons_zero, List.eraseIdx_cons_succ] at L
    simp (implicitDefEqProofs := false) only [go_sem]
    rw [c18s32eq, vc_seq]
    refine hsw (H := H) (X := ⟨H5.size, a, cT, T⟩) (O := O) (rb := rb) (H1 := H8) (b5 := b5) (b3 := H3.size) (b2 := b2) (b1 := b1) (xs := [.int .i64 0, .int .i64 0]) (T := T) (Q := seqK (vcK Tryz.prog (fun _ _ => False) c18s31 (finQ c18.res fun v H' => ResR (topP p T) v H H' ∧ Fr [] H H')) (finQ c18.res fun v H' => ResR (topP p T) v H H' ∧ Fr [] H H')) hP L ?_
    intro σ' kk tt nn aa ks kv H9 z0 z1 z4 z5 z8 z9 z10 z11 z12 z13 z14 L he
    exact parse_tail hP L (topX_eq he)
end Go.Proofs.YtbgjgaaobnbijaaGreatDoor
end
section
/- The law of expressions. -/
set_option linter.unusedSimpArgs false
set_option linter.unusedVariables false
set_option maxRecDepth 8000
namespace Go.Proofs.YtbgjgaaobnbijaaGreatDoor
open Gx Go
mutual
theorem eqN_refl : ∀ x : Nd, eqN x x = true
  | .mk k t n a ks => by simp [eqN, eqL_refl ks]
theorem eqL_refl : ∀ l : List Nd, eqL l l = true
  | [] => by simp [eqL]
  | x :: l => by simp [eqL, eqN_refl x, eqL_refl l]
end
def ndOf : Except Flt Nd → Nd
  | .error _ => .mk 0 [] 0 0 []
  | .ok n => n
def fltOf : Except Flt Nd → Flt
  | .error e => e
  | .ok _ => (0, 0)
/-- A result, opened. -/
theorem ResR.out {R : Except Flt Nd} {v : Value} {H H' : Heap} (h : ResR R v H H') : ∃ k t n a ks kv, ndOf R = .mk k t n a ks ∧ v = .tuple #[.agg #[.int .i64 k, sv t, .int .i64 n, .int .i64 a, kv], .agg #[.int .i64 (fltOf R).1, .int .i64 (fltOf R).2]] ∧ RepP H' (fun x => x < H.size) (kidsD ks) [kv] := by
  cases R with
  | error e => exact ⟨0, [], 0, 0, [], .slice none 0 0, rfl, h, RepP.nil 5⟩
  | ok n =>
    obtain ⟨cs, rfl, hr⟩ := h
    obtain ⟨k, t, m, a, ks⟩ := n
    obtain ⟨kv, rfl, hkv⟩ := RepP.nd_open hr
    exact ⟨k, t, m, a, ks, kv, rfl, rfl, hkv⟩
theorem agree_ok (x y : Nd) (e f : Flt) {H : Heap} {vx vy : Value} (hx : NA H x vx) (hy : NA H y vy) : HCalls Tryz.prog 9 #[vx, .agg #[.int .i64 e.1, .int .i64 e.2], vy, .agg #[.int .i64 f.1, .int .i64 f.2]] H fun v H' => v = .bool (decide (e = f) && eqN x y) ∧ Fr [] H H' := by
  have hx0 := hx
  have hy0 := hy
  obtain ⟨k, t, n, a, ks⟩ := x
  obtain ⟨k', t', n', a', ks'⟩ := y
  obtain ⟨kv, rfl, hk⟩ := hx.open
  obtain ⟨kv', rfl, hk'⟩ := hy.open
  obtain ⟨aa, cc, rfl, hcc, hmx⟩ := kids_len hk
  obtain ⟨aa', cc', rfl, hcc', hmx'⟩ := kids_len hk'
  refine calls_of_vc (args := [_, _, _, _]) Tryz.func9 c9ok (Nat.le_of_ble_eq_true rfl) ?_
  have L := L0 H
  simp (implicitDefEqProofs := false) only [go_sem, c9]
  refine L.newP fun b1 H1 L => ?_
  simp (implicitDefEqProofs := false) only [go_sem]
  refine L.newP fun b2 H2 L => ?_
  simp (implicitDefEqProofs := false) only [go_sem]
  refine L.newP fun b3 H3 L => ?_
  simp (implicitDefEqProofs := false) only [go_sem]
  refine L.newP fun b4 H4 L => ?_
  have c0 := L.cell 0 rfl
  have c1 := L.cell 1 rfl
  have c2 := L.cell 2 rfl
  have c3 := L.cell 3 rfl
  obtain ⟨e1, e2⟩ := e
  obtain ⟨f1, f2⟩ := f
  by_cases h1 : e1 = f1
  · subst h1
    by_cases h2 : e2 = f2
    · subst h2
      have hq := equal_ok _ _ _ (Nat.le_refl _) (hx0.ext L.fr) (hy0.ext L.fr)
      unfold sv at *
      simp (implicitDefEqProofs := false) only [go_sem, c0, c1, c2, c3]
      refine hq.mono ?_
      rintro v H5 ⟨rfl, hf⟩
      simp (implicitDefEqProofs := false) only [go_sem]
      exact L.fr.trans hf
    · simp (implicitDefEqProofs := false) only [go_sem, c0, c1, c2, c3, h2]
      exact L.fr
  · simp (implicitDefEqProofs := false) only [go_sem, c0, c1, c2, c3, h1]
    exact L.fr
section
variable (s : Bs) (hl : s.length ≤ maxLen) {H : Heap} (hG : GlobH H)
include hl hG
theorem rexpr_ok : HCalls Tryz.prog 8 #[sv s] H fun v H' => ResR (srcP (exprP (loK 64)) s) v H H' ∧ Fr [] H H' := by
  refine calls_of_vc (args := [_]) Tryz.func8 c8ok (Nat.le_of_ble_eq_true rfl) ?_
  have L := L0 H
  simp (implicitDefEqProofs := false) only [go_sem, c8]
  refine L.newP fun b1 H1 L => ?_
  simp (implicitDefEqProofs := false) only [go_sem]
  refine L.newP fun b2 H2 L => ?_
  simp (implicitDefEqProofs := false) only [go_sem]
  refine (rparse_ok sw1_ok s hl (hG.ext L.fr)).mono ?_
  rintro v H3 ⟨hv, hf3⟩
  cases e : srcP (exprP (loK 64)) s with
  | error e =>
    rw [e] at hv
    simp only [ResR] at hv
    subst hv
    have L := L.ext hf3
    simp (implicitDefEqProofs := false) only [go_sem, zeroN, sv]
    refine L.stoAll 1 rfl rfl (by simp [Value.oneCell']) fun H4 L => ?_
    simp only [List.set_cons_zero, List.set_cons_succ, List.set_nil, List.eraseIdx_cons_zero, List.eraseIdx_cons_succ] at L
    simp (implicitDefEqProofs := false) only [go_sem]
    refine L.stoAll 0 rfl rfl (by simp [Value.oneCell']) fun H5 L => ?_
    simp only [List.set_cons_zero, List.set_cons_succ, List.set_nil, List.eraseIdx_cons_zero, List.eraseIdx_cons_succ] at L
    have c0 := L.cell 0 rfl
    have c1 := L.cell 1 rfl
    simp (implicitDefEqProofs := false) only [go_sem, c0, c1]
    exact ⟨by simp [ResR, zeroN, sv], L.fr⟩
  | ok n =>
    rw [e] at hv
    simp only [ResR] at hv
    obtain ⟨cs, rfl, hr⟩ := hv
    obtain ⟨kk, tt, nn, aa, ks⟩ := n
    obtain ⟨kv, rfl, hkv⟩ := RepP.nd_open hr
    have L := (L.ext hf3).add (L.built hkv)
    simp (implicitDefEqProofs := false) only [go_sem]
    refine L.stoAll 1 rfl rfl (one_agg (nd_one (L.dat (kidsD ks, [kv]) (by simp)))) fun H4 L => ?_
    simp only [List.set_cons_zero, List.set_cons_succ, List.set_nil, List.eraseIdx_cons_zero, List.eraseIdx_cons_succ] at L
    simp (implicitDefEqProofs := false) only [go_sem]
    refine L.stoAll 0 rfl rfl (by simp [Value.oneCell']) fun H5 L => ?_
    simp only [List.set_cons_zero, List.set_cons_succ, List.set_nil, List.eraseIdx_cons_zero, List.eraseIdx_cons_succ] at L
    have c0 := L.cell 0 rfl
    have c1 := L.cell 1 rfl
    simp (implicitDefEqProofs := false) only [go_sem, c0, c1]
    exact ⟨⟨_, rfl, RepP.nd ((L.dat (kidsD ks, [kv]) (by simp)).more fun x hx => .inl (.inl hx))⟩, L.fr⟩
theorem expressions_law : HCalls Tryz.prog 3 #[sv s] H fun v H' => v = .bool true ∧ Fr [] H H' := by
  refine calls_of_vc (args := [_]) Tryz.func3 c3ok (Nat.le_of_ble_eq_true rfl) ?_
  have L := L0 H
  simp (implicitDefEqProofs := false) only [go_sem, c3]
  refine (awake_ok (hG.ext L.fr)).mono ?_
  rintro v H1 ⟨rfl, hf1⟩
  have L := L.ext hf1
  simp (implicitDefEqProofs := false) only [go_sem]
  refine (pexpr_ok s hl (hG.ext L.fr)).mono ?_
  rintro v H2 ⟨hv, hf2⟩
  obtain ⟨k1, t1, n1, a1, ks1, kv1, e1, rfl, hk1⟩ := hv.out
  have L := (L.ext hf2).add (L.built hk1)
  simp (implicitDefEqProofs := false) only [go_sem]
  refine L.newP fun b1 H3 L => ?_
  simp (implicitDefEqProofs := false) only [go_sem]
  refine L.newP fun b2 H4 L => ?_
  simp (implicitDefEqProofs := false) only [go_sem]
  refine L.stoAll 1 rfl rfl (one_agg (nd_one (L.dat (kidsD ks1, [kv1]) (by simp)))) fun H5 L => ?_
  simp only [List.set_cons_zero, List.set_cons_succ, List.set_nil, List.eraseIdx_cons_zero, List.eraseIdx_cons_succ] at L
  simp (implicitDefEqProofs := false) only [go_sem]
  refine L.stoAll 0 rfl rfl (by simp [Value.oneCell']) fun H6 L => ?_
  simp only [List.set_cons_zero, List.set_cons_succ, List.set_nil, List.eraseIdx_cons_zero, List.eraseIdx_cons_succ] at L
  simp (implicitDefEqProofs := false) only [go_sem]
  refine (rexpr_ok s hl (hG.ext L.fr)).mono ?_
  rintro v H7 ⟨hv, hf7⟩
  obtain ⟨k2, t2, n2, a2, ks2, kv2, e2, rfl, hk2⟩ := hv.out
  have L := (L.ext hf7).add (L.built hk2)
  simp (implicitDefEqProofs := false) only [go_sem]
  refine L.newP fun b3 H8 L => ?_
  simp (implicitDefEqProofs := false) only [go_sem]
  refine L.newP fun b4 H9 L => ?_
  simp (implicitDefEqProofs := false) only [go_sem]
  refine L.stoAll 1 rfl rfl (one_agg (nd_one (L.dat (kidsD ks2, [kv2]) (by simp)))) fun H10 L => ?_
  simp only [List.set_cons_zero, List.set_cons_succ, List.set_nil, List.eraseIdx_cons_zero, List.eraseIdx_cons_succ] at L
  simp (implicitDefEqProofs := false) only [go_sem]
  refine L.stoAll 0 rfl rfl (by simp [Value.oneCell']) fun H11 L => ?_
  simp only [List.set_cons_zero, List.set_cons_succ, List.set_nil, List.eraseIdx_cons_zero, List.eraseIdx_cons_succ] at L
  have c0 := L.cell 0 rfl
  have c1 := L.cell 1 rfl
  have c2 := L.cell 2 rfl
  have c3 := L.cell 3 rfl
  have hA := agree_ok (.mk k1 t1 n1 a1 ks1) (.mk k2 t2 n2 a2 ks2) (fltOf (srcP (exprP (loK 64)) s)) (fltOf (srcP (exprP (loK 64)) s)) (H := H11) (NA.mk (L.dat (kidsD ks1, [kv1]) (by simp)).rep) (NA.mk (L.dat (kidsD ks2, [kv2]) (by simp)).rep)
  have heq : eqN (.mk k1 t1 n1 a1 ks1) (.mk k2 t2 n2 a2 ks2) = true := by rw [← e1, ← e2]; exact eqN_refl _
  rw [heq, decide_eq_true rfl] at hA
  simp (implicitDefEqProofs := false) only [go_sem, c0, c1, c2, c3]
  refine hA.mono ?_
  rintro v H12 ⟨rfl, hf12⟩
  simp (implicitDefEqProofs := false) only [go_sem]
  exact L.fr.trans hf12
end
end Go.Proofs.YtbgjgaaobnbijaaGreatDoor
end
