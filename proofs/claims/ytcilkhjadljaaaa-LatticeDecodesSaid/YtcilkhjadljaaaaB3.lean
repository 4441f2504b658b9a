import Derived.Test.YtcilkhjadljaaaaB2
import Derived.Test.YtcilkhjadljaaaaProg
section
/- The little laws that every walk rewrites with, kept where the walks look. -/
namespace Gx
open Go
universe u_1 u_2
@[go_sem] theorem tiny0 : ∀ (n : Nat), 0 + n = n := @Nat.zero_add
@[go_sem] theorem tiny1 : ∀ (n : Nat), n + 0 = n := @Nat.add_zero
@[go_sem] theorem tiny2 : ∀ (n : Nat), Nat.succ n ≠ 0 := @Nat.succ_ne_zero
@[go_sem] theorem tiny3 : 0 ≠ 1 := @Nat.zero_ne_one
@[go_sem] theorem tiny4 : 1 ≠ 0 := @Nat.one_ne_zero
@[go_sem] theorem tiny5 : (!true) = false := @Bool.not_true
@[go_sem] theorem tiny6 : (!false) = true := @Bool.not_false
@[go_sem] theorem tiny7 : (true = false) = False := @Bool.true_eq_false
@[go_sem] theorem tiny8 : ∀ {α : Sort u_1} (a b : α), (if True then a else b) = a := @ite_true
@[go_sem] theorem tiny9 : ∀ {α : Sort u_1} (a b : α), (if False then a else b) = b := @ite_false
@[go_sem] theorem tiny10 : ∀ {α : Type u_1} (val val_1 : α), (some val = some val_1) = (val = val_1) := @Option.some.injEq
@[go_sem] theorem tiny11 : ∀ {α : Type u_1} {β : Type u_2} (fst : α) (snd : β) (fst_1 : α) (snd_1 : β), ((fst, snd) = (fst_1, snd_1)) = (fst = fst_1 ∧ snd = snd_1) := @Prod.mk.injEq
@[go_sem] theorem tiny12 : ∀ {α : Type u_1} {β : Type u_2} {f : α → β} {a : α} {l : List α}, List.map f (a :: l) = f a :: List.map f l := @List.map_cons
@[go_sem] theorem tiny13 : ∀ {α : Type u_1} {β : Type u_2} {f : α → β}, List.map f [] = [] := @List.map_nil
@[go_sem] theorem tiny14 : ∀ {α : Type u_1} {a : α} {zs : List α}, List.length (a :: zs) = List.length zs + 1 := @List.length_cons
@[go_sem] theorem tiny15 : ∀ {α : Type u_1} {a : α} {l : List α}, (a :: l)[0]? = some a := @List.getElem?_cons_zero
@[go_sem] theorem tiny16 : ∀ {α : Type u_1} {a : α} {i : Nat} {l : List α}, (a :: l)[i + 1]? = l[i]? := @List.getElem?_cons_succ
@[go_sem] theorem tiny17 : ∀ {α : Type u_1} {x : α} {xs : List α} {a : α}, List.set (x :: xs) 0 a = a :: xs := @List.set_cons_zero
@[go_sem] theorem tiny18 : ∀ {α : Type u_1} {x : α} {xs : List α} {i : Nat} {a : α}, List.set (x :: xs) (i + 1) a = x :: List.set xs i a := @List.set_cons_succ
@[go_sem] theorem tiny19 : ∀ {α : Type u_1} {a : α} [inst : BEq α], List.elem a [] = false := @List.elem_nil
@[go_sem] theorem tiny20 : ∀ (b : Bool), (b || false) = b := @Bool.or_false
@[go_sem] theorem tiny21 : ∀ (b : Bool), (false || b) = b := @Bool.false_or
@[go_sem] theorem tiny22 : ∀ (b : Bool), (b || true) = true := @Bool.or_true
@[go_sem] theorem tiny23 : ∀ (b : Bool), (true || b) = true := @Bool.true_or
@[go_sem] theorem tiny24 : ∀ {α : Type u_1} [inst : BEq α] [LawfulBEq α] {a b : α}, (a == b) = true ↔ a = b := @beq_iff_eq
@[go_sem] theorem tiny25 : ∀ {α : Type u_1} (l₁ l₂ : List α), List.toArray l₁ ++ List.toArray l₂ = List.toArray (l₁ ++ l₂) := @List.append_toArray
@[go_sem] theorem tiny26 : ∀ {α : Type u_1} (zs : List α), [] ++ zs = zs := @List.nil_append
@[go_sem] theorem tiny27 : ∀ {α : Type u_1} {a : α} {zs bs : List α}, a :: zs ++ bs = a :: (zs ++ bs) := @List.cons_append
@[go_sem] theorem tiny28 : ∀ {α : Type u_1} {zs : List α}, Array.size (List.toArray zs) = List.length zs := @List.size_toArray
@[go_sem] theorem tiny29 : ∀ {α : Type u_1} {xs : Array α}, xs ++ #[] = xs := @Array.append_empty
@[go_sem] theorem tiny30 : ∀ (n : Nat), Int.toNat ↑n = n := @Int.toNat_natCast
@[go_sem] theorem tiny31 : ∀ (n : Nat), n * 1 = n := @Nat.mul_one
@[go_sem] theorem tiny32 : ∀ (n : Nat), 1 * n = n := @Nat.one_mul
@[go_sem] theorem tiny33 : ∀ {p : Prop} [inst : Decidable p], (decide p = true) = p := @decide_eq_true_eq
@[go_sem] theorem tiny34 : ∀ {p : Prop} {x : Decidable p}, decide p = false ↔ ¬p := @decide_eq_false_iff_not
@[go_sem] theorem tiny35 : ∀ (a b : Bool), ((a && b) = true) = (a = true ∧ b = true) := @Bool.and_eq_true
@[go_sem] theorem tiny36 : ∀ (a b : Bool), ((a || b) = true) = (a = true ∨ b = true) := @Bool.or_eq_true
@[go_sem] theorem tiny37 : ∀ (b : Bool), ((!b) = true) = (b = false) := @Bool.not_eq_true'
@[go_sem] theorem tiny38 : ∀ {a b : Int}, ¬a ≤ b ↔ b < a := @Int.not_le
@[go_sem] theorem tiny39 : ∀ {a b : Int}, ¬a < b ↔ b ≤ a := @Int.not_lt
@[go_sem] theorem tiny40 : ∀ (p : Prop), (p ∧ True) = p := @and_true
@[go_sem] theorem tiny41 : ∀ (p : Prop), (True ∧ p) = p := @true_and
@[go_sem] theorem tiny42 : ∀ {α : Sort u_1} (a : α), (a = a) = True := @eq_self
@[go_sem] theorem tiny43 : ∀ {α : Sort u_1} (a b : α), (a ≠ b) = ¬a = b := @ne_eq
@[go_sem] theorem tiny44 : (¬True) = False := @not_true_eq_false
@[go_sem] theorem tiny45 : (¬False) = True := @not_false_eq_true
@[go_sem] theorem tiny46 : ∀ (p : Prop), (p ∧ p) = p := @and_self
@[go_sem] theorem tiny47 : ∀ (h : Decidable True), decide True = true := @decide_true
@[go_sem] theorem tiny48 : ∀ (h : Decidable False), decide False = false := @decide_false
@[go_sem] theorem tiny49 : ∀ {α : Sort u_1} (a b : α), (bif true then a else b) = a := @cond_true
@[go_sem] theorem tiny50 : ∀ {α : Sort u_1} (a b : α), (bif false then a else b) = b := @cond_false
@[go_sem] theorem tiny51 : ∀ {α : Type u_1} {l : List α}, List.take 0 l = [] := @List.take_zero
@[go_sem] theorem tiny52 : ∀ {α : Type u_1} {l : List α}, List.drop 0 l = l := @List.drop_zero
@[go_sem] theorem tiny53 : ∀ {α : Type u_1} {a : α} {zs : List α} {i : Nat}, List.take (i + 1) (a :: zs) = a :: List.take i zs := @List.take_succ_cons
@[go_sem] theorem tiny54 : ∀ {α : Type u_1} {a : α} {l : List α} {i : Nat}, List.drop (i + 1) (a :: l) = List.drop i l := @List.drop_succ_cons
@[go_sem] theorem tiny55 : ∀ {α : Type u_1} (zs : List α), zs ++ [] = zs := @List.append_nil
@[go_sem] theorem tiny56 : ∀ {b : Bool} {x : Decidable (b = true)}, decide (b = true) = b := @Bool.decide_eq_true
@[go_sem] theorem tiny57 : ∀ {α : Type u_1} {a : α}, Option.isSome (some a) = true := @Option.isSome_some
@[go_sem] theorem tiny58 : ∀ {α : Type u_1} {a : α}, Option.isNone (some a) = false := @Option.isNone_some
@[go_sem] theorem tiny59 : ∀ {α : Type u_1} {xs : List α} {i : Nat}, (List.toArray xs)[i]? = xs[i]? := @List.getElem?_toArray
@[go_sem] theorem tiny60 : ∀ (b : Bool), (true && b) = b := @Bool.true_and
@[go_sem] theorem tiny61 : ∀ (b : Bool), (false && b) = false := @Bool.false_and
@[go_sem] theorem tiny62 : ∀ (b : Bool), (b && true) = b := @Bool.and_true
@[go_sem] theorem tiny63 : ∀ (b : Bool), (b && false) = false := @Bool.and_false
@[go_sem] theorem tiny64 : ∀ (n m : Nat), n + m - m = n := @Nat.add_sub_cancel
@[go_sem] theorem tiny65 : ∀ (p : Prop), (True ∨ p) = True := @true_or
@[go_sem] theorem tiny66 : ∀ (p : Prop), (p ∨ True) = True := @or_true
@[go_sem] theorem tiny67 : ∀ (p : Prop), (p ∨ p) = p := @or_self
@[go_sem] theorem tiny68 : ∀ (p : Prop), (False ∨ p) = p := @false_or
@[go_sem] theorem tiny69 : ∀ (p : Prop), (p ∨ False) = p := @or_false
@[go_sem] theorem tiny70 : ∀ (p : Prop), (False ∧ p) = False := @false_and
@[go_sem] theorem tiny71 : ∀ (p : Prop), (p ∧ False) = False := @and_false
attribute [go_sem] Nat.reduceAdd Nat.reduceSub Nat.reduceMul Nat.reduceEqDiff Nat.reduceLT Nat.reduceLeDiff Nat.reduceBEq reduceCtorEq Int.reduceLE Int.reduceLT Int.reduceEq Int.reduceNeg Int.reduceToNat Int.reduceAdd Int.reduceSub
attribute [go_sem ↓] reduceIte Bool.false_eq_true
attribute [go_sem] Value.cells Bool.false_eq_true Int.cast_ofNat_Int List.drop_nil List.elem_cons List.length_nil List.take_nil Option.isNone_none Option.isSome_none
end Gx
end
section
/- Data that lie apart from blocks; rows of data under construction. -/
namespace Gx
open Go

/-- The data lie in none of the blocks of `B`. -/
def RepP (H : Heap) (B : Nat → Prop) (d : Dat) (cs : List Value) : Prop := ∀ M : List Nat, (∀ x ∈ M, B x) → Rep H M d cs
def RepsP (H : Heap) (B : Nat → Prop) (l : List Dat) (css : List (List Value)) : Prop := ∀ M : List Nat, (∀ x ∈ M, B x) → Reps H M l css
/-- What is readable and none of `B` is as it was, and none of `B'`. -/
def StaysP (H : Heap) (B : Nat → Prop) (H' : Heap) (B' : Nat → Prop) : Prop := ∀ b, b < H.size → ¬ B b → ¬ B' b ∧ H'[b]? = H[b]?

section
variable {H H' : Heap} {B B' : Nat → Prop} {M : List Nat} {d : Dat} {cs : List Value} {l : List Dat} {css : List (List Value)}

theorem StaysP.list (hs : StaysP H B H' B') {M' : List Nat} (hM : ∀ x ∈ M', B' x) : ∃ M, (∀ x ∈ M, B x) ∧ Stays H M H' M' := by
  classical
  refine ⟨(List.range H.size).filter (fun b => decide (B b)), fun x hx => by simpa using (List.mem_filter.1 hx).2, fun b hb hn => ?_⟩
  have hB : ¬ B b := fun h => hn (List.mem_filter.2 ⟨List.mem_range.2 hb, by simpa using h⟩)
  obtain ⟨h1, h2⟩ := hs b hb hB
  exact ⟨fun hm => h1 (hM b hm), h2⟩
theorem RepP.to (h : RepP H B d cs) (hs : StaysP H B H' B') : RepP H' B' d cs := fun M' hM => by
  obtain ⟨M, h1, h2⟩ := hs.list hM
  exact Rep.to h2 d cs (h M h1)
theorem RepsP.to (h : RepsP H B l css) (hs : StaysP H B H' B') : RepsP H' B' l css := fun M' hM => by
  obtain ⟨M, h1, h2⟩ := hs.list hM
  exact Reps.to h2 l css (h M h1)
theorem StaysP.fr (hf : Fr M H H') (hm : ∀ x ∈ M, B x ∨ H.size ≤ x) (hb : ∀ x, B' x → B x ∨ H.size ≤ x) : StaysP H B H' B' := fun b hb' hn =>
  ⟨fun h => by rcases hb b h with q | q; exact hn q; omega, hf.same b hb' fun h => by rcases hm b h with q | q; exact hn q; omega⟩
theorem StaysP.ext (hf : Fr [] H H') (hb : ∀ x, B' x → B x ∨ H.size ≤ x) : StaysP H B H' B' := StaysP.fr hf (by simp) hb
theorem RepP.fr (h : RepP H B d cs) (hf : Fr M H H') (hm : ∀ x ∈ M, B x ∨ H.size ≤ x) (hb : ∀ x, B' x → B x ∨ H.size ≤ x) : RepP H' B' d cs := h.to (StaysP.fr hf hm hb)
theorem RepP.ext (h : RepP H B d cs) (hf : Fr [] H H') (hb : ∀ x, B' x → B x ∨ H.size ≤ x) : RepP H' B' d cs := h.to (StaysP.ext hf hb)
theorem RepP.more (h : RepP H B d cs) (hb : ∀ x, B' x → B x ∨ H.size ≤ x) : RepP H B' d cs := h.ext (Fr.refl _ _) hb
theorem RepsP.more (h : RepsP H B l css) (hb : ∀ x, B' x → B x ∨ H.size ≤ x) : RepsP H B' l css := h.to (StaysP.ext (Fr.refl _ _) hb)
theorem RepP.rep (h : RepP H B d cs) : Rep H [] d cs := h [] (by simp)
theorem RepP.of_rep (h : Rep H [] d cs) : RepP H (fun _ => False) d cs := fun M hM => by
  have : M = [] := by
    cases M with
    | nil => rfl
    | cons x r => exact (hM x (by simp)).elim
  subst this; exact h
theorem RepP.v (x : Value) : RepP H B (.v x) [x] := fun M _ => by simp [Rep]
theorem RepsP.nil : RepsP H B [] [] := fun M _ => by simp [Reps]
theorem RepsP.cons {x : List Value} (h : RepP H B d x) (hs : RepsP H B l css) : RepsP H B (d :: l) (x :: css) := fun M hM => by
  simp only [Reps]; exact ⟨x, css, rfl, h M hM, hs M hM⟩
theorem RepsP.append {l' : List Dat} {css' : List (List Value)} (h : RepsP H B l css) (h' : RepsP H B l' css') : RepsP H B (l ++ l') (css ++ css') := fun M hM => Reps.append (h M hM) (h' M hM)
theorem RepP.agg (h : RepsP H B l css) (hc : css.flatten = cs) : RepP H B (.agg l) cs := fun M hM => by
  simp only [Rep]; exact ⟨css, hc.symm, h M hM⟩
theorem RepP.nil (m : Nat) : RepP H B (.list m []) [.slice none 0 0] := fun M _ => Rep.nil m

/-- A row of data of one's own, whose data lie apart from `B` and from the row. -/
def LsO (H : Heap) (B : Nat → Prop) (e m : Nat) (v : Value) (ds : List Dat) (g : Option Nat) : Prop :=
  ∃ css, Own H e m v ds.length css.flatten g ∧ (∀ x ∈ css, x.length = m) ∧ RepsP H (fun b => B b ∨ g = some b) ds css

variable {e m : Nat} {v : Value} {ds : List Dat} {g : Option Nat}
theorem LsO.nil : LsO H B e m (.slice none 0 0) [] none := ⟨[], Own.nil _ _ _, by simp, RepsP.nil⟩
theorem LsO.fr (h : LsO H B e m v ds g) (hf : Fr M H H') (hm : ∀ x ∈ M, B x ∨ H.size ≤ x) (hg : ∀ b, g = some b → b ∉ M) (hb : ∀ x, B' x → B x ∨ H.size ≤ x) : LsO H' B' e m v ds g := by
  obtain ⟨css, h1, h2, h3⟩ := h
  refine ⟨css, h1.fr hf hg, h2, h3.to (StaysP.fr hf (fun x hx => (hm x hx).imp .inl id) fun x hx => ?_)⟩
  rcases hx with hx | hx
  · exact (hb x hx).imp .inl id
  · exact .inl (.inr hx)
theorem LsO.ext (h : LsO H B e m v ds g) (hf : Fr [] H H') (hb : ∀ x, B' x → B x ∨ H.size ≤ x) : LsO H' B' e m v ds g := h.fr hf (by simp) (by simp) hb
theorem LsO.lt (h : LsO H B e m v ds g) {b : Nat} (hg : g = some b) : b < H.size := by
  obtain ⟨css, h1, _⟩ := h
  exact h1.lt hg
theorem LsO.ne (h : LsO H B e m v ds g) {b t : Nat} {l : List Value} (hb : Blk H b t l) (ht : e ≠ t) : g ≠ some b := by
  obtain ⟨css, h1, _⟩ := h
  have := h1.ne hb ht
  rintro rfl; simp at this
theorem LsO.ne' (h : LsO H B e m v ds g) {e' m' : Nat} {v' : Value} {n : Nat} {xs : List Value} {b : Nat} (hb : Own H e' m' v' n xs (some b)) (ht : e ≠ e') : g ≠ some b := by
  obtain ⟨css, h1, _⟩ := h
  rintro rfl
  rcases h1.2 with ⟨q, _⟩ | ⟨b1, _, c1, q1, _, q2, _⟩
  · cases q
  · cases q1
    rcases hb.2 with ⟨r, _⟩ | ⟨b2, _, c2, r1, _, r2, _⟩
    · cases r
    · cases r1
      rw [q2] at r2; simp at r2; exact ht r2.2
theorem LsO.slice (h : LsO H B e m v ds g) : ∃ a c, v = .slice a ds.length c ∧ ds.length ≤ c ∧ c ≤ maxLen := by
  obtain ⟨css, h1, _⟩ := h
  rcases h1.2 with ⟨_, rfl, h0⟩ | ⟨b, cap, cur, _, rfl, _, h4, h5, _⟩
  · rw [h0]; exact ⟨none, 0, rfl, Nat.le_refl _, Nat.zero_le _⟩
  · exact ⟨_, _, rfl, h4, h5⟩
theorem LsO.one (h : LsO H B e m v ds g) : v.oneCell' = true := by
  obtain ⟨a, c, rfl, _⟩ := h.slice; rfl
theorem LsO.rep (h : LsO H B e m v ds g) (hg : ∀ b, g = some b → ¬ B b) : RepP H B (.list m ds) [v] := fun M hM => by
  obtain ⟨css, h1, h2, h3⟩ := h
  have hr : Reps H M ds css := h3 M fun x hx => .inl (hM x hx)
  have h1' := h1
  rcases h1.2 with ⟨_, rfl, h0⟩ | ⟨b, cap, cur, hb, rfl, hc, h4, h5, h6, h7⟩
  · have : ds = [] := List.eq_nil_of_length_eq_zero h0
    subst this
    exact Rep.nil m
  · simp only [Rep]
    refine ⟨_, cap, css, rfl, h4, h5, hr, h2, ?_⟩
    rcases Own.csR h1' with h8 | ⟨b', o, h8, h9⟩
    · exact .inl h8
    · simp at h8; obtain ⟨rfl, rfl⟩ := h8
      exact .inr ⟨b, 0, rfl, fun hm => hg b hb (hM b hm), h9⟩

/-- append of one element more. -/
theorem App_ls {P : Program} {t tx bytes tn nb n1 c1 : Nat} {z : Value} {R : Value → Heap → Prop} (hE : ElemOk P t e m bytes z) (h : LsO H B e m v ds g) {ex : Nat} (hk : P.underlying tx = some (.slice ex)) (hn : Blk H nb tn cs) (hl : cs.length = m)
    (hc : ∀ u ∈ cs, u.oneCell' = true) (hd : RepP H (fun b => B b ∨ g = some b) d cs) (h1 : n1 = 1) (h63 : ds.length + 1 ≤ maxLen) (hb : (ds.length + 1) * bytes ≤ 140737488355328)
    (hR : ∀ a c H' g', LsO H' B e m (.slice a (ds.length + 1) c) (ds ++ [d]) g' → Fr g.toList H H' → (∀ b, g' = some b → g = some b ∨ H.size ≤ b) → R (.slice a (ds.length + 1) c) H') : App P t tx t H v (.slice (some ⟨nb, 0, none⟩) n1 c1) R := by
  subst h1
  obtain ⟨css, ho, h2, h3⟩ := h
  refine App_own hE ho (m := 1) (SrcH.blk hk hn (by omega) hc) h63 hb fun a c H' g' ho' hf hg' => ?_
  refine hR a c H' g' ⟨css ++ [cs], ?_, ?_, ?_⟩ hf hg'
  · rw [List.flatten_append]
    simpa using ho'
  · intro x hx
    rcases List.mem_append.1 hx with hx | hx
    · exact h2 x hx
    · simp at hx; subst hx; exact hl
  · have hst : StaysP H (fun b => B b ∨ g = some b) H' (fun b => B b ∨ g' = some b) := StaysP.fr hf (fun x hx => .inl (.inr (by simpa using hx))) fun x hx => by
      rcases hx with hx | hx
      · exact .inl (.inl hx)
      · exact (hg' x hx).imp .inr id
    exact (h3.to hst).append ((RepsP.nil.cons hd).to hst)
end

/-- The reading of a row: its elements. -/
theorem RepP.elems {H : Heap} {B : Nat → Prop} {m : Nat} {l : List Dat} {v : Value} (h : RepP H B (.list m l) [v]) : ∃ a c, v = .slice a l.length c ∧ l.length ≤ c ∧ c ≤ maxLen := Rep.slice h.rep

/-- What lies between two pieces of code: said once, whatever the first piece's road. -/
theorem vc_mid {P : Program} {E : Chain → Heap → Prop} {c : SCode} {σ : Slots} {H : Heap} {Q : Post} {K0 : Slots → Heap → Prop} (Mid : Slots → Heap → Prop) (h1 : ∀ K : Slots → Heap → Prop, (∀ σ H, Mid σ H → K σ H) → vc P E c σ H (seqK K Q)) (h2 : ∀ σ H, Mid σ H → K0 σ H) :
    vc P E c σ H (seqK K0 Q) := h1 K0 h2
end Gx
end
section
/- Generated: the stripped code of Go functions, each held against the loaded program. -/
namespace Go.Proofs.Ytcilkhjadljaaaa
open Gx Go
variable (P : Program) (E : Chain → Heap → Prop) (σ : Slots) (H : Heap) (Q : Post)

/- plexuslaw09.LatticeChecks -/
@[go_sem] def c3k : List Nat := [0, 1, 2]
@[go_sem] def c3r0 : List GOp := [(.op none (.s 1) (.bx 26 (.s 0))),
  (.op none (.s 2) (.v (.mv (.c (.bool false)))))]
@[go_sem] def c3d1 : DT := (.ef 0 none .t (.call 11 []) (.rd none .t (.v (.mv (.t 0))) [3, 5] (.rd (some ((.t 0), true)) .t (.ld (some 6) (.s 1)) [3, 5] (.rd (some ((.t 1), true)) .t (.ld (some 6) (.s 1)) [5] (.ef 3 (some ((.t 2), true)) .t (.call 12 [(.t 1)]) (.ef 5 (some ((.t 3), true)) .t (.call 13 [(.t 1)]) (.rd (some ((.t 4), true)) .t (.v (.bin .eql (.t 1) (.t 0))) [] (.rd none .t (.v (.pick (.t 5) (.t 0) (.c (.bool false)))) [] (.rd none (.s 2) (.v (.mv (.t 0))) [] .done)))))))))
def c3 : Gx.Fn := ⟨11, c3k, (.seq (.ops c3r0) (.seq (.de c3d1) .ret)), [(.tmp (.s 2))]⟩
theorem c3ok : stripFn Try.prog c3k Try.f3 = some c3 := by kernel_rfl

/- plexuslaw09.LatticeEqual -/
@[go_sem] def c4k : List Nat := [0, 1, 2, 3, 4]
@[go_sem] def c4r0 : List GOp := [(.op none (.s 2) (.bx 26 (.s 0))),
  (.op none (.s 3) (.bx 26 (.s 1))),
  (.op none (.s 4) (.v (.mv (.c (.bool false)))))]
@[go_sem] def c4d1 : DT := (.ef 0 none .t (.call 11 []) (.rd none .t (.v (.mv (.t 0))) [4, 7, 13, 18, 21] (.rd (some ((.t 0), true)) .t (.ld (some 6) (.s 2)) [4, 7, 13, 18, 21] (.rd (some ((.t 1), true)) .t (.ld (some 6) (.s 3)) [4, 7, 13, 18, 21] (.rd (some ((.t 2), true)) .t (.ld (some 6) (.s 2)) [7, 13, 18, 21] (.rd (some ((.t 3), true)) .t (.ld (some 6) (.s 3)) [7, 13, 18, 21] (.ef 4 (some ((.t 4), true)) .t (.call 14 [(.t 3), (.t 2)]) (.ef 7 (some ((.t 5), true)) .t (.call 15 [(.t 2), (.t 1)]) (.rd (some ((.t 6), true)) .t (.v (.beq false (.t 1) (.t 0))) [13, 18, 21] (.rd none .t (.v (.pick (.t 7) (.t 0) (.c (.bool false)))) [13, 18, 21] (.rd none .t (.v (.mv (.t 0))) [13, 18, 21] (.rd (some ((.t 0), true)) .t (.ld (some 6) (.s 2)) [13, 18, 21] (.rd (some ((.t 1), true)) .t (.ld (some 6) (.s 2)) [13, 18, 21] (.ef 13 (some ((.t 2), true)) .t (.call 14 [(.t 1), (.t 0)]) (.rd none .t (.v (.pick (.t 3) (.t 0) (.c (.bool false)))) [18, 21] (.rd none .t (.v (.mv (.t 0))) [18, 21] (.rd (some ((.t 0), true)) .t (.ld (some 6) (.s 3)) [18, 21] (.rd (some ((.t 1), true)) .t (.ld (some 6) (.s 2)) [18, 21] (.rd (some ((.t 2), true)) .t (.ld (some 6) (.s 2)) [21] (.rd (some ((.t 3), true)) .t (.ld (some 6) (.s 3)) [21] (.ef 18 (some ((.t 4), true)) .t (.call 14 [(.t 3), (.t 2)]) (.ef 21 (some ((.t 5), true)) .t (.call 14 [(.t 2), (.t 1)]) (.rd (some ((.t 6), true)) .t (.v (.beq false (.t 1) (.t 0))) [] (.rd none .t (.v (.pick (.t 7) (.t 0) (.c (.bool false)))) [] (.rd none (.s 4) (.v (.mv (.t 0))) [] .done)))))))))))))))))))))))))
def c4 : Gx.Fn := ⟨29, c4k, (.seq (.ops c4r0) (.seq (.de c4d1) .ret)), [(.tmp (.s 4))]⟩
theorem c4ok : stripFn Try.prog c4k Try.f4 = some c4 := by kernel_rfl

/- plexuslaw09.LatticeKinds -/
@[go_sem] def c5k : List Nat := [0, 1, 2, 4, 7]
@[go_sem] def c5r0 : List GOp := [(.op none (.s 1) (.bx 26 (.s 0))),
  (.op none (.s 2) (.v (.mv (.c (.bool false)))))]
@[go_sem] def c5r1 : List GOp := [(.op none .t (.call 11 [])),
  (.op none (.s 3) (.v (.un .not (.t 0))))]
@[go_sem] def c5r2 : List GOp := [(.op none (.s 2) (.v (.mv (.c (.bool false)))))]
def c5s3 : SCode := (.cond (.s 3) (.seq (.ops c5r2) .ret) .skip)
@[go_sem] theorem c5s3eq : vc P E c5s3 σ H Q = vc P E (.cond (.s 3) (.seq (.ops c5r2) .ret) .skip) σ H Q := rfl
@[go_sem] def c5r4 : List GOp := [(.op none .t (.ld (some 6) (.s 1))),
  (.op none .t (.call 13 [(.t 0)])),
  (.op none (.s 4) (.v (.bin .neq (.t 0) (.c (.int .i64 0)))))]
@[go_sem] def c5r5 : List GOp := [(.op none (.s 2) (.v (.mv (.c (.bool true)))))]
def c5s6 : SCode := (.cond (.s 4) (.seq (.ops c5r5) .ret) .skip)
@[go_sem] theorem c5s6eq : vc P E c5s6 σ H Q = vc P E (.cond (.s 4) (.seq (.ops c5r5) .ret) .skip) σ H Q := rfl
@[go_sem] def c5d7 : DT := (.rd none .t (.ld (some 6) (.s 1)) [1, 3, 7, 9, 14, 16, 21, 23, 28, 32] (.rd none .t (.ld (some 6) (.s 1)) [3, 7, 9, 14, 16, 21, 23, 28, 32] (.ef 1 none .t (.call 16 [(.t 1)]) (.ef 3 none .t (.call 17 [(.t 1)]) (.rd none .t (.v (.beq false (.t 1) (.t 0))) [7, 9, 14, 16, 21, 23, 28, 32] (.rd none .t (.v (.mv (.t 0))) [7, 9, 14, 16, 21, 23, 28, 32] (.rd (some ((.t 0), true)) .t (.ld (some 6) (.s 1)) [7, 9, 14, 16, 21, 23, 28, 32] (.rd (some ((.t 1), true)) .t (.ld (some 6) (.s 1)) [9, 14, 16, 21, 23, 28, 32] (.ef 7 (some ((.t 2), true)) .t (.call 18 [(.t 1)]) (.ef 9 (some ((.t 3), true)) .t (.call 19 [(.t 1)]) (.rd (some ((.t 4), true)) .t (.v (.beq false (.t 1) (.t 0))) [14, 16, 21, 23, 28, 32] (.rd none .t (.v (.pick (.t 5) (.t 0) (.c (.bool false)))) [14, 16, 21, 23, 28, 32] (.rd none .t (.v (.mv (.t 0))) [14, 16, 21, 23, 28, 32] (.rd (some ((.t 0), true)) .t (.ld (some 6) (.s 1)) [14, 16, 21, 23, 28, 32] (.rd (some ((.t 1), true)) .t (.ld (some 6) (.s 1)) [16, 21, 23, 28, 32] (.ef 14 (some ((.t 2), true)) .t (.call 20 [(.t 1)]) (.ef 16 (some ((.t 3), true)) .t (.call 21 [(.t 1)]) (.rd (some ((.t 4), true)) .t (.v (.beq false (.t 1) (.t 0))) [21, 23, 28, 32] (.rd none .t (.v (.pick (.t 5) (.t 0) (.c (.bool false)))) [21, 23, 28, 32] (.rd none .t (.v (.mv (.t 0))) [21, 23, 28, 32] (.rd (some ((.t 0), true)) .t (.ld (some 6) (.s 1)) [21, 23, 28, 32] (.rd (some ((.t 1), true)) .t (.ld (some 6) (.s 1)) [23, 28, 32] (.ef 21 (some ((.t 2), true)) .t (.call 22 [(.t 1)]) (.ef 23 (some ((.t 3), true)) .t (.call 23 [(.t 1)]) (.rd (some ((.t 4), true)) .t (.v (.bin .eql (.t 1) (.t 0))) [28, 32] (.rd none .t (.v (.pick (.t 5) (.t 0) (.c (.bool false)))) [28, 32] (.rd none .t (.v (.mv (.t 0))) [28, 32] (.rd (some ((.t 0), true)) .t (.ld (some 6) (.s 1)) [28, 32] (.ef 28 (some ((.t 1), true)) .t (.call 16 [(.t 0)]) (.rd (some ((.t 2), true)) .t (.v (.un .not (.t 0))) [32] (.rd (some ((.t 3), true)) .t (.v (.mv (.t 0))) [32] (.rd (some ((.t 0), false)) .t (.ld (some 6) (.s 1)) [32] (.ef 32 (some ((.t 1), false)) .t (.call 20 [(.t 0)]) (.rd (some ((.t 6), true)) .t (.v (.pick (.t 2) (.c (.bool true)) (.t 0))) [] (.rd none .t (.v (.pick (.t 7) (.t 0) (.c (.bool false)))) [] (.rd none (.s 2) (.v (.mv (.t 0))) [] .done))))))))))))))))))))))))))))))))))))
def c5s8 : SCode := (.seq (.seq (.ops c5r4) c5s6) (.seq (.de c5d7) .ret))
@[go_sem] theorem c5s8eq : vc P E c5s8 σ H Q = vc P E (.seq (.seq (.ops c5r4) c5s6) (.seq (.de c5d7) .ret)) σ H Q := rfl
def c5s9 : SCode := (.seq (.seq (.ops c5r1) c5s3) c5s8)
@[go_sem] theorem c5s9eq : vc P E c5s9 σ H Q = vc P E (.seq (.seq (.ops c5r1) c5s3) c5s8) σ H Q := rfl
def c5 : Gx.Fn := ⟨43, c5k, (.seq (.ops c5r0) c5s9), [(.tmp (.s 2))]⟩
theorem c5ok : stripFn Try.prog c5k Try.f5 = some c5 := by kernel_rfl

/- plexuslaw09.LatticeFields -/
@[go_sem] def c6k : List Nat := [0, 1, 2, 4, 5, 6, 7, 9, 12, 21, 26, 35]
@[go_sem] def c6r0 : List GOp := [(.op none (.s 2) (.bx 26 (.s 0))),
  (.op none (.s 3) (.v (.mv (.c (.bool false)))))]
@[go_sem] def c6r1 : List GOp := [(.op none .t (.call 11 [])),
  (.op none (.s 7) (.v (.un .not (.t 0))))]
@[go_sem] def c6r2 : List GOp := [(.op none (.s 3) (.v (.mv (.c (.bool false)))))]
def c6s3 : SCode := (.cond (.s 7) (.seq (.ops c6r2) .ret) .skip)
@[go_sem] theorem c6s3eq : vc P E c6s3 σ H Q = vc P E (.cond (.s 7) (.seq (.ops c6r2) .ret) .skip) σ H Q := rfl
@[go_sem] def c6r4 : List GOp := [(.op none .t (.ld (some 6) (.s 2))),
  (.op none .t (.call 12 [(.t 0)])),
  (.op none (.s 8) (.v (.bin .neq (.t 0) (.c (.int .i64 0)))))]
@[go_sem] def c6r5 : List GOp := [(.op none (.s 3) (.v (.mv (.c (.bool true)))))]
def c6s6 : SCode := (.cond (.s 8) (.seq (.ops c6r5) .ret) .skip)
@[go_sem] theorem c6s6eq : vc P E c6s6 σ H Q = vc P E (.cond (.s 8) (.seq (.ops c6r5) .ret) .skip) σ H Q := rfl
@[go_sem] def c6r7 : List GOp := [(.op none .t (.ld (some 6) (.s 2))),
  (.op none .t (.v (.mv (.s 1)))),
  (.op none .t (.call 24 [(.t 1), (.t 0)])),
  (.op none .t (.v (.mv (.t 0)))),
  (.op none .t (.v (.ext (.t 0) 0))),
  (.op none .t (.v (.ext (.t 1) 1))),
  (.op none (.s 4) (.al 26 [(.int .i64 0), (.int .i64 0), (.int .i64 0), (.slice none 0 0), (.slice none 0 0), (.slice none 0 0)])),
  (.op none .no (.st 6 (.s 4) (.t 1))),
  (.op none (.s 5) (.v (.mv (.t 0))))]
@[go_sem] def c6r8 : List GOp := [(.op none .t (.v (.fa 0 (.s 2)))),
  (.op none .t (.ld none (.t 0))),
  (.op none (.s 9) (.v (.bin .eql (.t 0) (.c (.int .i64 6)))))]
@[go_sem] def c6r9 : List GOp := [(.op none (.s 6) (.v (.mv (.c (.int .i64 0)))))]
@[go_sem] def c6r10 : List GOp := [(.op none .t (.v (.mv (.s 6)))),
  (.op none .t (.v (.fa 3 (.s 2)))),
  (.op none .t (.ld none (.t 0))),
  (.op none .t (.v (.len (.t 0)))),
  (.op none (.s 10) (.v (.bin .lss (.t 3) (.t 0))))]
def c6s11 : SCode := (.cond (.s 10) .skip (.exit 0))
@[go_sem] theorem c6s11eq : vc P E c6s11 σ H Q = vc P E (.cond (.s 10) .skip (.exit 0)) σ H Q := rfl
@[go_sem] def c6r12 : List GOp := [(.op none .t (.v (.fa 3 (.s 2)))),
  (.op none .t (.ld none (.t 0))),
  (.op none .t (.v (.mv (.s 6)))),
  (.op none .t (.v (.ix 1 (.t 1) (.t 0)))),
  (.op none .t (.ld none (.t 0))),
  (.op none .t (.v (.mv (.s 1)))),
  (.op none (.s 11) (.v (.bin .eql (.t 1) (.t 0))))]
@[go_sem] def c6d13 : DT := (.rd none .t (.v (.mv (.s 5))) [8] (.rd none .t (.v (.mv (.t 0))) [8] (.rd (some ((.t 0), true)) .t (.ld (some 6) (.s 4)) [8] (.rd (some ((.t 1), true)) .t (.v (.fa 4 (.s 2))) [8] (.rd (some ((.t 2), true)) .t (.ld none (.t 0)) [8] (.rd (some ((.t 3), true)) .t (.v (.mv (.s 6))) [8] (.rd (some ((.t 4), true)) .t (.v (.ix 6 (.t 1) (.t 0))) [8] (.rd (some ((.t 5), true)) .t (.ld (some 6) (.t 0)) [8] (.ef 8 (some ((.t 6), true)) .t (.call 14 [(.t 5), (.t 0)]) (.rd none .t (.v (.pick (.t 7) (.t 0) (.c (.bool false)))) [] (.rd none (.s 3) (.v (.mv (.t 0))) [] .done)))))))))))
def c6s14 : SCode := (.cond (.s 11) (.seq (.de c6d13) .ret) .skip)
@[go_sem] theorem c6s14eq : vc P E c6s14 σ H Q = vc P E (.cond (.s 11) (.seq (.de c6d13) .ret) .skip) σ H Q := rfl
@[go_sem] def c6r15 : List GOp := [(.op none .t (.v (.mv (.s 6)))),
  (.op none .t (.v (.bin .add (.t 0) (.c (.int .i64 1))))),
  (.op none (.s 6) (.v (.mv (.t 0))))]
def c6s16 : SCode := (.ops c6r15)
@[go_sem] theorem c6s16eq : vc P E c6s16 σ H Q = vc P E (.ops c6r15) σ H Q := rfl
def c6s17 : SCode := (.seq (.block 1 (.seq (.ops c6r12) c6s14)) c6s16)
@[go_sem] theorem c6s17eq : vc P E c6s17 σ H Q = vc P E (.seq (.block 1 (.seq (.ops c6r12) c6s14)) c6s16) σ H Q := rfl
def c6s18 : SCode := (.seq (.seq (.ops c6r10) c6s11) c6s17)
@[go_sem] theorem c6s18eq : vc P E c6s18 σ H Q = vc P E (.seq (.seq (.ops c6r10) c6s11) c6s17) σ H Q := rfl
def c6s19 : SCode := (.block 0 (.loop c6k c6s18))
@[go_sem] theorem c6s19eq : vc P E c6s19 σ H Q = vc P E (.block 0 (.loop c6k c6s18)) σ H Q := rfl
def c6s20 : SCode := (.seq (.ops c6r9) c6s19)
@[go_sem] theorem c6s20eq : vc P E c6s20 σ H Q = vc P E (.seq (.ops c6r9) c6s19) σ H Q := rfl
def c6s21 : SCode := (.cond (.s 9) c6s20 .skip)
@[go_sem] theorem c6s21eq : vc P E c6s21 σ H Q = vc P E (.cond (.s 9) c6s20 .skip) σ H Q := rfl
@[go_sem] def c6r22 : List GOp := [(.op none .t (.v (.mv (.s 5)))),
  (.op none .t (.v (.un .not (.t 0)))),
  (.op none (.s 3) (.v (.mv (.t 0))))]
def c6s23 : SCode := (.seq (.ops c6r22) .ret)
@[go_sem] theorem c6s23eq : vc P E c6s23 σ H Q = vc P E (.seq (.ops c6r22) .ret) σ H Q := rfl
def c6s24 : SCode := (.seq (.seq (.ops c6r8) c6s21) c6s23)
@[go_sem] theorem c6s24eq : vc P E c6s24 σ H Q = vc P E (.seq (.seq (.ops c6r8) c6s21) c6s23) σ H Q := rfl
def c6s25 : SCode := (.seq (.ops c6r7) c6s24)
@[go_sem] theorem c6s25eq : vc P E c6s25 σ H Q = vc P E (.seq (.ops c6r7) c6s24) σ H Q := rfl
def c6s26 : SCode := (.seq (.seq (.ops c6r4) c6s6) c6s25)
@[go_sem] theorem c6s26eq : vc P E c6s26 σ H Q = vc P E (.seq (.seq (.ops c6r4) c6s6) c6s25) σ H Q := rfl
def c6s27 : SCode := (.seq (.seq (.ops c6r1) c6s3) c6s26)
@[go_sem] theorem c6s27eq : vc P E c6s27 σ H Q = vc P E (.seq (.seq (.ops c6r1) c6s3) c6s26) σ H Q := rfl
def c6 : Gx.Fn := ⟨48, c6k, (.seq (.ops c6r0) c6s27), [(.tmp (.s 3))]⟩
theorem c6ok : stripFn Try.prog c6k Try.f6 = some c6 := by kernel_rfl

/- plexuslaw09.LatticeEncodes -/
@[go_sem] def c7k : List Nat := [0, 1, 2, 3, 4, 5, 7, 10]
@[go_sem] def c7r0 : List GOp := [(.op none (.s 1) (.bx 26 (.s 0))),
  (.op none (.s 2) (.v (.mv (.c (.bool false)))))]
@[go_sem] def c7r1 : List GOp := [(.op none .t (.call 11 [])),
  (.op none (.s 6) (.v (.un .not (.t 0))))]
@[go_sem] def c7r2 : List GOp := [(.op none (.s 2) (.v (.mv (.c (.bool false)))))]
def c7s3 : SCode := (.cond (.s 6) (.seq (.ops c7r2) .ret) .skip)
@[go_sem] theorem c7s3eq : vc P E c7s3 σ H Q = vc P E (.cond (.s 6) (.seq (.ops c7r2) .ret) .skip) σ H Q := rfl
@[go_sem] def c7r4 : List GOp := [(.op none .t (.ld (some 6) (.s 1))),
  (.op none .t (.call 13 [(.t 0)])),
  (.op none (.s 7) (.v (.bin .neq (.t 0) (.c (.int .i64 0)))))]
@[go_sem] def c7r5 : List GOp := [(.op none (.s 2) (.v (.mv (.c (.bool true)))))]
def c7s6 : SCode := (.cond (.s 7) (.seq (.ops c7r5) .ret) .skip)
@[go_sem] theorem c7s6eq : vc P E c7s6 σ H Q = vc P E (.cond (.s 7) (.seq (.ops c7r5) .ret) .skip) σ H Q := rfl
@[go_sem] def c7r7 : List GOp := [(.op none .t (.ld (some 6) (.s 1))),
  (.op none .t (.call 25 [(.t 0)])),
  (.op none (.s 3) (.v (.mv (.t 0))))]
@[go_sem] def c7r8 : List GOp := [(.op none .t (.v (.mv (.s 3)))),
  (.op none .t (.call 26 [(.t 0)])),
  (.op none .t (.v (.mv (.t 0)))),
  (.op none .t (.v (.ext (.t 0) 0))),
  (.op none .t (.v (.ext (.t 1) 1))),
  (.op none (.s 4) (.al 26 [(.int .i64 0), (.int .i64 0), (.int .i64 0), (.slice none 0 0), (.slice none 0 0), (.slice none 0 0)])),
  (.op none .no (.st 6 (.s 4) (.t 1))),
  (.op none (.s 5) (.v (.mv (.t 0))))]
@[go_sem] def c7d9 : DT := (.rd none .t (.v (.mv (.s 3))) [13] (.rd none .t (.b2s (.t 0)) [13] (.rd none .t (.ld (some 6) (.s 1)) [3, 13] (.ef 3 none .t (.call 27 [(.t 0)]) (.rd none .t (.b2s (.t 0)) [13] (.rd none .t (.v (.bin .eql (.t 3) (.t 0))) [13] (.rd none .t (.v (.mv (.t 0))) [13] (.rd (some ((.t 0), true)) .t (.v (.mv (.s 5))) [13] (.rd (some ((.t 1), true)) .t (.v (.bin .eql (.t 0) (.c (.int .i64 0)))) [13] (.rd none .t (.v (.pick (.t 2) (.t 0) (.c (.bool false)))) [13] (.rd none .t (.v (.mv (.t 0))) [13] (.rd (some ((.t 0), true)) .t (.ld (some 6) (.s 4)) [13] (.rd (some ((.t 1), true)) .t (.ld (some 6) (.s 1)) [13] (.ef 13 (some ((.t 2), true)) .t (.call 15 [(.t 1), (.t 0)]) (.rd none .t (.v (.pick (.t 3) (.t 0) (.c (.bool false)))) [] (.rd none (.s 2) (.v (.mv (.t 0))) [] .done))))))))))))))))
def c7s10 : SCode := (.seq (.ops c7r8) (.seq (.de c7d9) .ret))
@[go_sem] theorem c7s10eq : vc P E c7s10 σ H Q = vc P E (.seq (.ops c7r8) (.seq (.de c7d9) .ret)) σ H Q := rfl
def c7s11 : SCode := (.seq (.ops c7r7) c7s10)
@[go_sem] theorem c7s11eq : vc P E c7s11 σ H Q = vc P E (.seq (.ops c7r7) c7s10) σ H Q := rfl
def c7s12 : SCode := (.seq (.seq (.ops c7r4) c7s6) c7s11)
@[go_sem] theorem c7s12eq : vc P E c7s12 σ H Q = vc P E (.seq (.seq (.ops c7r4) c7s6) c7s11) σ H Q := rfl
def c7s13 : SCode := (.seq (.seq (.ops c7r1) c7s3) c7s12)
@[go_sem] theorem c7s13eq : vc P E c7s13 σ H Q = vc P E (.seq (.seq (.ops c7r1) c7s3) c7s12) σ H Q := rfl
def c7 : Gx.Fn := ⟨33, c7k, (.seq (.ops c7r0) c7s13), [(.tmp (.s 2))]⟩
theorem c7ok : stripFn Try.prog c7k Try.f7 = some c7 := by kernel_rfl

/- plexuslaw09.LatticeDecodes -/
@[go_sem] def c8k : List Nat := [0, 2, 3, 4, 5, 6, 8, 11, 23]
@[go_sem] def c8r0 : List GOp := [(.op none (.s 1) (.v (.mv (.c (.bool false)))))]
@[go_sem] def c8r1 : List GOp := [(.op none .t (.call 11 [])),
  (.op none (.s 6) (.v (.un .not (.t 0))))]
@[go_sem] def c8r2 : List GOp := [(.op none (.s 1) (.v (.mv (.c (.bool false)))))]
def c8s3 : SCode := (.cond (.s 6) (.seq (.ops c8r2) .ret) .skip)
@[go_sem] theorem c8s3eq : vc P E c8s3 σ H Q = vc P E (.cond (.s 6) (.seq (.ops c8r2) .ret) .skip) σ H Q := rfl
@[go_sem] def c8r4 : List GOp := [(.op none .t (.v (.mv (.s 0)))),
  (.op none .t (.v (.len (.t 0)))),
  (.op none (.s 7) (.v (.bin .gtr (.t 0) (.c (.int .i64 20000)))))]
@[go_sem] def c8r5 : List GOp := [(.op none (.s 1) (.v (.mv (.c (.bool true)))))]
def c8s6 : SCode := (.cond (.s 7) (.seq (.ops c8r5) .ret) .skip)
@[go_sem] theorem c8s6eq : vc P E c8s6 σ H Q = vc P E (.cond (.s 7) (.seq (.ops c8r5) .ret) .skip) σ H Q := rfl
@[go_sem] def c8r7 : List GOp := [(.op none .t (.v (.mv (.s 0)))),
  (.op none .t (.call 26 [(.t 0)])),
  (.op none .t (.v (.mv (.t 0)))),
  (.op none .t (.v (.ext (.t 0) 0))),
  (.op none .t (.v (.ext (.t 1) 1))),
  (.op none (.s 2) (.al 26 [(.int .i64 0), (.int .i64 0), (.int .i64 0), (.slice none 0 0), (.slice none 0 0), (.slice none 0 0)])),
  (.op none .no (.st 6 (.s 2) (.t 1))),
  (.op none (.s 3) (.v (.mv (.t 0))))]
@[go_sem] def c8r8 : List GOp := [(.op none .t (.v (.mv (.s 0)))),
  (.op none .t (.call 28 [(.t 0)])),
  (.op none .t (.v (.mv (.t 0)))),
  (.op none .t (.v (.ext (.t 0) 0))),
  (.op none .t (.v (.ext (.t 1) 1))),
  (.op none (.s 4) (.al 26 [(.int .i64 0), (.int .i64 0), (.int .i64 0), (.slice none 0 0), (.slice none 0 0), (.slice none 0 0)])),
  (.op none .no (.st 6 (.s 4) (.t 1))),
  (.op none (.s 5) (.v (.mv (.t 0))))]
@[go_sem] def c8r9 : List GOp := [(.op none .t (.v (.mv (.s 5)))),
  (.op none (.s 8) (.v (.un .not (.t 0))))]
@[go_sem] def c8r10 : List GOp := [(.op none .t (.v (.mv (.s 3)))),
  (.op none .t (.v (.bin .eql (.t 0) (.c (.int .i64 2))))),
  (.op none (.s 1) (.v (.mv (.t 0))))]
def c8s11 : SCode := (.seq (.ops c8r10) .ret)
@[go_sem] theorem c8s11eq : vc P E c8s11 σ H Q = vc P E (.seq (.ops c8r10) .ret) σ H Q := rfl
def c8s12 : SCode := (.cond (.s 8) c8s11 .skip)
@[go_sem] theorem c8s12eq : vc P E c8s12 σ H Q = vc P E (.cond (.s 8) c8s11 .skip) σ H Q := rfl
@[go_sem] def c8d13 : DT := (.rd none .t (.v (.mv (.s 3))) [5, 9] (.rd none .t (.v (.bin .eql (.t 0) (.c (.int .i64 0)))) [5, 9] (.rd none .t (.v (.mv (.t 0))) [5, 9] (.rd (some ((.t 0), true)) .t (.ld (some 6) (.s 2)) [5, 9] (.rd (some ((.t 1), true)) .t (.ld (some 6) (.s 4)) [5, 9] (.ef 5 (some ((.t 2), true)) .t (.call 15 [(.t 1), (.t 0)]) (.rd none .t (.v (.pick (.t 3) (.t 0) (.c (.bool false)))) [9] (.rd none .t (.v (.mv (.t 0))) [9] (.rd (some ((.t 0), true)) .t (.ld (some 6) (.s 2)) [9] (.rd (some ((.t 1), true)) .t (.v (.mv (.s 0))) [] (.rd (some ((.t 2), true)) .t (.b2s (.t 0)) [] (.ef 9 (some ((.t 3), true)) .t (.call 25 [(.t 2)]) (.rd (some ((.t 4), true)) .t (.b2s (.t 0)) [] (.rd (some ((.t 5), true)) .t (.v (.bin .eql (.t 0) (.t 2))) [] (.rd none .t (.v (.pick (.t 6) (.t 0) (.c (.bool false)))) [] (.rd none (.s 1) (.v (.mv (.t 0))) [] .done))))))))))))))))
def c8s14 : SCode := (.seq (.seq (.ops c8r9) c8s12) (.seq (.de c8d13) .ret))
@[go_sem] theorem c8s14eq : vc P E c8s14 σ H Q = vc P E (.seq (.seq (.ops c8r9) c8s12) (.seq (.de c8d13) .ret)) σ H Q := rfl
def c8s15 : SCode := (.seq (.ops c8r8) c8s14)
@[go_sem] theorem c8s15eq : vc P E c8s15 σ H Q = vc P E (.seq (.ops c8r8) c8s14) σ H Q := rfl
def c8s16 : SCode := (.seq (.ops c8r7) c8s15)
@[go_sem] theorem c8s16eq : vc P E c8s16 σ H Q = vc P E (.seq (.ops c8r7) c8s15) σ H Q := rfl
def c8s17 : SCode := (.seq (.seq (.ops c8r4) c8s6) c8s16)
@[go_sem] theorem c8s17eq : vc P E c8s17 σ H Q = vc P E (.seq (.seq (.ops c8r4) c8s6) c8s16) σ H Q := rfl
def c8s18 : SCode := (.seq (.seq (.ops c8r1) c8s3) c8s17)
@[go_sem] theorem c8s18eq : vc P E c8s18 σ H Q = vc P E (.seq (.seq (.ops c8r1) c8s3) c8s17) σ H Q := rfl
def c8 : Gx.Fn := ⟨41, c8k, (.seq (.ops c8r0) c8s18), [(.tmp (.s 1))]⟩
theorem c8ok : stripFn Try.prog c8k Try.f8 = some c8 := by kernel_rfl

/- plexuslaw09.LatticeApart -/
@[go_sem] def c9k : List Nat := [0, 1, 2, 3, 4, 5, 6, 7, 9, 17]
@[go_sem] def c9r0 : List GOp := [(.op none (.s 2) (.bx 26 (.s 0))),
  (.op none (.s 3) (.bx 26 (.s 1))),
  (.op none (.s 4) (.v (.mv (.c (.bool false)))))]
@[go_sem] def c9r1 : List GOp := [(.op none .t (.call 11 [])),
  (.op none (.s 8) (.v (.un .not (.t 0))))]
@[go_sem] def c9r2 : List GOp := [(.op none (.s 4) (.v (.mv (.c (.bool false)))))]
def c9s3 : SCode := (.cond (.s 8) (.seq (.ops c9r2) .ret) .skip)
@[go_sem] theorem c9s3eq : vc P E c9s3 σ H Q = vc P E (.cond (.s 8) (.seq (.ops c9r2) .ret) .skip) σ H Q := rfl
@[go_sem] def c9r4 : List GOp := [(.op none .t (.ld (some 6) (.s 2))),
  (.op none .t (.call 12 [(.t 0)])),
  (.op none .t (.v (.bin .neq (.t 0) (.c (.int .i64 0))))),
  (.op none .t (.v (.mv (.t 0)))),
  (.op (some ((.t 0), (false, true))) .t (.ld (some 6) (.s 3))),
  (.op (some ((.t 1), (false, false))) .t (.call 12 [(.t 0)])),
  (.op (some ((.t 2), (false, false))) .t (.v (.bin .neq (.t 0) (.c (.int .i64 0))))),
  (.op none (.s 9) (.v (.pick (.t 3) (.c (.bool true)) (.t 0))))]
@[go_sem] def c9r5 : List GOp := [(.op none (.s 4) (.v (.mv (.c (.bool true)))))]
def c9s6 : SCode := (.cond (.s 9) (.seq (.ops c9r5) .ret) .skip)
@[go_sem] theorem c9s6eq : vc P E c9s6 σ H Q = vc P E (.cond (.s 9) (.seq (.ops c9r5) .ret) .skip) σ H Q := rfl
@[go_sem] def c9d7 : DT := (.rd none .t (.ld (some 6) (.s 2)) [1, 3] (.rd none .t (.ld (some 6) (.s 3)) [3] (.ef 1 none .t (.call 25 [(.t 1)]) (.ef 3 none .t (.call 25 [(.t 1)]) (.rd none (.s 5) (.v (.mv (.t 1))) [] (.rd none (.s 6) (.v (.mv (.t 0))) [] .done))))))
@[go_sem] def c9r8 : List GOp := [(.op none .t (.v (.mv (.s 5)))),
  (.op none .t (.v (.len (.t 0)))),
  (.op none .t (.v (.mv (.s 6)))),
  (.op none .t (.v (.len (.t 0)))),
  (.op none .t (.v (.mm false (.t 2) (.t 0)))),
  (.op none (.s 7) (.v (.mv (.t 0))))]
@[go_sem] def c9d9 : DT := (.rd none .t (.v (.mv (.s 5))) [] (.rd none .t (.v (.mv (.s 7))) [] (.rd none .t (.v (.sl 1 (.t 1) none (some (.t 0)))) [] (.rd none .t (.b2s (.t 0)) [] (.rd none .t (.v (.mv (.s 6))) [] (.rd none .t (.v (.mv (.s 7))) [] (.rd none .t (.v (.sl 1 (.t 1) none (some (.t 0)))) [] (.rd none .t (.b2s (.t 0)) [] (.rd none .t (.v (.bin .eql (.t 4) (.t 0))) [] (.rd none .t (.ld (some 6) (.s 2)) [11] (.rd none .t (.ld (some 6) (.s 3)) [11] (.ef 11 none .t (.call 14 [(.t 1), (.t 0)]) (.rd none .t (.v (.beq false (.t 3) (.t 0))) [] (.rd none (.s 4) (.v (.mv (.t 0))) [] .done))))))))))))))
def c9s10 : SCode := (.seq (.ops c9r8) (.seq (.de c9d9) .ret))
@[go_sem] theorem c9s10eq : vc P E c9s10 σ H Q = vc P E (.seq (.ops c9r8) (.seq (.de c9d9) .ret)) σ H Q := rfl
def c9s11 : SCode := (.seq (.seq (.ops c9r4) c9s6) (.seq (.de c9d7) c9s10))
@[go_sem] theorem c9s11eq : vc P E c9s11 σ H Q = vc P E (.seq (.seq (.ops c9r4) c9s6) (.seq (.de c9d7) c9s10)) σ H Q := rfl
def c9s12 : SCode := (.seq (.seq (.ops c9r1) c9s3) c9s11)
@[go_sem] theorem c9s12eq : vc P E c9s12 σ H Q = vc P E (.seq (.seq (.ops c9r1) c9s3) c9s11) σ H Q := rfl
def c9 : Gx.Fn := ⟨40, c9k, (.seq (.ops c9r0) c9s12), [(.tmp (.s 4))]⟩
theorem c9ok : stripFn Try.prog c9k Try.f9 = some c9 := by kernel_rfl

/- plexuslaw09.LatticeParts -/
@[go_sem] def c10k : List Nat := [0, 1, 2, 3, 4, 6, 9, 14, 49]
@[go_sem] def c10r0 : List GOp := [(.op none (.s 1) (.bx 26 (.s 0))),
  (.op none (.s 2) (.v (.mv (.c (.bool false)))))]
@[go_sem] def c10r1 : List GOp := [(.op none .t (.call 11 [])),
  (.op none (.s 5) (.v (.un .not (.t 0))))]
@[go_sem] def c10r2 : List GOp := [(.op none (.s 2) (.v (.mv (.c (.bool false)))))]
def c10s3 : SCode := (.seq (.ops c10r2) .ret)
@[go_sem] theorem c10s3eq : vc P E c10s3 σ H Q = vc P E (.seq (.ops c10r2) .ret) σ H Q := rfl
def c10s4 : SCode := (.cond (.s 5) c10s3 .skip)
@[go_sem] theorem c10s4eq : vc P E c10s4 σ H Q = vc P E (.cond (.s 5) c10s3 .skip) σ H Q := rfl
@[go_sem] def c10r5 : List GOp := [(.op none .t (.ld (some 6) (.s 1))),
  (.op none .t (.call 12 [(.t 0)])),
  (.op none (.s 6) (.v (.bin .neq (.t 0) (.c (.int .i64 0)))))]
@[go_sem] def c10r6 : List GOp := [(.op none (.s 2) (.v (.mv (.c (.bool true)))))]
def c10s7 : SCode := (.seq (.ops c10r6) .ret)
@[go_sem] theorem c10s7eq : vc P E c10s7 σ H Q = vc P E (.seq (.ops c10r6) .ret) σ H Q := rfl
def c10s8 : SCode := (.cond (.s 6) c10s7 .skip)
@[go_sem] theorem c10s8eq : vc P E c10s8 σ H Q = vc P E (.cond (.s 6) c10s7 .skip) σ H Q := rfl
@[go_sem] def c10r9 : List GOp := [(.op none (.s 3) (.v (.mv (.c (.int .i64 0)))))]
@[go_sem] def c10r10 : List GOp := [(.op none (.s 4) (.v (.mv (.c (.int .i64 0)))))]
@[go_sem] def c10r11 : List GOp := [(.op none .t (.v (.mv (.s 4)))),
  (.op none .t (.v (.fa 4 (.s 1)))),
  (.op none .t (.ld none (.t 0))),
  (.op none .t (.v (.len (.t 0)))),
  (.op none (.s 7) (.v (.bin .lss (.t 3) (.t 0))))]
def c10s12 : SCode := (.cond (.s 7) .skip (.exit 0))
@[go_sem] theorem c10s12eq : vc P E c10s12 σ H Q = vc P E (.cond (.s 7) .skip (.exit 0)) σ H Q := rfl
@[go_sem] def c10r13 : List GOp := [(.op none .t (.v (.fa 4 (.s 1)))),
  (.op none .t (.ld none (.t 0))),
  (.op none .t (.v (.mv (.s 4)))),
  (.op none .t (.v (.ix 6 (.t 1) (.t 0)))),
  (.op none .t (.ld (some 6) (.t 0))),
  (.op none .t (.call 12 [(.t 0)])),
  (.op none .t (.v (.bin .neq (.t 0) (.c (.int .i64 0))))),
  (.op none .t (.v (.mv (.t 0)))),
  (.op (some ((.t 0), (false, true))) .t (.ld (some 6) (.s 1))),
  (.op (some ((.t 1), (false, false))) .t (.call 20 [(.t 0)])),
  (.op (some ((.t 2), (false, false))) .t (.v (.mv (.t 0)))),
  (.op (some ((.t 0), (true, true))) .t (.v (.fa 4 (.s 1)))),
  (.op (some ((.t 1), (true, false))) .t (.ld none (.t 0))),
  (.op (some ((.t 2), (true, false))) .t (.v (.mv (.s 4)))),
  (.op (some ((.t 3), (true, false))) .t (.v (.ix 6 (.t 1) (.t 0)))),
  (.op (some ((.t 4), (true, false))) .t (.ld (some 6) (.t 0))),
  (.op (some ((.t 5), (true, false))) .t (.call 20 [(.t 0)])),
  (.op (some ((.t 6), (true, false))) .t (.v (.un .not (.t 0)))),
  (.op (some ((.t 10), (false, true))) .t (.v (.pick (.t 7) (.t 0) (.c (.bool false))))),
  (.op none .t (.v (.pick (.t 11) (.c (.bool true)) (.t 0)))),
  (.op none .t (.v (.mv (.t 0)))),
  (.op (some ((.t 0), (false, true))) .t (.ld (some 6) (.s 1))),
  (.op (some ((.t 1), (false, false))) .t (.call 18 [(.t 0)])),
  (.op (some ((.t 2), (false, false))) .t (.v (.mv (.t 0)))),
  (.op (some ((.t 0), (true, true))) .t (.v (.fa 4 (.s 1)))),
  (.op (some ((.t 1), (true, false))) .t (.ld none (.t 0))),
  (.op (some ((.t 2), (true, false))) .t (.v (.mv (.s 4)))),
  (.op (some ((.t 3), (true, false))) .t (.v (.ix 6 (.t 1) (.t 0)))),
  (.op (some ((.t 4), (true, false))) .t (.ld (some 6) (.t 0))),
  (.op (some ((.t 5), (true, false))) .t (.call 18 [(.t 0)])),
  (.op (some ((.t 6), (true, false))) .t (.v (.un .not (.t 0)))),
  (.op (some ((.t 10), (false, true))) .t (.v (.pick (.t 7) (.t 0) (.c (.bool false))))),
  (.op none (.s 8) (.v (.pick (.t 11) (.c (.bool true)) (.t 0))))]
@[go_sem] def c10r14 : List GOp := [(.op none (.s 2) (.v (.mv (.c (.bool false)))))]
def c10s15 : SCode := (.seq (.ops c10r14) .ret)
@[go_sem] theorem c10s15eq : vc P E c10s15 σ H Q = vc P E (.seq (.ops c10r14) .ret) σ H Q := rfl
def c10s16 : SCode := (.cond (.s 8) c10s15 .skip)
@[go_sem] theorem c10s16eq : vc P E c10s16 σ H Q = vc P E (.cond (.s 8) c10s15 .skip) σ H Q := rfl
@[go_sem] def c10r17 : List GOp := [(.op none .t (.v (.mv (.s 3)))),
  (.op none .t (.v (.fa 4 (.s 1)))),
  (.op none .t (.ld none (.t 0))),
  (.op none .t (.v (.mv (.s 4)))),
  (.op none .t (.v (.ix 6 (.t 1) (.t 0)))),
  (.op none .t (.ld (some 6) (.t 0))),
  (.op none .t (.call 22 [(.t 0)])),
  (.op none .t (.v (.mm true (.t 6) (.t 0)))),
  (.op none (.s 3) (.v (.mv (.t 0))))]
def c10s18 : SCode := (.ops c10r17)
@[go_sem] theorem c10s18eq : vc P E c10s18 σ H Q = vc P E (.ops c10r17) σ H Q := rfl
@[go_sem] def c10r19 : List GOp := [(.op none .t (.v (.mv (.s 4)))),
  (.op none .t (.v (.bin .add (.t 0) (.c (.int .i64 1))))),
  (.op none (.s 4) (.v (.mv (.t 0))))]
def c10s20 : SCode := (.ops c10r19)
@[go_sem] theorem c10s20eq : vc P E c10s20 σ H Q = vc P E (.ops c10r19) σ H Q := rfl
def c10s21 : SCode := (.seq (.block 1 (.seq (.seq (.ops c10r13) c10s16) c10s18)) c10s20)
@[go_sem] theorem c10s21eq : vc P E c10s21 σ H Q = vc P E (.seq (.block 1 (.seq (.seq (.ops c10r13) c10s16) c10s18)) c10s20) σ H Q := rfl
def c10s22 : SCode := (.seq (.seq (.ops c10r11) c10s12) c10s21)
@[go_sem] theorem c10s22eq : vc P E c10s22 σ H Q = vc P E (.seq (.seq (.ops c10r11) c10s12) c10s21) σ H Q := rfl
def c10s23 : SCode := (.block 0 (.loop c10k c10s22))
@[go_sem] theorem c10s23eq : vc P E c10s23 σ H Q = vc P E (.block 0 (.loop c10k c10s22)) σ H Q := rfl
@[go_sem] def c10r24 : List GOp := [(.op none .t (.ld (some 6) (.s 1))),
  (.op none .t (.call 22 [(.t 0)])),
  (.op none .t (.v (.mv (.s 3)))),
  (.op none .t (.v (.bin .add (.t 0) (.c (.int .i64 1))))),
  (.op none .t (.v (.bin .eql (.t 2) (.t 0)))),
  (.op none .t (.v (.mv (.t 0)))),
  (.sel (.t 0) true [(.op (.v (.mv (.s 3)))), (.op (.v (.bin .lss (.t 0) (.c (.int .i64 6)))))] .t (.t 0) (.c (.bool false))),
  (.op none (.s 2) (.v (.mv (.t 0))))]
def c10s25 : SCode := (.seq (.ops c10r24) .ret)
@[go_sem] theorem c10s25eq : vc P E c10s25 σ H Q = vc P E (.seq (.ops c10r24) .ret) σ H Q := rfl
def c10s26 : SCode := (.seq (.seq (.ops c10r10) c10s23) c10s25)
@[go_sem] theorem c10s26eq : vc P E c10s26 σ H Q = vc P E (.seq (.seq (.ops c10r10) c10s23) c10s25) σ H Q := rfl
def c10s27 : SCode := (.seq (.ops c10r9) c10s26)
@[go_sem] theorem c10s27eq : vc P E c10s27 σ H Q = vc P E (.seq (.ops c10r9) c10s26) σ H Q := rfl
def c10s28 : SCode := (.seq (.seq (.ops c10r5) c10s8) c10s27)
@[go_sem] theorem c10s28eq : vc P E c10s28 σ H Q = vc P E (.seq (.seq (.ops c10r5) c10s8) c10s27) σ H Q := rfl
def c10s29 : SCode := (.seq (.seq (.ops c10r1) c10s4) c10s28)
@[go_sem] theorem c10s29eq : vc P E c10s29 σ H Q = vc P E (.seq (.seq (.ops c10r1) c10s4) c10s28) σ H Q := rfl
def c10 : Gx.Fn := ⟨67, c10k, (.seq (.ops c10r0) c10s29), [(.tmp (.s 2))]⟩
theorem c10ok : stripFn Try.prog c10k Try.f10 = some c10 := by kernel_rfl

/- plexuslaw09.awake -/
@[go_sem] def c11k : List Nat := [0, 1, 2, 3, 4, 5, 6, 7, 8]
@[go_sem] def c11r0 : List GOp := [(.op none (.s 0) (.v (.mv (.c (.bool false)))))]
@[go_sem] def c11r1 : List GOp := [(.op none .t (.v (.bld [(.int .i64 0), (.int .i64 0), (.int .i64 0), (.slice none 0 0), (.slice none 0 0), (.slice none 0 0)] [(0, (1, (.c (.int .i64 2)))), (2, (1, (.c (.int .i64 9))))]))),
  (.op none (.s 1) (.al 26 [(.int .i64 0), (.int .i64 0), (.int .i64 0), (.slice none 0 0), (.slice none 0 0), (.slice none 0 0)])),
  (.op none .no (.st 6 (.s 1) (.t 0)))]
@[go_sem] def c11r2 : List GOp := [(.op none .t (.v (.bld [(.int .i64 0), (.int .i64 0), (.int .i64 0), (.slice none 0 0), (.slice none 0 0), (.slice none 0 0)] [(0, (1, (.c (.int .i64 4))))]))),
  (.op none (.s 2) (.al 26 [(.int .i64 0), (.int .i64 0), (.int .i64 0), (.slice none 0 0), (.slice none 0 0), (.slice none 0 0)])),
  (.op none .no (.st 6 (.s 2) (.t 0)))]
@[go_sem] def c11r3 : List GOp := [(.op none .t (.ld (some 6) (.s 1))),
  (.op none .t (.ld (some 6) (.s 2))),
  (.op none .t (.bs 26 2 [(.int .i64 0), (.int .i64 0), (.int .i64 0), (.slice none 0 0), (.slice none 0 0), (.slice none 0 0), (.int .i64 0), (.int .i64 0), (.int .i64 0), (.slice none 0 0), (.slice none 0 0), (.slice none 0 0)] [(0, (6, (.t 1))), (6, (6, (.t 0)))])),
  (.op none .t (.v (.bld [(.int .i64 0), (.int .i64 0), (.int .i64 0), (.slice none 0 0), (.slice none 0 0), (.slice none 0 0)] [(0, (1, (.c (.int .i64 7)))), (4, (1, (.t 0)))]))),
  (.op none (.s 3) (.al 26 [(.int .i64 0), (.int .i64 0), (.int .i64 0), (.slice none 0 0), (.slice none 0 0), (.slice none 0 0)])),
  (.op none .no (.st 6 (.s 3) (.t 0)))]
@[go_sem] def c11r4 : List GOp := [(.op none .t (.bs 9 2 [(.string ⟨⟨[]⟩⟩), (.string ⟨⟨[]⟩⟩)] [(0, (1, (.c (.string ⟨⟨[98]⟩⟩)))), (1, (1, (.c (.string ⟨⟨[97]⟩⟩))))])),
  (.op none .t (.v (.bld [(.int .i64 0), (.int .i64 0), (.int .i64 0), (.slice none 0 0), (.slice none 0 0), (.slice none 0 0)] [(0, (1, (.c (.int .i64 1))))]))),
  (.op none .t (.ld (some 6) (.s 2))),
  (.op none .t (.bs 26 2 [(.int .i64 0), (.int .i64 0), (.int .i64 0), (.slice none 0 0), (.slice none 0 0), (.slice none 0 0), (.int .i64 0), (.int .i64 0), (.int .i64 0), (.slice none 0 0), (.slice none 0 0), (.slice none 0 0)] [(0, (6, (.t 1))), (6, (6, (.t 0)))])),
  (.op none .t (.v (.bld [(.int .i64 0), (.int .i64 0), (.int .i64 0), (.slice none 0 0), (.slice none 0 0), (.slice none 0 0)] [(0, (1, (.c (.int .i64 6)))), (3, (1, (.t 3))), (4, (1, (.t 0)))]))),
  (.op none (.s 4) (.al 26 [(.int .i64 0), (.int .i64 0), (.int .i64 0), (.slice none 0 0), (.slice none 0 0), (.slice none 0 0)])),
  (.op none .no (.st 6 (.s 4) (.t 0)))]
@[go_sem] def c11r5 : List GOp := [(.op none .t (.ld (some 6) (.s 4))),
  (.op none .t (.call 24 [(.t 0), (.c (.string ⟨⟨[97]⟩⟩))])),
  (.op none .t (.v (.mv (.t 0)))),
  (.op none .t (.v (.ext (.t 0) 0))),
  (.op none .t (.v (.ext (.t 1) 1))),
  (.op none (.s 5) (.al 26 [(.int .i64 0), (.int .i64 0), (.int .i64 0), (.slice none 0 0), (.slice none 0 0), (.slice none 0 0)])),
  (.op none .no (.st 6 (.s 5) (.t 1))),
  (.op none (.s 6) (.v (.mv (.t 0))))]
@[go_sem] def c11r6 : List GOp := [(.op none .t (.bs 5 3 [(.int .u8 0), (.int .u8 0), (.int .u8 0)] [(0, (1, (.c (.int .u8 2)))), (1, (1, (.c (.int .u8 0)))), (2, (1, (.c (.int .u8 18))))])),
  (.op none .t (.call 26 [(.t 0)])),
  (.op none .t (.v (.mv (.t 0)))),
  (.op none .t (.v (.ext (.t 0) 0))),
  (.op none .t (.v (.ext (.t 1) 1))),
  (.op none (.s 7) (.al 26 [(.int .i64 0), (.int .i64 0), (.int .i64 0), (.slice none 0 0), (.slice none 0 0), (.slice none 0 0)])),
  (.op none .no (.st 6 (.s 7) (.t 1))),
  (.op none (.s 8) (.v (.mv (.t 0))))]
@[go_sem] def c11r7 : List GOp := [(.op none .t (.ld (some 6) (.s 1))),
  (.op none .t (.call 25 [(.t 0)])),
  (.op none .t (.b2s (.t 0))),
  (.op none .t (.v (.bin .eql (.t 0) (.c (.string ⟨⟨[2, 0, 18]⟩⟩))))),
  (.op none .t (.v (.mv (.t 0)))),
  (.op (some ((.t 0), (true, true))) .t (.v (.bld [(.int .i64 0), (.int .i64 0), (.int .i64 0), (.slice none 0 0), (.slice none 0 0), (.slice none 0 0)] [(0, (1, (.c (.int .i64 2)))), (1, (1, (.c (.int .i64 3)))), (2, (1, (.c (.int .i64 2))))]))),
  (.op (some ((.t 1), (true, false))) .t (.call 12 [(.t 0)])),
  (.op (some ((.t 2), (true, false))) .t (.v (.bin .eql (.t 0) (.c (.int .i64 5))))),
  (.op none .t (.v (.pick (.t 3) (.t 0) (.c (.bool false))))),
  (.op none .t (.v (.mv (.t 0)))),
  (.op (some ((.t 0), (true, true))) .t (.ld (some 6) (.s 1))),
  (.op (some ((.t 1), (true, false))) .t (.call 16 [(.t 0)])),
  (.op none .t (.v (.pick (.t 2) (.t 0) (.c (.bool false))))),
  (.op none .t (.v (.mv (.t 0)))),
  (.op (some ((.t 0), (true, true))) .t (.ld (some 6) (.s 3))),
  (.op (some ((.t 1), (true, false))) .t (.call 16 [(.t 0)])),
  (.op (some ((.t 2), (true, false))) .t (.v (.un .not (.t 0)))),
  (.op none .t (.v (.pick (.t 3) (.t 0) (.c (.bool false))))),
  (.op none .t (.v (.mv (.t 0)))),
  (.op (some ((.t 0), (true, true))) .t (.ld (some 6) (.s 1))),
  (.op (some ((.t 1), (true, false))) .t (.call 18 [(.t 0)])),
  (.op none .t (.v (.pick (.t 2) (.t 0) (.c (.bool false))))),
  (.op none .t (.v (.mv (.t 0)))),
  (.op (some ((.t 0), (true, true))) .t (.ld (some 6) (.s 3))),
  (.op (some ((.t 1), (true, false))) .t (.call 18 [(.t 0)])),
  (.op (some ((.t 2), (true, false))) .t (.v (.un .not (.t 0)))),
  (.op none .t (.v (.pick (.t 3) (.t 0) (.c (.bool false))))),
  (.op none .t (.v (.mv (.t 0)))),
  (.op (some ((.t 0), (true, true))) .t (.ld (some 6) (.s 3))),
  (.op (some ((.t 1), (true, false))) .t (.call 20 [(.t 0)])),
  (.op none .t (.v (.pick (.t 2) (.t 0) (.c (.bool false))))),
  (.op none .t (.v (.mv (.t 0)))),
  (.op (some ((.t 0), (true, true))) .t (.ld (some 6) (.s 3))),
  (.op (some ((.t 1), (true, false))) .t (.call 22 [(.t 0)])),
  (.op (some ((.t 2), (true, false))) .t (.v (.bin .eql (.t 0) (.c (.int .i64 2))))),
  (.op none .t (.v (.pick (.t 3) (.t 0) (.c (.bool false))))),
  (.op none .t (.v (.mv (.t 0)))),
  (.sel (.t 0) true [(.op (.v (.mv (.s 6))))] .t (.t 0) (.c (.bool false))),
  (.op none .t (.v (.mv (.t 0)))),
  (.sel (.t 0) true [(.op (.v (.fa 0 (.s 5)))), (.op (.ld none (.t 0))), (.op (.v (.bin .eql (.t 0) (.c (.int .i64 4)))))] .t (.t 0) (.c (.bool false))),
  (.op none .t (.v (.mv (.t 0)))),
  (.sel (.t 0) true [(.op (.v (.mv (.s 8)))), (.op (.v (.bin .eql (.t 0) (.c (.int .i64 0)))))] .t (.t 0) (.c (.bool false))),
  (.op none .t (.v (.mv (.t 0)))),
  (.sel (.t 0) true [(.op (.v (.fa 2 (.s 7)))), (.op (.ld none (.t 0))), (.op (.v (.bin .eql (.t 0) (.c (.int .i64 9)))))] .t (.t 0) (.c (.bool false))),
  (.op none .t (.v (.mv (.t 0)))),
  (.op (some ((.t 0), (true, true))) .t (.ld (some 6) (.s 7))),
  (.op (some ((.t 1), (true, false))) .t (.ld (some 6) (.s 1))),
  (.op (some ((.t 2), (true, false))) .t (.call 14 [(.t 1), (.t 0)])),
  (.op none .t (.v (.pick (.t 3) (.t 0) (.c (.bool false))))),
  (.op none .t (.v (.mv (.t 0)))),
  (.op (some ((.t 0), (true, true))) .t (.ld (some 6) (.s 7))),
  (.op (some ((.t 1), (true, false))) .t (.ld (some 6) (.s 2))),
  (.op (some ((.t 2), (true, false))) .t (.call 14 [(.t 1), (.t 0)])),
  (.op (some ((.t 3), (true, false))) .t (.v (.un .not (.t 0)))),
  (.op none .t (.v (.pick (.t 4) (.t 0) (.c (.bool false))))),
  (.op none .t (.v (.mv (.t 0)))),
  (.op (some ((.t 0), (true, true))) .t (.ld (some 6) (.s 2))),
  (.op (some ((.t 1), (true, false))) .t (.ld (some 6) (.s 1))),
  (.op (some ((.t 2), (true, false))) .t (.bs 26 2 [(.int .i64 0), (.int .i64 0), (.int .i64 0), (.slice none 0 0), (.slice none 0 0), (.slice none 0 0), (.int .i64 0), (.int .i64 0), (.int .i64 0), (.slice none 0 0), (.slice none 0 0), (.slice none 0 0)] [(0, (6, (.t 1))), (6, (6, (.t 0)))])),
  (.op (some ((.t 3), (true, false))) .t (.v (.bld [(.int .i64 0), (.int .i64 0), (.int .i64 0), (.slice none 0 0), (.slice none 0 0), (.slice none 0 0)] [(0, (1, (.c (.int .i64 7)))), (4, (1, (.t 0)))]))),
  (.op (some ((.t 4), (true, false))) .t (.call 12 [(.t 0)])),
  (.op (some ((.t 5), (true, false))) .t (.v (.bin .eql (.t 0) (.c (.int .i64 4))))),
  (.op none .t (.v (.pick (.t 6) (.t 0) (.c (.bool false))))),
  (.op none (.s 0) (.v (.mv (.t 0))))]
def c11s8 : SCode := (.seq (.ops c11r7) .ret)
@[go_sem] theorem c11s8eq : vc P E c11s8 σ H Q = vc P E (.seq (.ops c11r7) .ret) σ H Q := rfl
def c11s9 : SCode := (.seq (.ops c11r6) c11s8)
@[go_sem] theorem c11s9eq : vc P E c11s9 σ H Q = vc P E (.seq (.ops c11r6) c11s8) σ H Q := rfl
def c11s10 : SCode := (.seq (.ops c11r5) c11s9)
@[go_sem] theorem c11s10eq : vc P E c11s10 σ H Q = vc P E (.seq (.ops c11r5) c11s9) σ H Q := rfl
def c11s11 : SCode := (.seq (.ops c11r4) c11s10)
@[go_sem] theorem c11s11eq : vc P E c11s11 σ H Q = vc P E (.seq (.ops c11r4) c11s10) σ H Q := rfl
def c11s12 : SCode := (.seq (.ops c11r3) c11s11)
@[go_sem] theorem c11s12eq : vc P E c11s12 σ H Q = vc P E (.seq (.ops c11r3) c11s11) σ H Q := rfl
def c11s13 : SCode := (.seq (.ops c11r2) c11s12)
@[go_sem] theorem c11s13eq : vc P E c11s13 σ H Q = vc P E (.seq (.ops c11r2) c11s12) σ H Q := rfl
def c11s14 : SCode := (.seq (.ops c11r1) c11s13)
@[go_sem] theorem c11s14eq : vc P E c11s14 σ H Q = vc P E (.seq (.ops c11r1) c11s13) σ H Q := rfl
def c11 : Gx.Fn := ⟨102, c11k, (.seq (.ops c11r0) c11s14), [(.tmp (.s 0))]⟩
theorem c11ok : stripFn Try.prog c11k Try.f11 = some c11 := by kernel_rfl

/- lattice.Check -/
@[go_sem] def c12k : List Nat := [0, 1, 2, 3]
@[go_sem] def c12r0 : List GOp := [(.op none (.s 1) (.bx 26 (.s 0))),
  (.op none (.s 2) (.v (.mv (.c (.int .i64 0)))))]
@[go_sem] def c12r1 : List GOp := [(.op none .t (.v (.bld [(.int .i64 0)] []))),
  (.op none (.s 3) (.al 43 [(.int .i64 0)])),
  (.op none .no (.st 1 (.s 3) (.t 0)))]
@[go_sem] def c12r2 : List GOp := [(.op none .t (.ld (some 6) (.s 1))),
  (.op none .t (.call 29 [(.s 3), (.t 0), (.c (.int .i64 1))])),
  (.op none (.s 2) (.v (.mv (.t 0))))]
def c12s3 : SCode := (.seq (.ops c12r2) .ret)
@[go_sem] theorem c12s3eq : vc P E c12s3 σ H Q = vc P E (.seq (.ops c12r2) .ret) σ H Q := rfl
def c12s4 : SCode := (.seq (.ops c12r1) c12s3)
@[go_sem] theorem c12s4eq : vc P E c12s4 σ H Q = vc P E (.seq (.ops c12r1) c12s3) σ H Q := rfl
def c12 : Gx.Fn := ⟨7, c12k, (.seq (.ops c12r0) c12s4), [(.tmp (.s 2))]⟩
theorem c12ok : stripFn Try.prog c12k Try.f12 = some c12 := by kernel_rfl

/- plexusref09.Check -/
@[go_sem] def c13k : List Nat := [0, 1, 2, 4]
@[go_sem] def c13r0 : List GOp := [(.op none (.s 1) (.bx 26 (.s 0))),
  (.op none (.s 2) (.v (.mv (.c (.int .i64 0)))))]
@[go_sem] def c13r1 : List GOp := [(.op none .t (.ld (some 6) (.s 1))),
  (.op none .t (.call 30 [(.t 0), (.c (.int .i64 1)), (.c (.int .i64 0))])),
  (.op none .t (.v (.mv (.t 0)))),
  (.op none .t (.v (.ext (.t 0) 0))),
  (.op none .t (.v (.ext (.t 1) 1))),
  (.op none .t (.v (.mv (.t 1)))),
  (.op none (.s 3) (.v (.mv (.t 1))))]
@[go_sem] def c13r2 : List GOp := [(.op none .t (.v (.mv (.s 3)))),
  (.op none (.s 2) (.v (.mv (.t 0))))]
def c13s3 : SCode := (.seq (.ops c13r2) .ret)
@[go_sem] theorem c13s3eq : vc P E c13s3 σ H Q = vc P E (.seq (.ops c13r2) .ret) σ H Q := rfl
def c13s4 : SCode := (.seq (.ops c13r1) c13s3)
@[go_sem] theorem c13s4eq : vc P E c13s4 σ H Q = vc P E (.seq (.ops c13r1) c13s3) σ H Q := rfl
def c13 : Gx.Fn := ⟨11, c13k, (.seq (.ops c13r0) c13s4), [(.tmp (.s 2))]⟩
theorem c13ok : stripFn Try.prog c13k Try.f13 = some c13 := by kernel_rfl

/- lattice.Equal -/
@[go_sem] def c14k : List Nat := [0, 1, 2, 3, 4]
@[go_sem] def c14r0 : List GOp := [(.op none (.s 2) (.bx 26 (.s 0))),
  (.op none (.s 3) (.bx 26 (.s 1))),
  (.op none (.s 4) (.v (.mv (.c (.bool false)))))]
@[go_sem] def c14r1 : List GOp := [(.op none .t (.v (.fa 0 (.s 2)))),
  (.op none .t (.ld none (.t 0))),
  (.op none .t (.v (.fa 0 (.s 3)))),
  (.op none .t (.ld none (.t 0))),
  (.op none .t (.v (.bin .eql (.t 2) (.t 0)))),
  (.op none .t (.v (.mv (.t 0)))),
  (.sel (.t 0) true [(.op (.v (.fa 1 (.s 2)))), (.op (.ld none (.t 0))), (.op (.v (.fa 1 (.s 3)))), (.op (.ld none (.t 0))), (.op (.v (.bin .eql (.t 2) (.t 0))))] .t (.t 0) (.c (.bool false))),
  (.op none .t (.v (.mv (.t 0)))),
  (.sel (.t 0) true [(.op (.v (.fa 2 (.s 2)))), (.op (.ld none (.t 0))), (.op (.v (.fa 2 (.s 3)))), (.op (.ld none (.t 0))), (.op (.v (.bin .eql (.t 2) (.t 0))))] .t (.t 0) (.c (.bool false))),
  (.op none .t (.v (.mv (.t 0)))),
  (.op (some ((.t 0), (true, true))) .t (.v (.fa 3 (.s 2)))),
  (.op (some ((.t 1), (true, false))) .t (.ld none (.t 0))),
  (.op (some ((.t 2), (true, false))) .t (.v (.fa 3 (.s 3)))),
  (.op (some ((.t 3), (true, false))) .t (.ld none (.t 0))),
  (.op (some ((.t 4), (true, false))) .t (.call 31 [(.t 2), (.t 0)])),
  (.op none .t (.v (.pick (.t 5) (.t 0) (.c (.bool false))))),
  (.op none .t (.v (.mv (.t 0)))),
  (.op (some ((.t 0), (true, true))) .t (.v (.fa 5 (.s 2)))),
  (.op (some ((.t 1), (true, false))) .t (.ld none (.t 0))),
  (.op (some ((.t 2), (true, false))) .t (.v (.fa 5 (.s 3)))),
  (.op (some ((.t 3), (true, false))) .t (.ld none (.t 0))),
  (.op (some ((.t 4), (true, false))) .t (.call 32 [(.t 2), (.t 0), (.f 33)])),
  (.op none .t (.v (.pick (.t 5) (.t 0) (.c (.bool false))))),
  (.op none .t (.v (.mv (.t 0)))),
  (.op (some ((.t 0), (true, true))) .t (.v (.fa 4 (.s 2)))),
  (.op (some ((.t 1), (true, false))) .t (.ld none (.t 0))),
  (.op (some ((.t 2), (true, false))) .t (.v (.fa 4 (.s 3)))),
  (.op (some ((.t 3), (true, false))) .t (.ld none (.t 0))),
  (.op (some ((.t 4), (true, false))) .t (.call 34 [(.t 2), (.t 0), (.f 14)])),
  (.op none .t (.v (.pick (.t 5) (.t 0) (.c (.bool false))))),
  (.op none (.s 4) (.v (.mv (.t 0))))]
def c14s2 : SCode := (.seq (.ops c14r1) .ret)
@[go_sem] theorem c14s2eq : vc P E c14s2 σ H Q = vc P E (.seq (.ops c14r1) .ret) σ H Q := rfl
def c14 : Gx.Fn := ⟨45, c14k, (.seq (.ops c14r0) c14s2), [(.tmp (.s 4))]⟩
theorem c14ok : stripFn Try.prog c14k Try.f14 = some c14 := by kernel_rfl

/- plexusref09.Equal -/
@[go_sem] def c15k : List Nat := [0, 1, 2, 3, 4, 5, 6, 51, 56, 87, 92, 106]
@[go_sem] def c15r0 : List GOp := [(.op none (.s 2) (.bx 26 (.s 0))),
  (.op none (.s 3) (.bx 26 (.s 1))),
  (.op none (.s 4) (.v (.mv (.c (.bool false)))))]
@[go_sem] def c15r1 : List GOp := [(.op none .t (.v (.fa 0 (.s 2)))),
  (.op none .t (.ld none (.t 0))),
  (.op none .t (.v (.fa 0 (.s 3)))),
  (.op none .t (.ld none (.t 0))),
  (.op none .t (.v (.bin .neq (.t 2) (.t 0)))),
  (.op none .t (.v (.mv (.t 0)))),
  (.sel (.t 0) false [(.op (.v (.fa 1 (.s 2)))), (.op (.ld none (.t 0))), (.op (.v (.fa 1 (.s 3)))), (.op (.ld none (.t 0))), (.op (.v (.bin .neq (.t 2) (.t 0))))] .t (.c (.bool true)) (.t 0)),
  (.op none .t (.v (.mv (.t 0)))),
  (.sel (.t 0) false [(.op (.v (.fa 2 (.s 2)))), (.op (.ld none (.t 0))), (.op (.v (.fa 2 (.s 3)))), (.op (.ld none (.t 0))), (.op (.v (.bin .neq (.t 2) (.t 0))))] .t (.c (.bool true)) (.t 0)),
  (.op none .t (.v (.mv (.t 0)))),
  (.op (some ((.t 0), (false, true))) .t (.v (.fa 3 (.s 2)))),
  (.op (some ((.t 1), (false, false))) .t (.ld none (.t 0))),
  (.op (some ((.t 2), (false, false))) .t (.v (.fa 3 (.s 3)))),
  (.op (some ((.t 3), (false, false))) .t (.ld none (.t 0))),
  (.op (some ((.t 4), (false, false))) .t (.call 35 [(.t 2), (.t 0)])),
  (.op (some ((.t 5), (false, false))) .t (.v (.un .not (.t 0)))),
  (.op none .t (.v (.pick (.t 6) (.c (.bool true)) (.t 0)))),
  (.op none .t (.v (.mv (.t 0)))),
  (.sel (.t 0) false [(.op (.v (.fa 4 (.s 2)))), (.op (.ld none (.t 0))), (.op (.v (.len (.t 0)))), (.op (.v (.fa 4 (.s 3)))), (.op (.ld none (.t 0))), (.op (.v (.len (.t 0)))), (.op (.v (.bin .neq (.t 3) (.t 0))))] .t (.c (.bool true)) (.t 0)),
  (.op none .t (.v (.mv (.t 0)))),
  (.sel (.t 0) false [(.op (.v (.fa 5 (.s 2)))), (.op (.ld none (.t 0))), (.op (.v (.len (.t 0)))), (.op (.v (.fa 5 (.s 3)))), (.op (.ld none (.t 0))), (.op (.v (.len (.t 0)))), (.op (.v (.bin .neq (.t 3) (.t 0))))] (.s 7) (.c (.bool true)) (.t 0))]
@[go_sem] def c15r2 : List GOp := [(.op none (.s 4) (.v (.mv (.c (.bool false)))))]
def c15s3 : SCode := (.seq (.ops c15r2) .ret)
@[go_sem] theorem c15s3eq : vc P E c15s3 σ H Q = vc P E (.seq (.ops c15r2) .ret) σ H Q := rfl
def c15s4 : SCode := (.cond (.s 7) c15s3 .skip)
@[go_sem] theorem c15s4eq : vc P E c15s4 σ H Q = vc P E (.cond (.s 7) c15s3 .skip) σ H Q := rfl
@[go_sem] def c15r5 : List GOp := [(.op none (.s 5) (.v (.mv (.c (.int .i64 0)))))]
@[go_sem] def c15r6 : List GOp := [(.op none .t (.v (.mv (.s 5)))),
  (.op none .t (.v (.fa 5 (.s 2)))),
  (.op none .t (.ld none (.t 0))),
  (.op none .t (.v (.len (.t 0)))),
  (.op none (.s 8) (.v (.bin .lss (.t 3) (.t 0))))]
def c15s7 : SCode := (.cond (.s 8) .skip (.exit 0))
@[go_sem] theorem c15s7eq : vc P E c15s7 σ H Q = vc P E (.cond (.s 8) .skip (.exit 0)) σ H Q := rfl
@[go_sem] def c15d8 : DT := (.rd none .t (.v (.fa 5 (.s 2))) [26] (.rd none .t (.ld none (.t 0)) [26] (.rd none .t (.v (.mv (.s 5))) [26] (.rd none .t (.v (.ix 2 (.t 1) (.t 0))) [26] (.rd none .t (.v (.fa 1 (.t 0))) [26] (.rd none .t (.ld none (.t 0)) [26] (.rd none .t (.v (.fa 5 (.s 3))) [26] (.rd none .t (.ld none (.t 0)) [26] (.rd none .t (.v (.mv (.s 5))) [26] (.rd none .t (.v (.ix 2 (.t 1) (.t 0))) [26] (.rd none .t (.v (.fa 1 (.t 0))) [26] (.rd none .t (.ld none (.t 0)) [26] (.rd none .t (.v (.bin .neq (.t 6) (.t 0))) [26] (.rd none .t (.v (.mv (.t 0))) [26] (.rd (some ((.t 0), false)) .t (.v (.fa 5 (.s 2))) [26] (.rd (some ((.t 1), false)) .t (.ld none (.t 0)) [26] (.rd (some ((.t 2), false)) .t (.v (.mv (.s 5))) [26] (.rd (some ((.t 3), false)) .t (.v (.ix 2 (.t 1) (.t 0))) [26] (.rd (some ((.t 4), false)) .t (.v (.fa 0 (.t 0))) [26] (.rd (some ((.t 5), false)) .t (.ld none (.t 0)) [26] (.rd (some ((.t 6), false)) .t (.v (.fa 5 (.s 3))) [26] (.rd (some ((.t 7), false)) .t (.ld none (.t 0)) [26] (.rd (some ((.t 8), false)) .t (.v (.mv (.s 5))) [26] (.rd (some ((.t 9), false)) .t (.v (.ix 2 (.t 1) (.t 0))) [26] (.rd (some ((.t 10), false)) .t (.v (.fa 0 (.t 0))) [26] (.rd (some ((.t 11), false)) .t (.ld none (.t 0)) [26] (.ef 26 (some ((.t 12), false)) .t (.call 35 [(.t 6), (.t 0)]) (.rd (some ((.t 13), false)) .t (.v (.un .not (.t 0))) [] (.rd none (.s 9) (.v (.pick (.t 14) (.c (.bool true)) (.t 0))) [] .done)))))))))))))))))))))))))))))
@[go_sem] def c15r9 : List GOp := [(.op none (.s 4) (.v (.mv (.c (.bool false)))))]
def c15s10 : SCode := (.seq (.ops c15r9) .ret)
@[go_sem] theorem c15s10eq : vc P E c15s10 σ H Q = vc P E (.seq (.ops c15r9) .ret) σ H Q := rfl
def c15s11 : SCode := (.cond (.s 9) c15s10 .skip)
@[go_sem] theorem c15s11eq : vc P E c15s11 σ H Q = vc P E (.cond (.s 9) c15s10 .skip) σ H Q := rfl
@[go_sem] def c15r12 : List GOp := [(.op none .t (.v (.mv (.s 5)))),
  (.op none .t (.v (.bin .add (.t 0) (.c (.int .i64 1))))),
  (.op none (.s 5) (.v (.mv (.t 0))))]
def c15s13 : SCode := (.ops c15r12)
@[go_sem] theorem c15s13eq : vc P E c15s13 σ H Q = vc P E (.ops c15r12) σ H Q := rfl
def c15s14 : SCode := (.seq (.block 1 (.seq (.de c15d8) c15s11)) c15s13)
@[go_sem] theorem c15s14eq : vc P E c15s14 σ H Q = vc P E (.seq (.block 1 (.seq (.de c15d8) c15s11)) c15s13) σ H Q := rfl
def c15s15 : SCode := (.seq (.seq (.ops c15r6) c15s7) c15s14)
@[go_sem] theorem c15s15eq : vc P E c15s15 σ H Q = vc P E (.seq (.seq (.ops c15r6) c15s7) c15s14) σ H Q := rfl
def c15s16 : SCode := (.block 0 (.loop c15k c15s15))
@[go_sem] theorem c15s16eq : vc P E c15s16 σ H Q = vc P E (.block 0 (.loop c15k c15s15)) σ H Q := rfl
@[go_sem] def c15r17 : List GOp := [(.op none (.s 6) (.v (.mv (.c (.int .i64 0)))))]
@[go_sem] def c15r18 : List GOp := [(.op none .t (.v (.mv (.s 6)))),
  (.op none .t (.v (.fa 4 (.s 2)))),
  (.op none .t (.ld none (.t 0))),
  (.op none .t (.v (.len (.t 0)))),
  (.op none (.s 10) (.v (.bin .lss (.t 3) (.t 0))))]
def c15s19 : SCode := (.cond (.s 10) .skip (.exit 2))
@[go_sem] theorem c15s19eq : vc P E c15s19 σ H Q = vc P E (.cond (.s 10) .skip (.exit 2)) σ H Q := rfl
@[go_sem] def c15d20 : DT := (.rd none .t (.v (.fa 4 (.s 2))) [10] (.rd none .t (.ld none (.t 0)) [10] (.rd none .t (.v (.mv (.s 6))) [10] (.rd none .t (.v (.ix 6 (.t 1) (.t 0))) [10] (.rd none .t (.ld (some 6) (.t 0)) [10] (.rd none .t (.v (.fa 4 (.s 3))) [10] (.rd none .t (.ld none (.t 0)) [10] (.rd none .t (.v (.mv (.s 6))) [10] (.rd none .t (.v (.ix 6 (.t 1) (.t 0))) [10] (.rd none .t (.ld (some 6) (.t 0)) [10] (.ef 10 none .t (.call 15 [(.t 5), (.t 0)]) (.rd none (.s 11) (.v (.un .not (.t 0))) [] .done))))))))))))
@[go_sem] def c15r21 : List GOp := [(.op none (.s 4) (.v (.mv (.c (.bool false)))))]
def c15s22 : SCode := (.seq (.ops c15r21) .ret)
@[go_sem] theorem c15s22eq : vc P E c15s22 σ H Q = vc P E (.seq (.ops c15r21) .ret) σ H Q := rfl
def c15s23 : SCode := (.cond (.s 11) c15s22 .skip)
@[go_sem] theorem c15s23eq : vc P E c15s23 σ H Q = vc P E (.cond (.s 11) c15s22 .skip) σ H Q := rfl
@[go_sem] def c15r24 : List GOp := [(.op none .t (.v (.mv (.s 6)))),
  (.op none .t (.v (.bin .add (.t 0) (.c (.int .i64 1))))),
  (.op none (.s 6) (.v (.mv (.t 0))))]
def c15s25 : SCode := (.ops c15r24)
@[go_sem] theorem c15s25eq : vc P E c15s25 σ H Q = vc P E (.ops c15r24) σ H Q := rfl
def c15s26 : SCode := (.seq (.block 3 (.seq (.de c15d20) c15s23)) c15s25)
@[go_sem] theorem c15s26eq : vc P E c15s26 σ H Q = vc P E (.seq (.block 3 (.seq (.de c15d20) c15s23)) c15s25) σ H Q := rfl
def c15s27 : SCode := (.seq (.seq (.ops c15r18) c15s19) c15s26)
@[go_sem] theorem c15s27eq : vc P E c15s27 σ H Q = vc P E (.seq (.seq (.ops c15r18) c15s19) c15s26) σ H Q := rfl
def c15s28 : SCode := (.block 2 (.loop c15k c15s27))
@[go_sem] theorem c15s28eq : vc P E c15s28 σ H Q = vc P E (.block 2 (.loop c15k c15s27)) σ H Q := rfl
@[go_sem] def c15r29 : List GOp := [(.op none (.s 4) (.v (.mv (.c (.bool true)))))]
def c15s30 : SCode := (.seq (.ops c15r29) .ret)
@[go_sem] theorem c15s30eq : vc P E c15s30 σ H Q = vc P E (.seq (.ops c15r29) .ret) σ H Q := rfl
def c15s31 : SCode := (.seq (.seq (.ops c15r17) c15s28) c15s30)
@[go_sem] theorem c15s31eq : vc P E c15s31 σ H Q = vc P E (.seq (.seq (.ops c15r17) c15s28) c15s30) σ H Q := rfl
def c15s32 : SCode := (.seq (.seq (.ops c15r5) c15s16) c15s31)
@[go_sem] theorem c15s32eq : vc P E c15s32 σ H Q = vc P E (.seq (.seq (.ops c15r5) c15s16) c15s31) σ H Q := rfl
def c15s33 : SCode := (.seq (.seq (.ops c15r1) c15s4) c15s32)
@[go_sem] theorem c15s33eq : vc P E c15s33 σ H Q = vc P E (.seq (.seq (.ops c15r1) c15s4) c15s32) σ H Q := rfl
def c15 : Gx.Fn := ⟨107, c15k, (.seq (.ops c15r0) c15s33), [(.tmp (.s 4))]⟩
theorem c15ok : stripFn Try.prog c15k Try.f15 = some c15 := by kernel_rfl

/- lattice.Chain -/
@[go_sem] def c16k : List Nat := [0, 1, 2, 4, 5, 9]
@[go_sem] def c16r0 : List GOp := [(.op none (.s 1) (.bx 26 (.s 0))),
  (.op none (.s 2) (.v (.mv (.c (.bool false)))))]
@[go_sem] def c16r1 : List GOp := [(.op none .t (.v (.fa 0 (.s 1)))),
  (.op none (.s 3) (.ld none (.t 0)))]
@[go_sem] def c16r2 : List GOp := [(.op none .t (.v (.bin .eql (.s 3) (.c (.int .i64 1))))),
  (.op none (.s 4) (.v (.mv (.t 0))))]
@[go_sem] def c16r3 : List GOp := [(.op none .t (.v (.bin .eql (.s 3) (.c (.int .i64 2))))),
  (.op none (.s 4) (.v (.mv (.t 0))))]
@[go_sem] def c16r4 : List GOp := [(.op none .t (.v (.bin .eql (.s 3) (.c (.int .i64 3))))),
  (.op none (.s 4) (.v (.mv (.t 0))))]
def c16s5 : SCode := (.cond (.s 4) .skip (.ops c16r4))
@[go_sem] theorem c16s5eq : vc P E c16s5 σ H Q = vc P E (.cond (.s 4) .skip (.ops c16r4)) σ H Q := rfl
def c16s6 : SCode := (.seq (.ops c16r3) c16s5)
@[go_sem] theorem c16s6eq : vc P E c16s6 σ H Q = vc P E (.seq (.ops c16r3) c16s5) σ H Q := rfl
def c16s7 : SCode := (.cond (.s 4) .skip c16s6)
@[go_sem] theorem c16s7eq : vc P E c16s7 σ H Q = vc P E (.cond (.s 4) .skip c16s6) σ H Q := rfl
@[go_sem] def c16r8 : List GOp := [(.op none (.s 2) (.v (.mv (.c (.bool true)))))]
def c16s9 : SCode := (.seq (.ops c16r8) .ret)
@[go_sem] theorem c16s9eq : vc P E c16s9 σ H Q = vc P E (.seq (.ops c16r8) .ret) σ H Q := rfl
@[go_sem] def c16r10 : List GOp := [(.op none .t (.v (.bin .eql (.s 3) (.c (.int .i64 7))))),
  (.op none (.s 5) (.v (.mv (.t 0))))]
@[go_sem] def c16r11 : List GOp := [(.op none .t (.v (.fa 4 (.s 1)))),
  (.op none .t (.ld none (.t 0))),
  (.op none .t (.v (.len (.t 0)))),
  (.op none .t (.v (.bin .eql (.t 0) (.c (.int .i64 2))))),
  (.op none .t (.v (.mv (.t 0)))),
  (.op (some ((.t 0), (true, true))) .t (.v (.fa 4 (.s 1)))),
  (.op (some ((.t 1), (true, false))) .t (.ld none (.t 0))),
  (.op (some ((.t 2), (true, false))) .t (.v (.ix 6 (.t 0) (.c (.int .i64 0))))),
  (.op (some ((.t 3), (true, false))) .t (.ld (some 6) (.t 0))),
  (.op (some ((.t 4), (true, false))) .t (.call 16 [(.t 0)])),
  (.op none .t (.v (.pick (.t 5) (.t 0) (.c (.bool false))))),
  (.op none .t (.v (.mv (.t 0)))),
  (.op (some ((.t 0), (true, true))) .t (.v (.fa 4 (.s 1)))),
  (.op (some ((.t 1), (true, false))) .t (.ld none (.t 0))),
  (.op (some ((.t 2), (true, false))) .t (.v (.ix 6 (.t 0) (.c (.int .i64 1))))),
  (.op (some ((.t 3), (true, false))) .t (.ld (some 6) (.t 0))),
  (.op (some ((.t 4), (true, false))) .t (.call 16 [(.t 0)])),
  (.op none .t (.v (.pick (.t 5) (.t 0) (.c (.bool false))))),
  (.op none (.s 2) (.v (.mv (.t 0))))]
def c16s12 : SCode := (.seq (.ops c16r11) .ret)
@[go_sem] theorem c16s12eq : vc P E c16s12 σ H Q = vc P E (.seq (.ops c16r11) .ret) σ H Q := rfl
def c16s13 : SCode := (.cond (.s 5) c16s12 .skip)
@[go_sem] theorem c16s13eq : vc P E c16s13 σ H Q = vc P E (.cond (.s 5) c16s12 .skip) σ H Q := rfl
def c16s14 : SCode := (.seq (.ops c16r10) c16s13)
@[go_sem] theorem c16s14eq : vc P E c16s14 σ H Q = vc P E (.seq (.ops c16r10) c16s13) σ H Q := rfl
def c16s15 : SCode := (.cond (.s 4) c16s9 c16s14)
@[go_sem] theorem c16s15eq : vc P E c16s15 σ H Q = vc P E (.cond (.s 4) c16s9 c16s14) σ H Q := rfl
def c16s16 : SCode := (.block 0 (.seq (.seq (.ops c16r2) c16s7) c16s15))
@[go_sem] theorem c16s16eq : vc P E c16s16 σ H Q = vc P E (.block 0 (.seq (.seq (.ops c16r2) c16s7) c16s15)) σ H Q := rfl
@[go_sem] def c16r17 : List GOp := [(.op none (.s 2) (.v (.mv (.c (.bool false)))))]
def c16s18 : SCode := (.seq (.ops c16r17) .ret)
@[go_sem] theorem c16s18eq : vc P E c16s18 σ H Q = vc P E (.seq (.ops c16r17) .ret) σ H Q := rfl
def c16s19 : SCode := (.seq (.seq (.ops c16r1) c16s16) c16s18)
@[go_sem] theorem c16s19eq : vc P E c16s19 σ H Q = vc P E (.seq (.seq (.ops c16r1) c16s16) c16s18) σ H Q := rfl
def c16 : Gx.Fn := ⟨29, c16k, (.seq (.ops c16r0) c16s19), [(.tmp (.s 2))]⟩
theorem c16ok : stripFn Try.prog c16k Try.f16 = some c16 := by kernel_rfl

/- plexusref09.Chain -/
@[go_sem] def c17k : List Nat := [0, 1, 2, 4, 5, 9]
@[go_sem] def c17r0 : List GOp := [(.op none (.s 1) (.bx 26 (.s 0))),
  (.op none (.s 2) (.v (.mv (.c (.bool false)))))]
@[go_sem] def c17r1 : List GOp := [(.op none .t (.v (.fa 0 (.s 1)))),
  (.op none (.s 3) (.ld none (.t 0)))]
@[go_sem] def c17r2 : List GOp := [(.op none .t (.v (.bin .eql (.s 3) (.c (.int .i64 1))))),
  (.op none (.s 4) (.v (.mv (.t 0))))]
@[go_sem] def c17r3 : List GOp := [(.op none .t (.v (.bin .eql (.s 3) (.c (.int .i64 2))))),
  (.op none (.s 4) (.v (.mv (.t 0))))]
@[go_sem] def c17r4 : List GOp := [(.op none .t (.v (.bin .eql (.s 3) (.c (.int .i64 3))))),
  (.op none (.s 4) (.v (.mv (.t 0))))]
def c17s5 : SCode := (.cond (.s 4) .skip (.ops c17r4))
@[go_sem] theorem c17s5eq : vc P E c17s5 σ H Q = vc P E (.cond (.s 4) .skip (.ops c17r4)) σ H Q := rfl
def c17s6 : SCode := (.seq (.ops c17r3) c17s5)
@[go_sem] theorem c17s6eq : vc P E c17s6 σ H Q = vc P E (.seq (.ops c17r3) c17s5) σ H Q := rfl
def c17s7 : SCode := (.cond (.s 4) .skip c17s6)
@[go_sem] theorem c17s7eq : vc P E c17s7 σ H Q = vc P E (.cond (.s 4) .skip c17s6) σ H Q := rfl
@[go_sem] def c17r8 : List GOp := [(.op none (.s 2) (.v (.mv (.c (.bool true)))))]
def c17s9 : SCode := (.seq (.ops c17r8) .ret)
@[go_sem] theorem c17s9eq : vc P E c17s9 σ H Q = vc P E (.seq (.ops c17r8) .ret) σ H Q := rfl
@[go_sem] def c17r10 : List GOp := [(.op none .t (.v (.bin .eql (.s 3) (.c (.int .i64 7))))),
  (.op none (.s 5) (.v (.mv (.t 0))))]
@[go_sem] def c17r11 : List GOp := [(.op none .t (.v (.fa 4 (.s 1)))),
  (.op none .t (.ld none (.t 0))),
  (.op none .t (.v (.len (.t 0)))),
  (.op none .t (.v (.bin .eql (.t 0) (.c (.int .i64 2))))),
  (.op none .t (.v (.mv (.t 0)))),
  (.op (some ((.t 0), (true, true))) .t (.v (.fa 4 (.s 1)))),
  (.op (some ((.t 1), (true, false))) .t (.ld none (.t 0))),
  (.op (some ((.t 2), (true, false))) .t (.v (.ix 6 (.t 0) (.c (.int .i64 0))))),
  (.op (some ((.t 3), (true, false))) .t (.ld (some 6) (.t 0))),
  (.op (some ((.t 4), (true, false))) .t (.call 17 [(.t 0)])),
  (.op none .t (.v (.pick (.t 5) (.t 0) (.c (.bool false))))),
  (.op none .t (.v (.mv (.t 0)))),
  (.op (some ((.t 0), (true, true))) .t (.v (.fa 4 (.s 1)))),
  (.op (some ((.t 1), (true, false))) .t (.ld none (.t 0))),
  (.op (some ((.t 2), (true, false))) .t (.v (.ix 6 (.t 0) (.c (.int .i64 1))))),
  (.op (some ((.t 3), (true, false))) .t (.ld (some 6) (.t 0))),
  (.op (some ((.t 4), (true, false))) .t (.call 17 [(.t 0)])),
  (.op none .t (.v (.pick (.t 5) (.t 0) (.c (.bool false))))),
  (.op none (.s 2) (.v (.mv (.t 0))))]
def c17s12 : SCode := (.seq (.ops c17r11) .ret)
@[go_sem] theorem c17s12eq : vc P E c17s12 σ H Q = vc P E (.seq (.ops c17r11) .ret) σ H Q := rfl
def c17s13 : SCode := (.cond (.s 5) c17s12 .skip)
@[go_sem] theorem c17s13eq : vc P E c17s13 σ H Q = vc P E (.cond (.s 5) c17s12 .skip) σ H Q := rfl
def c17s14 : SCode := (.seq (.ops c17r10) c17s13)
@[go_sem] theorem c17s14eq : vc P E c17s14 σ H Q = vc P E (.seq (.ops c17r10) c17s13) σ H Q := rfl
def c17s15 : SCode := (.cond (.s 4) c17s9 c17s14)
@[go_sem] theorem c17s15eq : vc P E c17s15 σ H Q = vc P E (.cond (.s 4) c17s9 c17s14) σ H Q := rfl
def c17s16 : SCode := (.block 0 (.seq (.seq (.ops c17r2) c17s7) c17s15))
@[go_sem] theorem c17s16eq : vc P E c17s16 σ H Q = vc P E (.block 0 (.seq (.seq (.ops c17r2) c17s7) c17s15)) σ H Q := rfl
@[go_sem] def c17r17 : List GOp := [(.op none (.s 2) (.v (.mv (.c (.bool false)))))]
def c17s18 : SCode := (.seq (.ops c17r17) .ret)
@[go_sem] theorem c17s18eq : vc P E c17s18 σ H Q = vc P E (.seq (.ops c17r17) .ret) σ H Q := rfl
def c17s19 : SCode := (.seq (.seq (.ops c17r1) c17s16) c17s18)
@[go_sem] theorem c17s19eq : vc P E c17s19 σ H Q = vc P E (.seq (.seq (.ops c17r1) c17s16) c17s18) σ H Q := rfl
def c17 : Gx.Fn := ⟨29, c17k, (.seq (.ops c17r0) c17s19), [(.tmp (.s 2))]⟩
theorem c17ok : stripFn Try.prog c17k Try.f17 = some c17 := by kernel_rfl

/- lattice.Finite -/
@[go_sem] def c18k : List Nat := [0, 1, 2, 4, 6, 7, 9, 16, 18, 19, 20, 21, 26]
@[go_sem] def c18r0 : List GOp := [(.op none (.s 1) (.bx 26 (.s 0))),
  (.op none (.s 2) (.v (.mv (.c (.bool false)))))]
@[go_sem] def c18r1 : List GOp := [(.op none .t (.v (.fa 0 (.s 1)))),
  (.op none (.s 4) (.ld none (.t 0)))]
@[go_sem] def c18r2 : List GOp := [(.op none .t (.v (.bin .eql (.s 4) (.c (.int .i64 9))))),
  (.op none (.s 5) (.v (.mv (.t 0))))]
@[go_sem] def c18r3 : List GOp := [(.op none (.s 2) (.v (.mv (.c (.bool false)))))]
def c18s4 : SCode := (.seq (.ops c18r3) .ret)
@[go_sem] theorem c18s4eq : vc P E c18s4 σ H Q = vc P E (.seq (.ops c18r3) .ret) σ H Q := rfl
@[go_sem] def c18r5 : List GOp := [(.op none .t (.v (.bin .eql (.s 4) (.c (.int .i64 4))))),
  (.op none (.s 6) (.v (.mv (.t 0))))]
@[go_sem] def c18r6 : List GOp := [(.op none .t (.v (.bin .eql (.s 4) (.c (.int .i64 8))))),
  (.op none (.s 6) (.v (.mv (.t 0))))]
@[go_sem] def c18r7 : List GOp := [(.op none .t (.v (.bin .eql (.s 4) (.c (.int .i64 5))))),
  (.op none (.s 6) (.v (.mv (.t 0))))]
def c18s8 : SCode := (.cond (.s 6) .skip (.ops c18r7))
@[go_sem] theorem c18s8eq : vc P E c18s8 σ H Q = vc P E (.cond (.s 6) .skip (.ops c18r7)) σ H Q := rfl
def c18s9 : SCode := (.seq (.ops c18r6) c18s8)
@[go_sem] theorem c18s9eq : vc P E c18s9 σ H Q = vc P E (.seq (.ops c18r6) c18s8) σ H Q := rfl
def c18s10 : SCode := (.cond (.s 6) .skip c18s9)
@[go_sem] theorem c18s10eq : vc P E c18s10 σ H Q = vc P E (.cond (.s 6) .skip c18s9) σ H Q := rfl
@[go_sem] def c18r11 : List GOp := [(.op none .t (.v (.fa 3 (.s 1)))),
  (.op none .t (.ld none (.t 0))),
  (.op none .t (.v (.len (.t 0)))),
  (.op none (.s 7) (.v (.bin .eql (.t 0) (.c (.int .i64 0)))))]
@[go_sem] def c18r12 : List GOp := [(.op none (.s 2) (.v (.mv (.c (.bool false)))))]
def c18s13 : SCode := (.seq (.ops c18r12) .ret)
@[go_sem] theorem c18s13eq : vc P E c18s13 σ H Q = vc P E (.seq (.ops c18r12) .ret) σ H Q := rfl
def c18s14 : SCode := (.cond (.s 7) c18s13 .skip)
@[go_sem] theorem c18s14eq : vc P E c18s14 σ H Q = vc P E (.cond (.s 7) c18s13 .skip) σ H Q := rfl
def c18s15 : SCode := (.seq (.ops c18r11) c18s14)
@[go_sem] theorem c18s15eq : vc P E c18s15 σ H Q = vc P E (.seq (.ops c18r11) c18s14) σ H Q := rfl
def c18s16 : SCode := (.cond (.s 6) c18s15 .skip)
@[go_sem] theorem c18s16eq : vc P E c18s16 σ H Q = vc P E (.cond (.s 6) c18s15 .skip) σ H Q := rfl
def c18s17 : SCode := (.seq (.seq (.ops c18r5) c18s10) c18s16)
@[go_sem] theorem c18s17eq : vc P E c18s17 σ H Q = vc P E (.seq (.seq (.ops c18r5) c18s10) c18s16) σ H Q := rfl
def c18s18 : SCode := (.cond (.s 5) c18s4 c18s17)
@[go_sem] theorem c18s18eq : vc P E c18s18 σ H Q = vc P E (.cond (.s 5) c18s4 c18s17) σ H Q := rfl
def c18s19 : SCode := (.block 0 (.seq (.ops c18r2) c18s18))
@[go_sem] theorem c18s19eq : vc P E c18s19 σ H Q = vc P E (.block 0 (.seq (.ops c18r2) c18s18)) σ H Q := rfl
@[go_sem] def c18r20 : List GOp := [(.op none .t (.v (.fa 4 (.s 1)))),
  (.op none (.s 8) (.ld none (.t 0))),
  (.op none (.s 9) (.v (.len (.s 8)))),
  (.op none (.s 10) (.v (.mv (.c (.int .i64 0)))))]
@[go_sem] def c18r21 : List GOp := [(.op none (.s 11) (.v (.bin .lss (.s 10) (.s 9))))]
@[go_sem] def c18r22 : List GOp := [(.op none .t (.v (.ix 6 (.s 8) (.s 10)))),
  (.op none .t (.ld (some 6) (.t 0))),
  (.op none (.s 3) (.al 26 [(.int .i64 0), (.int .i64 0), (.int .i64 0), (.slice none 0 0), (.slice none 0 0), (.slice none 0 0)])),
  (.op none .no (.st 6 (.s 3) (.t 0)))]
@[go_sem] def c18r23 : List GOp := [(.op none .t (.ld (some 6) (.s 3))),
  (.op none .t (.call 18 [(.t 0)])),
  (.op none (.s 12) (.v (.un .not (.t 0))))]
@[go_sem] def c18r24 : List GOp := [(.op none (.s 2) (.v (.mv (.c (.bool false)))))]
def c18s25 : SCode := (.seq (.ops c18r24) .ret)
@[go_sem] theorem c18s25eq : vc P E c18s25 σ H Q = vc P E (.seq (.ops c18r24) .ret) σ H Q := rfl
def c18s26 : SCode := (.cond (.s 12) c18s25 .skip)
@[go_sem] theorem c18s26eq : vc P E c18s26 σ H Q = vc P E (.cond (.s 12) c18s25 .skip) σ H Q := rfl
def c18s27 : SCode := (.seq (.ops c18r23) c18s26)
@[go_sem] theorem c18s27eq : vc P E c18s27 σ H Q = vc P E (.seq (.ops c18r23) c18s26) σ H Q := rfl
@[go_sem] def c18r28 : List GOp := [(.op none .t (.v (.bin .add (.s 10) (.c (.int .i64 1))))),
  (.op none (.s 10) (.v (.mv (.t 0))))]
def c18s29 : SCode := (.ops c18r28)
@[go_sem] theorem c18s29eq : vc P E c18s29 σ H Q = vc P E (.ops c18r28) σ H Q := rfl
def c18s30 : SCode := (.seq (.block 2 (.seq (.ops c18r22) c18s27)) c18s29)
@[go_sem] theorem c18s30eq : vc P E c18s30 σ H Q = vc P E (.seq (.block 2 (.seq (.ops c18r22) c18s27)) c18s29) σ H Q := rfl
def c18s31 : SCode := (.seq (.cond (.s 11) .skip (.exit 1)) c18s30)
@[go_sem] theorem c18s31eq : vc P E c18s31 σ H Q = vc P E (.seq (.cond (.s 11) .skip (.exit 1)) c18s30) σ H Q := rfl
def c18s32 : SCode := (.seq (.ops c18r21) c18s31)
@[go_sem] theorem c18s32eq : vc P E c18s32 σ H Q = vc P E (.seq (.ops c18r21) c18s31) σ H Q := rfl
def c18s33 : SCode := (.block 1 (.loop c18k c18s32))
@[go_sem] theorem c18s33eq : vc P E c18s33 σ H Q = vc P E (.block 1 (.loop c18k c18s32)) σ H Q := rfl
@[go_sem] def c18r34 : List GOp := [(.op none (.s 2) (.v (.mv (.c (.bool true)))))]
def c18s35 : SCode := (.seq (.ops c18r34) .ret)
@[go_sem] theorem c18s35eq : vc P E c18s35 σ H Q = vc P E (.seq (.ops c18r34) .ret) σ H Q := rfl
def c18s36 : SCode := (.seq (.seq (.ops c18r20) c18s33) c18s35)
@[go_sem] theorem c18s36eq : vc P E c18s36 σ H Q = vc P E (.seq (.seq (.ops c18r20) c18s33) c18s35) σ H Q := rfl
def c18s37 : SCode := (.seq (.seq (.ops c18r1) c18s19) c18s36)
@[go_sem] theorem c18s37eq : vc P E c18s37 σ H Q = vc P E (.seq (.seq (.ops c18r1) c18s19) c18s36) σ H Q := rfl
def c18 : Gx.Fn := ⟨28, c18k, (.seq (.ops c18r0) c18s37), [(.tmp (.s 2))]⟩
theorem c18ok : stripFn Try.prog c18k Try.f18 = some c18 := by kernel_rfl

/- plexusref09.Finite -/
@[go_sem] def c19k : List Nat := [0, 1, 2, 3, 27, 32, 41]
@[go_sem] def c19r0 : List GOp := [(.op none (.s 1) (.bx 26 (.s 0))),
  (.op none (.s 2) (.v (.mv (.c (.bool false)))))]
@[go_sem] def c19r1 : List GOp := [(.op none .t (.v (.fa 0 (.s 1)))),
  (.op none .t (.ld none (.t 0))),
  (.op none .t (.v (.bin .eql (.t 0) (.c (.int .i64 9))))),
  (.op none .t (.v (.mv (.t 0)))),
  (.sel (.t 0) false [(.op (.v (.fa 3 (.s 1)))), (.op (.ld none (.t 0))), (.op (.v (.len (.t 0)))), (.op (.v (.bin .eql (.t 0) (.c (.int .i64 0))))), (.op (.v (.mv (.t 0)))), (.nst (.t 0) true [(.op (.v (.fa 0 (.s 1)))), (.op (.ld none (.t 0))), (.op (.v (.bin .eql (.t 0) (.c (.int .i64 4))))), (.op (.v (.mv (.t 0)))), (.nst (.t 0) false [(.op (.v (.fa 0 (.s 1)))), (.op (.ld none (.t 0))), (.op (.v (.bin .eql (.t 0) (.c (.int .i64 8)))))] (.c (.bool true)) (.t 0)), (.op (.v (.mv (.t 0)))), (.nst (.t 0) false [(.op (.v (.fa 0 (.s 1)))), (.op (.ld none (.t 0))), (.op (.v (.bin .eql (.t 0) (.c (.int .i64 5)))))] (.c (.bool true)) (.t 0))] (.t 0) (.c (.bool false)))] (.s 4) (.c (.bool true)) (.t 0))]
@[go_sem] def c19r2 : List GOp := [(.op none (.s 2) (.v (.mv (.c (.bool false)))))]
def c19s3 : SCode := (.seq (.ops c19r2) .ret)
@[go_sem] theorem c19s3eq : vc P E c19s3 σ H Q = vc P E (.seq (.ops c19r2) .ret) σ H Q := rfl
def c19s4 : SCode := (.cond (.s 4) c19s3 .skip)
@[go_sem] theorem c19s4eq : vc P E c19s4 σ H Q = vc P E (.cond (.s 4) c19s3 .skip) σ H Q := rfl
@[go_sem] def c19r5 : List GOp := [(.op none (.s 3) (.v (.mv (.c (.int .i64 0)))))]
@[go_sem] def c19r6 : List GOp := [(.op none .t (.v (.mv (.s 3)))),
  (.op none .t (.v (.fa 4 (.s 1)))),
  (.op none .t (.ld none (.t 0))),
  (.op none .t (.v (.len (.t 0)))),
  (.op none (.s 5) (.v (.bin .lss (.t 3) (.t 0))))]
def c19s7 : SCode := (.cond (.s 5) .skip (.exit 0))
@[go_sem] theorem c19s7eq : vc P E c19s7 σ H Q = vc P E (.cond (.s 5) .skip (.exit 0)) σ H Q := rfl
@[go_sem] def c19r8 : List GOp := [(.op none .t (.v (.fa 4 (.s 1)))),
  (.op none .t (.ld none (.t 0))),
  (.op none .t (.v (.mv (.s 3)))),
  (.op none .t (.v (.ix 6 (.t 1) (.t 0)))),
  (.op none .t (.ld (some 6) (.t 0))),
  (.op none .t (.call 19 [(.t 0)])),
  (.op none (.s 6) (.v (.un .not (.t 0))))]
@[go_sem] def c19r9 : List GOp := [(.op none (.s 2) (.v (.mv (.c (.bool false)))))]
def c19s10 : SCode := (.seq (.ops c19r9) .ret)
@[go_sem] theorem c19s10eq : vc P E c19s10 σ H Q = vc P E (.seq (.ops c19r9) .ret) σ H Q := rfl
def c19s11 : SCode := (.cond (.s 6) c19s10 .skip)
@[go_sem] theorem c19s11eq : vc P E c19s11 σ H Q = vc P E (.cond (.s 6) c19s10 .skip) σ H Q := rfl
@[go_sem] def c19r12 : List GOp := [(.op none .t (.v (.mv (.s 3)))),
  (.op none .t (.v (.bin .add (.t 0) (.c (.int .i64 1))))),
  (.op none (.s 3) (.v (.mv (.t 0))))]
def c19s13 : SCode := (.ops c19r12)
@[go_sem] theorem c19s13eq : vc P E c19s13 σ H Q = vc P E (.ops c19r12) σ H Q := rfl
def c19s14 : SCode := (.seq (.block 1 (.seq (.ops c19r8) c19s11)) c19s13)
@[go_sem] theorem c19s14eq : vc P E c19s14 σ H Q = vc P E (.seq (.block 1 (.seq (.ops c19r8) c19s11)) c19s13) σ H Q := rfl
def c19s15 : SCode := (.seq (.seq (.ops c19r6) c19s7) c19s14)
@[go_sem] theorem c19s15eq : vc P E c19s15 σ H Q = vc P E (.seq (.seq (.ops c19r6) c19s7) c19s14) σ H Q := rfl
def c19s16 : SCode := (.block 0 (.loop c19k c19s15))
@[go_sem] theorem c19s16eq : vc P E c19s16 σ H Q = vc P E (.block 0 (.loop c19k c19s15)) σ H Q := rfl
@[go_sem] def c19r17 : List GOp := [(.op none (.s 2) (.v (.mv (.c (.bool true)))))]
def c19s18 : SCode := (.seq (.ops c19r17) .ret)
@[go_sem] theorem c19s18eq : vc P E c19s18 σ H Q = vc P E (.seq (.ops c19r17) .ret) σ H Q := rfl
def c19s19 : SCode := (.seq (.seq (.ops c19r5) c19s16) c19s18)
@[go_sem] theorem c19s19eq : vc P E c19s19 σ H Q = vc P E (.seq (.seq (.ops c19r5) c19s16) c19s18) σ H Q := rfl
def c19s20 : SCode := (.seq (.seq (.ops c19r1) c19s4) c19s19)
@[go_sem] theorem c19s20eq : vc P E c19s20 σ H Q = vc P E (.seq (.seq (.ops c19r1) c19s4) c19s19) σ H Q := rfl
def c19 : Gx.Fn := ⟨42, c19k, (.seq (.ops c19r0) c19s20), [(.tmp (.s 2))]⟩
theorem c19ok : stripFn Try.prog c19k Try.f19 = some c19 := by kernel_rfl

/- lattice.Distributive -/
@[go_sem] def c20k : List Nat := [0, 1, 2]
@[go_sem] def c20r0 : List GOp := [(.op none (.s 1) (.bx 26 (.s 0))),
  (.op none (.s 2) (.v (.mv (.c (.bool false)))))]
@[go_sem] def c20r1 : List GOp := [(.op none .t (.v (.fa 0 (.s 1)))),
  (.op none .t (.ld none (.t 0))),
  (.op none .t (.v (.bin .neq (.t 0) (.c (.int .i64 8))))),
  (.op none .t (.v (.mv (.t 0)))),
  (.sel (.t 0) true [(.op (.v (.fa 0 (.s 1)))), (.op (.ld none (.t 0))), (.op (.v (.bin .neq (.t 0) (.c (.int .i64 10)))))] .t (.t 0) (.c (.bool false))),
  (.op none .t (.v (.mv (.t 0)))),
  (.op (some ((.t 0), (true, true))) .t (.v (.fa 4 (.s 1)))),
  (.op (some ((.t 1), (true, false))) .t (.ld none (.t 0))),
  (.op (some ((.t 2), (true, false))) .t (.call 36 [(.t 0), (.f 37)])),
  (.op (some ((.t 3), (true, false))) .t (.v (.un .not (.t 0)))),
  (.op none .t (.v (.pick (.t 4) (.t 0) (.c (.bool false))))),
  (.op none (.s 2) (.v (.mv (.t 0))))]
def c20s2 : SCode := (.seq (.ops c20r1) .ret)
@[go_sem] theorem c20s2eq : vc P E c20s2 σ H Q = vc P E (.seq (.ops c20r1) .ret) σ H Q := rfl
def c20 : Gx.Fn := ⟨17, c20k, (.seq (.ops c20r0) c20s2), [(.tmp (.s 2))]⟩
theorem c20ok : stripFn Try.prog c20k Try.f20 = some c20 := by kernel_rfl

/- plexusref09.Distributive -/
@[go_sem] def c21k : List Nat := [0, 1, 2, 3, 11, 16, 25]
@[go_sem] def c21r0 : List GOp := [(.op none (.s 1) (.bx 26 (.s 0))),
  (.op none (.s 2) (.v (.mv (.c (.bool false)))))]
@[go_sem] def c21r1 : List GOp := [(.op none .t (.v (.fa 0 (.s 1)))),
  (.op none .t (.ld none (.t 0))),
  (.op none .t (.v (.bin .eql (.t 0) (.c (.int .i64 8))))),
  (.op none .t (.v (.mv (.t 0)))),
  (.sel (.t 0) false [(.op (.v (.fa 0 (.s 1)))), (.op (.ld none (.t 0))), (.op (.v (.bin .eql (.t 0) (.c (.int .i64 10)))))] (.s 4) (.c (.bool true)) (.t 0))]
@[go_sem] def c21r2 : List GOp := [(.op none (.s 2) (.v (.mv (.c (.bool false)))))]
def c21s3 : SCode := (.seq (.ops c21r2) .ret)
@[go_sem] theorem c21s3eq : vc P E c21s3 σ H Q = vc P E (.seq (.ops c21r2) .ret) σ H Q := rfl
def c21s4 : SCode := (.cond (.s 4) c21s3 .skip)
@[go_sem] theorem c21s4eq : vc P E c21s4 σ H Q = vc P E (.cond (.s 4) c21s3 .skip) σ H Q := rfl
@[go_sem] def c21r5 : List GOp := [(.op none (.s 3) (.v (.mv (.c (.int .i64 0)))))]
@[go_sem] def c21r6 : List GOp := [(.op none .t (.v (.mv (.s 3)))),
  (.op none .t (.v (.fa 4 (.s 1)))),
  (.op none .t (.ld none (.t 0))),
  (.op none .t (.v (.len (.t 0)))),
  (.op none (.s 5) (.v (.bin .lss (.t 3) (.t 0))))]
def c21s7 : SCode := (.cond (.s 5) .skip (.exit 0))
@[go_sem] theorem c21s7eq : vc P E c21s7 σ H Q = vc P E (.cond (.s 5) .skip (.exit 0)) σ H Q := rfl
@[go_sem] def c21r8 : List GOp := [(.op none .t (.v (.fa 4 (.s 1)))),
  (.op none .t (.ld none (.t 0))),
  (.op none .t (.v (.mv (.s 3)))),
  (.op none .t (.v (.ix 6 (.t 1) (.t 0)))),
  (.op none .t (.ld (some 6) (.t 0))),
  (.op none .t (.call 21 [(.t 0)])),
  (.op none (.s 6) (.v (.un .not (.t 0))))]
@[go_sem] def c21r9 : List GOp := [(.op none (.s 2) (.v (.mv (.c (.bool false)))))]
def c21s10 : SCode := (.seq (.ops c21r9) .ret)
@[go_sem] theorem c21s10eq : vc P E c21s10 σ H Q = vc P E (.seq (.ops c21r9) .ret) σ H Q := rfl
def c21s11 : SCode := (.cond (.s 6) c21s10 .skip)
@[go_sem] theorem c21s11eq : vc P E c21s11 σ H Q = vc P E (.cond (.s 6) c21s10 .skip) σ H Q := rfl
@[go_sem] def c21r12 : List GOp := [(.op none .t (.v (.mv (.s 3)))),
  (.op none .t (.v (.bin .add (.t 0) (.c (.int .i64 1))))),
  (.op none (.s 3) (.v (.mv (.t 0))))]
def c21s13 : SCode := (.ops c21r12)
@[go_sem] theorem c21s13eq : vc P E c21s13 σ H Q = vc P E (.ops c21r12) σ H Q := rfl
def c21s14 : SCode := (.seq (.block 1 (.seq (.ops c21r8) c21s11)) c21s13)
@[go_sem] theorem c21s14eq : vc P E c21s14 σ H Q = vc P E (.seq (.block 1 (.seq (.ops c21r8) c21s11)) c21s13) σ H Q := rfl
def c21s15 : SCode := (.seq (.seq (.ops c21r6) c21s7) c21s14)
@[go_sem] theorem c21s15eq : vc P E c21s15 σ H Q = vc P E (.seq (.seq (.ops c21r6) c21s7) c21s14) σ H Q := rfl
def c21s16 : SCode := (.block 0 (.loop c21k c21s15))
@[go_sem] theorem c21s16eq : vc P E c21s16 σ H Q = vc P E (.block 0 (.loop c21k c21s15)) σ H Q := rfl
@[go_sem] def c21r17 : List GOp := [(.op none (.s 2) (.v (.mv (.c (.bool true)))))]
def c21s18 : SCode := (.seq (.ops c21r17) .ret)
@[go_sem] theorem c21s18eq : vc P E c21s18 σ H Q = vc P E (.seq (.ops c21r17) .ret) σ H Q := rfl
def c21s19 : SCode := (.seq (.seq (.ops c21r5) c21s16) c21s18)
@[go_sem] theorem c21s19eq : vc P E c21s19 σ H Q = vc P E (.seq (.seq (.ops c21r5) c21s16) c21s18) σ H Q := rfl
def c21s20 : SCode := (.seq (.seq (.ops c21r1) c21s4) c21s19)
@[go_sem] theorem c21s20eq : vc P E c21s20 σ H Q = vc P E (.seq (.seq (.ops c21r1) c21s4) c21s19) σ H Q := rfl
def c21 : Gx.Fn := ⟨26, c21k, (.seq (.ops c21r0) c21s20), [(.tmp (.s 2))]⟩
theorem c21ok : stripFn Try.prog c21k Try.f21 = some c21 := by kernel_rfl

/- lattice.Depth -/
@[go_sem] def c22k : List Nat := [0, 1, 2, 3, 5, 7, 8, 9, 10]
@[go_sem] def c22r0 : List GOp := [(.op none (.s 1) (.bx 26 (.s 0))),
  (.op none (.s 2) (.v (.mv (.c (.int .i64 0)))))]
@[go_sem] def c22r1 : List GOp := [(.op none (.s 3) (.v (.mv (.c (.int .i64 0)))))]
@[go_sem] def c22r2 : List GOp := [(.op none .t (.v (.fa 4 (.s 1)))),
  (.op none (.s 5) (.ld none (.t 0))),
  (.op none (.s 6) (.v (.len (.s 5)))),
  (.op none (.s 7) (.v (.mv (.c (.int .i64 0)))))]
@[go_sem] def c22r3 : List GOp := [(.op none (.s 8) (.v (.bin .lss (.s 7) (.s 6))))]
@[go_sem] def c22r4 : List GOp := [(.op none .t (.v (.ix 6 (.s 5) (.s 7)))),
  (.op none .t (.ld (some 6) (.t 0))),
  (.op none (.s 4) (.al 26 [(.int .i64 0), (.int .i64 0), (.int .i64 0), (.slice none 0 0), (.slice none 0 0), (.slice none 0 0)])),
  (.op none .no (.st 6 (.s 4) (.t 0)))]
@[go_sem] def c22r5 : List GOp := [(.op none .t (.v (.mv (.s 3)))),
  (.op none .t (.ld (some 6) (.s 4))),
  (.op none .t (.call 22 [(.t 0)])),
  (.op none .t (.v (.mm true (.t 2) (.t 0)))),
  (.op none (.s 3) (.v (.mv (.t 0))))]
def c22s6 : SCode := (.ops c22r5)
@[go_sem] theorem c22s6eq : vc P E c22s6 σ H Q = vc P E (.ops c22r5) σ H Q := rfl
@[go_sem] def c22r7 : List GOp := [(.op none .t (.v (.bin .add (.s 7) (.c (.int .i64 1))))),
  (.op none (.s 7) (.v (.mv (.t 0))))]
def c22s8 : SCode := (.ops c22r7)
@[go_sem] theorem c22s8eq : vc P E c22s8 σ H Q = vc P E (.ops c22r7) σ H Q := rfl
def c22s9 : SCode := (.seq (.block 1 (.seq (.ops c22r4) c22s6)) c22s8)
@[go_sem] theorem c22s9eq : vc P E c22s9 σ H Q = vc P E (.seq (.block 1 (.seq (.ops c22r4) c22s6)) c22s8) σ H Q := rfl
def c22s10 : SCode := (.seq (.cond (.s 8) .skip (.exit 0)) c22s9)
@[go_sem] theorem c22s10eq : vc P E c22s10 σ H Q = vc P E (.seq (.cond (.s 8) .skip (.exit 0)) c22s9) σ H Q := rfl
def c22s11 : SCode := (.seq (.ops c22r3) c22s10)
@[go_sem] theorem c22s11eq : vc P E c22s11 σ H Q = vc P E (.seq (.ops c22r3) c22s10) σ H Q := rfl
def c22s12 : SCode := (.block 0 (.loop c22k c22s11))
@[go_sem] theorem c22s12eq : vc P E c22s12 σ H Q = vc P E (.block 0 (.loop c22k c22s11)) σ H Q := rfl
@[go_sem] def c22r13 : List GOp := [(.op none .t (.v (.mv (.s 3)))),
  (.op none .t (.v (.bin .add (.t 0) (.c (.int .i64 1))))),
  (.op none (.s 2) (.v (.mv (.t 0))))]
def c22s14 : SCode := (.seq (.ops c22r13) .ret)
@[go_sem] theorem c22s14eq : vc P E c22s14 σ H Q = vc P E (.seq (.ops c22r13) .ret) σ H Q := rfl
def c22s15 : SCode := (.seq (.seq (.ops c22r2) c22s12) c22s14)
@[go_sem] theorem c22s15eq : vc P E c22s15 σ H Q = vc P E (.seq (.seq (.ops c22r2) c22s12) c22s14) σ H Q := rfl
def c22s16 : SCode := (.seq (.ops c22r1) c22s15)
@[go_sem] theorem c22s16eq : vc P E c22s16 σ H Q = vc P E (.seq (.ops c22r1) c22s15) σ H Q := rfl
def c22 : Gx.Fn := ⟨20, c22k, (.seq (.ops c22r0) c22s16), [(.tmp (.s 2))]⟩
theorem c22ok : stripFn Try.prog c22k Try.f22 = some c22 := by kernel_rfl

/- plexusref09.Depth -/
@[go_sem] def c23k : List Nat := [0, 1, 2, 3, 4, 9]
@[go_sem] def c23r0 : List GOp := [(.op none (.s 1) (.bx 26 (.s 0))),
  (.op none (.s 2) (.v (.mv (.c (.int .i64 0)))))]
@[go_sem] def c23r1 : List GOp := [(.op none (.s 3) (.v (.mv (.c (.int .i64 0)))))]
@[go_sem] def c23r2 : List GOp := [(.op none (.s 4) (.v (.mv (.c (.int .i64 0)))))]
@[go_sem] def c23r3 : List GOp := [(.op none .t (.v (.mv (.s 4)))),
  (.op none .t (.v (.fa 4 (.s 1)))),
  (.op none .t (.ld none (.t 0))),
  (.op none .t (.v (.len (.t 0)))),
  (.op none (.s 5) (.v (.bin .lss (.t 3) (.t 0))))]
def c23s4 : SCode := (.cond (.s 5) .skip (.exit 0))
@[go_sem] theorem c23s4eq : vc P E c23s4 σ H Q = vc P E (.cond (.s 5) .skip (.exit 0)) σ H Q := rfl
@[go_sem] def c23r5 : List GOp := [(.op none .t (.v (.mv (.s 3)))),
  (.op none .t (.v (.fa 4 (.s 1)))),
  (.op none .t (.ld none (.t 0))),
  (.op none .t (.v (.mv (.s 4)))),
  (.op none .t (.v (.ix 6 (.t 1) (.t 0)))),
  (.op none .t (.ld (some 6) (.t 0))),
  (.op none .t (.call 23 [(.t 0)])),
  (.op none .t (.v (.mm true (.t 6) (.t 0)))),
  (.op none (.s 3) (.v (.mv (.t 0))))]
@[go_sem] def c23r6 : List GOp := [(.op none .t (.v (.mv (.s 4)))),
  (.op none .t (.v (.bin .add (.t 0) (.c (.int .i64 1))))),
  (.op none (.s 4) (.v (.mv (.t 0))))]
def c23s7 : SCode := (.ops c23r6)
@[go_sem] theorem c23s7eq : vc P E c23s7 σ H Q = vc P E (.ops c23r6) σ H Q := rfl
def c23s8 : SCode := (.seq (.block 1 (.ops c23r5)) c23s7)
@[go_sem] theorem c23s8eq : vc P E c23s8 σ H Q = vc P E (.seq (.block 1 (.ops c23r5)) c23s7) σ H Q := rfl
def c23s9 : SCode := (.seq (.seq (.ops c23r3) c23s4) c23s8)
@[go_sem] theorem c23s9eq : vc P E c23s9 σ H Q = vc P E (.seq (.seq (.ops c23r3) c23s4) c23s8) σ H Q := rfl
def c23s10 : SCode := (.block 0 (.loop c23k c23s9))
@[go_sem] theorem c23s10eq : vc P E c23s10 σ H Q = vc P E (.block 0 (.loop c23k c23s9)) σ H Q := rfl
@[go_sem] def c23r11 : List GOp := [(.op none .t (.v (.mv (.s 3)))),
  (.op none .t (.v (.bin .add (.t 0) (.c (.int .i64 1))))),
  (.op none (.s 2) (.v (.mv (.t 0))))]
def c23s12 : SCode := (.seq (.ops c23r11) .ret)
@[go_sem] theorem c23s12eq : vc P E c23s12 σ H Q = vc P E (.seq (.ops c23r11) .ret) σ H Q := rfl
def c23s13 : SCode := (.seq (.seq (.ops c23r2) c23s10) c23s12)
@[go_sem] theorem c23s13eq : vc P E c23s13 σ H Q = vc P E (.seq (.seq (.ops c23r2) c23s10) c23s12) σ H Q := rfl
def c23s14 : SCode := (.seq (.ops c23r1) c23s13)
@[go_sem] theorem c23s14eq : vc P E c23s14 σ H Q = vc P E (.seq (.ops c23r1) c23s13) σ H Q := rfl
def c23 : Gx.Fn := ⟨22, c23k, (.seq (.ops c23r0) c23s14), [(.tmp (.s 2))]⟩
theorem c23ok : stripFn Try.prog c23k Try.f23 = some c23 := by kernel_rfl

/- lattice.Field -/
@[go_sem] def c24k : List Nat := [0, 1, 2, 4, 5, 6, 24]
@[go_sem] def c24r0 : List GOp := [(.op none (.s 2) (.bx 26 (.s 0))),
  (.op none (.s 3) (.al 26 [(.int .i64 0), (.int .i64 0), (.int .i64 0), (.slice none 0 0), (.slice none 0 0), (.slice none 0 0)])),
  (.op none (.s 4) (.v (.mv (.c (.bool false)))))]
@[go_sem] def c24r1 : List GOp := [(.op none .t (.v (.fa 3 (.s 2)))),
  (.op none .t (.ld none (.t 0))),
  (.op none .t (.v (.mv (.s 1)))),
  (.op none .t (.call 38 [(.t 1), (.t 0)])),
  (.op none (.s 5) (.v (.mv (.t 0))))]
@[go_sem] def c24r2 : List GOp := [(.op none .t (.v (.fa 0 (.s 2)))),
  (.op none .t (.ld none (.t 0))),
  (.op none .t (.v (.bin .neq (.t 0) (.c (.int .i64 6))))),
  (.op none .t (.v (.mv (.t 0)))),
  (.sel (.t 0) false [(.op (.v (.mv (.s 5)))), (.op (.v (.bin .lss (.t 0) (.c (.int .i64 0)))))] .t (.c (.bool true)) (.t 0)),
  (.op none .t (.v (.mv (.t 0)))),
  (.sel (.t 0) false [(.op (.v (.mv (.s 5)))), (.op (.v (.fa 4 (.s 2)))), (.op (.ld none (.t 0))), (.op (.v (.len (.t 0)))), (.op (.v (.bin .geq (.t 3) (.t 0))))] (.s 6) (.c (.bool true)) (.t 0))]
@[go_sem] def c24r3 : List GOp := [(.op none .t (.v (.bld [(.int .i64 0), (.int .i64 0), (.int .i64 0), (.slice none 0 0), (.slice none 0 0), (.slice none 0 0)] []))),
  (.op none .no (.st 6 (.s 3) (.t 0))),
  (.op none (.s 4) (.v (.mv (.c (.bool false)))))]
def c24s4 : SCode := (.seq (.ops c24r3) .ret)
@[go_sem] theorem c24s4eq : vc P E c24s4 σ H Q = vc P E (.seq (.ops c24r3) .ret) σ H Q := rfl
def c24s5 : SCode := (.cond (.s 6) c24s4 .skip)
@[go_sem] theorem c24s5eq : vc P E c24s5 σ H Q = vc P E (.cond (.s 6) c24s4 .skip) σ H Q := rfl
@[go_sem] def c24r6 : List GOp := [(.op none .t (.v (.fa 4 (.s 2)))),
  (.op none .t (.ld none (.t 0))),
  (.op none .t (.v (.mv (.s 5)))),
  (.op none .t (.v (.ix 6 (.t 1) (.t 0)))),
  (.op none .t (.ld (some 6) (.t 0))),
  (.op none .no (.st 6 (.s 3) (.t 0))),
  (.op none (.s 4) (.v (.mv (.c (.bool true)))))]
def c24s7 : SCode := (.seq (.ops c24r6) .ret)
@[go_sem] theorem c24s7eq : vc P E c24s7 σ H Q = vc P E (.seq (.ops c24r6) .ret) σ H Q := rfl
def c24s8 : SCode := (.seq (.seq (.ops c24r2) c24s5) c24s7)
@[go_sem] theorem c24s8eq : vc P E c24s8 σ H Q = vc P E (.seq (.seq (.ops c24r2) c24s5) c24s7) σ H Q := rfl
def c24s9 : SCode := (.seq (.ops c24r1) c24s8)
@[go_sem] theorem c24s9eq : vc P E c24s9 σ H Q = vc P E (.seq (.ops c24r1) c24s8) σ H Q := rfl
def c24 : Gx.Fn := ⟨31, c24k, (.seq (.ops c24r0) c24s9), [(.cell (.s 3) (some 6)), (.tmp (.s 4))]⟩
theorem c24ok : stripFn Try.prog c24k Try.f24 = some c24 := by kernel_rfl

/- lattice.Encode -/
@[go_sem] def c25k : List Nat := [0, 1, 2, 3]
@[go_sem] def c25r0 : List GOp := [(.op none (.s 1) (.bx 26 (.s 0))),
  (.op none (.s 2) (.v (.mv (.c (.slice none 0 0)))))]
@[go_sem] def c25r1 : List GOp := [(.op none (.s 3) (.al 56 [(.slice none 0 0)]))]
@[go_sem] def c25r2 : List GOp := [(.op none .t (.ld (some 6) (.s 1))),
  (.op none .t (.call 39 [(.s 3), (.t 0)]))]
@[go_sem] def c25r3 : List GOp := [(.op none .t (.call 40 [(.s 3)])),
  (.op none (.s 2) (.v (.mv (.t 0))))]
def c25s4 : SCode := (.seq (.ops c25r3) .ret)
@[go_sem] theorem c25s4eq : vc P E c25s4 σ H Q = vc P E (.seq (.ops c25r3) .ret) σ H Q := rfl
def c25s5 : SCode := (.seq (.ops c25r2) c25s4)
@[go_sem] theorem c25s5eq : vc P E c25s5 σ H Q = vc P E (.seq (.ops c25r2) c25s4) σ H Q := rfl
def c25s6 : SCode := (.seq (.ops c25r1) c25s5)
@[go_sem] theorem c25s6eq : vc P E c25s6 σ H Q = vc P E (.seq (.ops c25r1) c25s5) σ H Q := rfl
def c25 : Gx.Fn := ⟨7, c25k, (.seq (.ops c25r0) c25s6), [(.tmp (.s 2))]⟩
theorem c25ok : stripFn Try.prog c25k Try.f25 = some c25 := by kernel_rfl

/- lattice.Decode -/
@[go_sem] def c26k : List Nat := [0, 2, 3, 4, 5, 17]
@[go_sem] def c26r0 : List GOp := [(.op none (.s 1) (.al 26 [(.int .i64 0), (.int .i64 0), (.int .i64 0), (.slice none 0 0), (.slice none 0 0), (.slice none 0 0)])),
  (.op none (.s 2) (.v (.mv (.c (.int .i64 0)))))]
@[go_sem] def c26r1 : List GOp := [(.op none .t (.v (.mv (.s 0)))),
  (.op none .t (.call 41 [(.t 0)])),
  (.op none (.s 3) (.v (.mv (.t 0))))]
@[go_sem] def c26r2 : List GOp := [(.op none .t (.v (.mv (.s 3)))),
  (.op none .t (.call 42 [(.t 0), (.c (.int .i64 6))])),
  (.op none (.s 4) (.al 26 [(.int .i64 0), (.int .i64 0), (.int .i64 0), (.slice none 0 0), (.slice none 0 0), (.slice none 0 0)])),
  (.op none .no (.st 6 (.s 4) (.t 0)))]
@[go_sem] def c26r3 : List GOp := [(.op none .t (.v (.mv (.s 3)))),
  (.op none .t (.call 43 [(.t 0)])),
  (.op none .t (.v (.bin .neq (.t 0) (.c (.int .i64 0))))),
  (.op none .t (.v (.mv (.t 0)))),
  (.op (some ((.t 0), (false, true))) .t (.ld (some 6) (.s 4))),
  (.op (some ((.t 1), (false, false))) .t (.call 12 [(.t 0)])),
  (.op (some ((.t 2), (false, false))) .t (.v (.bin .neq (.t 0) (.c (.int .i64 0))))),
  (.op none (.s 5) (.v (.pick (.t 3) (.c (.bool true)) (.t 0))))]
@[go_sem] def c26r4 : List GOp := [(.op none .t (.v (.bld [(.int .i64 0), (.int .i64 0), (.int .i64 0), (.slice none 0 0), (.slice none 0 0), (.slice none 0 0)] []))),
  (.op none .no (.st 6 (.s 1) (.t 0))),
  (.op none (.s 2) (.v (.mv (.c (.int .i64 2)))))]
def c26s5 : SCode := (.seq (.ops c26r4) .ret)
@[go_sem] theorem c26s5eq : vc P E c26s5 σ H Q = vc P E (.seq (.ops c26r4) .ret) σ H Q := rfl
def c26s6 : SCode := (.cond (.s 5) c26s5 .skip)
@[go_sem] theorem c26s6eq : vc P E c26s6 σ H Q = vc P E (.cond (.s 5) c26s5 .skip) σ H Q := rfl
@[go_sem] def c26r7 : List GOp := [(.op none .t (.ld (some 6) (.s 4))),
  (.op none .no (.st 6 (.s 1) (.t 0))),
  (.op none (.s 2) (.v (.mv (.c (.int .i64 0)))))]
def c26s8 : SCode := (.seq (.ops c26r7) .ret)
@[go_sem] theorem c26s8eq : vc P E c26s8 σ H Q = vc P E (.seq (.ops c26r7) .ret) σ H Q := rfl
def c26s9 : SCode := (.seq (.seq (.ops c26r3) c26s6) c26s8)
@[go_sem] theorem c26s9eq : vc P E c26s9 σ H Q = vc P E (.seq (.seq (.ops c26r3) c26s6) c26s8) σ H Q := rfl
def c26s10 : SCode := (.seq (.ops c26r2) c26s9)
@[go_sem] theorem c26s10eq : vc P E c26s10 σ H Q = vc P E (.seq (.ops c26r2) c26s9) σ H Q := rfl
def c26s11 : SCode := (.seq (.ops c26r1) c26s10)
@[go_sem] theorem c26s11eq : vc P E c26s11 σ H Q = vc P E (.seq (.ops c26r1) c26s10) σ H Q := rfl
def c26 : Gx.Fn := ⟨20, c26k, (.seq (.ops c26r0) c26s11), [(.cell (.s 1) (some 6)), (.tmp (.s 2))]⟩
theorem c26ok : stripFn Try.prog c26k Try.f26 = some c26 := by kernel_rfl

/- plexusref09.Encode -/
@[go_sem] def c27k : List Nat := [0, 1, 2, 3, 4, 5, 11, 12, 22, 31, 43, 48, 66, 77]
@[go_sem] def c27r0 : List GOp := [(.op none (.s 1) (.bx 26 (.s 0))),
  (.op none (.s 2) (.v (.mv (.c (.slice none 0 0)))))]
@[go_sem] def c27r1 : List GOp := [(.op none .t (.v (.fa 0 (.s 1)))),
  (.op none .t (.ld none (.t 0))),
  (.op none .t (.v (.cvi .u64 (.t 0)))),
  (.op none .t (.call 44 [(.c (.slice none 0 0)), (.t 0)])),
  (.op none (.s 3) (.v (.mv (.t 0))))]
@[go_sem] def c27r2 : List GOp := [(.op none .t (.v (.fa 0 (.s 1)))),
  (.op none (.s 6) (.ld none (.t 0)))]
@[go_sem] def c27r3 : List GOp := [(.op none .t (.v (.bin .eql (.s 6) (.c (.int .i64 2))))),
  (.op none (.s 7) (.v (.mv (.t 0))))]
@[go_sem] def c27r4 : List GOp := [(.op none .t (.v (.bin .eql (.s 6) (.c (.int .i64 3))))),
  (.op none (.s 7) (.v (.mv (.t 0))))]
def c27s5 : SCode := (.cond (.s 7) .skip (.ops c27r4))
@[go_sem] theorem c27s5eq : vc P E c27s5 σ H Q = vc P E (.cond (.s 7) .skip (.ops c27r4)) σ H Q := rfl
@[go_sem] def c27d6 : DT := (.rd none .t (.v (.mv (.s 3))) [3, 6] (.rd none .t (.v (.fa 1 (.s 1))) [3, 6] (.rd none .t (.ld none (.t 0)) [3, 6] (.rd none .t (.v (.fa 2 (.s 1))) [6] (.rd none .t (.ld none (.t 0)) [6] (.ef 3 none .t (.call 45 [(.t 4), (.t 2)]) (.ef 6 none .t (.call 45 [(.t 0), (.t 1)]) (.rd none (.s 3) (.v (.mv (.t 0))) [] .done))))))))
@[go_sem] def c27r7 : List GOp := [(.op none .t (.v (.bin .eql (.s 6) (.c (.int .i64 4))))),
  (.op none (.s 8) (.v (.mv (.t 0))))]
@[go_sem] def c27r8 : List GOp := [(.op none .t (.v (.bin .eql (.s 6) (.c (.int .i64 8))))),
  (.op none (.s 8) (.v (.mv (.t 0))))]
@[go_sem] def c27r9 : List GOp := [(.op none .t (.v (.bin .eql (.s 6) (.c (.int .i64 5))))),
  (.op none (.s 8) (.v (.mv (.t 0))))]
@[go_sem] def c27r10 : List GOp := [(.op none .t (.v (.bin .eql (.s 6) (.c (.int .i64 10))))),
  (.op none (.s 8) (.v (.mv (.t 0))))]
def c27s11 : SCode := (.cond (.s 8) .skip (.ops c27r10))
@[go_sem] theorem c27s11eq : vc P E c27s11 σ H Q = vc P E (.cond (.s 8) .skip (.ops c27r10)) σ H Q := rfl
def c27s12 : SCode := (.seq (.ops c27r9) c27s11)
@[go_sem] theorem c27s12eq : vc P E c27s12 σ H Q = vc P E (.seq (.ops c27r9) c27s11) σ H Q := rfl
def c27s13 : SCode := (.cond (.s 8) .skip c27s12)
@[go_sem] theorem c27s13eq : vc P E c27s13 σ H Q = vc P E (.cond (.s 8) .skip c27s12) σ H Q := rfl
def c27s14 : SCode := (.seq (.ops c27r8) c27s13)
@[go_sem] theorem c27s14eq : vc P E c27s14 σ H Q = vc P E (.seq (.ops c27r8) c27s13) σ H Q := rfl
def c27s15 : SCode := (.cond (.s 8) .skip c27s14)
@[go_sem] theorem c27s15eq : vc P E c27s15 σ H Q = vc P E (.cond (.s 8) .skip c27s14) σ H Q := rfl
@[go_sem] def c27r16 : List GOp := [(.op none .t (.v (.mv (.s 3)))),
  (.op none .t (.v (.fa 3 (.s 1)))),
  (.op none .t (.ld none (.t 0))),
  (.op none .t (.call 46 [(.t 2), (.t 0)])),
  (.op none (.s 3) (.v (.mv (.t 0))))]
@[go_sem] def c27r17 : List GOp := [(.op none .t (.v (.bin .eql (.s 6) (.c (.int .i64 6))))),
  (.op none (.s 9) (.v (.mv (.t 0))))]
@[go_sem] def c27r18 : List GOp := [(.op none .t (.v (.mv (.s 3)))),
  (.op none .t (.v (.fa 3 (.s 1)))),
  (.op none .t (.ld none (.t 0))),
  (.op none .t (.v (.len (.t 0)))),
  (.op none .t (.v (.cvi .u64 (.t 0)))),
  (.op none .t (.call 44 [(.t 4), (.t 0)])),
  (.op none (.s 3) (.v (.mv (.t 0))))]
def c27s19 : SCode := (.cond (.s 9) (.ops c27r18) .skip)
@[go_sem] theorem c27s19eq : vc P E c27s19 σ H Q = vc P E (.cond (.s 9) (.ops c27r18) .skip) σ H Q := rfl
def c27s20 : SCode := (.seq (.ops c27r17) c27s19)
@[go_sem] theorem c27s20eq : vc P E c27s20 σ H Q = vc P E (.seq (.ops c27r17) c27s19) σ H Q := rfl
def c27s21 : SCode := (.cond (.s 8) (.ops c27r16) c27s20)
@[go_sem] theorem c27s21eq : vc P E c27s21 σ H Q = vc P E (.cond (.s 8) (.ops c27r16) c27s20) σ H Q := rfl
def c27s22 : SCode := (.seq (.seq (.ops c27r7) c27s15) c27s21)
@[go_sem] theorem c27s22eq : vc P E c27s22 σ H Q = vc P E (.seq (.seq (.ops c27r7) c27s15) c27s21) σ H Q := rfl
def c27s23 : SCode := (.cond (.s 7) (.de c27d6) c27s22)
@[go_sem] theorem c27s23eq : vc P E c27s23 σ H Q = vc P E (.cond (.s 7) (.de c27d6) c27s22) σ H Q := rfl
def c27s24 : SCode := (.block 0 (.seq (.seq (.ops c27r3) c27s5) c27s23))
theorem c27s24eq : vc P E c27s24 σ H Q = vc P E (.block 0 (.seq (.seq (.ops c27r3) c27s5) c27s23)) σ H Q := rfl
@[go_sem] def c27r25 : List GOp := [(.op none (.s 4) (.v (.mv (.c (.int .i64 0)))))]
@[go_sem] def c27r26 : List GOp := [(.op none .t (.v (.mv (.s 4)))),
  (.op none .t (.v (.fa 4 (.s 1)))),
  (.op none .t (.ld none (.t 0))),
  (.op none .t (.v (.len (.t 0)))),
  (.op none (.s 10) (.v (.bin .lss (.t 3) (.t 0))))]
def c27s27 : SCode := (.cond (.s 10) .skip (.exit 1))
@[go_sem] theorem c27s27eq : vc P E c27s27 σ H Q = vc P E (.cond (.s 10) .skip (.exit 1)) σ H Q := rfl
@[go_sem] def c27r28 : List GOp := [(.op none .t (.v (.fa 0 (.s 1)))),
  (.op none .t (.ld none (.t 0))),
  (.op none (.s 11) (.v (.bin .eql (.t 0) (.c (.int .i64 6)))))]
@[go_sem] def c27r29 : List GOp := [(.op none .t (.v (.mv (.s 3)))),
  (.op none .t (.v (.fa 3 (.s 1)))),
  (.op none .t (.ld none (.t 0))),
  (.op none .t (.v (.mv (.s 4)))),
  (.op none .t (.v (.ix 1 (.t 1) (.t 0)))),
  (.op none .t (.ld none (.t 0))),
  (.op none .t (.call 47 [(.t 5), (.t 0)])),
  (.op none (.s 3) (.v (.mv (.t 0))))]
def c27s30 : SCode := (.cond (.s 11) (.ops c27r29) .skip)
@[go_sem] theorem c27s30eq : vc P E c27s30 σ H Q = vc P E (.cond (.s 11) (.ops c27r29) .skip) σ H Q := rfl
@[go_sem] def c27r31 : List GOp := [(.op none .t (.v (.mv (.s 3)))),
  (.op none .t (.v (.fa 4 (.s 1)))),
  (.op none .t (.ld none (.t 0))),
  (.op none .t (.v (.mv (.s 4)))),
  (.op none .t (.v (.ix 6 (.t 1) (.t 0)))),
  (.op none .t (.ld (some 6) (.t 0))),
  (.op none .t (.call 27 [(.t 0)])),
  (.op none .t (.ap 36 36 (.t 6) (.t 0))),
  (.op none (.s 3) (.v (.mv (.t 0))))]
def c27s32 : SCode := (.ops c27r31)
@[go_sem] theorem c27s32eq : vc P E c27s32 σ H Q = vc P E (.ops c27r31) σ H Q := rfl
@[go_sem] def c27r33 : List GOp := [(.op none .t (.v (.mv (.s 4)))),
  (.op none .t (.v (.bin .add (.t 0) (.c (.int .i64 1))))),
  (.op none (.s 4) (.v (.mv (.t 0))))]
def c27s34 : SCode := (.ops c27r33)
@[go_sem] theorem c27s34eq : vc P E c27s34 σ H Q = vc P E (.ops c27r33) σ H Q := rfl
def c27s35 : SCode := (.seq (.block 2 (.seq (.seq (.ops c27r28) c27s30) c27s32)) c27s34)
@[go_sem] theorem c27s35eq : vc P E c27s35 σ H Q = vc P E (.seq (.block 2 (.seq (.seq (.ops c27r28) c27s30) c27s32)) c27s34) σ H Q := rfl
def c27s36 : SCode := (.seq (.seq (.ops c27r26) c27s27) c27s35)
@[go_sem] theorem c27s36eq : vc P E c27s36 σ H Q = vc P E (.seq (.seq (.ops c27r26) c27s27) c27s35) σ H Q := rfl
def c27s37 : SCode := (.block 1 (.loop c27k c27s36))
@[go_sem] theorem c27s37eq : vc P E c27s37 σ H Q = vc P E (.block 1 (.loop c27k c27s36)) σ H Q := rfl
@[go_sem] def c27r38 : List GOp := [(.op none .t (.v (.fa 0 (.s 1)))),
  (.op none .t (.ld none (.t 0))),
  (.op none (.s 12) (.v (.bin .eql (.t 0) (.c (.int .i64 10)))))]
@[go_sem] def c27r39 : List GOp := [(.op none .t (.v (.mv (.s 3)))),
  (.op none .t (.v (.fa 5 (.s 1)))),
  (.op none .t (.ld none (.t 0))),
  (.op none .t (.v (.len (.t 0)))),
  (.op none .t (.v (.cvi .u64 (.t 0)))),
  (.op none .t (.call 44 [(.t 4), (.t 0)])),
  (.op none (.s 3) (.v (.mv (.t 0))))]
@[go_sem] def c27r40 : List GOp := [(.op none (.s 5) (.v (.mv (.c (.int .i64 0)))))]
@[go_sem] def c27r41 : List GOp := [(.op none .t (.v (.mv (.s 5)))),
  (.op none .t (.v (.fa 5 (.s 1)))),
  (.op none .t (.ld none (.t 0))),
  (.op none .t (.v (.len (.t 0)))),
  (.op none (.s 13) (.v (.bin .lss (.t 3) (.t 0))))]
def c27s42 : SCode := (.cond (.s 13) .skip (.exit 3))
@[go_sem] theorem c27s42eq : vc P E c27s42 σ H Q = vc P E (.cond (.s 13) .skip (.exit 3)) σ H Q := rfl
@[go_sem] def c27d43 : DT := (.rd none .t (.v (.mv (.s 3))) [7, 14] (.rd none .t (.v (.fa 5 (.s 1))) [7, 14] (.rd none .t (.ld none (.t 0)) [7, 14] (.rd none .t (.v (.mv (.s 5))) [7, 14] (.rd none .t (.v (.ix 2 (.t 1) (.t 0))) [7, 14] (.rd none .t (.v (.fa 0 (.t 0))) [7, 14] (.rd none .t (.ld none (.t 0)) [7, 14] (.rd none .t (.v (.fa 5 (.s 1))) [14] (.rd none .t (.ld none (.t 0)) [14] (.rd none .t (.v (.mv (.s 5))) [14] (.rd none .t (.v (.ix 2 (.t 1) (.t 0))) [14] (.rd none .t (.v (.fa 1 (.t 0))) [14] (.rd none .t (.ld none (.t 0)) [14] (.ef 7 none .t (.call 46 [(.t 12), (.t 6)]) (.ef 14 none .t (.call 47 [(.t 0), (.t 1)]) (.rd none (.s 3) (.v (.mv (.t 0))) [] .done))))))))))))))))
@[go_sem] def c27r44 : List GOp := [(.op none .t (.v (.mv (.s 5)))),
  (.op none .t (.v (.bin .add (.t 0) (.c (.int .i64 1))))),
  (.op none (.s 5) (.v (.mv (.t 0))))]
def c27s45 : SCode := (.ops c27r44)
@[go_sem] theorem c27s45eq : vc P E c27s45 σ H Q = vc P E (.ops c27r44) σ H Q := rfl
def c27s46 : SCode := (.seq (.block 4 (.de c27d43)) c27s45)
@[go_sem] theorem c27s46eq : vc P E c27s46 σ H Q = vc P E (.seq (.block 4 (.de c27d43)) c27s45) σ H Q := rfl
def c27s47 : SCode := (.seq (.seq (.ops c27r41) c27s42) c27s46)
@[go_sem] theorem c27s47eq : vc P E c27s47 σ H Q = vc P E (.seq (.seq (.ops c27r41) c27s42) c27s46) σ H Q := rfl
def c27s48 : SCode := (.block 3 (.loop c27k c27s47))
@[go_sem] theorem c27s48eq : vc P E c27s48 σ H Q = vc P E (.block 3 (.loop c27k c27s47)) σ H Q := rfl
def c27s49 : SCode := (.seq (.ops c27r40) c27s48)
@[go_sem] theorem c27s49eq : vc P E c27s49 σ H Q = vc P E (.seq (.ops c27r40) c27s48) σ H Q := rfl
def c27s50 : SCode := (.seq (.ops c27r39) c27s49)
@[go_sem] theorem c27s50eq : vc P E c27s50 σ H Q = vc P E (.seq (.ops c27r39) c27s49) σ H Q := rfl
def c27s51 : SCode := (.cond (.s 12) c27s50 .skip)
@[go_sem] theorem c27s51eq : vc P E c27s51 σ H Q = vc P E (.cond (.s 12) c27s50 .skip) σ H Q := rfl
@[go_sem] def c27r52 : List GOp := [(.op none .t (.v (.mv (.s 3)))),
  (.op none (.s 2) (.v (.mv (.t 0))))]
def c27s53 : SCode := (.seq (.ops c27r52) .ret)
@[go_sem] theorem c27s53eq : vc P E c27s53 σ H Q = vc P E (.seq (.ops c27r52) .ret) σ H Q := rfl
def c27s54 : SCode := (.seq (.seq (.ops c27r38) c27s51) c27s53)
@[go_sem] theorem c27s54eq : vc P E c27s54 σ H Q = vc P E (.seq (.seq (.ops c27r38) c27s51) c27s53) σ H Q := rfl
def c27s55 : SCode := (.seq (.seq (.ops c27r25) c27s37) c27s54)
@[go_sem] theorem c27s55eq : vc P E c27s55 σ H Q = vc P E (.seq (.seq (.ops c27r25) c27s37) c27s54) σ H Q := rfl
def c27s56 : SCode := (.seq (.seq (.ops c27r2) c27s24) c27s55)
@[go_sem] theorem c27s56eq : vc P E c27s56 σ H Q = vc P E (.seq (.seq (.ops c27r2) c27s24) c27s55) σ H Q := rfl
def c27s57 : SCode := (.seq (.ops c27r1) c27s56)
@[go_sem] theorem c27s57eq : vc P E c27s57 σ H Q = vc P E (.seq (.ops c27r1) c27s56) σ H Q := rfl
def c27 : Gx.Fn := ⟨96, c27k, (.seq (.ops c27r0) c27s57), [(.tmp (.s 2))]⟩
theorem c27ok : stripFn Try.prog c27k Try.f27 = some c27 := by kernel_rfl

/- plexusref09.Decode -/
@[go_sem] def c28k : List Nat := [0, 2, 3, 4, 5, 18]
@[go_sem] def c28r0 : List GOp := [(.op none (.s 1) (.al 26 [(.int .i64 0), (.int .i64 0), (.int .i64 0), (.slice none 0 0), (.slice none 0 0), (.slice none 0 0)])),
  (.op none (.s 2) (.v (.mv (.c (.bool false)))))]
@[go_sem] def c28r1 : List GOp := [(.op none .t (.v (.mv (.s 0)))),
  (.op none .t (.v (.bld [(.slice none 0 0), (.int .i64 0), (.int .i64 0), (.bool false)] [(0, (1, (.t 0)))]))),
  (.op none .t (.bx 71 (.t 0))),
  (.op none (.s 3) (.v (.mv (.t 0))))]
@[go_sem] def c28r2 : List GOp := [(.op none .t (.v (.mv (.s 3)))),
  (.op none .t (.call 48 [(.t 0), (.c (.int .i64 6))])),
  (.op none (.s 4) (.al 26 [(.int .i64 0), (.int .i64 0), (.int .i64 0), (.slice none 0 0), (.slice none 0 0), (.slice none 0 0)])),
  (.op none .no (.st 6 (.s 4) (.t 0)))]
@[go_sem] def c28r3 : List GOp := [(.op none .t (.v (.mv (.s 3)))),
  (.op none .t (.call 49 [(.t 0)])),
  (.op none .t (.v (.un .not (.t 0)))),
  (.op none .t (.v (.mv (.t 0)))),
  (.op (some ((.t 0), (false, true))) .t (.ld (some 6) (.s 4))),
  (.op (some ((.t 1), (false, false))) .t (.call 13 [(.t 0)])),
  (.op (some ((.t 2), (false, false))) .t (.v (.bin .neq (.t 0) (.c (.int .i64 0))))),
  (.op none (.s 5) (.v (.pick (.t 3) (.c (.bool true)) (.t 0))))]
@[go_sem] def c28r4 : List GOp := [(.op none .t (.v (.bld [(.int .i64 0), (.int .i64 0), (.int .i64 0), (.slice none 0 0), (.slice none 0 0), (.slice none 0 0)] []))),
  (.op none .no (.st 6 (.s 1) (.t 0))),
  (.op none (.s 2) (.v (.mv (.c (.bool false)))))]
def c28s5 : SCode := (.seq (.ops c28r4) .ret)
@[go_sem] theorem c28s5eq : vc P E c28s5 σ H Q = vc P E (.seq (.ops c28r4) .ret) σ H Q := rfl
def c28s6 : SCode := (.cond (.s 5) c28s5 .skip)
@[go_sem] theorem c28s6eq : vc P E c28s6 σ H Q = vc P E (.cond (.s 5) c28s5 .skip) σ H Q := rfl
@[go_sem] def c28r7 : List GOp := [(.op none .t (.ld (some 6) (.s 4))),
  (.op none .no (.st 6 (.s 1) (.t 0))),
  (.op none (.s 2) (.v (.mv (.c (.bool true)))))]
def c28s8 : SCode := (.seq (.ops c28r7) .ret)
@[go_sem] theorem c28s8eq : vc P E c28s8 σ H Q = vc P E (.seq (.ops c28r7) .ret) σ H Q := rfl
def c28s9 : SCode := (.seq (.seq (.ops c28r3) c28s6) c28s8)
@[go_sem] theorem c28s9eq : vc P E c28s9 σ H Q = vc P E (.seq (.seq (.ops c28r3) c28s6) c28s8) σ H Q := rfl
def c28s10 : SCode := (.seq (.ops c28r2) c28s9)
@[go_sem] theorem c28s10eq : vc P E c28s10 σ H Q = vc P E (.seq (.ops c28r2) c28s9) σ H Q := rfl
def c28s11 : SCode := (.seq (.ops c28r1) c28s10)
@[go_sem] theorem c28s11eq : vc P E c28s11 σ H Q = vc P E (.seq (.ops c28r1) c28s10) σ H Q := rfl
def c28 : Gx.Fn := ⟨21, c28k, (.seq (.ops c28r0) c28s11), [(.cell (.s 1) (some 6)), (.tmp (.s 2))]⟩
theorem c28ok : stripFn Try.prog c28k Try.f28 = some c28 := by kernel_rfl

/- (*lattice.checker).visit -/
@[go_sem] def c29k : List Nat := [0, 1, 2, 4, 6, 7, 8, 10, 11, 20, 31, 44, 47, 48, 49, 50, 59]
@[go_sem] def c29r0 : List GOp := [(.op none (.s 3) (.bx 26 (.s 1))),
  (.op none (.s 4) (.v (.mv (.c (.int .i64 0)))))]
@[go_sem] def c29r1 : List GOp := [(.op none .t (.v (.mv (.s 2)))),
  (.op none .t (.v (.bin .gtr (.t 0) (.c (.int .i64 6))))),
  (.op none .t (.v (.mv (.t 0)))),
  (.sel (.t 0) false [(.op (.v (.mv (.s 0)))), (.op (.v (.nc (.t 0)))), (.op (.v (.fa 0 (.t 0)))), (.op (.ld none (.t 0))), (.op (.v (.bin .geq (.t 0) (.c (.int .i64 64)))))] (.s 9) (.c (.bool true)) (.t 0))]
@[go_sem] def c29r2 : List GOp := [(.op none (.s 4) (.v (.mv (.c (.int .i64 6)))))]
def c29s3 : SCode := (.seq (.ops c29r2) .ret)
@[go_sem] theorem c29s3eq : vc P E c29s3 σ H Q = vc P E (.seq (.ops c29r2) .ret) σ H Q := rfl
def c29s4 : SCode := (.cond (.s 9) c29s3 .skip)
@[go_sem] theorem c29s4eq : vc P E c29s4 σ H Q = vc P E (.cond (.s 9) c29s3 .skip) σ H Q := rfl
@[go_sem] def c29r5 : List GOp := [(.op none .t (.v (.mv (.s 0)))),
  (.op none .t (.v (.nc (.t 0)))),
  (.op none .t (.v (.fa 0 (.t 0)))),
  (.op none .t (.ld none (.t 0))),
  (.op none .t (.v (.bin .add (.t 0) (.c (.int .i64 1))))),
  (.op none .t (.v (.nc (.t 4)))),
  (.op none .t (.v (.fa 0 (.t 0)))),
  (.op none .no (.st 1 (.t 0) (.t 2)))]
@[go_sem] def c29r6 : List GOp := [(.op none .t (.ld (some 6) (.s 3))),
  (.op none .t (.call 50 [(.t 0)])),
  (.op none (.s 5) (.v (.mv (.t 0))))]
@[go_sem] def c29r7 : List GOp := [(.op none .t (.v (.mv (.s 5)))),
  (.op none (.s 10) (.v (.bin .neq (.t 0) (.c (.int .i64 0)))))]
@[go_sem] def c29r8 : List GOp := [(.op none .t (.v (.mv (.s 5)))),
  (.op none (.s 4) (.v (.mv (.t 0))))]
def c29s9 : SCode := (.seq (.ops c29r8) .ret)
@[go_sem] theorem c29s9eq : vc P E c29s9 σ H Q = vc P E (.seq (.ops c29r8) .ret) σ H Q := rfl
def c29s10 : SCode := (.cond (.s 10) c29s9 .skip)
@[go_sem] theorem c29s10eq : vc P E c29s10 σ H Q = vc P E (.cond (.s 10) c29s9 .skip) σ H Q := rfl
def c29s11 : SCode := (.seq (.ops c29r7) c29s10)
@[go_sem] theorem c29s11eq : vc P E c29s11 σ H Q = vc P E (.seq (.ops c29r7) c29s10) σ H Q := rfl
@[go_sem] def c29d12 : DT := (.rd none .t (.ld (some 6) (.s 3)) [1, 3, 5, 7, 8, 9] (.rd none .t (.ld (some 6) (.s 3)) [3, 5, 7, 8, 9] (.rd none .t (.ld (some 6) (.s 3)) [5, 7, 8, 9] (.rd none .t (.ld (some 6) (.s 3)) [7, 8, 9] (.ef 1 none .t (.call 52 [(.t 3)]) (.ef 3 none .t (.call 53 [(.t 3)]) (.ef 5 none .t (.call 54 [(.t 3)]) (.ef 7 none .t (.call 55 [(.t 3)]) (.ef 8 none .t (.bs 28 4 [(.int .i64 0), (.int .i64 0), (.int .i64 0), (.int .i64 0)] [(0, (1, (.t 3))), (1, (1, (.t 2))), (2, (1, (.t 1))), (3, (1, (.t 0)))]) (.ef 9 none .t (.call 51 [(.t 0)]) (.rd none (.s 6) (.v (.mv (.t 0))) [] .done)))))))))))
@[go_sem] def c29r13 : List GOp := [(.op none .t (.v (.mv (.s 6)))),
  (.op none (.s 11) (.v (.bin .neq (.t 0) (.c (.int .i64 0)))))]
@[go_sem] def c29r14 : List GOp := [(.op none .t (.v (.mv (.s 6)))),
  (.op none (.s 4) (.v (.mv (.t 0))))]
def c29s15 : SCode := (.seq (.ops c29r14) .ret)
@[go_sem] theorem c29s15eq : vc P E c29s15 σ H Q = vc P E (.seq (.ops c29r14) .ret) σ H Q := rfl
def c29s16 : SCode := (.cond (.s 11) c29s15 .skip)
@[go_sem] theorem c29s16eq : vc P E c29s16 σ H Q = vc P E (.cond (.s 11) c29s15 .skip) σ H Q := rfl
def c29s17 : SCode := (.seq (.ops c29r13) c29s16)
@[go_sem] theorem c29s17eq : vc P E c29s17 σ H Q = vc P E (.seq (.ops c29r13) c29s16) σ H Q := rfl
@[go_sem] def c29r18 : List GOp := [(.op none .t (.v (.fa 4 (.s 3)))),
  (.op none (.s 12) (.ld none (.t 0))),
  (.op none (.s 13) (.v (.len (.s 12)))),
  (.op none (.s 14) (.v (.mv (.c (.int .i64 0)))))]
@[go_sem] def c29r19 : List GOp := [(.op none (.s 15) (.v (.bin .lss (.s 14) (.s 13))))]
@[go_sem] def c29r20 : List GOp := [(.op none .t (.v (.ix 6 (.s 12) (.s 14)))),
  (.op none .t (.ld (some 6) (.t 0))),
  (.op none (.s 7) (.al 26 [(.int .i64 0), (.int .i64 0), (.int .i64 0), (.slice none 0 0), (.slice none 0 0), (.slice none 0 0)])),
  (.op none .no (.st 6 (.s 7) (.t 0)))]
@[go_sem] def c29r21 : List GOp := [(.op none .t (.v (.mv (.s 0)))),
  (.op none .t (.ld (some 6) (.s 7))),
  (.op none .t (.v (.mv (.s 2)))),
  (.op none .t (.v (.bin .add (.t 0) (.c (.int .i64 1))))),
  (.op none .t (.call 29 [(.t 3), (.t 2), (.t 0)])),
  (.op none (.s 8) (.v (.mv (.t 0))))]
@[go_sem] def c29r22 : List GOp := [(.op none .t (.v (.mv (.s 8)))),
  (.op none (.s 16) (.v (.bin .neq (.t 0) (.c (.int .i64 0)))))]
@[go_sem] def c29r23 : List GOp := [(.op none .t (.v (.mv (.s 8)))),
  (.op none (.s 4) (.v (.mv (.t 0))))]
def c29s24 : SCode := (.seq (.ops c29r23) .ret)
@[go_sem] theorem c29s24eq : vc P E c29s24 σ H Q = vc P E (.seq (.ops c29r23) .ret) σ H Q := rfl
def c29s25 : SCode := (.cond (.s 16) c29s24 .skip)
@[go_sem] theorem c29s25eq : vc P E c29s25 σ H Q = vc P E (.cond (.s 16) c29s24 .skip) σ H Q := rfl
def c29s26 : SCode := (.seq (.ops c29r22) c29s25)
@[go_sem] theorem c29s26eq : vc P E c29s26 σ H Q = vc P E (.seq (.ops c29r22) c29s25) σ H Q := rfl
def c29s27 : SCode := (.seq (.ops c29r21) c29s26)
@[go_sem] theorem c29s27eq : vc P E c29s27 σ H Q = vc P E (.seq (.ops c29r21) c29s26) σ H Q := rfl
@[go_sem] def c29r28 : List GOp := [(.op none .t (.v (.bin .add (.s 14) (.c (.int .i64 1))))),
  (.op none (.s 14) (.v (.mv (.t 0))))]
def c29s29 : SCode := (.ops c29r28)
@[go_sem] theorem c29s29eq : vc P E c29s29 σ H Q = vc P E (.ops c29r28) σ H Q := rfl
def c29s30 : SCode := (.seq (.block 1 (.seq (.ops c29r20) c29s27)) c29s29)
@[go_sem] theorem c29s30eq : vc P E c29s30 σ H Q = vc P E (.seq (.block 1 (.seq (.ops c29r20) c29s27)) c29s29) σ H Q := rfl
def c29s31 : SCode := (.seq (.cond (.s 15) .skip (.exit 0)) c29s30)
@[go_sem] theorem c29s31eq : vc P E c29s31 σ H Q = vc P E (.seq (.cond (.s 15) .skip (.exit 0)) c29s30) σ H Q := rfl
def c29s32 : SCode := (.seq (.ops c29r19) c29s31)
@[go_sem] theorem c29s32eq : vc P E c29s32 σ H Q = vc P E (.seq (.ops c29r19) c29s31) σ H Q := rfl
def c29s33 : SCode := (.block 0 (.loop c29k c29s32))
@[go_sem] theorem c29s33eq : vc P E c29s33 σ H Q = vc P E (.block 0 (.loop c29k c29s32)) σ H Q := rfl
@[go_sem] def c29r34 : List GOp := [(.op none (.s 4) (.v (.mv (.c (.int .i64 0)))))]
def c29s35 : SCode := (.seq (.ops c29r34) .ret)
@[go_sem] theorem c29s35eq : vc P E c29s35 σ H Q = vc P E (.seq (.ops c29r34) .ret) σ H Q := rfl
def c29s36 : SCode := (.seq (.seq (.ops c29r18) c29s33) c29s35)
@[go_sem] theorem c29s36eq : vc P E c29s36 σ H Q = vc P E (.seq (.seq (.ops c29r18) c29s33) c29s35) σ H Q := rfl
def c29s37 : SCode := (.seq (.seq (.de c29d12) c29s17) c29s36)
@[go_sem] theorem c29s37eq : vc P E c29s37 σ H Q = vc P E (.seq (.seq (.de c29d12) c29s17) c29s36) σ H Q := rfl
def c29s38 : SCode := (.seq (.seq (.ops c29r6) c29s11) c29s37)
@[go_sem] theorem c29s38eq : vc P E c29s38 σ H Q = vc P E (.seq (.seq (.ops c29r6) c29s11) c29s37) σ H Q := rfl
def c29s39 : SCode := (.seq (.ops c29r5) c29s38)
@[go_sem] theorem c29s39eq : vc P E c29s39 σ H Q = vc P E (.seq (.ops c29r5) c29s38) σ H Q := rfl
def c29s40 : SCode := (.seq (.seq (.ops c29r1) c29s4) c29s39)
@[go_sem] theorem c29s40eq : vc P E c29s40 σ H Q = vc P E (.seq (.seq (.ops c29r1) c29s4) c29s39) σ H Q := rfl
def c29 : Gx.Fn := ⟨62, c29k, (.seq (.ops c29r0) c29s40), [(.tmp (.s 4))]⟩
theorem c29ok : stripFn Try.prog c29k Try.f29 = some c29 := by kernel_rfl

/- plexusref09.walk -/
@[go_sem] def c30k : List Nat := [0, 1, 2, 3, 6, 7, 8, 9, 10, 11, 12, 18, 27, 43]
@[go_sem] def c30r0 : List GOp := [(.op none (.s 3) (.bx 26 (.s 0))),
  (.op none (.s 4) (.v (.mv (.c (.int .i64 0))))),
  (.op none (.s 5) (.v (.mv (.c (.int .i64 0)))))]
@[go_sem] def c30r1 : List GOp := [(.op none .t (.ld (some 6) (.s 3))),
  (.op none .t (.v (.mv (.s 1)))),
  (.op none .t (.v (.mv (.s 2)))),
  (.op none .t (.call 56 [(.t 2), (.t 1), (.t 0)])),
  (.op none (.s 6) (.v (.mv (.t 0))))]
@[go_sem] def c30r2 : List GOp := [(.op none .t (.v (.mv (.s 6)))),
  (.op none (.s 11) (.v (.bin .neq (.t 0) (.c (.int .i64 0)))))]
@[go_sem] def c30r3 : List GOp := [(.op none .t (.v (.mv (.s 2)))),
  (.op none .t (.v (.mv (.s 6)))),
  (.op none (.s 4) (.v (.mv (.t 1)))),
  (.op none (.s 5) (.v (.mv (.t 0))))]
def c30s4 : SCode := (.seq (.ops c30r3) .ret)
@[go_sem] theorem c30s4eq : vc P E c30s4 σ H Q = vc P E (.seq (.ops c30r3) .ret) σ H Q := rfl
def c30s5 : SCode := (.cond (.s 11) c30s4 .skip)
@[go_sem] theorem c30s5eq : vc P E c30s5 σ H Q = vc P E (.cond (.s 11) c30s4 .skip) σ H Q := rfl
def c30s6 : SCode := (.seq (.ops c30r2) c30s5)
@[go_sem] theorem c30s6eq : vc P E c30s6 σ H Q = vc P E (.seq (.ops c30r2) c30s5) σ H Q := rfl
@[go_sem] def c30r7 : List GOp := [(.op none .t (.v (.mv (.s 2)))),
  (.op none .t (.v (.bin .add (.t 0) (.c (.int .i64 1))))),
  (.op none (.s 7) (.v (.mv (.t 0))))]
@[go_sem] def c30r8 : List GOp := [(.op none (.s 8) (.v (.mv (.c (.int .i64 0)))))]
@[go_sem] def c30r9 : List GOp := [(.op none .t (.v (.mv (.s 8)))),
  (.op none .t (.v (.fa 4 (.s 3)))),
  (.op none .t (.ld none (.t 0))),
  (.op none .t (.v (.len (.t 0)))),
  (.op none (.s 12) (.v (.bin .lss (.t 3) (.t 0))))]
def c30s10 : SCode := (.cond (.s 12) .skip (.exit 0))
@[go_sem] theorem c30s10eq : vc P E c30s10 σ H Q = vc P E (.cond (.s 12) .skip (.exit 0)) σ H Q := rfl
@[go_sem] def c30r11 : List GOp := [(.op none .t (.v (.fa 4 (.s 3)))),
  (.op none .t (.ld none (.t 0))),
  (.op none .t (.v (.mv (.s 8)))),
  (.op none .t (.v (.ix 6 (.t 1) (.t 0)))),
  (.op none .t (.ld (some 6) (.t 0))),
  (.op none .t (.v (.mv (.s 1)))),
  (.op none .t (.v (.bin .add (.t 0) (.c (.int .i64 1))))),
  (.op none .t (.v (.mv (.s 7)))),
  (.op none .t (.call 30 [(.t 3), (.t 1), (.t 0)])),
  (.op none .t (.v (.mv (.t 0)))),
  (.op none .t (.v (.ext (.t 0) 0))),
  (.op none .t (.v (.ext (.t 1) 1))),
  (.op none (.s 9) (.v (.mv (.t 1)))),
  (.op none (.s 10) (.v (.mv (.t 0))))]
@[go_sem] def c30r12 : List GOp := [(.op none .t (.v (.mv (.s 10)))),
  (.op none (.s 13) (.v (.bin .neq (.t 0) (.c (.int .i64 0)))))]
@[go_sem] def c30r13 : List GOp := [(.op none .t (.v (.mv (.s 7)))),
  (.op none .t (.v (.mv (.s 10)))),
  (.op none (.s 4) (.v (.mv (.t 1)))),
  (.op none (.s 5) (.v (.mv (.t 0))))]
def c30s14 : SCode := (.seq (.ops c30r13) .ret)
@[go_sem] theorem c30s14eq : vc P E c30s14 σ H Q = vc P E (.seq (.ops c30r13) .ret) σ H Q := rfl
def c30s15 : SCode := (.cond (.s 13) c30s14 .skip)
@[go_sem] theorem c30s15eq : vc P E c30s15 σ H Q = vc P E (.cond (.s 13) c30s14 .skip) σ H Q := rfl
@[go_sem] def c30r16 : List GOp := [(.op none .t (.v (.mv (.s 9)))),
  (.op none (.s 7) (.v (.mv (.t 0))))]
def c30s17 : SCode := (.ops c30r16)
@[go_sem] theorem c30s17eq : vc P E c30s17 σ H Q = vc P E (.ops c30r16) σ H Q := rfl
def c30s18 : SCode := (.seq (.seq (.ops c30r12) c30s15) c30s17)
@[go_sem] theorem c30s18eq : vc P E c30s18 σ H Q = vc P E (.seq (.seq (.ops c30r12) c30s15) c30s17) σ H Q := rfl
@[go_sem] def c30r19 : List GOp := [(.op none .t (.v (.mv (.s 8)))),
  (.op none .t (.v (.bin .add (.t 0) (.c (.int .i64 1))))),
  (.op none (.s 8) (.v (.mv (.t 0))))]
def c30s20 : SCode := (.ops c30r19)
@[go_sem] theorem c30s20eq : vc P E c30s20 σ H Q = vc P E (.ops c30r19) σ H Q := rfl
def c30s21 : SCode := (.seq (.block 1 (.seq (.ops c30r11) c30s18)) c30s20)
@[go_sem] theorem c30s21eq : vc P E c30s21 σ H Q = vc P E (.seq (.block 1 (.seq (.ops c30r11) c30s18)) c30s20) σ H Q := rfl
def c30s22 : SCode := (.seq (.seq (.ops c30r9) c30s10) c30s21)
@[go_sem] theorem c30s22eq : vc P E c30s22 σ H Q = vc P E (.seq (.seq (.ops c30r9) c30s10) c30s21) σ H Q := rfl
def c30s23 : SCode := (.block 0 (.loop c30k c30s22))
@[go_sem] theorem c30s23eq : vc P E c30s23 σ H Q = vc P E (.block 0 (.loop c30k c30s22)) σ H Q := rfl
@[go_sem] def c30r24 : List GOp := [(.op none .t (.v (.mv (.s 7)))),
  (.op none (.s 4) (.v (.mv (.t 0)))),
  (.op none (.s 5) (.v (.mv (.c (.int .i64 0)))))]
def c30s25 : SCode := (.seq (.ops c30r24) .ret)
@[go_sem] theorem c30s25eq : vc P E c30s25 σ H Q = vc P E (.seq (.ops c30r24) .ret) σ H Q := rfl
def c30s26 : SCode := (.seq (.seq (.ops c30r8) c30s23) c30s25)
@[go_sem] theorem c30s26eq : vc P E c30s26 σ H Q = vc P E (.seq (.seq (.ops c30r8) c30s23) c30s25) σ H Q := rfl
def c30s27 : SCode := (.seq (.ops c30r7) c30s26)
@[go_sem] theorem c30s27eq : vc P E c30s27 σ H Q = vc P E (.seq (.ops c30r7) c30s26) σ H Q := rfl
def c30s28 : SCode := (.seq (.seq (.ops c30r1) c30s6) c30s27)
@[go_sem] theorem c30s28eq : vc P E c30s28 σ H Q = vc P E (.seq (.seq (.ops c30r1) c30s6) c30s27) σ H Q := rfl
def c30 : Gx.Fn := ⟨48, c30k, (.seq (.ops c30r0) c30s28), [(.tmp (.s 4)), (.tmp (.s 5))]⟩
theorem c30ok : stripFn Try.prog c30k Try.f30 = some c30 := by kernel_rfl

/- slices.Equal[[]string,string] -/
@[go_sem] def c31k : List Nat := [0, 1, 4, 5, 10, 12, 13, 14, 24]
@[go_sem] def c31r0 : List GOp := [(.op none (.s 2) (.v (.mv (.c (.bool false)))))]
@[go_sem] def c31r1 : List GOp := [(.op none .t (.v (.mv (.s 0)))),
  (.op none .t (.v (.len (.t 0)))),
  (.op none .t (.v (.mv (.s 1)))),
  (.op none .t (.v (.len (.t 0)))),
  (.op none (.s 4) (.v (.bin .neq (.t 2) (.t 0))))]
@[go_sem] def c31r2 : List GOp := [(.op none (.s 2) (.v (.mv (.c (.bool false)))))]
def c31s3 : SCode := (.seq (.ops c31r2) .ret)
@[go_sem] theorem c31s3eq : vc P E c31s3 σ H Q = vc P E (.seq (.ops c31r2) .ret) σ H Q := rfl
def c31s4 : SCode := (.cond (.s 4) c31s3 .skip)
@[go_sem] theorem c31s4eq : vc P E c31s4 σ H Q = vc P E (.cond (.s 4) c31s3 .skip) σ H Q := rfl
@[go_sem] def c31r5 : List GOp := [(.op none .t (.v (.mv (.s 0)))),
  (.op none (.s 5) (.v (.len (.t 0)))),
  (.op none (.s 6) (.v (.mv (.c (.int .i64 0)))))]
@[go_sem] def c31r6 : List GOp := [(.op none (.s 7) (.v (.bin .lss (.s 6) (.s 5))))]
@[go_sem] def c31r7 : List GOp := [(.op none .t (.v (.mv (.s 6)))),
  (.op none (.s 3) (.v (.mv (.t 0))))]
@[go_sem] def c31r8 : List GOp := [(.op none .t (.v (.mv (.s 0)))),
  (.op none .t (.v (.mv (.s 3)))),
  (.op none .t (.v (.ix 1 (.t 1) (.t 0)))),
  (.op none .t (.ld none (.t 0))),
  (.op none .t (.v (.mv (.s 1)))),
  (.op none .t (.v (.mv (.s 3)))),
  (.op none .t (.v (.ix 1 (.t 1) (.t 0)))),
  (.op none .t (.ld none (.t 0))),
  (.op none (.s 8) (.v (.bin .neq (.t 4) (.t 0))))]
@[go_sem] def c31r9 : List GOp := [(.op none (.s 2) (.v (.mv (.c (.bool false)))))]
def c31s10 : SCode := (.seq (.ops c31r9) .ret)
@[go_sem] theorem c31s10eq : vc P E c31s10 σ H Q = vc P E (.seq (.ops c31r9) .ret) σ H Q := rfl
def c31s11 : SCode := (.cond (.s 8) c31s10 .skip)
@[go_sem] theorem c31s11eq : vc P E c31s11 σ H Q = vc P E (.cond (.s 8) c31s10 .skip) σ H Q := rfl
def c31s12 : SCode := (.seq (.dq c31r8) c31s11)
@[go_sem] theorem c31s12eq : vc P E c31s12 σ H Q = vc P E (.seq (.dq c31r8) c31s11) σ H Q := rfl
@[go_sem] def c31r13 : List GOp := [(.op none .t (.v (.bin .add (.s 6) (.c (.int .i64 1))))),
  (.op none (.s 6) (.v (.mv (.t 0))))]
def c31s14 : SCode := (.ops c31r13)
@[go_sem] theorem c31s14eq : vc P E c31s14 σ H Q = vc P E (.ops c31r13) σ H Q := rfl
def c31s15 : SCode := (.seq (.block 1 (.seq (.ops c31r7) c31s12)) c31s14)
@[go_sem] theorem c31s15eq : vc P E c31s15 σ H Q = vc P E (.seq (.block 1 (.seq (.ops c31r7) c31s12)) c31s14) σ H Q := rfl
def c31s16 : SCode := (.seq (.cond (.s 7) .skip (.exit 0)) c31s15)
@[go_sem] theorem c31s16eq : vc P E c31s16 σ H Q = vc P E (.seq (.cond (.s 7) .skip (.exit 0)) c31s15) σ H Q := rfl
def c31s17 : SCode := (.seq (.ops c31r6) c31s16)
@[go_sem] theorem c31s17eq : vc P E c31s17 σ H Q = vc P E (.seq (.ops c31r6) c31s16) σ H Q := rfl
def c31s18 : SCode := (.block 0 (.loop c31k c31s17))
@[go_sem] theorem c31s18eq : vc P E c31s18 σ H Q = vc P E (.block 0 (.loop c31k c31s17)) σ H Q := rfl
@[go_sem] def c31r19 : List GOp := [(.op none (.s 2) (.v (.mv (.c (.bool true)))))]
def c31s20 : SCode := (.seq (.ops c31r19) .ret)
@[go_sem] theorem c31s20eq : vc P E c31s20 σ H Q = vc P E (.seq (.ops c31r19) .ret) σ H Q := rfl
def c31s21 : SCode := (.seq (.seq (.ops c31r5) c31s18) c31s20)
@[go_sem] theorem c31s21eq : vc P E c31s21 σ H Q = vc P E (.seq (.seq (.ops c31r5) c31s18) c31s20) σ H Q := rfl
def c31s22 : SCode := (.seq (.seq (.ops c31r1) c31s4) c31s21)
@[go_sem] theorem c31s22eq : vc P E c31s22 σ H Q = vc P E (.seq (.seq (.ops c31r1) c31s4) c31s21) σ H Q := rfl
def c31 : Gx.Fn := ⟨26, c31k, (.seq (.ops c31r0) c31s22), [(.tmp (.s 2))]⟩
theorem c31ok : stripFn Try.prog c31k Try.f31 = some c31 := by kernel_rfl

/- slices.EqualFunc[[]api.Rule,[]api.Rule,api.Rule,api.Rule] -/
@[go_sem] def c32k : List Nat := [0, 1, 2, 6, 7, 8, 9, 14, 15, 16, 17, 18, 30]
@[go_sem] def c32r0 : List GOp := [(.op none (.s 3) (.v (.mv (.c (.bool false)))))]
@[go_sem] def c32r1 : List GOp := [(.op none .t (.v (.mv (.s 0)))),
  (.op none .t (.v (.len (.t 0)))),
  (.op none .t (.v (.mv (.s 1)))),
  (.op none .t (.v (.len (.t 0)))),
  (.op none (.s 7) (.v (.bin .neq (.t 2) (.t 0))))]
@[go_sem] def c32r2 : List GOp := [(.op none (.s 3) (.v (.mv (.c (.bool false)))))]
def c32s3 : SCode := (.seq (.ops c32r2) .ret)
@[go_sem] theorem c32s3eq : vc P E c32s3 σ H Q = vc P E (.seq (.ops c32r2) .ret) σ H Q := rfl
def c32s4 : SCode := (.cond (.s 7) c32s3 .skip)
@[go_sem] theorem c32s4eq : vc P E c32s4 σ H Q = vc P E (.cond (.s 7) c32s3 .skip) σ H Q := rfl
@[go_sem] def c32r5 : List GOp := [(.op none (.s 8) (.v (.mv (.s 0)))),
  (.op none (.s 9) (.v (.len (.s 8)))),
  (.op none (.s 10) (.v (.mv (.c (.int .i64 0)))))]
@[go_sem] def c32r6 : List GOp := [(.op none (.s 11) (.v (.bin .lss (.s 10) (.s 9))))]
@[go_sem] def c32r7 : List GOp := [(.op none .t (.v (.mv (.s 10)))),
  (.op none .t (.v (.ix 2 (.s 8) (.s 10)))),
  (.op none .t (.ld (some 2) (.t 0))),
  (.op none (.s 5) (.al 50 [(.slice none 0 0), (.string ⟨⟨[]⟩⟩)])),
  (.op none (.s 4) (.v (.mv (.t 2)))),
  (.op none .no (.st 2 (.s 5) (.t 0)))]
@[go_sem] def c32r8 : List GOp := [(.op none .t (.v (.mv (.s 1)))),
  (.op none .t (.v (.mv (.s 4)))),
  (.op none .t (.v (.ix 2 (.t 1) (.t 0)))),
  (.op none .t (.ld (some 2) (.t 0))),
  (.op none (.s 6) (.al 50 [(.slice none 0 0), (.string ⟨⟨[]⟩⟩)])),
  (.op none .no (.st 2 (.s 6) (.t 0)))]
@[go_sem] def c32r9 : List GOp := [(.op none .t (.v (.mv (.s 2)))),
  (.op none .t (.ld (some 2) (.s 5))),
  (.op none .t (.ld (some 2) (.s 6))),
  (.op none .t (.cv (.t 2) [(.t 1), (.t 0)])),
  (.op none (.s 12) (.v (.un .not (.t 0))))]
@[go_sem] def c32r10 : List GOp := [(.op none (.s 3) (.v (.mv (.c (.bool false)))))]
def c32s11 : SCode := (.seq (.ops c32r10) .ret)
@[go_sem] theorem c32s11eq : vc P E c32s11 σ H Q = vc P E (.seq (.ops c32r10) .ret) σ H Q := rfl
def c32s12 : SCode := (.cond (.s 12) c32s11 .skip)
@[go_sem] theorem c32s12eq : vc P E c32s12 σ H Q = vc P E (.cond (.s 12) c32s11 .skip) σ H Q := rfl
def c32s13 : SCode := (.seq (.ops c32r9) c32s12)
@[go_sem] theorem c32s13eq : vc P E c32s13 σ H Q = vc P E (.seq (.ops c32r9) c32s12) σ H Q := rfl
def c32s14 : SCode := (.seq (.ops c32r8) c32s13)
@[go_sem] theorem c32s14eq : vc P E c32s14 σ H Q = vc P E (.seq (.ops c32r8) c32s13) σ H Q := rfl
@[go_sem] def c32r15 : List GOp := [(.op none .t (.v (.bin .add (.s 10) (.c (.int .i64 1))))),
  (.op none (.s 10) (.v (.mv (.t 0))))]
def c32s16 : SCode := (.ops c32r15)
@[go_sem] theorem c32s16eq : vc P E c32s16 σ H Q = vc P E (.ops c32r15) σ H Q := rfl
def c32s17 : SCode := (.seq (.block 1 (.seq (.ops c32r7) c32s14)) c32s16)
@[go_sem] theorem c32s17eq : vc P E c32s17 σ H Q = vc P E (.seq (.block 1 (.seq (.ops c32r7) c32s14)) c32s16) σ H Q := rfl
def c32s18 : SCode := (.seq (.cond (.s 11) .skip (.exit 0)) c32s17)
@[go_sem] theorem c32s18eq : vc P E c32s18 σ H Q = vc P E (.seq (.cond (.s 11) .skip (.exit 0)) c32s17) σ H Q := rfl
def c32s19 : SCode := (.seq (.ops c32r6) c32s18)
@[go_sem] theorem c32s19eq : vc P E c32s19 σ H Q = vc P E (.seq (.ops c32r6) c32s18) σ H Q := rfl
def c32s20 : SCode := (.block 0 (.loop c32k c32s19))
@[go_sem] theorem c32s20eq : vc P E c32s20 σ H Q = vc P E (.block 0 (.loop c32k c32s19)) σ H Q := rfl
@[go_sem] def c32r21 : List GOp := [(.op none (.s 3) (.v (.mv (.c (.bool true)))))]
def c32s22 : SCode := (.seq (.ops c32r21) .ret)
@[go_sem] theorem c32s22eq : vc P E c32s22 σ H Q = vc P E (.seq (.ops c32r21) .ret) σ H Q := rfl
def c32s23 : SCode := (.seq (.seq (.ops c32r5) c32s20) c32s22)
@[go_sem] theorem c32s23eq : vc P E c32s23 σ H Q = vc P E (.seq (.seq (.ops c32r5) c32s20) c32s22) σ H Q := rfl
def c32s24 : SCode := (.seq (.seq (.ops c32r1) c32s4) c32s23)
@[go_sem] theorem c32s24eq : vc P E c32s24 σ H Q = vc P E (.seq (.seq (.ops c32r1) c32s4) c32s23) σ H Q := rfl
def c32 : Gx.Fn := ⟨32, c32k, (.seq (.ops c32r0) c32s24), [(.tmp (.s 3))]⟩
theorem c32ok : stripFn Try.prog c32k Try.f32 = some c32 := by kernel_rfl

/- lattice.sameRule -/
@[go_sem] def c33k : List Nat := [0, 1, 2, 3, 4]
@[go_sem] def c33r0 : List GOp := [(.op none (.s 2) (.bx 50 (.s 0))),
  (.op none (.s 3) (.bx 50 (.s 1))),
  (.op none (.s 4) (.v (.mv (.c (.bool false)))))]
@[go_sem] def c33r1 : List GOp := [(.op none .t (.v (.fa 1 (.s 2)))),
  (.op none .t (.ld none (.t 0))),
  (.op none .t (.v (.fa 1 (.s 3)))),
  (.op none .t (.ld none (.t 0))),
  (.op none .t (.v (.bin .eql (.t 2) (.t 0)))),
  (.op none .t (.v (.mv (.t 0)))),
  (.op (some ((.t 0), (true, true))) .t (.v (.fa 0 (.s 2)))),
  (.op (some ((.t 1), (true, false))) .t (.ld none (.t 0))),
  (.op (some ((.t 2), (true, false))) .t (.v (.fa 0 (.s 3)))),
  (.op (some ((.t 3), (true, false))) .t (.ld none (.t 0))),
  (.op (some ((.t 4), (true, false))) .t (.call 31 [(.t 2), (.t 0)])),
  (.op none .t (.v (.pick (.t 5) (.t 0) (.c (.bool false))))),
  (.op none (.s 4) (.v (.mv (.t 0))))]
def c33s2 : SCode := (.seq (.ops c33r1) .ret)
@[go_sem] theorem c33s2eq : vc P E c33s2 σ H Q = vc P E (.seq (.ops c33r1) .ret) σ H Q := rfl
def c33 : Gx.Fn := ⟨17, c33k, (.seq (.ops c33r0) c33s2), [(.tmp (.s 4))]⟩
theorem c33ok : stripFn Try.prog c33k Try.f33 = some c33 := by kernel_rfl

/- slices.EqualFunc[[]api.Lattice,[]api.Lattice,api.Lattice,api.Lattice] -/
@[go_sem] def c34k : List Nat := [0, 1, 2, 6, 7, 8, 9, 14, 15, 16, 17, 18, 30]
@[go_sem] def c34r0 : List GOp := [(.op none (.s 3) (.v (.mv (.c (.bool false)))))]
@[go_sem] def c34r1 : List GOp := [(.op none .t (.v (.mv (.s 0)))),
  (.op none .t (.v (.len (.t 0)))),
  (.op none .t (.v (.mv (.s 1)))),
  (.op none .t (.v (.len (.t 0)))),
  (.op none (.s 7) (.v (.bin .neq (.t 2) (.t 0))))]
@[go_sem] def c34r2 : List GOp := [(.op none (.s 3) (.v (.mv (.c (.bool false)))))]
def c34s3 : SCode := (.seq (.ops c34r2) .ret)
@[go_sem] theorem c34s3eq : vc P E c34s3 σ H Q = vc P E (.seq (.ops c34r2) .ret) σ H Q := rfl
def c34s4 : SCode := (.cond (.s 7) c34s3 .skip)
@[go_sem] theorem c34s4eq : vc P E c34s4 σ H Q = vc P E (.cond (.s 7) c34s3 .skip) σ H Q := rfl
@[go_sem] def c34r5 : List GOp := [(.op none (.s 8) (.v (.mv (.s 0)))),
  (.op none (.s 9) (.v (.len (.s 8)))),
  (.op none (.s 10) (.v (.mv (.c (.int .i64 0)))))]
@[go_sem] def c34r6 : List GOp := [(.op none (.s 11) (.v (.bin .lss (.s 10) (.s 9))))]
@[go_sem] def c34r7 : List GOp := [(.op none .t (.v (.mv (.s 10)))),
  (.op none .t (.v (.ix 6 (.s 8) (.s 10)))),
  (.op none .t (.ld (some 6) (.t 0))),
  (.op none (.s 5) (.al 26 [(.int .i64 0), (.int .i64 0), (.int .i64 0), (.slice none 0 0), (.slice none 0 0), (.slice none 0 0)])),
  (.op none (.s 4) (.v (.mv (.t 2)))),
  (.op none .no (.st 6 (.s 5) (.t 0)))]
@[go_sem] def c34r8 : List GOp := [(.op none .t (.v (.mv (.s 1)))),
  (.op none .t (.v (.mv (.s 4)))),
  (.op none .t (.v (.ix 6 (.t 1) (.t 0)))),
  (.op none .t (.ld (some 6) (.t 0))),
  (.op none (.s 6) (.al 26 [(.int .i64 0), (.int .i64 0), (.int .i64 0), (.slice none 0 0), (.slice none 0 0), (.slice none 0 0)])),
  (.op none .no (.st 6 (.s 6) (.t 0)))]
@[go_sem] def c34r9 : List GOp := [(.op none .t (.v (.mv (.s 2)))),
  (.op none .t (.ld (some 6) (.s 5))),
  (.op none .t (.ld (some 6) (.s 6))),
  (.op none .t (.cv (.t 2) [(.t 1), (.t 0)])),
  (.op none (.s 12) (.v (.un .not (.t 0))))]
@[go_sem] def c34r10 : List GOp := [(.op none (.s 3) (.v (.mv (.c (.bool false)))))]
def c34s11 : SCode := (.seq (.ops c34r10) .ret)
@[go_sem] theorem c34s11eq : vc P E c34s11 σ H Q = vc P E (.seq (.ops c34r10) .ret) σ H Q := rfl
def c34s12 : SCode := (.cond (.s 12) c34s11 .skip)
@[go_sem] theorem c34s12eq : vc P E c34s12 σ H Q = vc P E (.cond (.s 12) c34s11 .skip) σ H Q := rfl
def c34s13 : SCode := (.seq (.ops c34r9) c34s12)
@[go_sem] theorem c34s13eq : vc P E c34s13 σ H Q = vc P E (.seq (.ops c34r9) c34s12) σ H Q := rfl
def c34s14 : SCode := (.seq (.ops c34r8) c34s13)
@[go_sem] theorem c34s14eq : vc P E c34s14 σ H Q = vc P E (.seq (.ops c34r8) c34s13) σ H Q := rfl
@[go_sem] def c34r15 : List GOp := [(.op none .t (.v (.bin .add (.s 10) (.c (.int .i64 1))))),
  (.op none (.s 10) (.v (.mv (.t 0))))]
def c34s16 : SCode := (.ops c34r15)
@[go_sem] theorem c34s16eq : vc P E c34s16 σ H Q = vc P E (.ops c34r15) σ H Q := rfl
def c34s17 : SCode := (.seq (.block 1 (.seq (.ops c34r7) c34s14)) c34s16)
@[go_sem] theorem c34s17eq : vc P E c34s17 σ H Q = vc P E (.seq (.block 1 (.seq (.ops c34r7) c34s14)) c34s16) σ H Q := rfl
def c34s18 : SCode := (.seq (.cond (.s 11) .skip (.exit 0)) c34s17)
@[go_sem] theorem c34s18eq : vc P E c34s18 σ H Q = vc P E (.seq (.cond (.s 11) .skip (.exit 0)) c34s17) σ H Q := rfl
def c34s19 : SCode := (.seq (.ops c34r6) c34s18)
@[go_sem] theorem c34s19eq : vc P E c34s19 σ H Q = vc P E (.seq (.ops c34r6) c34s18) σ H Q := rfl
def c34s20 : SCode := (.block 0 (.loop c34k c34s19))
@[go_sem] theorem c34s20eq : vc P E c34s20 σ H Q = vc P E (.block 0 (.loop c34k c34s19)) σ H Q := rfl
@[go_sem] def c34r21 : List GOp := [(.op none (.s 3) (.v (.mv (.c (.bool true)))))]
def c34s22 : SCode := (.seq (.ops c34r21) .ret)
@[go_sem] theorem c34s22eq : vc P E c34s22 σ H Q = vc P E (.seq (.ops c34r21) .ret) σ H Q := rfl
def c34s23 : SCode := (.seq (.seq (.ops c34r5) c34s20) c34s22)
@[go_sem] theorem c34s23eq : vc P E c34s23 σ H Q = vc P E (.seq (.seq (.ops c34r5) c34s20) c34s22) σ H Q := rfl
def c34s24 : SCode := (.seq (.seq (.ops c34r1) c34s4) c34s23)
@[go_sem] theorem c34s24eq : vc P E c34s24 σ H Q = vc P E (.seq (.seq (.ops c34r1) c34s4) c34s23) σ H Q := rfl
def c34 : Gx.Fn := ⟨32, c34k, (.seq (.ops c34r0) c34s24), [(.tmp (.s 3))]⟩
theorem c34ok : stripFn Try.prog c34k Try.f34 = some c34 := by kernel_rfl

/- plexusref09.names -/
@[go_sem] def c35k : List Nat := [0, 1, 4, 5, 10, 14, 25]
@[go_sem] def c35r0 : List GOp := [(.op none (.s 2) (.v (.mv (.c (.bool false)))))]
@[go_sem] def c35r1 : List GOp := [(.op none .t (.v (.mv (.s 0)))),
  (.op none .t (.v (.len (.t 0)))),
  (.op none .t (.v (.mv (.s 1)))),
  (.op none .t (.v (.len (.t 0)))),
  (.op none (.s 4) (.v (.bin .neq (.t 2) (.t 0))))]
@[go_sem] def c35r2 : List GOp := [(.op none (.s 2) (.v (.mv (.c (.bool false)))))]
def c35s3 : SCode := (.seq (.ops c35r2) .ret)
@[go_sem] theorem c35s3eq : vc P E c35s3 σ H Q = vc P E (.seq (.ops c35r2) .ret) σ H Q := rfl
def c35s4 : SCode := (.cond (.s 4) c35s3 .skip)
@[go_sem] theorem c35s4eq : vc P E c35s4 σ H Q = vc P E (.cond (.s 4) c35s3 .skip) σ H Q := rfl
@[go_sem] def c35r5 : List GOp := [(.op none (.s 3) (.v (.mv (.c (.int .i64 0)))))]
@[go_sem] def c35r6 : List GOp := [(.op none .t (.v (.mv (.s 3)))),
  (.op none .t (.v (.mv (.s 0)))),
  (.op none .t (.v (.len (.t 0)))),
  (.op none (.s 5) (.v (.bin .lss (.t 2) (.t 0))))]
def c35s7 : SCode := (.cond (.s 5) .skip (.exit 0))
@[go_sem] theorem c35s7eq : vc P E c35s7 σ H Q = vc P E (.cond (.s 5) .skip (.exit 0)) σ H Q := rfl
@[go_sem] def c35r8 : List GOp := [(.op none .t (.v (.mv (.s 0)))),
  (.op none .t (.v (.mv (.s 3)))),
  (.op none .t (.v (.ix 1 (.t 1) (.t 0)))),
  (.op none .t (.ld none (.t 0))),
  (.op none .t (.v (.mv (.s 1)))),
  (.op none .t (.v (.mv (.s 3)))),
  (.op none .t (.v (.ix 1 (.t 1) (.t 0)))),
  (.op none .t (.ld none (.t 0))),
  (.op none (.s 6) (.v (.bin .neq (.t 4) (.t 0))))]
@[go_sem] def c35r9 : List GOp := [(.op none (.s 2) (.v (.mv (.c (.bool false)))))]
def c35s10 : SCode := (.seq (.ops c35r9) .ret)
@[go_sem] theorem c35s10eq : vc P E c35s10 σ H Q = vc P E (.seq (.ops c35r9) .ret) σ H Q := rfl
def c35s11 : SCode := (.cond (.s 6) c35s10 .skip)
@[go_sem] theorem c35s11eq : vc P E c35s11 σ H Q = vc P E (.cond (.s 6) c35s10 .skip) σ H Q := rfl
@[go_sem] def c35r12 : List GOp := [(.op none .t (.v (.mv (.s 3)))),
  (.op none .t (.v (.bin .add (.t 0) (.c (.int .i64 1))))),
  (.op none (.s 3) (.v (.mv (.t 0))))]
def c35s13 : SCode := (.ops c35r12)
@[go_sem] theorem c35s13eq : vc P E c35s13 σ H Q = vc P E (.ops c35r12) σ H Q := rfl
def c35s14 : SCode := (.seq (.block 1 (.seq (.dq c35r8) c35s11)) c35s13)
@[go_sem] theorem c35s14eq : vc P E c35s14 σ H Q = vc P E (.seq (.block 1 (.seq (.dq c35r8) c35s11)) c35s13) σ H Q := rfl
def c35s15 : SCode := (.seq (.seq (.ops c35r6) c35s7) c35s14)
@[go_sem] theorem c35s15eq : vc P E c35s15 σ H Q = vc P E (.seq (.seq (.ops c35r6) c35s7) c35s14) σ H Q := rfl
def c35s16 : SCode := (.block 0 (.loop c35k c35s15))
@[go_sem] theorem c35s16eq : vc P E c35s16 σ H Q = vc P E (.block 0 (.loop c35k c35s15)) σ H Q := rfl
@[go_sem] def c35r17 : List GOp := [(.op none (.s 2) (.v (.mv (.c (.bool true)))))]
def c35s18 : SCode := (.seq (.ops c35r17) .ret)
@[go_sem] theorem c35s18eq : vc P E c35s18 σ H Q = vc P E (.seq (.ops c35r17) .ret) σ H Q := rfl
def c35s19 : SCode := (.seq (.seq (.ops c35r5) c35s16) c35s18)
@[go_sem] theorem c35s19eq : vc P E c35s19 σ H Q = vc P E (.seq (.seq (.ops c35r5) c35s16) c35s18) σ H Q := rfl
def c35s20 : SCode := (.seq (.seq (.ops c35r1) c35s4) c35s19)
@[go_sem] theorem c35s20eq : vc P E c35s20 σ H Q = vc P E (.seq (.seq (.ops c35r1) c35s4) c35s19) σ H Q := rfl
def c35 : Gx.Fn := ⟨26, c35k, (.seq (.ops c35r0) c35s20), [(.tmp (.s 2))]⟩
theorem c35ok : stripFn Try.prog c35k Try.f35 = some c35 := by kernel_rfl

/- slices.ContainsFunc[[]api.Lattice,api.Lattice] -/
@[go_sem] def c36k : List Nat := [0, 1, 4]
@[go_sem] def c36r0 : List GOp := [(.op none (.s 2) (.v (.mv (.c (.bool false)))))]
@[go_sem] def c36r1 : List GOp := [(.op none .t (.v (.mv (.s 0)))),
  (.op none .t (.v (.mv (.s 1)))),
  (.op none .t (.call 57 [(.t 1), (.t 0)])),
  (.op none .t (.v (.bin .geq (.t 0) (.c (.int .i64 0))))),
  (.op none (.s 2) (.v (.mv (.t 0))))]
def c36s2 : SCode := (.seq (.ops c36r1) .ret)
@[go_sem] theorem c36s2eq : vc P E c36s2 σ H Q = vc P E (.seq (.ops c36r1) .ret) σ H Q := rfl
def c36 : Gx.Fn := ⟨9, c36k, (.seq (.ops c36r0) c36s2), [(.tmp (.s 2))]⟩
theorem c36ok : stripFn Try.prog c36k Try.f36 = some c36 := by kernel_rfl

/- lattice.Distributive$1 -/
@[go_sem] def c37k : List Nat := [0, 1, 2]
@[go_sem] def c37r0 : List GOp := [(.op none (.s 1) (.bx 26 (.s 0))),
  (.op none (.s 2) (.v (.mv (.c (.bool false)))))]
@[go_sem] def c37r1 : List GOp := [(.op none .t (.ld (some 6) (.s 1))),
  (.op none .t (.call 20 [(.t 0)])),
  (.op none .t (.v (.un .not (.t 0)))),
  (.op none (.s 2) (.v (.mv (.t 0))))]
def c37s2 : SCode := (.seq (.ops c37r1) .ret)
@[go_sem] theorem c37s2eq : vc P E c37s2 σ H Q = vc P E (.seq (.ops c37r1) .ret) σ H Q := rfl
def c37 : Gx.Fn := ⟨6, c37k, (.seq (.ops c37r0) c37s2), [(.tmp (.s 2))]⟩
theorem c37ok : stripFn Try.prog c37k Try.f37 = some c37 := by kernel_rfl

/- slices.Index[[]string,string] -/
@[go_sem] def c38k : List Nat := [0, 1, 4, 5, 7, 8, 9, 16]
@[go_sem] def c38r0 : List GOp := [(.op none (.s 2) (.v (.mv (.c (.int .i64 0)))))]
@[go_sem] def c38r1 : List GOp := [(.op none .t (.v (.mv (.s 0)))),
  (.op none (.s 4) (.v (.len (.t 0)))),
  (.op none (.s 5) (.v (.mv (.c (.int .i64 0)))))]
@[go_sem] def c38r2 : List GOp := [(.op none (.s 6) (.v (.bin .lss (.s 5) (.s 4))))]
@[go_sem] def c38r3 : List GOp := [(.op none .t (.v (.mv (.s 5)))),
  (.op none (.s 3) (.v (.mv (.t 0))))]
@[go_sem] def c38r4 : List GOp := [(.op none .t (.v (.mv (.s 1)))),
  (.op none .t (.v (.mv (.s 0)))),
  (.op none .t (.v (.mv (.s 3)))),
  (.op none .t (.v (.ix 1 (.t 1) (.t 0)))),
  (.op none .t (.ld none (.t 0))),
  (.op none (.s 7) (.v (.bin .eql (.t 4) (.t 0))))]
@[go_sem] def c38r5 : List GOp := [(.op none .t (.v (.mv (.s 3)))),
  (.op none (.s 2) (.v (.mv (.t 0))))]
def c38s6 : SCode := (.seq (.ops c38r5) .ret)
@[go_sem] theorem c38s6eq : vc P E c38s6 σ H Q = vc P E (.seq (.ops c38r5) .ret) σ H Q := rfl
def c38s7 : SCode := (.cond (.s 7) c38s6 .skip)
@[go_sem] theorem c38s7eq : vc P E c38s7 σ H Q = vc P E (.cond (.s 7) c38s6 .skip) σ H Q := rfl
def c38s8 : SCode := (.seq (.ops c38r4) c38s7)
@[go_sem] theorem c38s8eq : vc P E c38s8 σ H Q = vc P E (.seq (.ops c38r4) c38s7) σ H Q := rfl
@[go_sem] def c38r9 : List GOp := [(.op none .t (.v (.bin .add (.s 5) (.c (.int .i64 1))))),
  (.op none (.s 5) (.v (.mv (.t 0))))]
def c38s10 : SCode := (.ops c38r9)
@[go_sem] theorem c38s10eq : vc P E c38s10 σ H Q = vc P E (.ops c38r9) σ H Q := rfl
def c38s11 : SCode := (.seq (.block 1 (.seq (.ops c38r3) c38s8)) c38s10)
@[go_sem] theorem c38s11eq : vc P E c38s11 σ H Q = vc P E (.seq (.block 1 (.seq (.ops c38r3) c38s8)) c38s10) σ H Q := rfl
def c38s12 : SCode := (.seq (.cond (.s 6) .skip (.exit 0)) c38s11)
@[go_sem] theorem c38s12eq : vc P E c38s12 σ H Q = vc P E (.seq (.cond (.s 6) .skip (.exit 0)) c38s11) σ H Q := rfl
def c38s13 : SCode := (.seq (.ops c38r2) c38s12)
@[go_sem] theorem c38s13eq : vc P E c38s13 σ H Q = vc P E (.seq (.ops c38r2) c38s12) σ H Q := rfl
def c38s14 : SCode := (.block 0 (.loop c38k c38s13))
@[go_sem] theorem c38s14eq : vc P E c38s14 σ H Q = vc P E (.block 0 (.loop c38k c38s13)) σ H Q := rfl
@[go_sem] def c38r15 : List GOp := [(.op none (.s 2) (.v (.mv (.c (.int .i64 (-1))))))]
def c38s16 : SCode := (.seq (.ops c38r15) .ret)
@[go_sem] theorem c38s16eq : vc P E c38s16 σ H Q = vc P E (.seq (.ops c38r15) .ret) σ H Q := rfl
def c38s17 : SCode := (.seq (.seq (.ops c38r1) c38s14) c38s16)
@[go_sem] theorem c38s17eq : vc P E c38s17 σ H Q = vc P E (.seq (.seq (.ops c38r1) c38s14) c38s16) σ H Q := rfl
def c38 : Gx.Fn := ⟨19, c38k, (.seq (.ops c38r0) c38s17), [(.tmp (.s 2))]⟩
theorem c38ok : stripFn Try.prog c38k Try.f38 = some c38 := by kernel_rfl

/- lattice.write -/
@[go_sem] def c39k : List Nat := [0, 1, 3, 4, 5, 7, 14, 15, 26, 35, 44, 45, 46, 47, 60, 74, 82, 83, 84, 85]
@[go_sem] def c39r0 : List GOp := [(.op none (.s 2) (.bx 26 (.s 1)))]
@[go_sem] def c39r1 : List GOp := [(.op none .t (.v (.mv (.s 0)))),
  (.op none .t (.v (.fa 0 (.s 2)))),
  (.op none .t (.ld none (.t 0))),
  (.op none .t (.v (.cvi .u64 (.t 0)))),
  (.op none .t (.call 58 [(.t 3), (.t 0)]))]
@[go_sem] def c39r2 : List GOp := [(.op none .t (.v (.fa 0 (.s 2)))),
  (.op none (.s 6) (.ld none (.t 0)))]
@[go_sem] def c39r3 : List GOp := [(.op none .t (.v (.bin .eql (.s 6) (.c (.int .i64 2))))),
  (.op none (.s 7) (.v (.mv (.t 0))))]
@[go_sem] def c39r4 : List GOp := [(.op none .t (.v (.bin .eql (.s 6) (.c (.int .i64 3))))),
  (.op none (.s 7) (.v (.mv (.t 0))))]
def c39s5 : SCode := (.cond (.s 7) .skip (.ops c39r4))
@[go_sem] theorem c39s5eq : vc P E c39s5 σ H Q = vc P E (.cond (.s 7) .skip (.ops c39r4)) σ H Q := rfl
@[go_sem] def c39r6 : List GOp := [(.op none .t (.v (.mv (.s 0)))),
  (.op none .t (.v (.fa 1 (.s 2)))),
  (.op none .t (.ld none (.t 0))),
  (.op none .t (.call 59 [(.t 2), (.t 0)]))]
@[go_sem] def c39r7 : List GOp := [(.op none .t (.v (.mv (.s 0)))),
  (.op none .t (.v (.fa 2 (.s 2)))),
  (.op none .t (.ld none (.t 0))),
  (.op none .t (.call 59 [(.t 2), (.t 0)]))]
def c39s8 : SCode := (.ops c39r7)
@[go_sem] theorem c39s8eq : vc P E c39s8 σ H Q = vc P E (.ops c39r7) σ H Q := rfl
def c39s9 : SCode := (.seq (.ops c39r6) c39s8)
@[go_sem] theorem c39s9eq : vc P E c39s9 σ H Q = vc P E (.seq (.ops c39r6) c39s8) σ H Q := rfl
@[go_sem] def c39r10 : List GOp := [(.op none .t (.v (.bin .eql (.s 6) (.c (.int .i64 4))))),
  (.op none (.s 8) (.v (.mv (.t 0))))]
@[go_sem] def c39r11 : List GOp := [(.op none .t (.v (.bin .eql (.s 6) (.c (.int .i64 8))))),
  (.op none (.s 8) (.v (.mv (.t 0))))]
@[go_sem] def c39r12 : List GOp := [(.op none .t (.v (.bin .eql (.s 6) (.c (.int .i64 5))))),
  (.op none (.s 8) (.v (.mv (.t 0))))]
@[go_sem] def c39r13 : List GOp := [(.op none .t (.v (.bin .eql (.s 6) (.c (.int .i64 10))))),
  (.op none (.s 8) (.v (.mv (.t 0))))]
def c39s14 : SCode := (.cond (.s 8) .skip (.ops c39r13))
@[go_sem] theorem c39s14eq : vc P E c39s14 σ H Q = vc P E (.cond (.s 8) .skip (.ops c39r13)) σ H Q := rfl
def c39s15 : SCode := (.seq (.ops c39r12) c39s14)
@[go_sem] theorem c39s15eq : vc P E c39s15 σ H Q = vc P E (.seq (.ops c39r12) c39s14) σ H Q := rfl
def c39s16 : SCode := (.cond (.s 8) .skip c39s15)
@[go_sem] theorem c39s16eq : vc P E c39s16 σ H Q = vc P E (.cond (.s 8) .skip c39s15) σ H Q := rfl
def c39s17 : SCode := (.seq (.ops c39r11) c39s16)
@[go_sem] theorem c39s17eq : vc P E c39s17 σ H Q = vc P E (.seq (.ops c39r11) c39s16) σ H Q := rfl
def c39s18 : SCode := (.cond (.s 8) .skip c39s17)
@[go_sem] theorem c39s18eq : vc P E c39s18 σ H Q = vc P E (.cond (.s 8) .skip c39s17) σ H Q := rfl
@[go_sem] def c39r19 : List GOp := [(.op none .t (.v (.mv (.s 0)))),
  (.op none .t (.v (.fa 3 (.s 2)))),
  (.op none .t (.ld none (.t 0))),
  (.op none .t (.call 60 [(.t 2), (.t 0)]))]
@[go_sem] def c39r20 : List GOp := [(.op none .t (.v (.bin .eql (.s 6) (.c (.int .i64 6))))),
  (.op none (.s 9) (.v (.mv (.t 0))))]
@[go_sem] def c39r21 : List GOp := [(.op none .t (.v (.mv (.s 0)))),
  (.op none .t (.v (.fa 3 (.s 2)))),
  (.op none .t (.ld none (.t 0))),
  (.op none .t (.v (.len (.t 0)))),
  (.op none .t (.v (.cvi .u64 (.t 0)))),
  (.op none .t (.call 58 [(.t 4), (.t 0)]))]
def c39s22 : SCode := (.cond (.s 9) (.ops c39r21) .skip)
@[go_sem] theorem c39s22eq : vc P E c39s22 σ H Q = vc P E (.cond (.s 9) (.ops c39r21) .skip) σ H Q := rfl
def c39s23 : SCode := (.seq (.ops c39r20) c39s22)
@[go_sem] theorem c39s23eq : vc P E c39s23 σ H Q = vc P E (.seq (.ops c39r20) c39s22) σ H Q := rfl
def c39s24 : SCode := (.cond (.s 8) (.ops c39r19) c39s23)
@[go_sem] theorem c39s24eq : vc P E c39s24 σ H Q = vc P E (.cond (.s 8) (.ops c39r19) c39s23) σ H Q := rfl
def c39s25 : SCode := (.seq (.seq (.ops c39r10) c39s18) c39s24)
@[go_sem] theorem c39s25eq : vc P E c39s25 σ H Q = vc P E (.seq (.seq (.ops c39r10) c39s18) c39s24) σ H Q := rfl
def c39s26 : SCode := (.cond (.s 7) c39s9 c39s25)
@[go_sem] theorem c39s26eq : vc P E c39s26 σ H Q = vc P E (.cond (.s 7) c39s9 c39s25) σ H Q := rfl
def c39s27 : SCode := (.block 0 (.seq (.seq (.ops c39r3) c39s5) c39s26))
@[go_sem] theorem c39s27eq : vc P E c39s27 σ H Q = vc P E (.block 0 (.seq (.seq (.ops c39r3) c39s5) c39s26)) σ H Q := rfl
@[go_sem] def c39r28 : List GOp := [(.op none .t (.v (.fa 4 (.s 2)))),
  (.op none (.s 10) (.ld none (.t 0))),
  (.op none (.s 11) (.v (.len (.s 10)))),
  (.op none (.s 12) (.v (.mv (.c (.int .i64 0)))))]
@[go_sem] def c39r29 : List GOp := [(.op none (.s 13) (.v (.bin .lss (.s 12) (.s 11))))]
@[go_sem] def c39r30 : List GOp := [(.op none .t (.v (.mv (.s 12)))),
  (.op none .t (.v (.ix 6 (.s 10) (.s 12)))),
  (.op none .t (.ld (some 6) (.t 0))),
  (.op none (.s 4) (.al 26 [(.int .i64 0), (.int .i64 0), (.int .i64 0), (.slice none 0 0), (.slice none 0 0), (.slice none 0 0)])),
  (.op none (.s 3) (.v (.mv (.t 2)))),
  (.op none .no (.st 6 (.s 4) (.t 0)))]
@[go_sem] def c39r31 : List GOp := [(.op none .t (.v (.fa 0 (.s 2)))),
  (.op none .t (.ld none (.t 0))),
  (.op none .t (.v (.bin .eql (.t 0) (.c (.int .i64 6))))),
  (.op none .t (.v (.mv (.t 0)))),
  (.sel (.t 0) true [(.op (.v (.mv (.s 3)))), (.op (.v (.fa 3 (.s 2)))), (.op (.ld none (.t 0))), (.op (.v (.len (.t 0)))), (.op (.v (.bin .lss (.t 3) (.t 0))))] (.s 14) (.t 0) (.c (.bool false)))]
@[go_sem] def c39r32 : List GOp := [(.op none .t (.v (.mv (.s 0)))),
  (.op none .t (.v (.fa 3 (.s 2)))),
  (.op none .t (.ld none (.t 0))),
  (.op none .t (.v (.mv (.s 3)))),
  (.op none .t (.v (.ix 1 (.t 1) (.t 0)))),
  (.op none .t (.ld none (.t 0))),
  (.op none .t (.call 61 [(.t 5), (.t 0)]))]
def c39s33 : SCode := (.cond (.s 14) (.ops c39r32) .skip)
@[go_sem] theorem c39s33eq : vc P E c39s33 σ H Q = vc P E (.cond (.s 14) (.ops c39r32) .skip) σ H Q := rfl
@[go_sem] def c39r34 : List GOp := [(.op none .t (.v (.mv (.s 0)))),
  (.op none .t (.ld (some 6) (.s 4))),
  (.op none .t (.call 39 [(.t 1), (.t 0)]))]
def c39s35 : SCode := (.ops c39r34)
@[go_sem] theorem c39s35eq : vc P E c39s35 σ H Q = vc P E (.ops c39r34) σ H Q := rfl
def c39s36 : SCode := (.seq (.seq (.ops c39r31) c39s33) c39s35)
@[go_sem] theorem c39s36eq : vc P E c39s36 σ H Q = vc P E (.seq (.seq (.ops c39r31) c39s33) c39s35) σ H Q := rfl
@[go_sem] def c39r37 : List GOp := [(.op none .t (.v (.bin .add (.s 12) (.c (.int .i64 1))))),
  (.op none (.s 12) (.v (.mv (.t 0))))]
def c39s38 : SCode := (.ops c39r37)
@[go_sem] theorem c39s38eq : vc P E c39s38 σ H Q = vc P E (.ops c39r37) σ H Q := rfl
def c39s39 : SCode := (.seq (.block 2 (.seq (.ops c39r30) c39s36)) c39s38)
@[go_sem] theorem c39s39eq : vc P E c39s39 σ H Q = vc P E (.seq (.block 2 (.seq (.ops c39r30) c39s36)) c39s38) σ H Q := rfl
def c39s40 : SCode := (.seq (.cond (.s 13) .skip (.exit 1)) c39s39)
@[go_sem] theorem c39s40eq : vc P E c39s40 σ H Q = vc P E (.seq (.cond (.s 13) .skip (.exit 1)) c39s39) σ H Q := rfl
def c39s41 : SCode := (.seq (.ops c39r29) c39s40)
@[go_sem] theorem c39s41eq : vc P E c39s41 σ H Q = vc P E (.seq (.ops c39r29) c39s40) σ H Q := rfl
def c39s42 : SCode := (.block 1 (.loop c39k c39s41))
@[go_sem] theorem c39s42eq : vc P E c39s42 σ H Q = vc P E (.block 1 (.loop c39k c39s41)) σ H Q := rfl
@[go_sem] def c39r43 : List GOp := [(.op none .t (.v (.fa 0 (.s 2)))),
  (.op none .t (.ld none (.t 0))),
  (.op none (.s 15) (.v (.bin .neq (.t 0) (.c (.int .i64 10)))))]
def c39s44 : SCode := (.cond (.s 15) .ret .skip)
@[go_sem] theorem c39s44eq : vc P E c39s44 σ H Q = vc P E (.cond (.s 15) .ret .skip) σ H Q := rfl
@[go_sem] def c39r45 : List GOp := [(.op none .t (.v (.mv (.s 0)))),
  (.op none .t (.v (.fa 5 (.s 2)))),
  (.op none .t (.ld none (.t 0))),
  (.op none .t (.v (.len (.t 0)))),
  (.op none .t (.v (.cvi .u64 (.t 0)))),
  (.op none .t (.call 58 [(.t 4), (.t 0)]))]
@[go_sem] def c39r46 : List GOp := [(.op none .t (.v (.fa 5 (.s 2)))),
  (.op none (.s 16) (.ld none (.t 0))),
  (.op none (.s 17) (.v (.len (.s 16)))),
  (.op none (.s 18) (.v (.mv (.c (.int .i64 0)))))]
@[go_sem] def c39r47 : List GOp := [(.op none (.s 19) (.v (.bin .lss (.s 18) (.s 17))))]
@[go_sem] def c39r48 : List GOp := [(.op none .t (.v (.ix 2 (.s 16) (.s 18)))),
  (.op none .t (.ld (some 2) (.t 0))),
  (.op none (.s 5) (.al 50 [(.slice none 0 0), (.string ⟨⟨[]⟩⟩)])),
  (.op none .no (.st 2 (.s 5) (.t 0)))]
@[go_sem] def c39r49 : List GOp := [(.op none .t (.v (.mv (.s 0)))),
  (.op none .t (.v (.fa 0 (.s 5)))),
  (.op none .t (.ld none (.t 0))),
  (.op none .t (.call 60 [(.t 2), (.t 0)]))]
@[go_sem] def c39r50 : List GOp := [(.op none .t (.v (.mv (.s 0)))),
  (.op none .t (.v (.fa 1 (.s 5)))),
  (.op none .t (.ld none (.t 0))),
  (.op none .t (.call 61 [(.t 2), (.t 0)]))]
def c39s51 : SCode := (.ops c39r50)
@[go_sem] theorem c39s51eq : vc P E c39s51 σ H Q = vc P E (.ops c39r50) σ H Q := rfl
def c39s52 : SCode := (.seq (.ops c39r49) c39s51)
@[go_sem] theorem c39s52eq : vc P E c39s52 σ H Q = vc P E (.seq (.ops c39r49) c39s51) σ H Q := rfl
@[go_sem] def c39r53 : List GOp := [(.op none .t (.v (.bin .add (.s 18) (.c (.int .i64 1))))),
  (.op none (.s 18) (.v (.mv (.t 0))))]
def c39s54 : SCode := (.ops c39r53)
@[go_sem] theorem c39s54eq : vc P E c39s54 σ H Q = vc P E (.ops c39r53) σ H Q := rfl
def c39s55 : SCode := (.seq (.block 4 (.seq (.ops c39r48) c39s52)) c39s54)
@[go_sem] theorem c39s55eq : vc P E c39s55 σ H Q = vc P E (.seq (.block 4 (.seq (.ops c39r48) c39s52)) c39s54) σ H Q := rfl
def c39s56 : SCode := (.seq (.cond (.s 19) .skip (.exit 3)) c39s55)
@[go_sem] theorem c39s56eq : vc P E c39s56 σ H Q = vc P E (.seq (.cond (.s 19) .skip (.exit 3)) c39s55) σ H Q := rfl
def c39s57 : SCode := (.seq (.ops c39r47) c39s56)
@[go_sem] theorem c39s57eq : vc P E c39s57 σ H Q = vc P E (.seq (.ops c39r47) c39s56) σ H Q := rfl
def c39s58 : SCode := (.block 3 (.loop c39k c39s57))
@[go_sem] theorem c39s58eq : vc P E c39s58 σ H Q = vc P E (.block 3 (.loop c39k c39s57)) σ H Q := rfl
def c39s59 : SCode := (.seq (.ops c39r46) c39s58)
@[go_sem] theorem c39s59eq : vc P E c39s59 σ H Q = vc P E (.seq (.ops c39r46) c39s58) σ H Q := rfl
def c39s60 : SCode := (.seq (.ops c39r45) c39s59)
@[go_sem] theorem c39s60eq : vc P E c39s60 σ H Q = vc P E (.seq (.ops c39r45) c39s59) σ H Q := rfl
def c39s61 : SCode := (.seq (.seq (.ops c39r43) c39s44) c39s60)
@[go_sem] theorem c39s61eq : vc P E c39s61 σ H Q = vc P E (.seq (.seq (.ops c39r43) c39s44) c39s60) σ H Q := rfl
def c39s62 : SCode := (.seq (.seq (.ops c39r28) c39s42) c39s61)
@[go_sem] theorem c39s62eq : vc P E c39s62 σ H Q = vc P E (.seq (.seq (.ops c39r28) c39s42) c39s61) σ H Q := rfl
def c39s63 : SCode := (.seq (.seq (.ops c39r2) c39s27) c39s62)
@[go_sem] theorem c39s63eq : vc P E c39s63 σ H Q = vc P E (.seq (.seq (.ops c39r2) c39s27) c39s62) σ H Q := rfl
def c39s64 : SCode := (.seq (.ops c39r1) c39s63)
@[go_sem] theorem c39s64eq : vc P E c39s64 σ H Q = vc P E (.seq (.ops c39r1) c39s63) σ H Q := rfl
def c39 : Gx.Fn := ⟨97, c39k, (.seq (.ops c39r0) c39s64), []⟩
theorem c39ok : stripFn Try.prog c39k Try.f39 = some c39 := by kernel_rfl

/- (*wire.Writer).Data -/
@[go_sem] def c40k : List Nat := [0, 2]
@[go_sem] def c40r0 : List GOp := [(.op none (.s 1) (.v (.mv (.c (.slice none 0 0)))))]
@[go_sem] def c40r1 : List GOp := [(.op none .t (.bs 5 0 [] [])),
  (.op none .t (.v (.mv (.s 0)))),
  (.op none .t (.v (.nc (.t 0)))),
  (.op none .t (.v (.fa 0 (.t 0)))),
  (.op none .t (.ld none (.t 0))),
  (.op none .t (.ap 36 36 (.t 4) (.t 0))),
  (.op none (.s 1) (.v (.mv (.t 0))))]
def c40s2 : SCode := (.seq (.ops c40r1) .ret)
@[go_sem] theorem c40s2eq : vc P E c40s2 σ H Q = vc P E (.seq (.ops c40r1) .ret) σ H Q := rfl
def c40 : Gx.Fn := ⟨9, c40k, (.seq (.ops c40r0) c40s2), [(.tmp (.s 1))]⟩
theorem c40ok : stripFn Try.prog c40k Try.f40 = some c40 := by kernel_rfl

/- wire.NewReader -/
@[go_sem] def c41k : List Nat := [0, 2]
@[go_sem] def c41r0 : List GOp := [(.op none (.s 1) (.v (.mv (.c (.pointer none)))))]
@[go_sem] def c41r1 : List GOp := [(.op none .t (.bs 5 0 [] [])),
  (.op none .t (.v (.mv (.s 0)))),
  (.op none .t (.ap 36 36 (.t 1) (.t 0))),
  (.op none .t (.v (.bld [(.slice none 0 0), (.int .i64 0), (.int .i64 0), (.int .i64 0)] [(0, (1, (.t 0)))]))),
  (.op none .t (.bx 82 (.t 0))),
  (.op none (.s 1) (.v (.mv (.t 0))))]
def c41s2 : SCode := (.seq (.ops c41r1) .ret)
@[go_sem] theorem c41s2eq : vc P E c41s2 σ H Q = vc P E (.seq (.ops c41r1) .ret) σ H Q := rfl
def c41 : Gx.Fn := ⟨8, c41k, (.seq (.ops c41r0) c41s2), [(.tmp (.s 1))]⟩
theorem c41ok : stripFn Try.prog c41k Try.f41 = some c41 := by kernel_rfl

/- lattice.read -/
@[go_sem] def c42k : List Nat := [0, 1, 4, 5, 6, 7, 8, 9, 17, 25, 26, 35, 42, 47, 49, 60, 65, 84, 87, 88, 89, 104]
@[go_sem] def c42r0 : List GOp := [(.op none (.s 2) (.al 26 [(.int .i64 0), (.int .i64 0), (.int .i64 0), (.slice none 0 0), (.slice none 0 0), (.slice none 0 0)]))]
@[go_sem] def c42r1 : List GOp := [(.op none .t (.v (.mv (.s 0)))),
  (.op none .t (.call 62 [(.t 0)])),
  (.op none (.s 3) (.v (.mv (.t 0))))]
@[go_sem] def c42r2 : List GOp := [(.op none .t (.v (.mv (.s 1)))),
  (.op none .t (.v (.bin .eql (.t 0) (.c (.int .i64 0))))),
  (.op none .t (.v (.mv (.t 0)))),
  (.sel (.t 0) false [(.op (.v (.mv (.s 3)))), (.op (.v (.bin .gtr (.t 0) (.c (.int .u64 10)))))] (.s 8) (.c (.bool true)) (.t 0))]
@[go_sem] def c42r3 : List GOp := [(.op none .t (.v (.mv (.s 0)))),
  (.op none .t (.call 63 [(.t 0)]))]
@[go_sem] def c42r4 : List GOp := [(.op none .t (.v (.bld [(.int .i64 0), (.int .i64 0), (.int .i64 0), (.slice none 0 0), (.slice none 0 0), (.slice none 0 0)] []))),
  (.op none .no (.st 6 (.s 2) (.t 0)))]
def c42s5 : SCode := (.seq (.ops c42r4) .ret)
@[go_sem] theorem c42s5eq : vc P E c42s5 σ H Q = vc P E (.seq (.ops c42r4) .ret) σ H Q := rfl
def c42s6 : SCode := (.seq (.ops c42r3) c42s5)
@[go_sem] theorem c42s6eq : vc P E c42s6 σ H Q = vc P E (.seq (.ops c42r3) c42s5) σ H Q := rfl
def c42s7 : SCode := (.cond (.s 8) c42s6 .skip)
@[go_sem] theorem c42s7eq : vc P E c42s7 σ H Q = vc P E (.cond (.s 8) c42s6 .skip) σ H Q := rfl
@[go_sem] def c42r8 : List GOp := [(.op none .t (.v (.mv (.s 3)))),
  (.op none .t (.v (.cvi .i64 (.t 0)))),
  (.op none .t (.v (.bld [(.int .i64 0), (.int .i64 0), (.int .i64 0), (.slice none 0 0), (.slice none 0 0), (.slice none 0 0)] [(0, (1, (.t 0)))]))),
  (.op none (.s 4) (.al 26 [(.int .i64 0), (.int .i64 0), (.int .i64 0), (.slice none 0 0), (.slice none 0 0), (.slice none 0 0)])),
  (.op none .no (.st 6 (.s 4) (.t 0)))]
@[go_sem] def c42r9 : List GOp := [(.op none (.s 5) (.v (.mv (.c (.int .i64 0)))))]
@[go_sem] def c42r10 : List GOp := [(.op none .t (.v (.fa 0 (.s 4)))),
  (.op none (.s 9) (.ld none (.t 0)))]
@[go_sem] def c42r11 : List GOp := [(.op none .t (.v (.bin .eql (.s 9) (.c (.int .i64 2))))),
  (.op none (.s 10) (.v (.mv (.t 0))))]
@[go_sem] def c42r12 : List GOp := [(.op none .t (.v (.bin .eql (.s 9) (.c (.int .i64 3))))),
  (.op none (.s 10) (.v (.mv (.t 0))))]
def c42s13 : SCode := (.cond (.s 10) .skip (.ops c42r12))
@[go_sem] theorem c42s13eq : vc P E c42s13 σ H Q = vc P E (.cond (.s 10) .skip (.ops c42r12)) σ H Q := rfl
@[go_sem] def c42r14 : List GOp := [(.op none .t (.v (.mv (.s 0)))),
  (.op none .t (.call 64 [(.t 0)])),
  (.op none .t (.v (.fa 1 (.s 4)))),
  (.op none .no (.st 1 (.t 0) (.t 1)))]
@[go_sem] def c42r15 : List GOp := [(.op none .t (.v (.mv (.s 0)))),
  (.op none .t (.call 64 [(.t 0)])),
  (.op none .t (.v (.fa 2 (.s 4)))),
  (.op none .no (.st 1 (.t 0) (.t 1)))]
def c42s16 : SCode := (.ops c42r15)
@[go_sem] theorem c42s16eq : vc P E c42s16 σ H Q = vc P E (.ops c42r15) σ H Q := rfl
def c42s17 : SCode := (.seq (.ops c42r14) c42s16)
@[go_sem] theorem c42s17eq : vc P E c42s17 σ H Q = vc P E (.seq (.ops c42r14) c42s16) σ H Q := rfl
@[go_sem] def c42r18 : List GOp := [(.op none .t (.v (.bin .eql (.s 9) (.c (.int .i64 4))))),
  (.op none (.s 11) (.v (.mv (.t 0))))]
@[go_sem] def c42r19 : List GOp := [(.op none .t (.v (.bin .eql (.s 9) (.c (.int .i64 8))))),
  (.op none (.s 11) (.v (.mv (.t 0))))]
@[go_sem] def c42r20 : List GOp := [(.op none .t (.v (.bin .eql (.s 9) (.c (.int .i64 10))))),
  (.op none (.s 11) (.v (.mv (.t 0))))]
def c42s21 : SCode := (.cond (.s 11) .skip (.ops c42r20))
@[go_sem] theorem c42s21eq : vc P E c42s21 σ H Q = vc P E (.cond (.s 11) .skip (.ops c42r20)) σ H Q := rfl
def c42s22 : SCode := (.seq (.ops c42r19) c42s21)
@[go_sem] theorem c42s22eq : vc P E c42s22 σ H Q = vc P E (.seq (.ops c42r19) c42s21) σ H Q := rfl
def c42s23 : SCode := (.cond (.s 11) .skip c42s22)
@[go_sem] theorem c42s23eq : vc P E c42s23 σ H Q = vc P E (.cond (.s 11) .skip c42s22) σ H Q := rfl
@[go_sem] def c42r24 : List GOp := [(.op none .t (.v (.mv (.s 0)))),
  (.op none .t (.call 65 [(.t 0)])),
  (.op none .t (.v (.fa 3 (.s 4)))),
  (.op none .no (.st 1 (.t 0) (.t 1)))]
@[go_sem] def c42r25 : List GOp := [(.op none .t (.v (.bin .eql (.s 9) (.c (.int .i64 5))))),
  (.op none (.s 12) (.v (.mv (.t 0))))]
@[go_sem] def c42r26 : List GOp := [(.op none .t (.v (.mv (.s 0)))),
  (.op none .t (.call 65 [(.t 0)])),
  (.op none .t (.v (.fa 3 (.s 4)))),
  (.op none .no (.st 1 (.t 0) (.t 1))),
  (.op none (.s 5) (.v (.mv (.c (.int .i64 1)))))]
@[go_sem] def c42r27 : List GOp := [(.op none .t (.v (.bin .eql (.s 9) (.c (.int .i64 7))))),
  (.op none (.s 13) (.v (.mv (.t 0))))]
@[go_sem] def c42r28 : List GOp := [(.op none (.s 5) (.v (.mv (.c (.int .i64 2)))))]
@[go_sem] def c42r29 : List GOp := [(.op none .t (.v (.bin .eql (.s 9) (.c (.int .i64 6))))),
  (.op none (.s 14) (.v (.mv (.t 0))))]
@[go_sem] def c42r30 : List GOp := [(.op none .t (.v (.mv (.s 0)))),
  (.op none .t (.call 66 [(.t 0)])),
  (.op none (.s 5) (.v (.mv (.t 0))))]
def c42s31 : SCode := (.cond (.s 14) (.ops c42r30) .skip)
@[go_sem] theorem c42s31eq : vc P E c42s31 σ H Q = vc P E (.cond (.s 14) (.ops c42r30) .skip) σ H Q := rfl
def c42s32 : SCode := (.seq (.ops c42r29) c42s31)
@[go_sem] theorem c42s32eq : vc P E c42s32 σ H Q = vc P E (.seq (.ops c42r29) c42s31) σ H Q := rfl
def c42s33 : SCode := (.cond (.s 13) (.ops c42r28) c42s32)
@[go_sem] theorem c42s33eq : vc P E c42s33 σ H Q = vc P E (.cond (.s 13) (.ops c42r28) c42s32) σ H Q := rfl
def c42s34 : SCode := (.seq (.ops c42r27) c42s33)
@[go_sem] theorem c42s34eq : vc P E c42s34 σ H Q = vc P E (.seq (.ops c42r27) c42s33) σ H Q := rfl
def c42s35 : SCode := (.cond (.s 12) (.ops c42r26) c42s34)
@[go_sem] theorem c42s35eq : vc P E c42s35 σ H Q = vc P E (.cond (.s 12) (.ops c42r26) c42s34) σ H Q := rfl
def c42s36 : SCode := (.seq (.ops c42r25) c42s35)
@[go_sem] theorem c42s36eq : vc P E c42s36 σ H Q = vc P E (.seq (.ops c42r25) c42s35) σ H Q := rfl
def c42s37 : SCode := (.cond (.s 11) (.ops c42r24) c42s36)
@[go_sem] theorem c42s37eq : vc P E c42s37 σ H Q = vc P E (.cond (.s 11) (.ops c42r24) c42s36) σ H Q := rfl
def c42s38 : SCode := (.seq (.seq (.ops c42r18) c42s23) c42s37)
@[go_sem] theorem c42s38eq : vc P E c42s38 σ H Q = vc P E (.seq (.seq (.ops c42r18) c42s23) c42s37) σ H Q := rfl
def c42s39 : SCode := (.cond (.s 10) c42s17 c42s38)
@[go_sem] theorem c42s39eq : vc P E c42s39 σ H Q = vc P E (.cond (.s 10) c42s17 c42s38) σ H Q := rfl
def c42s40 : SCode := (.block 0 (.seq (.seq (.ops c42r11) c42s13) c42s39))
theorem c42s40eq : vc P E c42s40 σ H Q = vc P E (.block 0 (.seq (.seq (.ops c42r11) c42s13) c42s39)) σ H Q := rfl
@[go_sem] def c42r41 : List GOp := [(.op none (.s 6) (.v (.mv (.c (.int .i64 0)))))]
@[go_sem] def c42r42 : List GOp := [(.op none .t (.v (.mv (.s 6)))),
  (.op none .t (.v (.mv (.s 5)))),
  (.op none .t (.v (.bin .lss (.t 1) (.t 0)))),
  (.op none .t (.v (.mv (.t 0)))),
  (.op (some ((.t 0), (true, true))) .t (.v (.mv (.s 0)))),
  (.op (some ((.t 1), (true, false))) .t (.call 67 [(.t 0)])),
  (.op (some ((.t 2), (true, false))) .t (.v (.bin .eql (.t 0) (.c (.int .i64 0))))),
  (.op none (.s 15) (.v (.pick (.t 3) (.t 0) (.c (.bool false)))))]
def c42s43 : SCode := (.cond (.s 15) .skip (.exit 1))
@[go_sem] theorem c42s43eq : vc P E c42s43 σ H Q = vc P E (.cond (.s 15) .skip (.exit 1)) σ H Q := rfl
@[go_sem] def c42r44 : List GOp := [(.op none .t (.v (.fa 0 (.s 4)))),
  (.op none .t (.ld none (.t 0))),
  (.op none (.s 16) (.v (.bin .eql (.t 0) (.c (.int .i64 6)))))]
@[go_sem] def c42d45 : DT := (.rd none .t (.v (.fa 3 (.s 4))) [5, 7] (.rd none .t (.ld none (.t 0)) [5, 7] (.rd none .t (.v (.mv (.s 0))) [3, 4, 5, 7] (.ef 3 none .t (.call 68 [(.t 0)]) (.ef 4 none .t (.bs 9 1 [(.string ⟨⟨[]⟩⟩)] [(0, (1, (.t 0)))]) (.ef 5 none .t (.ap 22 22 (.t 3) (.t 0)) (.rd none .t (.v (.fa 3 (.s 4))) [7] (.ef 7 none .no (.st 1 (.t 0) (.t 1)) .done))))))))
def c42s46 : SCode := (.cond (.s 16) (.de c42d45) .skip)
@[go_sem] theorem c42s46eq : vc P E c42s46 σ H Q = vc P E (.cond (.s 16) (.de c42d45) .skip) σ H Q := rfl
@[go_sem] def c42d47 : DT := (.rd none .t (.v (.fa 4 (.s 4))) [7, 9] (.rd none .t (.ld none (.t 0)) [7, 9] (.rd none .t (.v (.mv (.s 0))) [5, 6, 7, 9] (.rd none .t (.v (.mv (.s 1))) [5, 6, 7, 9] (.rd none .t (.v (.bin .sub (.t 0) (.c (.int .i64 1)))) [5, 6, 7, 9] (.ef 5 none .t (.call 42 [(.t 2), (.t 0)]) (.ef 6 none .t (.bs 26 1 [(.int .i64 0), (.int .i64 0), (.int .i64 0), (.slice none 0 0), (.slice none 0 0), (.slice none 0 0)] [(0, (6, (.t 0)))]) (.ef 7 none .t (.ap 23 23 (.t 5) (.t 0)) (.rd none .t (.v (.fa 4 (.s 4))) [9] (.ef 9 none .no (.st 1 (.t 0) (.t 1)) .done))))))))))
def c42s48 : SCode := (.de c42d47)
@[go_sem] theorem c42s48eq : vc P E c42s48 σ H Q = vc P E (.de c42d47) σ H Q := rfl
@[go_sem] def c42r49 : List GOp := [(.op none .t (.v (.mv (.s 6)))),
  (.op none .t (.v (.bin .add (.t 0) (.c (.int .i64 1))))),
  (.op none (.s 6) (.v (.mv (.t 0))))]
def c42s50 : SCode := (.ops c42r49)
@[go_sem] theorem c42s50eq : vc P E c42s50 σ H Q = vc P E (.ops c42r49) σ H Q := rfl
def c42s51 : SCode := (.seq (.block 2 (.seq (.seq (.ops c42r44) c42s46) c42s48)) c42s50)
@[go_sem] theorem c42s51eq : vc P E c42s51 σ H Q = vc P E (.seq (.block 2 (.seq (.seq (.ops c42r44) c42s46) c42s48)) c42s50) σ H Q := rfl
def c42s52 : SCode := (.seq (.seq (.ops c42r42) c42s43) c42s51)
@[go_sem] theorem c42s52eq : vc P E c42s52 σ H Q = vc P E (.seq (.seq (.ops c42r42) c42s43) c42s51) σ H Q := rfl
def c42s53 : SCode := (.block 1 (.loop c42k c42s52))
theorem c42s53eq : vc P E c42s53 σ H Q = vc P E (.block 1 (.loop c42k c42s52)) σ H Q := rfl
@[go_sem] def c42r54 : List GOp := [(.op none .t (.v (.fa 0 (.s 4)))),
  (.op none .t (.ld none (.t 0))),
  (.op none (.s 17) (.v (.bin .neq (.t 0) (.c (.int .i64 10)))))]
@[go_sem] def c42r55 : List GOp := [(.op none .t (.ld (some 6) (.s 4))),
  (.op none .no (.st 6 (.s 2) (.t 0)))]
def c42s56 : SCode := (.seq (.ops c42r55) .ret)
@[go_sem] theorem c42s56eq : vc P E c42s56 σ H Q = vc P E (.seq (.ops c42r55) .ret) σ H Q := rfl
def c42s57 : SCode := (.cond (.s 17) c42s56 .skip)
@[go_sem] theorem c42s57eq : vc P E c42s57 σ H Q = vc P E (.cond (.s 17) c42s56 .skip) σ H Q := rfl
@[go_sem] def c42r58 : List GOp := [(.op none .t (.v (.mv (.s 0)))),
  (.op none (.s 18) (.call 66 [(.t 0)])),
  (.op none (.s 19) (.v (.mv (.c (.int .i64 0)))))]
@[go_sem] def c42r59 : List GOp := [(.op none (.s 20) (.v (.bin .lss (.s 19) (.s 18))))]
@[go_sem] def c42r60 : List GOp := [(.op none .t (.v (.mv (.s 0)))),
  (.op none .t (.call 65 [(.t 0)])),
  (.op none .t (.v (.bld [(.slice none 0 0), (.string ⟨⟨[]⟩⟩)] [(0, (1, (.t 0)))]))),
  (.op none (.s 7) (.al 50 [(.slice none 0 0), (.string ⟨⟨[]⟩⟩)])),
  (.op none .no (.st 2 (.s 7) (.t 0)))]
@[go_sem] def c42r61 : List GOp := [(.op none .t (.v (.mv (.s 0)))),
  (.op none .t (.call 68 [(.t 0)])),
  (.op none .t (.v (.fa 1 (.s 7)))),
  (.op none .no (.st 1 (.t 0) (.t 1)))]
@[go_sem] def c42r62 : List GOp := [(.op none .t (.v (.fa 5 (.s 4)))),
  (.op none .t (.ld none (.t 0))),
  (.op none .t (.ld (some 2) (.s 7))),
  (.op none .t (.bs 50 1 [(.slice none 0 0), (.string ⟨⟨[]⟩⟩)] [(0, (2, (.t 0)))])),
  (.op none .t (.ap 24 24 (.t 2) (.t 0))),
  (.op none .t (.v (.fa 5 (.s 4)))),
  (.op none .no (.st 1 (.t 0) (.t 1)))]
@[go_sem] def c42r63 : List GOp := [(.op none .t (.v (.mv (.s 0)))),
  (.op none .t (.call 67 [(.t 0)])),
  (.op none (.s 21) (.v (.bin .neq (.t 0) (.c (.int .i64 0)))))]
def c42s64 : SCode := (.cond (.s 21) (.exit 3) .skip)
@[go_sem] theorem c42s64eq : vc P E c42s64 σ H Q = vc P E (.cond (.s 21) (.exit 3) .skip) σ H Q := rfl
def c42s65 : SCode := (.seq (.ops c42r63) c42s64)
@[go_sem] theorem c42s65eq : vc P E c42s65 σ H Q = vc P E (.seq (.ops c42r63) c42s64) σ H Q := rfl
def c42s66 : SCode := (.seq (.ops c42r62) c42s65)
@[go_sem] theorem c42s66eq : vc P E c42s66 σ H Q = vc P E (.seq (.ops c42r62) c42s65) σ H Q := rfl
def c42s67 : SCode := (.seq (.ops c42r61) c42s66)
@[go_sem] theorem c42s67eq : vc P E c42s67 σ H Q = vc P E (.seq (.ops c42r61) c42s66) σ H Q := rfl
@[go_sem] def c42r68 : List GOp := [(.op none .t (.v (.bin .add (.s 19) (.c (.int .i64 1))))),
  (.op none (.s 19) (.v (.mv (.t 0))))]
def c42s69 : SCode := (.ops c42r68)
@[go_sem] theorem c42s69eq : vc P E c42s69 σ H Q = vc P E (.ops c42r68) σ H Q := rfl
def c42s70 : SCode := (.seq (.block 4 (.seq (.ops c42r60) c42s67)) c42s69)
@[go_sem] theorem c42s70eq : vc P E c42s70 σ H Q = vc P E (.seq (.block 4 (.seq (.ops c42r60) c42s67)) c42s69) σ H Q := rfl
def c42s71 : SCode := (.seq (.cond (.s 20) .skip (.exit 3)) c42s70)
@[go_sem] theorem c42s71eq : vc P E c42s71 σ H Q = vc P E (.seq (.cond (.s 20) .skip (.exit 3)) c42s70) σ H Q := rfl
def c42s72 : SCode := (.seq (.ops c42r59) c42s71)
@[go_sem] theorem c42s72eq : vc P E c42s72 σ H Q = vc P E (.seq (.ops c42r59) c42s71) σ H Q := rfl
def c42s73 : SCode := (.block 3 (.loop c42k c42s72))
theorem c42s73eq : vc P E c42s73 σ H Q = vc P E (.block 3 (.loop c42k c42s72)) σ H Q := rfl
@[go_sem] def c42r74 : List GOp := [(.op none .t (.ld (some 6) (.s 4))),
  (.op none .no (.st 6 (.s 2) (.t 0)))]
def c42s75 : SCode := (.seq (.ops c42r74) .ret)
@[go_sem] theorem c42s75eq : vc P E c42s75 σ H Q = vc P E (.seq (.ops c42r74) .ret) σ H Q := rfl
def c42s76 : SCode := (.seq (.seq (.ops c42r58) c42s73) c42s75)
@[go_sem] theorem c42s76eq : vc P E c42s76 σ H Q = vc P E (.seq (.seq (.ops c42r58) c42s73) c42s75) σ H Q := rfl
def c42s77 : SCode := (.seq (.seq (.ops c42r54) c42s57) c42s76)
@[go_sem] theorem c42s77eq : vc P E c42s77 σ H Q = vc P E (.seq (.seq (.ops c42r54) c42s57) c42s76) σ H Q := rfl
def c42s78 : SCode := (.seq (.seq (.ops c42r41) c42s53) c42s77)
@[go_sem] theorem c42s78eq : vc P E c42s78 σ H Q = vc P E (.seq (.seq (.ops c42r41) c42s53) c42s77) σ H Q := rfl
def c42s79 : SCode := (.seq (.seq (.ops c42r10) c42s40) c42s78)
@[go_sem] theorem c42s79eq : vc P E c42s79 σ H Q = vc P E (.seq (.seq (.ops c42r10) c42s40) c42s78) σ H Q := rfl
def c42s80 : SCode := (.seq (.ops c42r9) c42s79)
@[go_sem] theorem c42s80eq : vc P E c42s80 σ H Q = vc P E (.seq (.ops c42r9) c42s79) σ H Q := rfl
def c42s81 : SCode := (.seq (.ops c42r8) c42s80)
@[go_sem] theorem c42s81eq : vc P E c42s81 σ H Q = vc P E (.seq (.ops c42r8) c42s80) σ H Q := rfl
def c42s82 : SCode := (.seq (.seq (.ops c42r2) c42s7) c42s81)
@[go_sem] theorem c42s82eq : vc P E c42s82 σ H Q = vc P E (.seq (.seq (.ops c42r2) c42s7) c42s81) σ H Q := rfl
def c42s83 : SCode := (.seq (.ops c42r1) c42s82)
@[go_sem] theorem c42s83eq : vc P E c42s83 σ H Q = vc P E (.seq (.ops c42r1) c42s82) σ H Q := rfl
def c42 : Gx.Fn := ⟨107, c42k, (.seq (.ops c42r0) c42s83), [(.cell (.s 2) (some 6))]⟩
theorem c42ok : stripFn Try.prog c42k Try.f42 = some c42 := by kernel_rfl

/- (*wire.Reader).End -/
@[go_sem] def c43k : List Nat := [0, 2, 12]
@[go_sem] def c43r0 : List GOp := [(.op none (.s 1) (.v (.mv (.c (.int .i64 0)))))]
@[go_sem] def c43r1 : List GOp := [(.op none .t (.v (.mv (.s 0)))),
  (.op none .t (.v (.nc (.t 0)))),
  (.op none .t (.v (.fa 3 (.t 0)))),
  (.op none .t (.ld none (.t 0))),
  (.op none .t (.v (.bin .eql (.t 0) (.c (.int .i64 0))))),
  (.op none .t (.v (.mv (.t 0)))),
  (.op (some ((.t 0), (true, true))) .t (.v (.mv (.s 0)))),
  (.op (some ((.t 1), (true, false))) .t (.call 69 [(.t 0)])),
  (.op (some ((.t 2), (true, false))) .t (.v (.bin .gtr (.t 0) (.c (.int .i64 0))))),
  (.op none (.s 2) (.v (.pick (.t 3) (.t 0) (.c (.bool false)))))]
@[go_sem] def c43r2 : List GOp := [(.op none (.s 1) (.v (.mv (.c (.int .i64 2)))))]
def c43s3 : SCode := (.seq (.ops c43r2) .ret)
@[go_sem] theorem c43s3eq : vc P E c43s3 σ H Q = vc P E (.seq (.ops c43r2) .ret) σ H Q := rfl
def c43s4 : SCode := (.cond (.s 2) c43s3 .skip)
@[go_sem] theorem c43s4eq : vc P E c43s4 σ H Q = vc P E (.cond (.s 2) c43s3 .skip) σ H Q := rfl
@[go_sem] def c43r5 : List GOp := [(.op none .t (.v (.mv (.s 0)))),
  (.op none .t (.v (.nc (.t 0)))),
  (.op none .t (.v (.fa 3 (.t 0)))),
  (.op none .t (.ld none (.t 0))),
  (.op none (.s 1) (.v (.mv (.t 0))))]
def c43s6 : SCode := (.seq (.ops c43r5) .ret)
@[go_sem] theorem c43s6eq : vc P E c43s6 σ H Q = vc P E (.seq (.ops c43r5) .ret) σ H Q := rfl
def c43s7 : SCode := (.seq (.seq (.ops c43r1) c43s4) c43s6)
@[go_sem] theorem c43s7eq : vc P E c43s7 σ H Q = vc P E (.seq (.seq (.ops c43r1) c43s4) c43s6) σ H Q := rfl
def c43 : Gx.Fn := ⟨17, c43k, (.seq (.ops c43r0) c43s7), [(.tmp (.s 1))]⟩
theorem c43ok : stripFn Try.prog c43k Try.f43 = some c43 := by kernel_rfl

/- plexusref01.Uint -/
@[go_sem] def c44k : List Nat := [0, 1, 4, 5, 10]
@[go_sem] def c44r0 : List GOp := [(.op none (.s 2) (.v (.mv (.c (.slice none 0 0)))))]
@[go_sem] def c44r1 : List GOp := [(.op none .t (.bs 5 0 [] [])),
  (.op none .t (.v (.mv (.s 0)))),
  (.op none .t (.ap 36 36 (.t 1) (.t 0))),
  (.op none (.s 3) (.v (.mv (.t 0))))]
@[go_sem] def c44r2 : List GOp := [(.op none .t (.v (.mv (.s 1)))),
  (.op none (.s 4) (.v (.bin .geq (.t 0) (.c (.int .u64 128)))))]
def c44s3 : SCode := (.cond (.s 4) .skip (.exit 0))
@[go_sem] theorem c44s3eq : vc P E c44s3 σ H Q = vc P E (.cond (.s 4) .skip (.exit 0)) σ H Q := rfl
@[go_sem] def c44r4 : List GOp := [(.op none .t (.v (.mv (.s 3)))),
  (.op none .t (.v (.mv (.s 1)))),
  (.op none .t (.v (.bin .rem (.t 0) (.c (.int .u64 128))))),
  (.op none .t (.v (.cvi .u8 (.t 0)))),
  (.op none .t (.v (.bin .add (.t 0) (.c (.int .u8 128))))),
  (.op none .t (.bs 5 1 [(.int .u8 0)] [(0, (1, (.t 0)))])),
  (.op none .t (.ap 36 36 (.t 5) (.t 0))),
  (.op none (.s 3) (.v (.mv (.t 0))))]
@[go_sem] def c44r5 : List GOp := [(.op none .t (.v (.mv (.s 1)))),
  (.op none .t (.v (.bin .quo (.t 0) (.c (.int .u64 128))))),
  (.op none (.s 1) (.v (.mv (.t 0))))]
def c44s6 : SCode := (.ops c44r5)
@[go_sem] theorem c44s6eq : vc P E c44s6 σ H Q = vc P E (.ops c44r5) σ H Q := rfl
def c44s7 : SCode := (.block 1 (.seq (.ops c44r4) c44s6))
@[go_sem] theorem c44s7eq : vc P E c44s7 σ H Q = vc P E (.block 1 (.seq (.ops c44r4) c44s6)) σ H Q := rfl
def c44s8 : SCode := (.seq (.seq (.ops c44r2) c44s3) c44s7)
@[go_sem] theorem c44s8eq : vc P E c44s8 σ H Q = vc P E (.seq (.seq (.ops c44r2) c44s3) c44s7) σ H Q := rfl
@[go_sem] def c44r9 : List GOp := [(.op none .t (.v (.mv (.s 3)))),
  (.op none .t (.v (.mv (.s 1)))),
  (.op none .t (.v (.cvi .u8 (.t 0)))),
  (.op none .t (.bs 5 1 [(.int .u8 0)] [(0, (1, (.t 0)))])),
  (.op none .t (.ap 36 36 (.t 3) (.t 0))),
  (.op none (.s 2) (.v (.mv (.t 0))))]
def c44s10 : SCode := (.seq (.ops c44r9) .ret)
@[go_sem] theorem c44s10eq : vc P E c44s10 σ H Q = vc P E (.seq (.ops c44r9) .ret) σ H Q := rfl
def c44s11 : SCode := (.seq (.block 0 (.loop c44k c44s8)) c44s10)
@[go_sem] theorem c44s11eq : vc P E c44s11 σ H Q = vc P E (.seq (.block 0 (.loop c44k c44s8)) c44s10) σ H Q := rfl
def c44s12 : SCode := (.seq (.ops c44r1) c44s11)
@[go_sem] theorem c44s12eq : vc P E c44s12 σ H Q = vc P E (.seq (.ops c44r1) c44s11) σ H Q := rfl
def c44 : Gx.Fn := ⟨25, c44k, (.seq (.ops c44r0) c44s12), [(.tmp (.s 2))]⟩
theorem c44ok : stripFn Try.prog c44k Try.f44 = some c44 := by kernel_rfl

/- plexusref01.Int -/
@[go_sem] def c45k : List Nat := [0, 1, 4, 6]
@[go_sem] def c45r0 : List GOp := [(.op none (.s 2) (.v (.mv (.c (.slice none 0 0)))))]
@[go_sem] def c45r1 : List GOp := [(.op none .t (.v (.mv (.s 1)))),
  (.op none (.s 3) (.v (.bin .geq (.t 0) (.c (.int .i64 0)))))]
@[go_sem] def c45r2 : List GOp := [(.op none .t (.v (.mv (.s 0)))),
  (.op none .t (.v (.mv (.s 1)))),
  (.op none .t (.v (.cvi .u64 (.t 0)))),
  (.op none .t (.v (.bin .mul (.c (.int .u64 2)) (.t 0)))),
  (.op none .t (.call 44 [(.t 3), (.t 0)])),
  (.op none (.s 2) (.v (.mv (.t 0))))]
def c45s3 : SCode := (.seq (.ops c45r2) .ret)
@[go_sem] theorem c45s3eq : vc P E c45s3 σ H Q = vc P E (.seq (.ops c45r2) .ret) σ H Q := rfl
def c45s4 : SCode := (.cond (.s 3) c45s3 .skip)
@[go_sem] theorem c45s4eq : vc P E c45s4 σ H Q = vc P E (.cond (.s 3) c45s3 .skip) σ H Q := rfl
@[go_sem] def c45r5 : List GOp := [(.op none .t (.v (.mv (.s 0)))),
  (.op none .t (.v (.mv (.s 1)))),
  (.op none .t (.v (.bin .add (.t 0) (.c (.int .i64 1))))),
  (.op none .t (.v (.un .neg (.t 0)))),
  (.op none .t (.v (.cvi .u64 (.t 0)))),
  (.op none .t (.v (.bin .mul (.c (.int .u64 2)) (.t 0)))),
  (.op none .t (.v (.bin .add (.t 0) (.c (.int .u64 1))))),
  (.op none .t (.call 44 [(.t 6), (.t 0)])),
  (.op none (.s 2) (.v (.mv (.t 0))))]
def c45s6 : SCode := (.seq (.ops c45r5) .ret)
@[go_sem] theorem c45s6eq : vc P E c45s6 σ H Q = vc P E (.seq (.ops c45r5) .ret) σ H Q := rfl
def c45s7 : SCode := (.seq (.seq (.ops c45r1) c45s4) c45s6)
@[go_sem] theorem c45s7eq : vc P E c45s7 σ H Q = vc P E (.seq (.seq (.ops c45r1) c45s4) c45s6) σ H Q := rfl
def c45 : Gx.Fn := ⟨20, c45k, (.seq (.ops c45r0) c45s7), [(.tmp (.s 2))]⟩
theorem c45ok : stripFn Try.prog c45k Try.f45 = some c45 := by kernel_rfl

/- plexusref09.texts -/
@[go_sem] def c46k : List Nat := [0, 1, 4, 5, 6, 15]
@[go_sem] def c46r0 : List GOp := [(.op none (.s 2) (.v (.mv (.c (.slice none 0 0)))))]
@[go_sem] def c46r1 : List GOp := [(.op none .t (.v (.mv (.s 0)))),
  (.op none .t (.v (.mv (.s 1)))),
  (.op none .t (.v (.len (.t 0)))),
  (.op none .t (.v (.cvi .u64 (.t 0)))),
  (.op none .t (.call 44 [(.t 3), (.t 0)])),
  (.op none (.s 3) (.v (.mv (.t 0))))]
@[go_sem] def c46r2 : List GOp := [(.op none (.s 4) (.v (.mv (.c (.int .i64 0)))))]
@[go_sem] def c46r3 : List GOp := [(.op none .t (.v (.mv (.s 4)))),
  (.op none .t (.v (.mv (.s 1)))),
  (.op none .t (.v (.len (.t 0)))),
  (.op none (.s 5) (.v (.bin .lss (.t 2) (.t 0))))]
def c46s4 : SCode := (.cond (.s 5) .skip (.exit 0))
@[go_sem] theorem c46s4eq : vc P E c46s4 σ H Q = vc P E (.cond (.s 5) .skip (.exit 0)) σ H Q := rfl
@[go_sem] def c46r5 : List GOp := [(.op none .t (.v (.mv (.s 3)))),
  (.op none .t (.v (.mv (.s 1)))),
  (.op none .t (.v (.mv (.s 4)))),
  (.op none .t (.v (.ix 1 (.t 1) (.t 0)))),
  (.op none .t (.ld none (.t 0))),
  (.op none .t (.call 47 [(.t 4), (.t 0)])),
  (.op none (.s 3) (.v (.mv (.t 0))))]
@[go_sem] def c46r6 : List GOp := [(.op none .t (.v (.mv (.s 4)))),
  (.op none .t (.v (.bin .add (.t 0) (.c (.int .i64 1))))),
  (.op none (.s 4) (.v (.mv (.t 0))))]
def c46s7 : SCode := (.ops c46r6)
@[go_sem] theorem c46s7eq : vc P E c46s7 σ H Q = vc P E (.ops c46r6) σ H Q := rfl
def c46s8 : SCode := (.seq (.block 1 (.ops c46r5)) c46s7)
@[go_sem] theorem c46s8eq : vc P E c46s8 σ H Q = vc P E (.seq (.block 1 (.ops c46r5)) c46s7) σ H Q := rfl
def c46s9 : SCode := (.seq (.seq (.ops c46r3) c46s4) c46s8)
@[go_sem] theorem c46s9eq : vc P E c46s9 σ H Q = vc P E (.seq (.seq (.ops c46r3) c46s4) c46s8) σ H Q := rfl
def c46s10 : SCode := (.block 0 (.loop c46k c46s9))
@[go_sem] theorem c46s10eq : vc P E c46s10 σ H Q = vc P E (.block 0 (.loop c46k c46s9)) σ H Q := rfl
@[go_sem] def c46r11 : List GOp := [(.op none .t (.v (.mv (.s 3)))),
  (.op none (.s 2) (.v (.mv (.t 0))))]
def c46s12 : SCode := (.seq (.ops c46r11) .ret)
@[go_sem] theorem c46s12eq : vc P E c46s12 σ H Q = vc P E (.seq (.ops c46r11) .ret) σ H Q := rfl
def c46s13 : SCode := (.seq (.seq (.ops c46r2) c46s10) c46s12)
@[go_sem] theorem c46s13eq : vc P E c46s13 σ H Q = vc P E (.seq (.seq (.ops c46r2) c46s10) c46s12) σ H Q := rfl
def c46s14 : SCode := (.seq (.ops c46r1) c46s13)
@[go_sem] theorem c46s14eq : vc P E c46s14 σ H Q = vc P E (.seq (.ops c46r1) c46s13) σ H Q := rfl
def c46 : Gx.Fn := ⟨25, c46k, (.seq (.ops c46r0) c46s14), [(.tmp (.s 2))]⟩
theorem c46ok : stripFn Try.prog c46k Try.f46 = some c46 := by kernel_rfl

/- plexusref01.Text -/
@[go_sem] def c47k : List Nat := [0, 1, 4]
@[go_sem] def c47r0 : List GOp := [(.op none (.s 2) (.v (.mv (.c (.slice none 0 0)))))]
@[go_sem] def c47r1 : List GOp := [(.op none .t (.v (.mv (.s 0)))),
  (.op none .t (.v (.mv (.s 1)))),
  (.op none .t (.v (.slen (.t 0)))),
  (.op none .t (.v (.cvi .u64 (.t 0)))),
  (.op none .t (.call 44 [(.t 3), (.t 0)])),
  (.op none .t (.v (.mv (.s 1)))),
  (.op none .t (.ap 36 9 (.t 1) (.t 0))),
  (.op none (.s 2) (.v (.mv (.t 0))))]
def c47s2 : SCode := (.seq (.ops c47r1) .ret)
@[go_sem] theorem c47s2eq : vc P E c47s2 σ H Q = vc P E (.seq (.ops c47r1) .ret) σ H Q := rfl
def c47 : Gx.Fn := ⟨12, c47k, (.seq (.ops c47r0) c47s2), [(.tmp (.s 2))]⟩
theorem c47ok : stripFn Try.prog c47k Try.f47 = some c47 := by kernel_rfl

end Go.Proofs.Ytcilkhjadljaaaa
end
