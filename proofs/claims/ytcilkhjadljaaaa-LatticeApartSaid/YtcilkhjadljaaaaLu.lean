/- Readings of a type that holds itself; and what they say of a description. -/
import Derived.Test.YtcilkhjadljaaaaLj
import Derived.Test.YtcilkhjadljaaaaGx14
set_option linter.unusedSimpArgs false
set_option linter.unusedVariables false
set_option maxRecDepth 8000
namespace Go.Proofs.Ytcilkhjadljaaaa
open Gx Go

def OpensF (P : Program) (F : Nat) (t : TypeId) {α : Type} (R : α → List Value → Heap → Prop) : Prop :=
  ∀ {H : Type} {enc : TypeId × Value → H} {W : World} {base : Nat} {sp : Nat → Bool} {held : Bool} {fuel : Nat} {cs : List Value} {x : DataW H × List MemPlace},
    fuel ≤ F → DataW.trod enc P W base sp held fuel t cs = some x → ∃ a, R a cs W.heap
theorem Opens.at {P : Program} {t : TypeId} {α : Type} {R : α → List Value → Heap → Prop} (h : Opens P t R) (F : Nat) : OpensF P F t R := by
  intro H enc W base sp held fuel cs x _ hx
  exact h hx

section
variable {P : Program}
theorem opensF_slice {t e m F : Nat} {α : Type} {R : α → List Value → Heap → Prop} (ht : P.underlying t = some (.slice e)) (hc : P.cellsOf e = m) (hm : 0 < m) (he : OpensF P F e R) : OpensF P (F + 1) t (SlR R m) := by
  intro H enc W base sp held fuel cs x hF h
  rcases DataW.trod_slice ht h with ⟨h0, _⟩ | ⟨a, len, cap, elems, rest, n, hn, rfl, rfl, hb, hl, hmx, hlen, hel, _, _⟩
  · exact ⟨[], none, 0, h0, by simp, by simp [maxLen], .inl rfl⟩
  · have hi : ∀ i, i < len → ∃ y : α, ∃ vs, vs.length = m ∧ (∀ j, j < m → cellAt W.heap (a.add (i * m + j)) = vs[j]?) ∧ R y vs W.heap := by
      intro i hi
      have h1 := hel i hi
      have h2 : elems[i]? = some elems[i] := List.getElem?_eq_getElem (by omega)
      rw [h2, Option.bind_eq_some_iff] at h1
      obtain ⟨vs, hv, hr⟩ := h1
      obtain ⟨h3, h4, h5⟩ := World.cells?_some hv
      obtain ⟨y, hy⟩ := he (by omega) hr
      rw [hc] at h4 h5 hv
      refine ⟨y, vs, h4, fun j hj => ?_, hy⟩
      have := h5 j hj
      rw [← this]
      show _ = cellAt W.heap _
      congr 1
      simp only [Addr.add]
      repeat' split
      all_goals first | rfl | omega | simp_all [Nat.add_assoc]
    obtain ⟨l, hl1, hl2⟩ := list_of (β := Unit) hi
    refine ⟨l, some a, cap, by rw [hl1], by omega, hmx, ?_⟩
    rcases Nat.eq_zero_or_pos l.length with h0 | h0
    · exact .inl (List.eq_nil_of_length_eq_zero h0)
    · have hspot : a.spot = none := by
        obtain ⟨vs, h1, h2, _⟩ := hl2 0 h0
        have h3 := h2 0 hm
        rw [List.getElem?_eq_getElem (by omega)] at h3
        unfold cellAt at h3
        split at h3
        · split at h3
          · cases h3
          · rename_i hs; simpa [Addr.add] using hs
        · cases h3
      obtain ⟨b, o, s⟩ := a
      simp only at hspot
      subst hspot
      refine .inr ⟨b, o, rfl, fun j hj => ?_⟩
      obtain ⟨vs, h1, h2, h3⟩ := hl2 j hj
      refine ⟨vs, h1, fun i hi => ?_, h3⟩
      rw [← h2 i hi, add_mk, cellAt_mk, Nat.add_assoc]

theorem structF_fields {H : Type} {enc : TypeId × Value → H} {W : World} {base : Nat} {sp : Nat → Bool} {held : Bool} {fuel F : Nat} {t : TypeId} {cs : List Value} {x : DataW H × List MemPlace} {fs : Array Field} (ht : P.underlying t = some (.struct fs))
    (hF : fuel ≤ F + 1) (h : DataW.trod enc P W base sp held fuel t cs = some x) : cs.length = P.cellsOf t ∧
      ∀ (i : Nat) (f : Field), fs[i]? = some f → ∀ {α : Type} {R : α → List Value → Heap → Prop} {m : Nat}, P.cellsOf f.type = m → OpensF P F f.type R → ∃ a, R a ((cs.drop f.offset).take m) W.heap := by
  obtain ⟨xs, n, hn, _, hl, hx, hf⟩ := DataW.trod_struct ht h
  refine ⟨hl, fun i f hi α R m hm ho => ?_⟩
  have h1 := hf i f hi
  have hlt : i < xs.length := by
    rw [hx]; exact (Array.getElem?_eq_some_iff.1 hi).1
  rw [List.getElem?_eq_getElem hlt, hm] at h1
  exact ho (by omega) h1
end

theorem Reps.of {H : Heap} {M : List Nat} : ∀ {ds : List Dat} {css : List (List Value)}, css.length = ds.length → (∀ (i : Nat) (h : i < css.length) (h' : i < ds.length), Rep H M ds[i] css[i]) → Reps H M ds css
  | [], [], _, _ => by simp [Reps]
  | d :: ds, c :: css, hl, h => by
    simp only [Reps]
    exact ⟨c, css, rfl, h 0 (by simp) (by simp), Reps.of (by simpa using hl) fun i hi hi' => h (i + 1) (by simpa using hi) (by simpa using hi')⟩
  | [], _ :: _, hl, _ => by simp at hl
  | _ :: _, [], hl, _ => by simp at hl
theorem flat_get {m : Nat} {css : List (List Value)} (h : ∀ x ∈ css, x.length = m) {q r : Nat} (hq : q < css.length) (hr : r < m) : css.flatten[q * m + r]? = css[q][r]? := by
  have h1 := flatten_drop q h
  have h2 : css.flatten[q * m + r]? = (css.flatten.drop (q * m))[r]? := by simp
  rw [h2, h1, List.drop_eq_getElem_cons hq, List.flatten_cons, List.getElem?_append_left (by rw [h _ (List.getElem_mem hq)]; exact hr)]
theorem rep_of_SlR {α : Type} {R : α → List Value → Heap → Prop} {D : α → Dat} {m : Nat} (h0 : 0 < m) {H : Heap} (hR : ∀ x vs, R x vs H → Rep H [] (D x) vs) {l : List α} {cs : List Value} (h : SlR R m l cs H) : Rep H [] (.list m (l.map D)) cs := by
  obtain ⟨a, c, rfl, h1, h2, h3⟩ := h
  simp only [Rep]
  rcases h3 with h3 | ⟨b, o, h4, h5⟩
  · subst h3
    exact ⟨a, c, [], rfl, by simp, h2, by simp [Reps], by simp, .inl rfl⟩
  · have hq : ∀ i, i < l.length → ∃ vs : List Value, vs.length = m ∧ (∀ k, k < m → cellB H b (o + i * m + k) = vs[k]?) ∧ ∀ hi : i < l.length, Rep H [] (D l[i]) vs := fun i hi => by
      obtain ⟨vs, q1, q2, q3⟩ := h5 i hi
      exact ⟨vs, q1, q2, fun _ => hR _ _ q3⟩
    obtain ⟨css, e1, e2⟩ := list_of (β := Unit) hq
    have hm : ∀ x ∈ css, x.length = m := fun x hx => by
      obtain ⟨i, hi, rfl⟩ := List.getElem_of_mem hx
      exact (e2 i hi).1
    refine ⟨a, c, css, by simp, by simpa using h1, h2, Reps.of (by simpa using e1) fun i hi hi' => ?_, hm, .inr ⟨b, o, h4, by simp, fun j hj => ?_⟩⟩
    · rw [List.getElem_map]
      exact (e2 i hi).2.2 (by omega)
    · have hlen : css.flatten.length = css.length * m := flatten_len hm
      have hqj : j / m < css.length := by rw [hlen] at hj; exact (Nat.div_lt_iff_lt_mul h0).2 hj
      have hrj : j % m < m := Nat.mod_lt _ h0
      have e : j = j / m * m + j % m := by rw [Nat.mul_comm, Nat.div_add_mod]
      have h8 := (e2 _ hqj).2.1 _ hrj
      rw [← flat_get hm hqj hrj, ← e, Nat.add_assoc, ← e] at h8
      rw [h8, List.getElem?_eq_getElem hj]

def RlR (r : Rl) (cs : List Value) (H : Heap) : Prop := Rep H [] (ruleD r) cs
def LtR (l : Lt) (cs : List Value) (H : Heap) : Prop := LtA H [] l cs ∧ (-2^63 ≤ l.kind ∧ l.kind < 2^63)

theorem strs_of {l : List Bs} {cs : List Value} {H : Heap} (h : SlR StrR 1 l cs H) : Rep H [] (strsD l) cs :=
  rep_of_SlR (D := strD) (by decide) (fun x vs hx => by rw [hx.1]; exact rep_v' _) h
theorem opens_rule : Opens Try.prog 50 RlR := by
  intro H enc W base sp held fuel cs x h
  obtain ⟨hl, hf⟩ := struct_fields Try.underlying50 h
  have hc : Try.prog.cellsOf 50 = 2 := by kernel_rfl
  rw [hc] at hl
  obtain ⟨ns, hn⟩ := hf 0 _ rfl (m := 1) (by kernel_rfl) (opens_slice (m := 1) Try.underlying22 (by kernel_rfl) (by decide) (opens_str Try.underlying9))
  obtain ⟨s, hs⟩ := hf 1 _ rfl (m := 1) (by kernel_rfl) (opens_str Try.underlying9)
  match cs, hl with
  | [v0, v1], _ =>
    change SlR StrR 1 ns [v0] _ at hn
    obtain ⟨e1, _⟩ := hs
    change [v1] = _ at e1
    cases e1
    exact ⟨⟨ns, s⟩, RlA.mk (r := ⟨ns, s⟩) (strs_of hn)⟩
theorem opens_rules : Opens Try.prog 24 (SlR RlR 2) := opens_slice Try.underlying24 (by kernel_rfl) (by decide) opens_rule
theorem opens_lat_F : ∀ F : Nat, OpensF Try.prog F 26 (fun (l : Lt) cs H => LtA H [] l cs) := by
  intro F
  induction F using Nat.strongRecOn with
  | _ F ihF =>
  match F, ihF with
  | 0, _ =>
    intro H enc W base sp held fuel cs x hF h
    obtain rfl : fuel = 0 := by omega
    simp [DataW.trod] at h
  | 1, _ =>
    intro H enc W base sp held fuel cs x hF h
    obtain ⟨xs, n, hn, _, hl, hx, hf⟩ := DataW.trod_struct Try.underlying26 h
    obtain rfl : n = 0 := by omega
    have := hf 0 _ rfl
    have hx0 : 0 < xs.length := by rw [hx]; decide
    rw [List.getElem?_eq_getElem hx0] at this
    simp [DataW.trod] at this
  | F + 2, ihF =>
    have ih : OpensF Try.prog F 26 (fun (l : Lt) cs H => LtA H [] l cs) := ihF F (by omega)
    intro H enc W base sp held fuel cs x hF h
    obtain ⟨hl, hf⟩ := structF_fields (F := F + 1) Try.underlying26 hF h
    have hc : Try.prog.cellsOf 26 = 6 := by kernel_rfl
    rw [hc] at hl
    obtain ⟨k, hk⟩ := hf 0 _ rfl (m := 1) (by kernel_rfl) (Opens.at (opens_int (k := .i64) Try.underlying3) _)
    obtain ⟨lo, hlo⟩ := hf 1 _ rfl (m := 1) (by kernel_rfl) (Opens.at (opens_int (k := .i64) Try.underlying2) _)
    obtain ⟨hi, hhi⟩ := hf 2 _ rfl (m := 1) (by kernel_rfl) (Opens.at (opens_int (k := .i64) Try.underlying2) _)
    obtain ⟨ns, hns⟩ := hf 3 _ rfl (m := 1) (by kernel_rfl) (Opens.at (opens_slice (m := 1) Try.underlying22 (by kernel_rfl) (by decide) (opens_str Try.underlying9)) _)
    obtain ⟨ps, hps⟩ := hf 4 _ rfl (m := 1) (by kernel_rfl) (opensF_slice (R := fun (l : Lt) cs H => LtA H [] l cs) (m := 6) Try.underlying23 (by kernel_rfl) (by decide) ih)
    obtain ⟨rs, hrs⟩ := hf 5 _ rfl (m := 1) (by kernel_rfl) (Opens.at opens_rules _)
    match cs, hl with
    | [v0, v1, v2, v3, v4, v5], _ =>
      obtain ⟨e0, _⟩ := hk
      obtain ⟨e1, _⟩ := hlo
      obtain ⟨e2, _⟩ := hhi
      change [v0] = _ at e0
      change [v1] = _ at e1
      change [v2] = _ at e2
      cases e0; cases e1; cases e2
      change SlR StrR 1 ns [v3] _ at hns
      change SlR _ 6 ps [v4] _ at hps
      change SlR RlR 2 rs [v5] _ at hrs
      exact ⟨.mk k lo hi ns ps rs, LtA.mk (l := .mk k lo hi ns ps rs) (strs_of hns) (rep_of_SlR (D := Lt.dat) (by decide) (fun x vs hx => hx) hps) (rep_of_SlR (D := ruleD) (by decide) (fun x vs hx => hx) hrs)⟩
theorem opens_lat : Opens Try.prog 26 (fun (l : Lt) cs H => LtA H [] l cs) := by
  intro H enc W base sp held fuel cs x h
  exact opens_lat_F fuel (Nat.le_refl _) h

end Go.Proofs.Ytcilkhjadljaaaa
