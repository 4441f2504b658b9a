/- Readings of trees; the example. -/
import Derived.Test.YtbgjgaaobnbijaaDoorPn
import Derived.Test.YtbgjgaaobnbijaaDoorGx14
set_option linter.unusedSimpArgs false
set_option linter.unusedVariables false
set_option maxRecDepth 8000
namespace Go.Proofs.YtbgjgaaobnbijaaDoor
open Gx Go

def OpensF (P : Program) (F : Nat) (t : TypeId) {α : Type} (R : α → List Value → Heap → Prop) : Prop :=
  ∀ {H : Type} {enc : TypeId × Value → H} {W : World} {base : Nat} {sp : Nat → Bool} {held : Bool} {fuel : Nat} {cs : List Value} {x : DataW H × List MemPlace},
    fuel ≤ F → DataW.trod enc P W base sp held fuel t cs = some x → ∃ a, R a cs W.heap
theorem Opens.at {P : Program} {t : TypeId} {α : Type} {R : α → List Value → Heap → Prop} (h : Opens P t R) (F : Nat) : OpensF P F t R := by
  intro H enc W base sp held fuel cs x _ hx
  exact h hx

section
variable {P : Program}
theorem opensF_slice {t e m F : Nat} {α : Type} {R : α → List Value → Heap → Prop} (ht : P.underlying t = some (.slice e)) (hc : P.cellsOf e = m) (hm : 0 < m) (he : OpensF P F e R) : OpensF P (F + 1) t (SlR R m) := by
  intro H enc W base sp held fuel cs x hF h
  rcases DataW.trod_slice ht h with ⟨h0, _⟩ | ⟨a, len, cap, elems, rest, n, hn, rfl, rfl, hb, hl, hmx, hlen, hel, _, _⟩
  · exact ⟨[], none, 0, h0, by simp, by simp [maxLen], .inl rfl⟩
  · have hi : ∀ i, i < len → ∃ y : α, ∃ vs, vs.length = m ∧ (∀ j, j < m → cellAt W.heap (a.add (i * m + j)) = vs[j]?) ∧ R y vs W.heap := by
      intro i hi
      have h1 := hel i hi
      have h2 : elems[i]? = some elems[i] := List.getElem?_eq_getElem (by omega)
      rw [h2, Option.bind_eq_some_iff] at h1
      obtain ⟨vs, hv, hr⟩ := h1
      obtain ⟨h3, h4, h5⟩ := World.cells?_some hv
      obtain ⟨y, hy⟩ := he (by omega) hr
      rw [hc] at h4 h5 hv
      refine ⟨y, vs, h4, fun j hj => ?_, hy⟩
      have := h5 j hj
      rw [← this]
      show _ = cellAt W.heap _
      congr 1
      simp only [Addr.add]
      repeat' split
      all_goals first | rfl | omega | simp_all [Nat.add_assoc]
    obtain ⟨l, hl1, hl2⟩ := list_of (β := Unit) hi
    refine ⟨l, some a, cap, by rw [hl1], by omega, hmx, ?_⟩
    rcases Nat.eq_zero_or_pos l.length with h0 | h0
    · exact .inl (List.eq_nil_of_length_eq_zero h0)
    · have hspot : a.spot = none := by
        obtain ⟨vs, h1, h2, _⟩ := hl2 0 h0
        have h3 := h2 0 hm
        rw [List.getElem?_eq_getElem (by omega)] at h3
        unfold cellAt at h3
        split at h3
        · split at h3
          · cases h3
          · rename_i hs; simpa [Addr.add] using hs
        · cases h3
      obtain ⟨b, o, s⟩ := a
      simp only at hspot
      subst hspot
      refine .inr ⟨b, o, rfl, fun j hj => ?_⟩
      obtain ⟨vs, h1, h2, h3⟩ := hl2 j hj
      refine ⟨vs, h1, fun i hi => ?_, h3⟩
      rw [← h2 i hi, add_mk, cellAt_mk, Nat.add_assoc]

theorem structF_fields {H : Type} {enc : TypeId × Value → H} {W : World} {base : Nat} {sp : Nat → Bool} {held : Bool} {fuel F : Nat} {t : TypeId} {cs : List Value} {x : DataW H × List MemPlace} {fs : Array Field} (ht : P.underlying t = some (.struct fs))
    (hF : fuel ≤ F + 1) (h : DataW.trod enc P W base sp held fuel t cs = some x) : cs.length = P.cellsOf t ∧
      ∀ (i : Nat) (f : Field), fs[i]? = some f → ∀ {α : Type} {R : α → List Value → Heap → Prop} {m : Nat}, P.cellsOf f.type = m → OpensF P F f.type R → ∃ a, R a ((cs.drop f.offset).take m) W.heap := by
  obtain ⟨xs, n, hn, _, hl, hx, hf⟩ := DataW.trod_struct ht h
  refine ⟨hl, fun i f hi α R m hm ho => ?_⟩
  have h1 := hf i f hi
  have hlt : i < xs.length := by
    rw [hx]; exact (Array.getElem?_eq_some_iff.1 hi).1
  rw [List.getElem?_eq_getElem hlt, hm] at h1
  exact ho (by omega) h1
end

theorem Reps.of {H : Heap} {M : List Nat} : ∀ {ds : List Dat} {css : List (List Value)}, css.length = ds.length → (∀ (i : Nat) (h : i < css.length) (h' : i < ds.length), Rep H M ds[i] css[i]) → Reps H M ds css
  | [], [], _, _ => by simp [Reps]
  | d :: ds, c :: css, hl, h => by
    simp only [Reps]
    exact ⟨c, css, rfl, h 0 (by simp) (by simp), Reps.of (by simpa using hl) fun i hi hi' => h (i + 1) (by simpa using hi) (by simpa using hi')⟩
  | [], _ :: _, hl, _ => by simp at hl
  | _ :: _, [], hl, _ => by simp at hl
theorem flat_get {m : Nat} {css : List (List Value)} (h : ∀ x ∈ css, x.length = m) {q r : Nat} (hq : q < css.length) (hr : r < m) : css.flatten[q * m + r]? = css[q][r]? := by
  have h1 := flatten_drop q h
  have h2 : css.flatten[q * m + r]? = (css.flatten.drop (q * m))[r]? := by simp
  rw [h2, h1, List.drop_eq_getElem_cons hq, List.flatten_cons, List.getElem?_append_left (by rw [h _ (List.getElem_mem hq)]; exact hr)]
theorem rep_of_SlR {α : Type} {R : α → List Value → Heap → Prop} {D : α → Dat} {m : Nat} (h0 : 0 < m) {H : Heap} (hR : ∀ x vs, R x vs H → Rep H [] (D x) vs) {l : List α} {cs : List Value} (h : SlR R m l cs H) : Rep H [] (.list m (l.map D)) cs := by
  obtain ⟨a, c, rfl, h1, h2, h3⟩ := h
  simp only [Rep]
  rcases h3 with h3 | ⟨b, o, h4, h5⟩
  · subst h3
    exact ⟨a, c, [], rfl, by simp, h2, by simp [Reps], by simp, .inl rfl⟩
  · have hq : ∀ i, i < l.length → ∃ vs : List Value, vs.length = m ∧ (∀ k, k < m → cellB H b (o + i * m + k) = vs[k]?) ∧ ∀ hi : i < l.length, Rep H [] (D l[i]) vs := fun i hi => by
      obtain ⟨vs, q1, q2, q3⟩ := h5 i hi
      exact ⟨vs, q1, q2, fun _ => hR _ _ q3⟩
    obtain ⟨css, e1, e2⟩ := list_of (β := Unit) hq
    have hm : ∀ x ∈ css, x.length = m := fun x hx => by
      obtain ⟨i, hi, rfl⟩ := List.getElem_of_mem hx
      exact (e2 i hi).1
    refine ⟨a, c, css, by simp, by simpa using h1, h2, Reps.of (by simpa using e1) fun i hi hi' => ?_, hm, .inr ⟨b, o, h4, by simp, fun j hj => ?_⟩⟩
    · rw [List.getElem_map]
      exact (e2 i hi).2.2 (by omega)
    · have hlen : css.flatten.length = css.length * m := flatten_len hm
      have hqj : j / m < css.length := by rw [hlen] at hj; exact (Nat.div_lt_iff_lt_mul h0).2 hj
      have hrj : j % m < m := Nat.mod_lt _ h0
      have e : j = j / m * m + j % m := by rw [Nat.mul_comm, Nat.div_add_mod]
      have h8 := (e2 _ hqj).2.1 _ hrj
      rw [← flat_get hm hqj hrj, ← e, Nat.add_assoc, ← e] at h8
      rw [h8, List.getElem?_eq_getElem hj]


theorem opens_nd_F : ∀ F : Nat, OpensF Tryd.prog F 24 (fun (n : Nd) cs H => Rep H [] n.dat cs) := by
  intro F
  induction F using Nat.strongRecOn with
  | _ F ihF =>
  match F, ihF with
  | 0, _ =>
    intro H enc W base sp held fuel cs x hF h
    obtain rfl : fuel = 0 := by omega
    simp [DataW.trod] at h
  | 1, _ =>
    intro H enc W base sp held fuel cs x hF h
    obtain ⟨xs, n, hn, _, hl, hx, hf⟩ := DataW.trod_struct Tryd.underlying24 h
    obtain rfl : n = 0 := by omega
    have := hf 0 _ rfl
    have hx0 : 0 < xs.length := by rw [hx]; decide
    rw [List.getElem?_eq_getElem hx0] at this
    simp [DataW.trod] at this
  | F + 2, ihF =>
    have ih : OpensF Tryd.prog F 24 (fun (n : Nd) cs H => Rep H [] n.dat cs) := ihF F (by omega)
    intro H enc W base sp held fuel cs x hF h
    obtain ⟨hl, hf⟩ := structF_fields (F := F + 1) Tryd.underlying24 hF h
    have hc : Tryd.prog.cellsOf 24 = 5 := by kernel_rfl
    rw [hc] at hl
    obtain ⟨k, hk⟩ := hf 0 _ rfl (m := 1) (by kernel_rfl) (Opens.at (opens_int (k := .i64) Tryd.underlying3) _)
    obtain ⟨t, ht⟩ := hf 1 _ rfl (m := 1) (by kernel_rfl) (Opens.at (opens_str Tryd.underlying9) _)
    obtain ⟨n, hn⟩ := hf 2 _ rfl (m := 1) (by kernel_rfl) (Opens.at (opens_int (k := .i64) Tryd.underlying2) _)
    obtain ⟨a, ha⟩ := hf 3 _ rfl (m := 1) (by kernel_rfl) (Opens.at (opens_int (k := .i64) Tryd.underlying3) _)
    obtain ⟨ks, hks⟩ := hf 4 _ rfl (m := 1) (by kernel_rfl) (opensF_slice (R := fun (n : Nd) cs H => Rep H [] n.dat cs) (m := 5) Tryd.underlying22 (by kernel_rfl) (by decide) ih)
    match cs, hl with
    | [v0, v1, v2, v3, v4], _ =>
      obtain ⟨e0, _⟩ := hk
      obtain ⟨e1, _⟩ := ht
      obtain ⟨e2, _⟩ := hn
      obtain ⟨e3, _⟩ := ha
      change [v0] = _ at e0
      change [v1] = _ at e1
      change [v2] = _ at e2
      change [v3] = _ at e3
      cases e0; cases e1; cases e2; cases e3
      change SlR _ 5 ks [v4] _ at hks
      exact ⟨.mk k t n a ks, nd_rep.2 ⟨v4, rfl, rep_of_SlR (D := Nd.dat) (by decide) (fun x vs hx => hx) hks⟩⟩
theorem opens_nd : Opens Tryd.prog 24 (fun (n : Nd) cs H => Rep H [] n.dat cs) := by
  intro H enc W base sp held fuel cs x h
  exact opens_nd_F fuel (Nat.le_refl _) h

def exT : Nd := .mk 40 [] 0 6 [.mk 41 [] 0 2 [.mk 48 [97] 0 0 [], .mk 44 [] 1 4 []], .mk 49 [] 0 8 []]
theorem ex_ok : srcP (exprP (loK 64)) [97, 32, 45, 32, 49, 32, 43, 32, 115] = .ok exT := by rfl
theorem awake_ok {H : Heap} (hG : GlobH H) : HCalls Tryd.prog 10 #[] H fun v H' => v = .bool true ∧ Fr [] H H' := by
  refine calls_of_vc (args := []) Tryd.func10 c10ok (Nat.le_of_ble_eq_true rfl) ?_
  have L := L0 H
  have hx := pexpr_ok [97, 32, 45, 32, 49, 32, 43, 32, 115] (by decide) hG
  rw [ex_ok] at hx
  unfold sv at hx
  simp (implicitDefEqProofs := false) only [go_sem, c10]
  refine hx.mono ?_
  rintro v H1 ⟨⟨cs, rfl, hr⟩, hf⟩
  have L := L.ext hf
  unfold exT at hr
  obtain ⟨kv, rfl, hkv⟩ := RepP.nd_open hr
  simp (implicitDefEqProofs := false) only [go_sem]
  have L := L.add ((L0 H).built hkv)
  refine L.newP fun b1 H2 L => ?_
  simp (implicitDefEqProofs := false) only [go_sem]
  refine L.newP fun b2 H3 L => ?_
  simp (implicitDefEqProofs := false) only [go_sem]
  refine L.stoAll 1 rfl rfl (one_agg (t := []) (nd_one hkv)) fun H4 L => ?_
  simp only [List.set_cons_zero, List.set_cons_succ, List.set_nil, List.eraseIdx_cons_zero, List.eraseIdx_cons_succ] at L
  simp (implicitDefEqProofs := false) only [go_sem]
  refine L.stoAll 0 rfl rfl (by simp [Value.oneCell']) fun H5 L => ?_
  simp only [List.set_cons_zero, List.set_cons_succ, List.set_nil, List.eraseIdx_cons_zero, List.eraseIdx_cons_succ] at L
  have hr5 := (L.dat _ (List.mem_cons_self)).rep
  obtain ⟨aa, cc, rfl, _, _⟩ := kids_len hr5
  obtain ⟨b, o, c, k, t, n, a, kks, kv1, e1, e2, ⟨q0, q1, q2, q3, q4⟩, hr⟩ := kid_at hr5 0 (by decide)
  cases e1
  simp only [List.getElem_cons_zero, Nd.mk.injEq] at e2
  obtain ⟨rfl, rfl, rfl, rfl, rfl⟩ := e2
  have c0 := L.cell 0 rfl
  have c1 := L.cell 1 rfl
  simp only [Nat.zero_mul, Nat.add_zero] at q0
  have hs := size_ok _ exT (Nat.le_refl _) (H := H5) (NA.mk hr5)
  have e5 : IntKind.i64.wrap (sizeN exT) = 5 := by rfl
  rw [e5] at hs
  unfold sv at *
  simp (implicitDefEqProofs := false) only [go_sem, c0, c1, q0, List.length_cons, List.length_nil]
  refine hs.mono ?_
  rintro v H6 ⟨rfl, hf6⟩
  simp (implicitDefEqProofs := false) only [go_sem]
  exact L.fr.trans hf6
end Go.Proofs.YtbgjgaaobnbijaaDoor
