/- Pure operations: the soundness theorem. -/
import Derived.Test.YtbgjgaaobnbijaaDoorGx3
namespace Gx
open Go

section
variable {P : Program}

theorem foldl_set (cs : List Value) : ∀ (off j : Nat) (cells : List Value), off + j + cs.length ≤ cells.length →
    ((cs.zipIdx j).foldl (fun (acc : Array Value) (x : Value × Nat) => acc.setIfInBounds (off + x.2) x.1) cells.toArray).toList = cells.take (off + j) ++ cs ++ cells.drop (off + j + cs.length) := by
  induction cs with
  | nil => intro off j cells _; simp
  | cons c cs ih =>
    intro off j cells h
    simp only [List.length_cons] at h
    simp only [List.zipIdx_cons, List.foldl_cons, List.setIfInBounds_toArray]
    rw [ih off (j + 1) (cells.set (off + j) c) (by simp; omega)]
    have e1 : off + (j + 1) = off + j + 1 := by omega
    rw [e1]
    have e2 : (cells.set (off + j) c).take (off + j + 1) = cells.take (off + j) ++ [c] := by
      rw [List.take_add_one, List.take_set_of_le (Nat.le_refl _)]
      simp [show off + j < cells.length by omega]
    have e3 : (cells.set (off + j) c).drop (off + j + 1 + cs.length) = cells.drop (off + j + (cs.length + 1)) := by
      rw [List.drop_set_of_lt (by omega)]; congr 1; omega
    rw [e2, e3]
    simp

theorem fill_ok (place : Nat → Option (Nat × Nat)) : ∀ (ps : List (Nat × Value)) (qs : List (Nat × Nat × Value)) (cells out : List Value),
    qs.length = ps.length → (∀ (j i : Nat) (v : Value), ps[j]? = some (i, v) → ∃ o s, place i = some (o, s) ∧ qs[j]? = some (o, s, v)) →
    fillV cells qs = some out → Instr.fill place cells.toArray ps = some out.toArray
  | [], [], cells, out, _, _, h => by simp [fillV] at h; simp [Instr.fill, h]
  | [], q :: qs, _, _, hl, _, _ => by simp at hl
  | p :: ps, [], _, _, hl, _, _ => by simp at hl
  | (i, v) :: ps, q :: qs, cells, out, hl, hp, h => by
    obtain ⟨o, s, h1, h2⟩ := hp 0 i v rfl
    simp at h2; subst h2
    have ih := fun cells' => fill_ok place ps qs cells' out (by simpa using hl) (fun j i v hj => by simpa using hp (j + 1) i v (by simpa using hj))
    simp only [Instr.fill, h1]
    have key : ∀ cells', fillV cells' qs = some out → (v.cells.size = s ∧ o + v.cells.size ≤ cells.length) →
        cells' = cells.take o ++ v.cells.toList ++ cells.drop (o + v.cells.size) →
        (if v.cells.size ≠ s || o + v.cells.size > cells.toArray.size then none else Instr.fill place (v.cells.zipIdx.foldl (fun cs (c, j) => cs.setIfInBounds (o + j) c) cells.toArray) ps) = some out.toArray := by
      intro cells' hf ⟨hs, hb⟩ he
      rw [if_neg (by simp [hs]; rw [hs] at hb; omega)]
      have e := foldl_set v.cells.toList o 0 cells (by simpa using hb)
      have e' : (v.cells.zipIdx.foldl (fun (cs : Array Value) (x : Value × Nat) => cs.setIfInBounds (o + x.2) x.1) cells.toArray) = cells'.toArray := by
        apply Array.toList_inj.1
        rw [← Array.foldl_toList]
        simp only [Array.toList_zipIdx]
        rw [e, he]
        simp
      have := ih cells' hf
      rw [← e'] at this
      exact this
    unfold fillV at h
    split at h
    · rename_i cs
      split at h
      · rename_i hc
        exact key _ h ⟨hc.1, by simp [Value.cells]; omega⟩ (by simp [Value.cells, hc.1])
      · simp at h
    · rename_i hv
      split at h
      · rename_i hc
        have hcell : v.cells = #[v] := by cases v <;> first | rfl | (exfalso; exact hv _ rfl)
        refine key _ h ⟨by rw [hcell]; simp [hc.1], by rw [hcell]; simp; omega⟩ ?_
        rw [hcell, List.set_eq_take_append_cons_drop, if_pos hc.2]
        simp
      · simp at h


theorem run_places : ∀ (fields : List Field) (w : World), fields.all (fun f => (sizeOfB P f.type).isSome) = true →
    ((fields.mapM fun f => do pure (f.offset, ← Go.sizeOf f.type)) : Sem (List (Nat × Nat))).run P w = .ok (fields.map fun f => (f.offset, (sizeOfB P f.type).getD 0)) w
  | [], w, _ => by simp
  | f :: fs, w, h => by
    simp only [List.all_cons, Bool.and_eq_true] at h
    obtain ⟨s, hs⟩ := Option.isSome_iff_exists.1 h.1
    simp only [List.mapM_cons, Sem.run_bind, run_size hs, Result.andThen_ok, Sem.run_pure, run_places fs w h.2, List.map_cons, hs, Option.getD_some]

theorem partOffs_spec {fields : List Field} : ∀ {parts : List (Nat × Operand)} {ps : List (Nat × Nat × Operand)}, partOffs P fields parts = some ps →
    ps.length = parts.length ∧ ∀ (j i : Nat) (x : Operand), parts[j]? = some (i, x) → ∃ f s, fields[i]? = some f ∧ sizeOfB P f.type = some s ∧ ps[j]? = some (f.offset, s, x)
  | [], ps, h => by simp [partOffs] at h; subst h; exact ⟨rfl, fun j i x hj => by simp at hj⟩
  | (i, x) :: r, ps, h => by
    simp only [partOffs] at h
    split at h
    · simp at h
    · rename_i f hf
      split at h
      · rename_i s ps' h1 h2
        simp at h; subst h
        obtain ⟨hl, ih⟩ := partOffs_spec h2
        refine ⟨by simp [hl], fun j i' x' hj => ?_⟩
        cases j with
        | zero => simp at hj; obtain ⟨rfl, rfl⟩ := hj; exact ⟨f, s, hf, h1, rfl⟩
        | succ j => simpa using ih j i' x' (by simpa using hj)
      · simp at h

theorem parts_spec {ev : Operand → Option Value} : ∀ {ps : List (Nat × Nat × Operand)} {qs : List (Nat × Nat × Value)}, partsE ev ps = some qs →
    qs.length = ps.length ∧ ∀ (j o s : Nat) (x : Operand), ps[j]? = some (o, s, x) → ∃ v, ev x = some v ∧ qs[j]? = some (o, s, v)
  | [], qs, h => by simp [partsE] at h; subst h; exact ⟨rfl, fun j o s x hj => by simp at hj⟩
  | (o, s, x) :: r, qs, h => by
    simp only [partsE] at h
    split at h
    · rename_i v vs h1 h2
      simp at h; subst h
      obtain ⟨hl, ih⟩ := parts_spec h2
      refine ⟨by simp [hl], fun j o' s' x' hj => ?_⟩
      cases j with
      | zero => simp at hj; obtain ⟨rfl, rfl, rfl⟩ := hj; exact ⟨v, h1, rfl⟩
      | succ j => simpa using ih j o' s' x' (by simpa using hj)
    · simp at h

theorem run_build_ok {t : TypeId} {fields : Array Field} {z : Value} (ht : P.underlying t = some (.struct fields)) (hz : zeroOf P t = some z) {parts : Array (Nat × Operand)} {ps : List (Nat × Nat × Operand)}
    (hall : fields.toList.all (fun f => (sizeOfB P f.type).isSome) = true) (hps : partOffs P fields.toList parts.toList = some ps) {ev : Operand → Option Value} {a : Act} (hf : Agree ev a)
    {qs : List (Nat × Nat × Value)} (hq : partsE ev ps = some qs) {out : List Value} (ho : fillV z.cells.toList qs = some out) (w : World) :
    (Instr.build t (parts.map fun (i, x) => (i, a.eval x))).run P w = .ok (.agg out.toArray) w := by
  have hz' : (zeroValue t).run P w = .ok z w := by
    simp only [zeroOf, Option.bind_eq_some_iff] at hz
    obtain ⟨i, hi, hz⟩ := hz
    simp [zeroValue, run_info hi, hz]
  obtain ⟨hl1, h1⟩ := partOffs_spec hps
  obtain ⟨hl2, h2⟩ := parts_spec hq
  have hfill := fill_ok (fun i => (fields.toList.map fun f => (f.offset, (sizeOfB P f.type).getD 0))[i]?) (parts.toList.map fun (i, x) => (i, a.eval x)) qs z.cells.toList out (by simp [hl1, hl2])
    (fun j i v hj => by
      simp only [List.getElem?_map, Option.map_eq_some_iff, Prod.mk.injEq] at hj
      obtain ⟨⟨i', x⟩, hp, rfl, rfl⟩ := hj
      obtain ⟨f, s, hf1, hf2, hf3⟩ := h1 j i' x hp
      obtain ⟨v, hv1, hv2⟩ := h2 j _ _ _ hf3
      refine ⟨f.offset, s, ?_, ?_⟩
      · simp; exact ⟨f, by simpa using hf1, rfl, by simp [hf2]⟩
      · rw [hv2]; simp [hf.ev hv1]) ho
  simp only [Instr.build, Sem.run_bind, hz', Result.andThen_ok, run_underlying ht, Array.mapM_eq_mapM_toList, Sem.run_map, run_places _ _ hall]
  simp only [Array.toList_map, List.getElem?_toArray, Array.toArray_toList] at hfill ⊢
  rw [hfill]
  rfl

theorem arrOffs_spec {size : Nat} : ∀ {parts : List (Nat × Operand)}, (arrOffs size parts).length = parts.length ∧ ∀ (j i : Nat) (x : Operand), parts[j]? = some (i, x) → (arrOffs size parts)[j]? = some (i * size, size, x)
  | [] => ⟨rfl, fun j i x hj => by simp at hj⟩
  | (i, x) :: r => by
    obtain ⟨hl, ih⟩ := arrOffs_spec (size := size) (parts := r)
    refine ⟨by simp [arrOffs, hl], fun j i' x' hj => ?_⟩
    cases j with
    | zero => simp at hj; obtain ⟨rfl, rfl⟩ := hj; rfl
    | succ j => simpa [arrOffs] using ih j i' x' (by simpa using hj)
theorem run_build_arr {t n e s : Nat} {z : Value} (ht : P.underlying t = some (.array n e)) (hz : zeroOf P t = some z) {parts : Array (Nat × Operand)} (hs : sizeOfB P e = some s) {ev : Operand → Option Value} {a : Act} (hf : Agree ev a)
    {qs : List (Nat × Nat × Value)} (hq : partsE ev (arrOffs s parts.toList) = some qs) {out : List Value} (ho : fillV z.cells.toList qs = some out) (w : World) :
    (Instr.build t (parts.map fun (i, x) => (i, a.eval x))).run P w = .ok (.agg out.toArray) w := by
  have hz' : (zeroValue t).run P w = .ok z w := by
    simp only [zeroOf, Option.bind_eq_some_iff] at hz
    obtain ⟨i, hi, hz⟩ := hz
    simp [zeroValue, run_info hi, hz]
  obtain ⟨hl1, h1⟩ := arrOffs_spec (size := s) (parts := parts.toList)
  obtain ⟨hl2, h2⟩ := parts_spec hq
  have hfill := fill_ok (fun i => some (i * s, s)) (parts.toList.map fun (i, x) => (i, a.eval x)) qs z.cells.toList out (by simp [hl1, hl2])
    (fun j i v hj => by
      simp only [List.getElem?_map, Option.map_eq_some_iff, Prod.mk.injEq] at hj
      obtain ⟨⟨i', x⟩, hp, rfl, rfl⟩ := hj
      obtain ⟨v, hv1, hv2⟩ := h2 j _ _ _ (h1 j i' x hp)
      refine ⟨i' * s, s, rfl, ?_⟩
      rw [hv2]; simp [hf.ev hv1]) ho
  simp only [Instr.build, Sem.run_bind, hz', Result.andThen_ok, run_underlying ht, run_size hs]
  simp only [Array.toList_map, Array.toArray_toList] at hfill ⊢
  rw [hfill]
  rfl

end
end Gx
