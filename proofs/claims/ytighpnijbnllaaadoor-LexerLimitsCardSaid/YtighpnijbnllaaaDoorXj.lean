/- Text: contract of the program. -/
import Derived.Test.YtighpnijbnllaaaDoorXi
set_option linter.unusedSimpArgs false
set_option linter.unusedVariables false
set_option maxRecDepth 8000
namespace Go.Proofs.YtighpnijbnllaaaDoor
open Gx Go

theorem b4_1 : (true != true) = false := rfl
theorem b4_2 : (true != false) = true := rfl
theorem b4_3 : (false != true) = true := rfl
theorem b4_4 : (false != false) = false := rfl
theorem ESt : ElemOk Tryd.prog 45 9 1 16 (.string ⟨⟨[]⟩⟩) := ⟨Tryd.underlying45, by kernel_rfl, rfl, by decide⟩

theorem flat_strC (l : List Bs) : l.flatMap strC = l.map sv := by
  induction l with
  | nil => rfl
  | cons x l ih => simp [strC, ih]
theorem join_ok {H : Heap} {a : Option Addr} {l : List Bs} {c : Nat} (sep : Bs) (h : RowR strC H a l) (hc : l.length ≤ c) (hN : l.length ≤ 140737488355328) (hlen : (Lib.join l sep).length ≤ 140737488355328) :
    HCalls Tryd.prog 39 #[.slice a l.length c, sv sep] H fun r H' => r = sv (Lib.join l sep) ∧ Fr [] H H' := by
  refine hcalls_below (R := fun r => r = sv (Lib.join l sep)) fun W hW => ?_
  cases l with
  | nil =>
    refine (Tryd.strings_Join_none a c ⟨⟨sep⟩⟩ W).mono fun e w' ⟨he, hw⟩ => ?_
    subst hw
    exact ⟨_, he, rfl, RowKit.Below.refl _ _⟩
  | cons x r =>
    have hx : ((x :: r).map fun s => (⟨⟨s⟩⟩ : ByteArray)).map (·.data.toList) = x :: r := by simp [Function.comp_def]
    obtain ⟨b, o, rfl, h0⟩ := rowS_at h 0 (by simp)
    have hcells : ∀ (j : Nat) y, ((x :: r).map fun s => (⟨⟨s⟩⟩ : ByteArray))[j]? = some y → W.cell? ⟨b, o + j, none⟩ = some (.string y) := by
      intro j y hy
      have hj : j < (x :: r).length := by
        rcases Nat.lt_or_ge j (x :: r).length with q | q
        · exact q
        · rw [List.getElem?_eq_none (by simpa using q)] at hy; cases hy
      obtain ⟨b', o', e', h1⟩ := rowS_at h j hj
      simp only [Option.some.injEq, Addr.mk.injEq, and_true] at e'
      obtain ⟨rfl, rfl⟩ := e'
      rw [cell?_eq, hW]
      refine (cellAt_mk H b (o + j)).trans (h1.trans ?_)
      simp only [List.getElem?_map, List.getElem?_eq_getElem hj, Option.map_some, Option.some.injEq] at hy
      rw [← hy]
    have hb : b < W.heap.size := by rw [hW]; exact cellB_lt h0
    have hcall := Tryd.strings_Join b o c ((x :: r).map fun s => (⟨⟨s⟩⟩ : ByteArray)) ⟨⟨sep⟩⟩ W hcells hb (by simpa using hN) (by simpa using hc) (by rw [hx]; exact hlen)
    rw [hx, List.length_map] at hcall
    refine hcall.mono fun e w' ⟨he, hw⟩ => ?_
    exact ⟨_, he, rfl, hw⟩

/-! ### lengths -/
theorem nDigits_le : ∀ (k u : Nat), u < 10 ^ (k + 1) → Lib.nDigits u ≤ k + 1
  | 0, u, h => by rw [Lib.nDigits_small (by simpa using h)]; exact Nat.le_refl _
  | k + 1, u, h => by
    by_cases hu : u < 10
    · rw [Lib.nDigits_small hu]; omega
    · rw [Lib.nDigits_big hu]
      have := nDigits_le k (u / 10) (by rw [Nat.pow_succ] at h; omega)
      omega
theorem itoa_len {n : Int} (h0 : 0 ≤ n) (h1 : n ≤ 1000000000000000) : (Lib.itoa n).length ≤ 16 := by
  unfold Lib.itoa
  rw [if_neg (by omega), Lib.decDigits_eq, List.length_map, List.length_range]
  refine nDigits_le 15 n.toNat ?_
  have : n.toNat ≤ 1000000000000000 := by omega
  exact Nat.lt_of_le_of_lt this (by decide)
theorem kw_len {s : Bs} (h : kwB s = true) : s.length ≤ 8 := by
  unfold kwB at h
  rw [decide_eq_true_eq] at h
  have : ∀ g ∈ kwList, g.length ≤ 8 := by decide
  exact this s h
theorem sign_len {s : Bs} (h : signB s = true) : s.length ≤ 2 := by
  unfold signB at h
  rw [decide_eq_true_eq] at h
  have : ∀ g ∈ signList, g.length ≤ 2 := by decide
  exact this s h
theorem valid_len {s : Bs} (h : validN s = true) : s.length ≤ 16 := by
  unfold validN at h
  simp only [Bool.and_eq_true, decide_eq_true_eq] at h
  exact h.2.1
theorem spT_len {t : Tk} (h : poB t = true) : (spT t).length ≤ 18 := by
  unfold poB at h
  rw [Bool.and_eq_true] at h
  have h := h.2
  unfold spT
  split at h
  · rename_i k
    rw [Bool.and_eq_true] at h
    rw [if_neg (by omega), if_neg (by omega), if_neg (by omega)]
    have := valid_len h.1; omega
  · split at h
    · rw [if_neg (by omega), if_neg (by omega), if_neg (by omega)]
      have := kw_len h; omega
    · split at h
      · rename_i k
        simp only [Bool.and_eq_true, decide_eq_true_eq] at h
        rw [if_pos k]
        have := itoa_len h.2.1 h.2.2; omega
      · split at h
        · rename_i k3 k4
          rw [if_neg k3, if_pos k4]
          have := valid_len h
          simp; omega
        · split at h
          · rename_i k3 k4 k5
            rw [if_neg k3, if_neg k4, if_neg (by omega)]
            have := sign_len h; omega
          · split at h
            · rename_i k3 k4 k5 k6
              rw [if_neg k3, if_neg k4, if_pos k6]; simp
            · cases h
theorem join_len (K : Nat) : ∀ l : List Bs, (∀ x ∈ l, x.length ≤ K) → (Lib.join l [32]).length ≤ (K + 1) * l.length
  | [], _ => by simp [Lib.join]
  | [x], h => by
    have := h x (by simp)
    simp [Lib.join]; omega
  | x :: y :: r, h => by
    have ih := join_len K (y :: r) fun z hz => h z (by simp [hz])
    have hx := h x (by simp)
    have e : Lib.join (x :: y :: r) [32] = x ++ [32] ++ Lib.join (y :: r) [32] := by
      unfold Lib.join; simp [List.intercalate, List.intersperse]
    rw [e]
    simp only [List.length_append, List.length_cons, List.length_nil, Nat.mul_add, Nat.mul_one] at ih ⊢
    omega

/-! ### texts -/
def okG : List Tk → Bool
  | [] => true
  | t :: r => (poB t && (decide (t.kind = 6) == r.isEmpty)) && okG r
def spells (l : List Tk) : List Bs := (l.filter fun t => !decide (t.kind = 6)).map spT
def textT (l : List Tk) : Bs × Int := if l = [] ∨ okG l = false then ([], 1) else if 65536 < (Lib.join (spells l) [32]).length then ([], 6) else (Lib.join (spells l) [32], 0)

theorem okG_all : ∀ {l : List Tk}, okG l = true → ∀ t ∈ l, poB t = true
  | t :: r, h, x, hx => by
    simp only [okG, Bool.and_eq_true] at h
    rcases List.mem_cons.1 hx with rfl | hx
    · exact h.1.1
    · exact okG_all h.2 x hx
theorem spells_len {l : List Tk} (h : ∀ t ∈ l, poB t = true) : ∀ x ∈ spells l, x.length ≤ 18 := by
  intro x hx
  unfold spells at hx
  obtain ⟨t, ht, rfl⟩ := List.mem_map.1 hx
  exact spT_len (h t (List.mem_filter.1 ht).1)

theorem okG_drop (l : List Tk) (i : Nat) (h : i < l.length) : okG (l.drop i) = ((poB l[i] && (decide (l[i].kind = 6) == decide (i + 1 = l.length))) && okG (l.drop (i + 1))) := by
  rw [List.drop_eq_getElem_cons h]
  simp only [okG]
  congr 2
  rw [Bool.eq_iff_iff, beq_iff_eq, beq_iff_eq]
  have : (l.drop (i + 1)).isEmpty = decide (i + 1 = l.length) := by
    rw [Bool.eq_iff_iff, List.isEmpty_iff, decide_eq_true_eq, List.drop_eq_nil_iff]
    omega
  rw [this]
theorem spells_take (l : List Tk) (i : Nat) (h : i < l.length) : spells (l.take (i + 1)) = spells (l.take i) ++ (if l[i].kind = 6 then [] else [spT l[i]]) := by
  unfold spells
  rw [List.take_succ_eq_append_getElem h, List.filter_append, List.map_append]
  congr 1
  by_cases e : l[i].kind = 6 <;> simp [e]

set_option maxHeartbeats 4000000 in
theorem text_ok {H : Heap} {l : List Tk} {la : Option Addr} {lc : Nat} (hl : RowR tkC H la l) (hll : l.length ≤ 1000000000) (hn : ∀ t ∈ l, (-9223372036854775808 ≤ t.n ∧ t.n ≤ 9223372036854775807) ∧ t.text.length ≤ 1000000000000) (hg : GlobH H) :
    HCalls Tryd.prog 24 #[.slice la l.length lc] H fun r H' => r = .tuple #[sv (textT l).1, .int .i64 (textT l).2] ∧ Fr [] H H' := by
  refine calls_of_vc (args := [_]) Tryd.func24 c24ok (Nat.le_of_ble_eq_true rfl) ?_
  simp (implicitDefEqProofs := false) only [go_sem, c24]
  refine vc_loop (fun (p : Nat × Value) H' => ∃ g, (p.1 ≤ l.length ∧ okG (l.drop p.1) = okG l ∧ (∀ t ∈ l.take p.1, poB t = true)) ∧ Own H' 9 1 p.2 (spells (l.take p.1)).length ((spells (l.take p.1)).flatMap strC) g ∧ Fr [] H H' ∧ (∀ b, g = some b → H.size ≤ b))
    (fun p => [(0, .slice la l.length lc), (4, p.2), (10, .slice la l.length lc), (11, .int .i64 l.length), (12, .int .i64 p.1)]) (fun p => l.length - p.1) (0, .slice none 0 0) ?_ ?_ ?_
  · exact ⟨none, ⟨Nat.zero_le _, rfl, by simp⟩, Own.nil _ _ _, Fr.refl _ _, by simp⟩
  · simp (implicitDefEqProofs := false) only [go_sem, z0]
  · rintro ⟨i, v⟩ H' ⟨g, ⟨h1, h2, hall⟩, hown, hfr, hgx⟩
    dsimp only at h1 h2 hown hall
    rcases Nat.lt_or_ge i l.length with hlt | hge
    · have hlt' : (i : Int) < (l.length : Int) := by omega
      have h0 : (0 : Int) ≤ (i : Int) := by omega
      have hw := succ_i64 i l.length hlt (by unfold maxLen; omega)
      have hwn : IntKind.i64.wrap ((l.length : Int) - 1) = (l.length : Int) - 1 := by rw [wrap_i64_id _ (by omega) (by omega)]
      have hl' : RowR tkC H' la l := hl.ext hfr
      obtain ⟨b1, o1, rfl, p0, p1, p2, p3⟩ := rowT_at hl' i hlt
      have hnt := hn _ (List.getElem_mem hlt)
      rw [okG_drop l i hlt] at h2
      have hst := spells_take l i hlt
      have hall' : poB l[i] = true → ∀ t ∈ l.take (i + 1), poB t = true := by
        intro hp t ht
        rw [List.take_succ_eq_append_getElem hlt, List.mem_append] at ht
        rcases ht with ht | ht
        · exact hall t ht
        · simp at ht; rw [ht]; exact hp
      generalize l[i] = x at *
      simp (implicitDefEqProofs := false) only [go_sem, hlt', h0, p0, p1, p2, p3]
      refine NewP_intro fun H1 hb1 hf1 hs1 => ?_
      generalize hx1 : H'.size = x1 at *
      have hgl : ∀ b, g = some b → b < x1 := fun b hb => by rw [← hx1]; exact hown.lt hb
      simp (implicitDefEqProofs := false) only [go_sem, sv]
      refine Sto_all hb1 rfl one4 fun H2 hb2 hf2 hs2 => ?_
      have hc2 := hb2.cell
      have hF2 : Fr [] H' H2 := fr_new hf1 hf2 (Nat.le_of_eq hx1)
      have hown2 := (hown.fr hf1 (by simp)).fr hf2 (fun b hb => by have := hgl b hb; simp; omega)
      simp (implicitDefEqProofs := false) only [go_sem, hc2]
      refine (spelling_ok x hnt.1 hnt.2 ((hg.ext hfr).ext hF2)).mono ?_
      rintro r H3 ⟨⟨s, rfl, hs⟩, hf3⟩
      have hb3 := hb2.ext hf3
      have hc3 := hb3.cell
      have hown3 := hown2.fr hf3 (by simp)
      have hF3 := (hfr.trans hF2).trans hf3
      cases hpo : poB x
      · rw [hpo, Bool.false_and, Bool.false_and] at h2
        simp (implicitDefEqProofs := false) only [go_sem, hc3]
        refine ⟨?_, hF3⟩
        unfold textT
        rw [if_pos (.inr h2.symm)] <;> rfl
      · rw [hpo, Bool.true_and] at h2
        have hs := hs hpo
        subst hs
        have hlast : ((i : Int) = (l.length : Int) - 1) = (i + 1 = l.length) := by apply propext; omega
        by_cases k6 : x.kind = 6
        · by_cases hla : i + 1 = l.length
          · simp (implicitDefEqProofs := false) only [go_sem, hc3, k6, hwn, hlast, sv, b4_1, b4_2, b4_3, b4_4, hla, hw]
            rw [if_pos k6, List.append_nil] at hst
            rw [show (decide (x.kind = 6) == decide (i + 1 = l.length)) = true by simp [k6, hla], Bool.true_and] at h2
            refine loopK_intro (i + 1, v) (by show l.length - (i + 1) < l.length - i; omega) ?_ ⟨g, ⟨hlt, h2, hall' hpo⟩, by show Own H3 _ 1 v _ _ g; rw [hst]; exact hown3, hF3, hgx⟩
            simp (implicitDefEqProofs := false) only [go_sem, hw, hla]
          · rw [show (decide (x.kind = 6) == decide (i + 1 = l.length)) = false by simp [k6, hla], Bool.false_and] at h2
            simp (implicitDefEqProofs := false) only [go_sem, hc3, k6, hwn, hlast, sv, b4_1, b4_2, b4_3, b4_4, hla]
            refine ⟨?_, hF3⟩
            unfold textT
            rw [if_pos (.inr h2.symm)] <;> rfl
        · by_cases hla : i + 1 = l.length
          · rw [show (decide (x.kind = 6) == decide (i + 1 = l.length)) = false by simp [k6, hla], Bool.false_and] at h2
            simp (implicitDefEqProofs := false) only [go_sem, hc3, k6, hwn, hlast, sv, b4_1, b4_2, b4_3, b4_4, hla]
            refine ⟨?_, hF3⟩
            unfold textT
            rw [if_pos (.inr h2.symm)] <;> rfl
          · rw [if_neg k6] at hst
            rw [show (decide (x.kind = 6) == decide (i + 1 = l.length)) = true by simp [k6, hla], Bool.true_and] at h2
            obtain ⟨a0, c0, rfl⟩ : ∃ a0 c0, v = .slice a0 (spells (l.take i)).length c0 := by
              rcases hown3.2 with ⟨_, q, q2⟩ | ⟨b, cap, cur, _, q, _⟩
              · rw [q2]; exact ⟨_, _, q⟩
              · exact ⟨_, _, q⟩
            have hsl : (spells (l.take i)).length ≤ i := by
              unfold spells
              rw [List.length_map]
              refine Nat.le_trans (List.length_filter_le _ _) ?_
              rw [List.length_take]; omega
            have hlt3 := hb3.lt
            simp (implicitDefEqProofs := false) only [go_sem, hc3, k6, hwn, hlast, sv, b4_1, b4_2, b4_3, b4_4, hla]
            refine NewS_intro fun H4 hb4 hf4 hs4 => ?_
            have hown4 := hown3.fr hf4 (by simp)
            generalize hx3 : H3.size = x3 at *
            simp (implicitDefEqProofs := false) only [go_sem]
            refine App_own ESt hown4 (m := 1) (SrcH.blk Tryd.underlying45 hb4 rfl (by simp [sv, Value.oneCell'])) (by unfold maxLen; omega) (by omega) fun a1 c1 H5 g5 hown5 hf5 hg5 => ?_
            have hHx : H.size ≤ x1 := by rw [← hx1]; exact hfr.size
            have hF5 : Fr [] H H5 := (hF3.trans hf4).trans' hf5 (fun b hb => by
              have hb' : g = some b := by simpa using hb
              exact .inr (hgx b hb'))
            have hgx5 : ∀ b, g5 = some b → H.size ≤ b := fun b hb => by
              rcases hg5 b hb with q | q
              · exact hgx b q
              · have := hF3.size; omega
            have hflat : (spells (l.take i)).flatMap strC ++ [Value.string ⟨⟨spT x⟩⟩] = (spells (l.take (i + 1))).flatMap strC := by rw [hst]; simp [strC, sv]
            have hlenp : (spells (l.take i)).length + 1 = (spells (l.take (i + 1))).length := by rw [hst]; simp
            rw [hflat, hlenp] at hown5
            rw [hlenp]
            simp (implicitDefEqProofs := false) only [go_sem, hw]
            refine loopK_intro (i + 1, .slice a1 (spells (l.take (i + 1))).length c1) (by show l.length - (i + 1) < l.length - i; omega) ?_ ⟨g5, ⟨hlt, h2, hall' hpo⟩, hown5, hF5, hgx5⟩
            simp (implicitDefEqProofs := false) only [go_sem]
    · have hlt' : ¬ (i : Int) < (l.length : Int) := by omega
      have hok : okG l = true := by rw [← h2, List.drop_eq_nil_of_le hge]; rfl
      have htk : l.take i = l := List.take_of_length_le hge
      rw [htk] at hown hall
      by_cases h0 : l.length = 0
      · have h0' : ((l.length : Int) = 0) = True := by simp [h0]
        simp (implicitDefEqProofs := false) only [go_sem, hlt', h0']
        refine ⟨?_, hfr⟩
        unfold textT
        rw [if_pos (.inl (List.eq_nil_of_length_eq_zero h0))] <;> rfl
      · have h0' : ((l.length : Int) = 0) = False := by apply eq_false; omega
        have hne : l ≠ [] := fun e => h0 (by rw [e]; rfl)
        obtain ⟨a0, c0, rfl⟩ : ∃ a0 c0, v = .slice a0 (spells l).length c0 := by
          rcases hown.2 with ⟨_, q, q2⟩ | ⟨b, cap, cur, _, q, _⟩
          · rw [q2]; exact ⟨_, _, q⟩
          · exact ⟨_, _, q⟩
        have hsl : (spells l).length ≤ l.length := by
          unfold spells
          rw [List.length_map]
          exact List.length_filter_le _ _
        have hj := join_len 18 (spells l) (spells_len hall)
        simp (implicitDefEqProofs := false) only [go_sem, hlt', h0']
        refine (join_ok (l := spells l) [32] (Own.rowR hown) (Own.cap_le hown) (by omega) (by omega)).mono ?_
        rintro r H3 ⟨rfl, hf3⟩
        have hfin : textT l = if 65536 < (Lib.join (spells l) [32]).length then ([], 6) else (Lib.join (spells l) [32], 0) := by
          unfold textT
          rw [if_neg]
          rintro (q | q)
          · exact hne q
          · rw [hok] at q; cases q
        rw [hfin]
        by_cases hbig : 65536 < (Lib.join (spells l) [32]).length
        · have hbig' : (65536 : Int) < ((Lib.join (spells l) [32]).length : Int) := by omega
          rw [if_pos hbig]
          simp (implicitDefEqProofs := false) only [go_sem, sv, ba_size, hbig']
          exact hfr.trans hf3
        · have hbig' : ¬ (65536 : Int) < ((Lib.join (spells l) [32]).length : Int) := by omega
          rw [if_neg hbig]
          simp (implicitDefEqProofs := false) only [go_sem, sv, ba_size, hbig']
          exact hfr.trans hf3
end Go.Proofs.YtighpnijbnllaaaDoor
