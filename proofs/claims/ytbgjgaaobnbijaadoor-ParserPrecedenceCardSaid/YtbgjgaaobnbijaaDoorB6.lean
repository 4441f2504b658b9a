import Derived.Test.YtbgjgaaobnbijaaDoorB5
import Derived.Test.YtbgjgaaobnbijaaDoorB2
import Derived.Test.YtbgjgaaobnbijaaDoorRows
import Derived.WalkKit
import Derived.ProofKit
import Derived.OpenShut
import Derived.LaidMore
import Derived.LaidLaws
import Derived.Stop.Joined
section
/- Text: contract of the program. -/
set_option linter.unusedSimpArgs false
set_option linter.unusedVariables false
set_option maxRecDepth 8000
namespace Go.Proofs.YtbgjgaaobnbijaaDoor
open Gx Go

theorem b4_1 : (true != true) = false := rfl
theorem b4_2 : (true != false) = true := rfl
theorem b4_3 : (false != true) = true := rfl
theorem b4_4 : (false != false) = false := rfl
theorem ESt : ElemOk Tryd.prog 62 9 1 16 (.string ⟨⟨[]⟩⟩) := ⟨Tryd.underlying62, by kernel_rfl, rfl, by decide⟩

theorem flat_strC (l : List Bs) : l.flatMap strC = l.map sv := by
  induction l with
  | nil => rfl
  | cons x l ih => simp [strC, ih]
theorem join_ok {H : Heap} {a : Option Addr} {l : List Bs} {c : Nat} (sep : Bs) (h : RowR strC H a l) (hc : l.length ≤ c) (hN : l.length ≤ 140737488355328) (hlen : (Lib.join l sep).length ≤ 140737488355328) :
    HCalls Tryd.prog 32 #[.slice a l.length c, sv sep] H fun r H' => r = sv (Lib.join l sep) ∧ Fr [] H H' := by
  refine hcalls_below (R := fun r => r = sv (Lib.join l sep)) fun W hW => ?_
  cases l with
  | nil =>
    refine (Tryd.strings_Join_none a c ⟨⟨sep⟩⟩ W).mono fun e w' ⟨he, hw⟩ => ?_
    subst hw
    exact ⟨_, he, rfl, RowKit.Below.refl _ _⟩
  | cons x r =>
    have hx : ((x :: r).map fun s => (⟨⟨s⟩⟩ : ByteArray)).map (·.data.toList) = x :: r := by simp [Function.comp_def]
    obtain ⟨b, o, rfl, h0⟩ := rowS_at h 0 (by simp)
    have hcells : ∀ (j : Nat) y, ((x :: r).map fun s => (⟨⟨s⟩⟩ : ByteArray))[j]? = some y → W.cell? ⟨b, o + j, none⟩ = some (.string y) := by
      intro j y hy
      have hj : j < (x :: r).length := by
        rcases Nat.lt_or_ge j (x :: r).length with q | q
        · exact q
        · rw [List.getElem?_eq_none (by simpa using q)] at hy; cases hy
      obtain ⟨b', o', e', h1⟩ := rowS_at h j hj
      simp only [Option.some.injEq, Addr.mk.injEq, and_true] at e'
      obtain ⟨rfl, rfl⟩ := e'
      rw [cell?_eq, hW]
      refine (cellAt_mk H b (o + j)).trans (h1.trans ?_)
      simp only [List.getElem?_map, List.getElem?_eq_getElem hj, Option.map_some, Option.some.injEq] at hy
      rw [← hy]
    have hb : b < W.heap.size := by rw [hW]; exact cellB_lt h0
    have hcall := Tryd.strings_Join b o c ((x :: r).map fun s => (⟨⟨s⟩⟩ : ByteArray)) ⟨⟨sep⟩⟩ W hcells hb (by simpa using hN) (by simpa using hc) (by rw [hx]; exact hlen)
    rw [hx, List.length_map] at hcall
    refine hcall.mono fun e w' ⟨he, hw⟩ => ?_
    exact ⟨_, he, rfl, hw⟩

/-! ### lengths -/
theorem nDigits_le : ∀ (k u : Nat), u < 10 ^ (k + 1) → Lib.nDigits u ≤ k + 1
  | 0, u, h => by rw [Lib.nDigits_small (by simpa using h)]; exact Nat.le_refl _
  | k + 1, u, h => by
    by_cases hu : u < 10
    · rw [Lib.nDigits_small hu]; omega
    · rw [Lib.nDigits_big hu]
      have := nDigits_le k (u / 10) (by rw [Nat.pow_succ] at h; omega)
      omega
theorem itoa_len {n : Int} (h0 : 0 ≤ n) (h1 : n ≤ 1000000000000000) : (Lib.itoa n).length ≤ 16 := by
  unfold Lib.itoa
  rw [if_neg (by omega), Lib.decDigits_eq, List.length_map, List.length_range]
  refine nDigits_le 15 n.toNat ?_
  have : n.toNat ≤ 1000000000000000 := by omega
  exact Nat.lt_of_le_of_lt this (by decide)
theorem kw_len {s : Bs} (h : kwB s = true) : s.length ≤ 8 := by
  unfold kwB at h
  rw [decide_eq_true_eq] at h
  have : ∀ g ∈ kwList, g.length ≤ 8 := by decide
  exact this s h
theorem sign_len {s : Bs} (h : signB s = true) : s.length ≤ 2 := by
  unfold signB at h
  rw [decide_eq_true_eq] at h
  have : ∀ g ∈ signList, g.length ≤ 2 := by decide
  exact this s h
theorem valid_len {s : Bs} (h : validN s = true) : s.length ≤ 16 := by
  unfold validN at h
  simp only [Bool.and_eq_true, decide_eq_true_eq] at h
  exact h.2.1
theorem spT_len {t : Tk} (h : poB t = true) : (spT t).length ≤ 18 := by
  unfold poB at h
  rw [Bool.and_eq_true] at h
  have h := h.2
  unfold spT
  split at h
  · rename_i k
    rw [Bool.and_eq_true] at h
    rw [if_neg (by omega), if_neg (by omega), if_neg (by omega)]
    have := valid_len h.1; omega
  · split at h
    · rw [if_neg (by omega), if_neg (by omega), if_neg (by omega)]
      have := kw_len h; omega
    · split at h
      · rename_i k
        simp only [Bool.and_eq_true, decide_eq_true_eq] at h
        rw [if_pos k]
        have := itoa_len h.2.1 h.2.2; omega
      · split at h
        · rename_i k3 k4
          rw [if_neg k3, if_pos k4]
          have := valid_len h
          simp; omega
        · split at h
          · rename_i k3 k4 k5
            rw [if_neg k3, if_neg k4, if_neg (by omega)]
            have := sign_len h; omega
          · split at h
            · rename_i k3 k4 k5 k6
              rw [if_neg k3, if_neg k4, if_pos k6]; simp
            · cases h
theorem join_len (K : Nat) : ∀ l : List Bs, (∀ x ∈ l, x.length ≤ K) → (Lib.join l [32]).length ≤ (K + 1) * l.length
  | [], _ => by simp [Lib.join]
  | [x], h => by
    have := h x (by simp)
    simp [Lib.join]; omega
  | x :: y :: r, h => by
    have ih := join_len K (y :: r) fun z hz => h z (by simp [hz])
    have hx := h x (by simp)
    have e : Lib.join (x :: y :: r) [32] = x ++ [32] ++ Lib.join (y :: r) [32] := by
      unfold Lib.join; simp [List.intercalate, List.intersperse]
    rw [e]
    simp only [List.length_append, List.length_cons, List.length_nil, Nat.mul_add, Nat.mul_one] at ih ⊢
    omega

/-! ### texts -/
def okG : List Tk → Bool
  | [] => true
  | t :: r => (poB t && (decide (t.kind = 6) == r.isEmpty)) && okG r
def spells (l : List Tk) : List Bs := (l.filter fun t => !decide (t.kind = 6)).map spT
def textT (l : List Tk) : Bs × Int := if l = [] ∨ okG l = false then ([], 1) else if 65536 < (Lib.join (spells l) [32]).length then ([], 6) else (Lib.join (spells l) [32], 0)

theorem okG_all : ∀ {l : List Tk}, okG l = true → ∀ t ∈ l, poB t = true
  | t :: r, h, x, hx => by
    simp only [okG, Bool.and_eq_true] at h
    rcases List.mem_cons.1 hx with rfl | hx
    · exact h.1.1
    · exact okG_all h.2 x hx
theorem spells_len {l : List Tk} (h : ∀ t ∈ l, poB t = true) : ∀ x ∈ spells l, x.length ≤ 18 := by
  intro x hx
  unfold spells at hx
  obtain ⟨t, ht, rfl⟩ := List.mem_map.1 hx
  exact spT_len (h t (List.mem_filter.1 ht).1)

theorem okG_drop (l : List Tk) (i : Nat) (h : i < l.length) : okG (l.drop i) = ((poB l[i] && (decide (l[i].kind = 6) == decide (i + 1 = l.length))) && okG (l.drop (i + 1))) := by
  rw [List.drop_eq_getElem_cons h]
  simp only [okG]
  congr 2
  rw [Bool.eq_iff_iff, beq_iff_eq, beq_iff_eq]
  have : (l.drop (i + 1)).isEmpty = decide (i + 1 = l.length) := by
    rw [Bool.eq_iff_iff, List.isEmpty_iff, decide_eq_true_eq, List.drop_eq_nil_iff]
    omega
  rw [this]
theorem spells_take (l : List Tk) (i : Nat) (h : i < l.length) : spells (l.take (i + 1)) = spells (l.take i) ++ (if l[i].kind = 6 then [] else [spT l[i]]) := by
  unfold spells
  rw [List.take_succ_eq_append_getElem h, List.filter_append, List.map_append]
  congr 1
  by_cases e : l[i].kind = 6 <;> simp [e]

set_option maxHeartbeats 4000000 in
theorem text_ok {H : Heap} {l : List Tk} {la : Option Addr} {lc : Nat} (hl : RowR tkC H la l) (hll : l.length ≤ 1000000000) (hn : ∀ t ∈ l, (-9223372036854775808 ≤ t.n ∧ t.n ≤ 9223372036854775807) ∧ t.text.length ≤ 1000000000000) (hg : GlobH H) :
    HCalls Tryd.prog 22 #[.slice la l.length lc] H fun r H' => r = .tuple #[sv (textT l).1, .int .i64 (textT l).2] ∧ Fr [] H H' := by
  refine calls_of_vc (args := [_]) Tryd.func22 c22ok (Nat.le_of_ble_eq_true rfl) ?_
  simp (implicitDefEqProofs := false) only [go_sem, c22]
  refine vc_loop (fun (p : Nat × Value) H' => ∃ g, (p.1 ≤ l.length ∧ okG (l.drop p.1) = okG l ∧ (∀ t ∈ l.take p.1, poB t = true)) ∧ Own H' 9 1 p.2 (spells (l.take p.1)).length ((spells (l.take p.1)).flatMap strC) g ∧ Fr [] H H' ∧ (∀ b, g = some b → H.size ≤ b))
    (fun p => [(0, .slice la l.length lc), (4, p.2), (10, .slice la l.length lc), (11, .int .i64 l.length), (12, .int .i64 p.1)]) (fun p => l.length - p.1) (0, .slice none 0 0) ?_ ?_ ?_
  · exact ⟨none, ⟨Nat.zero_le _, rfl, by simp⟩, Own.nil _ _ _, Fr.refl _ _, by simp⟩
  · simp (implicitDefEqProofs := false) only [go_sem, z0]
  · rintro ⟨i, v⟩ H' ⟨g, ⟨h1, h2, hall⟩, hown, hfr, hgx⟩
    dsimp only at h1 h2 hown hall
    rcases Nat.lt_or_ge i l.length with hlt | hge
    · have hlt' : (i : Int) < (l.length : Int) := by omega
      have h0 : (0 : Int) ≤ (i : Int) := by omega
      have hw := succ_i64 i l.length hlt (by unfold maxLen; omega)
      have hwn : IntKind.i64.wrap ((l.length : Int) - 1) = (l.length : Int) - 1 := by rw [wrap_i64_id _ (by omega) (by omega)]
      have hl' : RowR tkC H' la l := hl.ext hfr
      obtain ⟨b1, o1, rfl, p0, p1, p2, p3⟩ := rowT_at hl' i hlt
      have hnt := hn _ (List.getElem_mem hlt)
      rw [okG_drop l i hlt] at h2
      have hst := spells_take l i hlt
      have hall' : poB l[i] = true → ∀ t ∈ l.take (i + 1), poB t = true := by
        intro hp t ht
        rw [List.take_succ_eq_append_getElem hlt, List.mem_append] at ht
        rcases ht with ht | ht
        · exact hall t ht
        · simp at ht; rw [ht]; exact hp
      generalize l[i] = x at *
      simp (implicitDefEqProofs := false) only [go_sem, hlt', h0, p0, p1, p2, p3]
      refine NewP_intro fun H1 hb1 hf1 hs1 => ?_
      generalize hx1 : H'.size = x1 at *
      have hgl : ∀ b, g = some b → b < x1 := fun b hb => by rw [← hx1]; exact hown.lt hb
      simp (implicitDefEqProofs := false) only [go_sem, sv]
      refine Sto_all hb1 rfl one4 fun H2 hb2 hf2 hs2 => ?_
      have hc2 := hb2.cell
      have hF2 : Fr [] H' H2 := fr_new hf1 hf2 (Nat.le_of_eq hx1)
      have hown2 := (hown.fr hf1 (by simp)).fr hf2 (fun b hb => by have := hgl b hb; simp; omega)
      simp (implicitDefEqProofs := false) only [go_sem, hc2]
      refine (spelling_ok x hnt.1 hnt.2 ((hg.ext hfr).ext hF2)).mono ?_
      rintro r H3 ⟨⟨s, rfl, hs⟩, hf3⟩
      have hb3 := hb2.ext hf3
      have hc3 := hb3.cell
      have hown3 := hown2.fr hf3 (by simp)
      have hF3 := (hfr.trans hF2).trans hf3
      cases hpo : poB x
      · rw [hpo, Bool.false_and, Bool.false_and] at h2
        simp (implicitDefEqProofs := false) only [go_sem, hc3]
        refine ⟨?_, hF3⟩
        unfold textT
        rw [if_pos (.inr h2.symm)] <;> rfl
      · rw [hpo, Bool.true_and] at h2
        have hs := hs hpo
        subst hs
        have hlast : ((i : Int) = (l.length : Int) - 1) = (i + 1 = l.length) := by apply propext; omega
        by_cases k6 : x.kind = 6
        · by_cases hla : i + 1 = l.length
          · simp (implicitDefEqProofs := false) only [go_sem, hc3, k6, hwn, hlast, sv, b4_1, b4_2, b4_3, b4_4, hla, hw]
            rw [if_pos k6, List.append_nil] at hst
            rw [show (decide (x.kind = 6) == decide (i + 1 = l.length)) = true by simp [k6, hla], Bool.true_and] at h2
            refine loopK_intro (i + 1, v) (by show l.length - (i + 1) < l.length - i; omega) ?_ ⟨g, ⟨hlt, h2, hall' hpo⟩, by show Own H3 _ 1 v _ _ g; rw [hst]; exact hown3, hF3, hgx⟩
            simp (implicitDefEqProofs := false) only [go_sem, hw, hla]
          · rw [show (decide (x.kind = 6) == decide (i + 1 = l.length)) = false by simp [k6, hla], Bool.false_and] at h2
            simp (implicitDefEqProofs := false) only [go_sem, hc3, k6, hwn, hlast, sv, b4_1, b4_2, b4_3, b4_4, hla]
            refine ⟨?_, hF3⟩
            unfold textT
            rw [if_pos (.inr h2.symm)] <;> rfl
        · by_cases hla : i + 1 = l.length
          · rw [show (decide (x.kind = 6) == decide (i + 1 = l.length)) = false by simp [k6, hla], Bool.false_and] at h2
            simp (implicitDefEqProofs := false) only [go_sem, hc3, k6, hwn, hlast, sv, b4_1, b4_2, b4_3, b4_4, hla]
            refine ⟨?_, hF3⟩
            unfold textT
            rw [if_pos (.inr h2.symm)] <;> rfl
          · rw [if_neg k6] at hst
            rw [show (decide (x.kind = 6) == decide (i + 1 = l.length)) = true by simp [k6, hla], Bool.true_and] at h2
            obtain ⟨a0, c0, rfl⟩ : ∃ a0 c0, v = .slice a0 (spells (l.take i)).length c0 := by
              rcases hown3.2 with ⟨_, q, q2⟩ | ⟨b, cap, cur, _, q, _⟩
              · rw [q2]; exact ⟨_, _, q⟩
              · exact ⟨_, _, q⟩
            have hsl : (spells (l.take i)).length ≤ i := by
              unfold spells
              rw [List.length_map]
              refine Nat.le_trans (List.length_filter_le _ _) ?_
              rw [List.length_take]; omega
            have hlt3 := hb3.lt
            simp (implicitDefEqProofs := false) only [go_sem, hc3, k6, hwn, hlast, sv, b4_1, b4_2, b4_3, b4_4, hla]
            refine NewS_intro fun H4 hb4 hf4 hs4 => ?_
            have hown4 := hown3.fr hf4 (by simp)
            generalize hx3 : H3.size = x3 at *
            simp (implicitDefEqProofs := false) only [go_sem]
            refine App_own ESt hown4 (m := 1) (SrcH.blk Tryd.underlying62 hb4 rfl (by simp [sv, Value.oneCell'])) (by unfold maxLen; omega) (by omega) fun a1 c1 H5 g5 hown5 hf5 hg5 => ?_
            have hHx : H.size ≤ x1 := by rw [← hx1]; exact hfr.size
            have hF5 : Fr [] H H5 := (hF3.trans hf4).trans' hf5 (fun b hb => by
              have hb' : g = some b := by simpa using hb
              exact .inr (hgx b hb'))
            have hgx5 : ∀ b, g5 = some b → H.size ≤ b := fun b hb => by
              rcases hg5 b hb with q | q
              · exact hgx b q
              · have := hF3.size; omega
            have hflat : (spells (l.take i)).flatMap strC ++ [Value.string ⟨⟨spT x⟩⟩] = (spells (l.take (i + 1))).flatMap strC := by rw [hst]; simp [strC, sv]
            have hlenp : (spells (l.take i)).length + 1 = (spells (l.take (i + 1))).length := by rw [hst]; simp
            rw [hflat, hlenp] at hown5
            rw [hlenp]
            simp (implicitDefEqProofs := false) only [go_sem, hw]
            refine loopK_intro (i + 1, .slice a1 (spells (l.take (i + 1))).length c1) (by show l.length - (i + 1) < l.length - i; omega) ?_ ⟨g5, ⟨hlt, h2, hall' hpo⟩, hown5, hF5, hgx5⟩
            simp (implicitDefEqProofs := false) only [go_sem]
    · have hlt' : ¬ (i : Int) < (l.length : Int) := by omega
      have hok : okG l = true := by rw [← h2, List.drop_eq_nil_of_le hge]; rfl
      have htk : l.take i = l := List.take_of_length_le hge
      rw [htk] at hown hall
      by_cases h0 : l.length = 0
      · have h0' : ((l.length : Int) = 0) = True := by simp [h0]
        simp (implicitDefEqProofs := false) only [go_sem, hlt', h0']
        refine ⟨?_, hfr⟩
        unfold textT
        rw [if_pos (.inl (List.eq_nil_of_length_eq_zero h0))] <;> rfl
      · have h0' : ((l.length : Int) = 0) = False := by apply eq_false; omega
        have hne : l ≠ [] := fun e => h0 (by rw [e]; rfl)
        obtain ⟨a0, c0, rfl⟩ : ∃ a0 c0, v = .slice a0 (spells l).length c0 := by
          rcases hown.2 with ⟨_, q, q2⟩ | ⟨b, cap, cur, _, q, _⟩
          · rw [q2]; exact ⟨_, _, q⟩
          · exact ⟨_, _, q⟩
        have hsl : (spells l).length ≤ l.length := by
          unfold spells
          rw [List.length_map]
          exact List.length_filter_le _ _
        have hj := join_len 18 (spells l) (spells_len hall)
        simp (implicitDefEqProofs := false) only [go_sem, hlt', h0']
        refine (join_ok (l := spells l) [32] (Own.rowR hown) (Own.cap_le hown) (by omega) (by omega)).mono ?_
        rintro r H3 ⟨rfl, hf3⟩
        have hfin : textT l = if 65536 < (Lib.join (spells l) [32]).length then ([], 6) else (Lib.join (spells l) [32], 0) := by
          unfold textT
          rw [if_neg]
          rintro (q | q)
          · exact hne q
          · rw [hok] at q; cases q
        rw [hfin]
        by_cases hbig : 65536 < (Lib.join (spells l) [32]).length
        · have hbig' : (65536 : Int) < ((Lib.join (spells l) [32]).length : Int) := by omega
          rw [if_pos hbig]
          simp (implicitDefEqProofs := false) only [go_sem, sv, ba_size, hbig']
          exact hfr.trans hf3
        · have hbig' : ¬ (65536 : Int) < ((Lib.join (spells l) [32]).length : Int) := by omega
          rw [if_neg hbig]
          simp (implicitDefEqProofs := false) only [go_sem, sv, ba_size, hbig']
          exact hfr.trans hf3
end Go.Proofs.YtbgjgaaobnbijaaDoor
end
section
/- The laws of token lists: spellings, cuts, insertions, texts. -/
set_option linter.unusedSimpArgs false
set_option linter.unusedVariables false
set_option maxRecDepth 8000
namespace Go.Proofs.YtbgjgaaobnbijaaDoor
open Gx Go

/-! ### digits -/
theorem dd_small {n : Nat} (h : n < 10) : Lib.decDigits n = [UInt8.ofNat (48 + n)] := by rw [Lib.decDigits, dif_pos h]
theorem dd_big {n : Nat} (h : ¬ n < 10) : Lib.decDigits n = Lib.decDigits (n / 10) ++ Lib.decDigits (n % 10) := by
  rw [Lib.decDigits, dif_neg h, dd_small (n := n % 10) (by omega)]
theorem itoa_nat (u : Nat) : Lib.itoa (u : Int) = Lib.decDigits u := by
  unfold Lib.itoa; rw [if_neg (by omega)]; simp
theorem tkEq_refl (o : Bool) (t : Tk) : tkEq o t t = true := by simp [tkEq]
theorem sameT_refl (o : Bool) : ∀ l : List Tk, sameT o l l = true
  | [] => rfl
  | x :: r => by simp [sameT, tkEq_refl, sameT_refl o r]
theorem numF_snoc (c : UInt8) (v : Bs) : ∀ (a : Nat), numF a (v ++ [c]) = 10 * numF a v + (c.toNat - 48) := by
  induction v with
  | nil => intro a; rfl
  | cons d v ih =>
    intro a
    have e1 : numF a (d :: v ++ [c]) = numF (10 * a + (d.toNat - 48)) (v ++ [c]) := rfl
    have e2 : numF a (d :: v) = numF (10 * a + (d.toNat - 48)) v := rfl
    rw [e1, e2, ih]
theorem spT_int (n a : Int) : spT ⟨3, [], n, a⟩ = Lib.itoa n := rfl
theorem poB_sign (t : Bs) (a : Int) : poB ⟨5, t, 0, a⟩ = signB t := by simp [poB]
theorem digB_iff (c : UInt8) : digB c = true ↔ 48 ≤ c.toNat ∧ c.toNat ≤ 57 := by
  simp only [digB, Bool.and_eq_true, decide_eq_true_eq]; omega
theorem dig_byte {c : UInt8} (h : digB c = true) : UInt8.ofNat (48 + (c.toNat - 48)) = c := by
  rw [digB_iff] at h
  apply UInt8.toNat_inj.1
  rw [UInt8.toNat_ofNat']
  omega
theorem snoc_ind {P : Bs → Prop} (h0 : P []) (h1 : ∀ v c, P v → P (v ++ [c])) (w : Bs) : P w := by
  have : ∀ n (w : Bs), w.length = n → P w := by
    intro n
    induction n with
    | zero => intro w h; rw [List.eq_nil_of_length_eq_zero h]; exact h0
    | succ n ih =>
      intro w h
      have hne : w ≠ [] := fun e => by rw [e] at h; cases h
      rw [← List.dropLast_concat_getLast hne]
      exact h1 _ _ (ih _ (by rw [List.length_dropLast]; omega))
  exact this _ w rfl
/-- The numeral of a number's digits. -/
theorem dd_num (w : Bs) : w.all digB = true → w ≠ [] → w.getD 0 0 ≠ 48 → Lib.decDigits (numL w) = w ∧ 1 ≤ numL w := by
  refine snoc_ind (P := fun w => w.all digB = true → w ≠ [] → w.getD 0 0 ≠ 48 → Lib.decDigits (numL w) = w ∧ 1 ≤ numL w) (fun _ h => absurd rfl h) ?_ w
  intro v c ih hall _ hh
  rw [List.all_append, Bool.and_eq_true] at hall
  have hc : digB c = true := by simpa using hall.2
  have hc' := (digB_iff c).1 hc
  have hn : numL (v ++ [c]) = 10 * numL v + (c.toNat - 48) := numF_snoc c v 0
  cases v with
  | nil =>
    have hne : c ≠ 48 := hh
    have h48 : c.toNat ≠ 48 := fun e => hne (UInt8.toNat_inj.1 (by rw [e]; decide))
    have e0 : numL ([] : Bs) = 0 := rfl
    rw [hn, e0]
    refine ⟨?_, by omega⟩
    rw [show 10 * 0 + (c.toNat - 48) = c.toNat - 48 by omega, dd_small (by omega), dig_byte hc]; rfl
  | cons d v' =>
    obtain ⟨h1, h2⟩ := ih hall.1 (by simp) hh
    generalize numL (d :: v') = u at *
    rw [hn]
    refine ⟨?_, by omega⟩
    rw [dd_big (by omega), show (10 * u + (c.toNat - 48)) / 10 = u by omega, show (10 * u + (c.toNat - 48)) % 10 = c.toNat - 48 by omega, h1, dd_small (by omega), dig_byte hc]
/-- A number's numeral: digits, and its value. -/
theorem dd_dig (n : Nat) : (Lib.decDigits n).all digB = true ∧ numL (Lib.decDigits n) = n ∧ Lib.decDigits n ≠ [] ∧ (1 < (Lib.decDigits n).length → (Lib.decDigits n).getD 0 0 ≠ 48) := by
  induction n using Nat.strongRecOn with
  | _ n ih =>
    have hsm : ∀ k, k < 10 → digB (UInt8.ofNat (48 + k)) = true ∧ (UInt8.ofNat (48 + k)).toNat - 48 = k ∧ (1 ≤ k → UInt8.ofNat (48 + k) ≠ 48) := by decide
    by_cases h : n < 10
    · rw [dd_small h]
      obtain ⟨a, b, _⟩ := hsm n h
      refine ⟨by rw [List.all_cons, a]; rfl, ?_, by simp, by simp⟩
      show 10 * 0 + ((UInt8.ofNat (48 + n)).toNat - 48) = n
      omega
    · obtain ⟨i1, i2, i3, i4⟩ := ih (n / 10) (by omega)
      obtain ⟨a, b, _⟩ := hsm (n % 10) (by omega)
      rw [dd_big h, dd_small (n := n % 10) (by omega)]
      refine ⟨by rw [List.all_append, i1, List.all_cons, a]; rfl, ?_, by simp, fun _ => ?_⟩
      · show numF 0 _ = n
        rw [numF_snoc]
        have : numF 0 (Lib.decDigits (n / 10)) = n / 10 := i2
        rw [this, b]; omega
      · cases e : Lib.decDigits (n / 10) with
        | nil => exact absurd e i3
        | cons c v =>
          rw [e] at i2 i4
          show c ≠ 48
          cases v with
          | nil =>
            intro hc
            subst hc
            have : numL [48] = 0 := by decide
            omega
          | cons d v' => exact i4 (by simp)

/-! ### the spelling of a token that is read -/
theorem letB_part {c : UInt8} (h : letB c = true) : partB c = true := by simp [partB, h]
theorem takeWhile_all (p : UInt8 → Bool) (w : Bs) (h : w.all p = true) : w.takeWhile p = w := by
  induction w with
  | nil => rfl
  | cons c r ih =>
    rw [List.all_cons, Bool.and_eq_true] at h
    rw [List.takeWhile_cons, if_pos h.1, ih h.2]

theorem tokS_spell {s : Bs} {k n : Int} {t : Bs} {m : Nat} (h : tokS s = .ok k t n m) (h6 : k ≠ 6) (a : Int) :
    poB ⟨k, t, n, a⟩ = true ∧ m = (spT ⟨k, t, n, a⟩).length ∧ s.take m = spT ⟨k, t, n, a⟩ := by
  cases s with
  | nil => simp only [tokS, TR.ok.injEq] at h; exact absurd h.1.symm h6
  | cons c r =>
    simp only [tokS] at h
    split at h
    · rename_i hc
      have htw := take_twN partB (c :: r)
      unfold twN at htw
      have hall : ((c :: r).takeWhile partB).all partB = true := List.all_takeWhile
      have hhd : ((c :: r).takeWhile partB).getD 0 0 = c := by rw [List.takeWhile_cons, if_pos (letB_part hc)]; rfl
      have hpos : 0 < ((c :: r).takeWhile partB).length := by rw [List.takeWhile_cons, if_pos (letB_part hc)]; simp
      generalize (c :: r).takeWhile partB = w at *
      unfold tokW at h
      split at h
      · cases h
      · rename_i h16
        simp only [TR.ok.injEq] at h
        obtain ⟨h1, rfl, rfl, rfl⟩ := h
        have hv : validN w = true := by
          unfold validN
          rw [hall, hhd, hc]
          simp; omega
        cases ek : kwB w
        · rw [ek] at h1
          obtain rfl : (1 : Int) = k := h1
          exact ⟨by simp [poB, hv, ek], rfl, htw⟩
        · rw [ek] at h1
          obtain rfl : (2 : Int) = k := h1
          exact ⟨by simp [poB, ek], rfl, htw⟩
    · split at h
      · rename_i _ hc
        have htw := take_twN digB (c :: r)
        unfold twN at htw
        have hall : ((c :: r).takeWhile digB).all digB = true := List.all_takeWhile
        have hne : (c :: r).takeWhile digB ≠ [] := by rw [List.takeWhile_cons, if_pos hc]; simp
        generalize (c :: r).takeWhile digB = w at *
        unfold tokD at h
        split at h
        · cases h
        · rename_i hlead
          split at h
          · cases h
          · rename_i hmax
            simp only [TR.ok.injEq] at h
            obtain ⟨rfl, rfl, rfl, rfl⟩ := h
            have hdd : Lib.decDigits (numL w) = w := by
              by_cases h48 : w.getD 0 0 = 48
              · match w, hne, hlead, h48 with
                | [d], _, _, h48 =>
                  obtain rfl : d = 48 := h48
                  show Lib.decDigits 0 = _
                  rw [dd_small (by decide)]; rfl
                | d :: e :: v, _, hlead, h48 => exact absurd ⟨by simp, h48⟩ hlead
              · exact (dd_num w hall hne h48).1
            have hsp : spT ⟨3, [], (numL w : Int), a⟩ = w := by
              rw [spT_int, itoa_nat, hdd]
            rw [hsp]
            refine ⟨?_, rfl, htw⟩
            simp [poB]; omega
      · split at h
        · rename_i hq
          have htw := take_twN partB r
          have hdw := drop_twN partB r
          unfold twN at htw hdw
          unfold tokQ at h
          split at h
          · cases h
          · rename_i hne
            split at h
            · rename_i hv
              simp only [TR.ok.injEq] at h
              obtain ⟨rfl, rfl, rfl, rfl⟩ := h
              have hc39 : c = 39 := by
                apply UInt8.toNat_inj.1
                have : (UInt8.toNat 39) = 39 := by decide
                omega
              generalize hw : r.takeWhile partB = w at *
              cases hd : r.dropWhile partB with
              | nil => exact absurd (.inl hd) hne
              | cons d u =>
                have hd39 : d = 39 := by
                  by_cases hx : d = 39
                  · exact hx
                  · exact absurd (.inr (by rw [hd]; simpa using hx)) hne
                subst hd39 hc39
                have hr : r = w ++ 39 :: u := by
                  rw [← hd, ← hw]; exact List.takeWhile_append_dropWhile.symm
                refine ⟨by simp [poB, hv], by simp [spT], ?_⟩
                show (39 :: r).take (w.length + 2) = 39 :: (w ++ [39])
                rw [List.take_succ_cons, hr, show w ++ 39 :: u = (w ++ [39]) ++ u by simp, show w.length + 1 = (w ++ [39]).length by simp, List.take_left]
            · cases h
        · unfold tokG at h
          split at h
          · rename_i h2
            simp only [TR.ok.injEq] at h
            obtain ⟨rfl, rfl, rfl, rfl⟩ := h
            refine ⟨by rw [poB_sign]; exact h2.2, ?_, rfl⟩
            show 2 = ((c :: r).take 2).length
            rw [List.length_take]; omega
          · split at h
            · rename_i h1
              simp only [TR.ok.injEq] at h
              obtain ⟨rfl, rfl, rfl, rfl⟩ := h
              refine ⟨by rw [poB_sign]; exact h1, ?_, rfl⟩
              show 1 = ((c :: r).take 1).length
              simp
            · cases h
end Go.Proofs.YtbgjgaaobnbijaaDoor
end
section
/- The laws of token lists, second part: positions, cuts, insertions, texts. -/
set_option linter.unusedSimpArgs false
set_option linter.unusedVariables false
set_option maxRecDepth 8000
namespace Go.Proofs.YtbgjgaaobnbijaaDoor
open Gx Go

theorem lexF_step (f : Nat) (s : Bs) (o : Nat) : lexF (f + 1) s o = match tokS (s.drop (skB false s)) with
    | .bad e => .bad e (o + skB false s)
    | .ok k t n m => if k = 6 then .ok [⟨k, t, n, (o + skB false s : Nat)⟩] else LR.cons ⟨k, t, n, (o + skB false s : Nat)⟩ (lexF f (s.drop (skB false s + m)) (o + skB false s + m)) := rfl
theorem end_nil {s : Bs} {k n : Int} {t : Bs} {m : Nat} (h : tokS s = .ok k t n m) : k = 6 ↔ s = [] := by
  obtain ⟨h1, h2, h3⟩ := tokS_len h
  exact ⟨fun h6 => by
    by_cases e : s = []
    · exact e
    · exact absurd h6 (h2 e).2, h3⟩
theorem end_val {k n : Int} {t : Bs} {m : Nat} (h : tokS [] = .ok k t n m) : k = 6 ∧ t = [] ∧ n = 0 ∧ m = 0 := by
  simp only [tokS, TR.ok.injEq] at h
  obtain ⟨rfl, rfl, rfl, rfl⟩ := h
  exact ⟨rfl, rfl, rfl, rfl⟩

/-- A list of tokens that follow each other in what is left, from the offset o on; e the end's offset. -/
def chainT (e : Nat) : Bs → Nat → List Tk → Prop
  | _, _, [] => False
  | s, o, t :: r => (r = [] ∧ t = ⟨6, [], 0, (e : Int)⟩ ∧ e = o + s.length) ∨
      (poB t = true ∧ t.kind ≠ 6 ∧ ∃ q : Nat, q + (spT t).length ≤ s.length ∧ t.at_ = (o + q : Nat) ∧ 1 ≤ (spT t).length ∧ (s.drop q).take (spT t).length = spT t ∧ chainT e (s.drop (q + (spT t).length)) (o + q + (spT t).length) r)

theorem lexF_chain : ∀ (f : Nat) (s : Bs) (o : Nat) (ts : List Tk), s.length < f → lexF f s o = .ok ts → chainT (o + s.length) s o ts
  | 0, s, o, ts, h, _ => by omega
  | f + 1, s, o, ts, hf, h => by
    rw [lexF_step] at h
    have hk := skB_le false s
    cases e : tokS (s.drop (skB false s)) with
    | bad c => rw [e] at h; cases h
    | ok k t n m =>
      rw [e] at h
      obtain ⟨l1, l2, l3⟩ := tokS_len e
      simp only at h
      split at h
      · rename_i h6
        have hnil := (end_nil e).1 h6
        rw [hnil] at e
        obtain ⟨_, rfl, rfl, _⟩ := end_val e
        cases h
        have hlen : s.length ≤ skB false s := by
          have := congrArg List.length hnil
          simp only [List.length_drop, List.length_nil] at this
          omega
        refine .inl ⟨rfl, ?_, rfl⟩
        have : skB false s = s.length := by omega
        rw [this, h6]
      · rename_i h6
        obtain ⟨p1, p2, p3⟩ := tokS_spell e h6 (o + skB false s : Nat)
        have hne : s.drop (skB false s) ≠ [] := fun q => h6 (l3 q)
        obtain ⟨hm, _⟩ := l2 hne
        simp only [List.length_drop] at l1
        cases er : lexF f (s.drop (skB false s + m)) (o + skB false s + m) with
        | bad c q => rw [er] at h; cases h
        | ok r =>
          rw [er] at h
          have h' : LR.ok (⟨k, t, n, (o + skB false s : Nat)⟩ :: r) = LR.ok ts := h
          cases h'
          have ih := lexF_chain f _ _ r (by simp only [List.length_drop]; omega) er
          have hlen : o + skB false s + m + (s.drop (skB false s + m)).length = o + s.length := by simp only [List.length_drop]; omega
          rw [hlen] at ih
          rw [p2] at ih hm p3
          refine .inr ⟨p1, h6, skB false s, by rw [← p2]; omega, rfl, hm, p3, ih⟩

/-- Where a fault is. -/
theorem lexF_badat : ∀ (f : Nat) (s : Bs) (o : Nat) (c : Int) (k : Nat), s.length < f → lexF f s o = .bad c k → c ≠ 0 ∧ o ≤ k ∧ k < o + s.length
  | 0, s, o, c, k, h, _ => by omega
  | f + 1, s, o, c, k, hf, h => by
    rw [lexF_step] at h
    have hk := skB_le false s
    cases e : tokS (s.drop (skB false s)) with
    | bad c' =>
      rw [e] at h
      simp only [LR.bad.injEq] at h
      obtain ⟨rfl, rfl⟩ := h
      have hne : s.drop (skB false s) ≠ [] := fun q => by rw [q] at e; simp [tokS] at e
      have h5 : 0 < (s.drop (skB false s)).length := List.length_pos_iff.2 hne
      simp only [List.length_drop] at h5
      exact ⟨bad_code e, by omega, by omega⟩
    | ok kd t n m =>
      rw [e] at h
      obtain ⟨l1, l2, l3⟩ := tokS_len e
      simp only at h
      split at h
      · cases h
      · rename_i h6
        have hne : s.drop (skB false s) ≠ [] := fun q => h6 (l3 q)
        obtain ⟨hm, _⟩ := l2 hne
        simp only [List.length_drop] at l1
        cases er : lexF f (s.drop (skB false s + m)) (o + skB false s + m) with
        | ok r => rw [er] at h; cases h
        | bad c' q =>
          rw [er] at h
          have h' : LR.bad c' q = LR.bad c k := h
          cases h'
          obtain ⟨a1, a2, a3⟩ := lexF_badat f _ _ c k (by simp only [List.length_drop]; omega) er
          simp only [List.length_drop] at a3
          exact ⟨a1, by omega, by omega⟩

/-- Another rest behind the first token. -/
theorem lexF_splice {f g : Nat} {s s2 : Bs} {o o' : Nat} {k n : Int} {t : Bs} {m : Nat} (hs : tokS (s.drop (skB false s)) = .ok k t n m) (h6 : k ≠ 6) (hf : FolB (s.drop (skB false s + m)) s2) :
    lexF (g + 1) (s.take (skB false s + m) ++ s2) o' = LR.cons ⟨k, t, n, (o' + skB false s : Nat)⟩ (lexF g s2 (o' + skB false s + m)) := by
  obtain ⟨l1, l2, l3⟩ := tokS_len hs
  have hne : s.drop (skB false s) ≠ [] := fun q => h6 (l3 q)
  obtain ⟨hm, _⟩ := l2 hne
  simp only [List.length_drop] at l1
  generalize hq : skB false s = q at *
  -- s = p ++ w ++ rest
  have hw : s.drop q = (s.drop q).take m ++ s.drop (q + m) := by rw [← List.drop_drop, List.take_append_drop]
  have htk : s.take (q + m) = s.take q ++ (s.drop q).take m := by rw [List.take_add]
  have hwl : ((s.drop q).take m).length = m := by rw [List.length_take, List.length_drop]; omega
  have hpl : (s.take q).length = q := by rw [List.length_take]; omega
  have hsq : s = s.take q ++ s.drop q := (List.take_append_drop q s).symm
  rw [htk, List.append_assoc]
  generalize hwv : (s.drop q).take m = w at *
  generalize hpv : s.take q = p at *
  generalize hrv : s.drop (q + m) = rest at *
  cases w with
  | nil => simp at hwl; omega
  | cons c w' =>
    have hsk : skB false (p ++ (c :: w' ++ s2)) = q := by
      have h1 : skB false (p ++ c :: (w' ++ rest)) = p.length := by
        rw [hpl, ← hq]
        congr 1
        rw [hsq, hw]; simp
      have := skB_same false p c (w' ++ rest) (w' ++ s2) h1
      rw [hpl] at this
      simpa using this
    have htok : tokS (c :: w' ++ s2) = .ok k t n m := by
      rw [hw] at hs
      have := tokS_behind (w := c :: w') (s := rest) (s' := s2) (k := k) (n := n) (t := t) (by rw [hwl]; exact hs) (by simp) hf
      rw [hwl] at this
      exact this
    rw [lexF_step, hsk]
    have hd1 : (p ++ (c :: w' ++ s2)).drop q = c :: w' ++ s2 := by rw [← hpl, List.drop_left]
    have hd2 : (p ++ (c :: w' ++ s2)).drop (q + m) = s2 := by
      rw [← List.drop_drop, hd1, ← hwl, List.drop_left]
    rw [hd1, htok]
    simp only
    rw [if_neg h6, hd2]

theorem folB_take {s : Bs} {j : Nat} : FolB s (s.take j) := by
  cases s with
  | nil => exact .inl (by simp)
  | cons c r =>
    cases j with
    | zero => exact .inl rfl
    | succ j => exact .inr (.inl ⟨rfl, by simp⟩)

/-- The part of a source in front of a fault. -/
theorem lexF_cut : ∀ (f : Nat) (s : Bs) (o : Nat) (c : Int) (k : Nat), s.length < f → lexF f s o = .bad c k → ∃ ts a, lexF f (s.take (k - o)) o = .ok ts ∧ ts.getLast? = some a ∧ a.at_ = k
  | 0, s, o, c, k, h, _ => by omega
  | f + 1, s, o, c, k, hf, h => by
    have hbd := lexF_badat (f + 1) s o c k hf h
    rw [lexF_step] at h
    have hk := skB_le false s
    cases e : tokS (s.drop (skB false s)) with
    | bad c' =>
      rw [e] at h
      simp only [LR.bad.injEq] at h
      obtain ⟨rfl, rfl⟩ := h
      rw [show o + skB false s - o = skB false s by omega]
      have h1 := skB_take false s [] rfl
      rw [List.append_nil, show skB false ([] : Bs) = 0 from rfl, Nat.add_zero] at h1
      rw [lexF_step, h1]
      have hd : (s.take (skB false s)).drop (skB false s) = [] := by rw [List.drop_eq_nil_of_le (by rw [List.length_take]; omega)]
      rw [hd]
      exact ⟨[⟨6, [], 0, (o + skB false s : Nat)⟩], _, rfl, rfl, rfl⟩
    | ok kd t n m =>
      rw [e] at h
      obtain ⟨l1, l2, l3⟩ := tokS_len e
      simp only at h
      split at h
      · cases h
      · rename_i h6
        have hne : s.drop (skB false s) ≠ [] := fun q => h6 (l3 q)
        obtain ⟨hm, _⟩ := l2 hne
        simp only [List.length_drop] at l1
        cases er : lexF f (s.drop (skB false s + m)) (o + skB false s + m) with
        | ok r => rw [er] at h; cases h
        | bad c' q =>
          rw [er] at h
          have h' : LR.bad c' q = LR.bad c k := h
          cases h'
          have hb2 := lexF_badat f _ _ c k (by simp only [List.length_drop]; omega) er
          obtain ⟨ts, a, i1, i2, i3⟩ := lexF_cut f _ _ c k (by simp only [List.length_drop]; omega) er
          have hsp := lexF_splice (f := f) (g := f) (o := o) (o' := o) e h6 (s2 := (s.drop (skB false s + m)).take (k - (o + skB false s + m))) folB_take
          have htk : s.take (k - o) = s.take (skB false s + m) ++ (s.drop (skB false s + m)).take (k - (o + skB false s + m)) := by
            rw [show k - o = (skB false s + m) + (k - (o + skB false s + m)) by omega, List.take_add]
          rw [htk, hsp, i1]
          refine ⟨_, a, rfl, ?_, i3⟩
          cases ts with
          | nil => simp at i2
          | cons x r => rw [List.getLast?_cons_cons]; exact i2

/-- The same tokens from another offset on. -/
theorem lexF_shift : ∀ (f : Nat) (s : Bs) (o d : Nat), (∀ c k, lexF f s o = .bad c k → f ≠ 0 → s.length < f → lexF f s (o + d) = .bad c (k + d)) ∧ (∀ ts, lexF f s o = .ok ts → ∃ ts', lexF f s (o + d) = .ok ts' ∧ sameT false ts ts' = true ∧ (∀ x r, ts = x :: r → ∃ r', ts' = ⟨x.kind, x.text, x.n, x.at_ + d⟩ :: r'))
  | 0, s, o, d => ⟨fun c k _ h => absurd rfl h, fun ts h => by simp [lexF] at h⟩
  | f + 1, s, o, d => by
    rw [lexF_step, lexF_step]
    have hk := skB_le false s
    cases e : tokS (s.drop (skB false s)) with
    | bad c' =>
      refine ⟨fun c k h _ _ => ?_, fun ts h => by cases h⟩
      simp only [LR.bad.injEq] at h ⊢
      omega
    | ok kd t n m =>
      obtain ⟨l1, l2, l3⟩ := tokS_len e
      simp only
      split
      · refine ⟨fun c k h _ _ => (by cases h), fun ts h => ?_⟩
        cases h
        refine ⟨_, rfl, by simp [sameT, tkEq], fun x r hx => ?_⟩
        simp only [List.cons.injEq] at hx
        obtain ⟨rfl, rfl⟩ := hx
        refine ⟨[], ?_⟩
        simp only [List.cons.injEq, Tk.mk.injEq, and_true, true_and]; omega
      · rename_i h6
        obtain ⟨i1, i2⟩ := lexF_shift f (s.drop (skB false s + m)) (o + skB false s + m) d
        rw [show o + skB false s + m + d = o + d + skB false s + m by omega] at i1 i2
        have hne : s.drop (skB false s) ≠ [] := fun q => h6 (l3 q)
        obtain ⟨hm, _⟩ := l2 hne
        simp only [List.length_drop] at l1
        cases er : lexF f (s.drop (skB false s + m)) (o + skB false s + m) with
        | bad c q =>
          refine ⟨fun c' k h _ hlt => ?_, fun ts h => by cases h⟩
          have h' : LR.bad c q = LR.bad c' k := h
          cases h'
          have hl : (s.drop (skB false s + m)).length < f := by simp only [List.length_drop]; omega
          rw [i1 c q er (by omega) hl]; rfl
        | ok r =>
          refine ⟨fun c' k h _ _ => (by cases h), fun ts h => ?_⟩
          have h' : LR.ok (⟨kd, t, n, (o + skB false s : Nat)⟩ :: r) = LR.ok ts := h
          cases h'
          obtain ⟨ts', j1, j2, _⟩ := i2 r er
          rw [j1]
          refine ⟨_, rfl, by simp [sameT, tkEq, j2], fun x r0 hx => ?_⟩
          simp only [List.cons.injEq] at hx
          obtain ⟨rfl, rfl⟩ := hx
          refine ⟨ts', ?_⟩
          simp only [List.cons.injEq, Tk.mk.injEq, and_true, true_and]; omega
theorem lexF_same (f : Nat) (s : Bs) (o o' : Nat) (ts : List Tk) (h : lexF f s o = .ok ts) : ∃ ts', lexF f s o' = .ok ts' ∧ sameT false ts ts' = true := by
  -- both are shifts of the list from 0 on
  have h0 : ∃ u, lexF f s 0 = .ok u := by
    cases e : lexF f s 0 with
    | ok u => exact ⟨u, rfl⟩
    | bad c k =>
      exfalso
      have key : ∀ (f : Nat) (s : Bs) (a b : Nat) (ts : List Tk), lexF f s a = .ok ts → ∃ us, lexF f s b = .ok us := by
        intro f
        induction f with
        | zero => intro s a b ts h; simp [lexF] at h
        | succ f ih =>
          intro s a b ts h
          rw [lexF_step] at h ⊢
          cases et : tokS (s.drop (skB false s)) with
          | bad c => rw [et] at h; cases h
          | ok kd t n m =>
            rw [et] at h
            simp only at h ⊢
            split at h
            · rename_i h6; rw [if_pos h6]; exact ⟨_, rfl⟩
            · rename_i h6
              rw [if_neg h6]
              cases er : lexF f (s.drop (skB false s + m)) (a + skB false s + m) with
              | bad c q => rw [er] at h; cases h
              | ok r =>
                obtain ⟨us, hu⟩ := ih _ _ (b + skB false s + m) r er
                rw [hu]; exact ⟨_, rfl⟩
      obtain ⟨us, hu⟩ := key f s o 0 ts h
      rw [hu] at e; cases e
  obtain ⟨u, hu⟩ := h0
  obtain ⟨t1, a1, a2, _⟩ := (lexF_shift f s 0 o).2 u hu
  obtain ⟨t2, b1, b2, _⟩ := (lexF_shift f s 0 o').2 u hu
  rw [Nat.zero_add] at a1 b1
  rw [h] at a1
  cases a1
  refine ⟨t2, b1, ?_⟩
  have trans : ∀ a b c : List Tk, sameT false a b = true → sameT false a c = true → sameT false b c = true := by
    intro a
    induction a with
    | nil => intro b c h1 h2; cases b <;> cases c <;> simp_all [sameT]
    | cons x a ih =>
      intro b c h1 h2
      cases b with
      | nil => simp [sameT] at h1
      | cons y b =>
        cases c with
        | nil => simp [sameT] at h2
        | cons z c =>
          simp only [sameT, Bool.and_eq_true] at h1 h2 ⊢
          refine ⟨?_, ih b c h1.2 h2.2⟩
          have g1 := h1.1
          have g2 := h2.1
          simp only [tkEq, Bool.and_eq_true, decide_eq_true_eq, Bool.not_false, Bool.true_or, and_true] at g1 g2 ⊢
          exact ⟨g1.1.symm.trans g2.1, g1.2.1.symm.trans g2.2.1, g1.2.2.symm.trans g2.2.2⟩
  exact trans u ts t2 a2 b2
end Go.Proofs.YtbgjgaaobnbijaaDoor
end
section
/- The laws of token lists, third part: a comment in front of a token; texts read again. -/
set_option linter.unusedSimpArgs false
set_option linter.unusedVariables false
set_option maxRecDepth 8000
namespace Go.Proofs.YtbgjgaaobnbijaaDoor
open Gx Go

/-- Blanks and a comment. -/
def insB (com : Bs) : Bs := [32, 9, 35] ++ com ++ [13, 10]
theorem insB_skip (com : Bs) (h : com.all lineB = true) (y : Bs) : skB true (insB com ++ y) = skB false (insB com ++ y) ∧ skB false (insB com ++ y) = (insB com).length + skB false y := by
  have e : insB com ++ y = 32 :: 9 :: 35 :: (com ++ 13 :: 10 :: y) := by simp [insB]
  have hl : (insB com).length = com.length + 5 := by simp [insB]
  rw [e, hl]
  have hc := skB_comment com y h
  have a1 : blankB 32 = true := by decide
  have a2 : blankB 9 = true := by decide
  have a3 : blankB 35 = false := by decide
  have a4 : ((UInt8.toNat 35 : Nat) : Int) = 35 := by decide
  have b1 : lineB 32 = true := by decide
  have b2 : lineB 9 = true := by decide
  have b3 : lineB 35 = true := by decide
  simp only [skB, a1, a2, a3, a4, b1, b2, b3, hc, if_true, Bool.false_eq_true, if_false]
  refine ⟨trivial, ?_⟩
  omega

theorem skB_idem (s : Bs) : skB false (s.drop (skB false s)) = 0 := by
  cases e : s.drop (skB false s) with
  | nil => rfl
  | cons c r =>
    obtain ⟨h1, h2⟩ := skB_done false s c r e
    exact skB_other h1 h2 r

/-- Where the tokens of what is left stand. -/
theorem lexF_at : ∀ (f : Nat) (s : Bs) (o : Nat) (ts : List Tk), s.length < f → lexF f s o = .ok ts → ∀ t ∈ ts, ∃ a : Nat, t.at_ = a ∧ o ≤ a ∧ a ≤ o + s.length
  | 0, s, o, ts, h, _ => by omega
  | f + 1, s, o, ts, hf, h => by
    rw [lexF_step] at h
    have hk := skB_le false s
    cases e : tokS (s.drop (skB false s)) with
    | bad c => rw [e] at h; cases h
    | ok k t n m =>
      rw [e] at h
      obtain ⟨l1, l2, l3⟩ := tokS_len e
      simp only at h
      split at h
      · cases h
        intro x hx
        simp only [List.mem_singleton] at hx
        subst hx
        exact ⟨o + skB false s, rfl, by omega, by omega⟩
      · rename_i h6
        have hne : s.drop (skB false s) ≠ [] := fun q => h6 (l3 q)
        obtain ⟨hm, _⟩ := l2 hne
        simp only [List.length_drop] at l1
        cases er : lexF f (s.drop (skB false s + m)) (o + skB false s + m) with
        | bad c q => rw [er] at h; cases h
        | ok r =>
          rw [er] at h
          have h' : LR.ok (⟨k, t, n, (o + skB false s : Nat)⟩ :: r) = LR.ok ts := h
          cases h'
          have ih := lexF_at f _ _ r (by simp only [List.length_drop]; omega) er
          intro x hx
          rcases List.mem_cons.1 hx with rfl | hx
          · exact ⟨o + skB false s, rfl, by omega, by omega⟩
          · obtain ⟨a, a1, a2, a3⟩ := ih x hx
            simp only [List.length_drop] at a3
            exact ⟨a, a1, by omega, by omega⟩

theorem lexF_ins (com : Bs) (hcom : com.all lineB = true) : ∀ (f : Nat) (s : Bs) (o o' : Nat) (ts : List Tk) (i : Nat) (hi : i < ts.length) (p : Nat), s.length < f → lexF f s o = .ok ts → ts[i].at_ = (o + p : Nat) →
    ∃ ts', lexF f (s.take p ++ insB com ++ s.drop p) o' = .ok ts' ∧ sameT false ts ts' = true
  | 0, s, o, o', ts, i, hi, p, h, _, _ => by omega
  | f + 1, s, o, o', ts, i, hi, p, hf, h, hp => by
    have h0 := h
    rw [lexF_step] at h
    have hk := skB_le false s
    cases e : tokS (s.drop (skB false s)) with
    | bad c => rw [e] at h; cases h
    | ok k t n m =>
      rw [e] at h
      obtain ⟨l1, l2, l3⟩ := tokS_len e
      -- in front of the first token
      have front : p = skB false s → ∃ ts', lexF (f + 1) (s.take p ++ insB com ++ s.drop p) o' = .ok ts' ∧ sameT false ts ts' = true := by
        intro hp0
        subst hp0
        obtain ⟨q1, q2⟩ := insB_skip com hcom (s.drop (skB false s))
        have hsk := skB_take false s (insB com ++ s.drop (skB false s)) q1
        rw [q2, skB_idem, Nat.add_zero] at hsk
        rw [List.append_assoc, lexF_step, hsk]
        have hpl : (s.take (skB false s)).length = skB false s := by rw [List.length_take]; omega
        have hd : (s.take (skB false s) ++ (insB com ++ s.drop (skB false s))).drop (skB false s + (insB com).length) = s.drop (skB false s) := by
          rw [← List.drop_drop]
          have : (s.take (skB false s) ++ (insB com ++ s.drop (skB false s))).drop (skB false s) = insB com ++ s.drop (skB false s) := by
            have := List.drop_left (l₁ := s.take (skB false s)) (l₂ := insB com ++ s.drop (skB false s))
            rwa [hpl] at this
          rw [this, List.drop_left]
        have hd2 : (s.take (skB false s) ++ (insB com ++ s.drop (skB false s))).drop (skB false s + (insB com).length + m) = s.drop (skB false s + m) := by
          rw [← List.drop_drop, hd, List.drop_drop]
        rw [hd, e]
        simp only at h ⊢
        split at h
        · rename_i h6
          rw [if_pos h6]
          cases h
          exact ⟨_, rfl, by simp [sameT, tkEq]⟩
        · rename_i h6
          rw [if_neg h6, hd2]
          cases er : lexF f (s.drop (skB false s + m)) (o + skB false s + m) with
          | bad c q => rw [er] at h; cases h
          | ok r =>
            rw [er] at h
            have h' : LR.ok (⟨k, t, n, (o + skB false s : Nat)⟩ :: r) = LR.ok ts := h
            cases h'
            obtain ⟨r', j1, j2⟩ := lexF_same f _ _ (o' + (skB false s + (insB com).length) + m) r er
            rw [j1]
            exact ⟨_, rfl, by simp [sameT, tkEq, j2]⟩
      simp only at h
      split at h
      · rename_i h6
        cases h
        have hi0 : i = 0 := by simpa using hi
        subst hi0
        refine front ?_
        have hp' : ((o + skB false s : Nat) : Int) = (o + p : Nat) := hp
        omega
      · rename_i h6
        have hne : s.drop (skB false s) ≠ [] := fun q => h6 (l3 q)
        obtain ⟨hm, _⟩ := l2 hne
        simp only [List.length_drop] at l1
        cases er : lexF f (s.drop (skB false s + m)) (o + skB false s + m) with
        | bad c q => rw [er] at h; cases h
        | ok r =>
          rw [er] at h
          have h' : LR.ok (⟨k, t, n, (o + skB false s : Nat)⟩ :: r) = LR.ok ts := h
          cases h'
          cases i with
          | zero =>
            refine front ?_
            have hp' : ((o + skB false s : Nat) : Int) = (o + p : Nat) := hp
            omega
          | succ i =>
            have hi' : i < r.length := by simpa using hi
            have hp' : r[i].at_ = (o + p : Nat) := hp
            obtain ⟨a, a1, a2, a3⟩ := lexF_at f _ _ r (by simp only [List.length_drop]; omega) er r[i] (List.getElem_mem _)
            simp only [List.length_drop] at a3
            have hge : o + skB false s + m ≤ o + p := by omega
            obtain ⟨p2, rfl⟩ : ∃ p2, p = skB false s + m + p2 := ⟨p - (skB false s + m), by omega⟩
            obtain ⟨r', j1, j2⟩ := lexF_ins com hcom f (s.drop (skB false s + m)) (o + skB false s + m) (o' + skB false s + m) r i hi' p2 (by simp only [List.length_drop]; omega) er (by rw [hp']; omega)
            have hs2 : s.take (skB false s + m + p2) ++ insB com ++ s.drop (skB false s + m + p2) = s.take (skB false s + m) ++ ((s.drop (skB false s + m)).take p2 ++ insB com ++ (s.drop (skB false s + m)).drop p2) := by
              rw [List.take_add, List.drop_drop]; simp
            have hfol : FolB (s.drop (skB false s + m)) ((s.drop (skB false s + m)).take p2 ++ insB com ++ (s.drop (skB false s + m)).drop p2) := by
              cases p2 with
              | zero => exact .inr (.inr ⟨by simp [insB]; decide, by simp [insB]⟩)
              | succ p2 =>
                cases er2 : s.drop (skB false s + m) with
                | nil =>
                  have := congrArg List.length er2
                  simp only [List.length_drop, List.length_nil] at this
                  omega
                | cons c u => exact .inr (.inl ⟨rfl, by simp⟩)
            rw [hs2, lexF_splice (f := f) (o := o) e h6 hfol, j1]
            exact ⟨_, rfl, by simp [sameT, tkEq, j2]⟩

/-! ### texts -/
theorem spT_tok {t : Tk} (h : poB t = true) (h6 : t.kind ≠ 6) : tokS (spT t) = .ok t.kind t.text t.n (spT t).length := by
  have hkw : ∀ g ∈ kwList, validN g = true := by decide
  have hsg : ∀ g ∈ signList, tokS g = .ok 5 g 0 g.length := by decide
  have word : ∀ w : Bs, validN w = true → tokS w = .ok (if kwB w then 2 else 1) w 0 w.length := by
    intro w hv
    unfold validN at hv
    simp only [Bool.and_eq_true, decide_eq_true_eq] at hv
    obtain ⟨v1, v2, v3, v4⟩ := hv
    cases w with
    | nil => simp at v1
    | cons c r =>
      have hc : letB c = true := v3
      simp only [tokS, hc, if_true]
      rw [takeWhile_all partB _ v4]
      unfold tokW
      rw [if_neg (by omega)]
  obtain ⟨k, tx, n, a⟩ := t
  have hp := h
  unfold poB at hp
  simp only [Bool.and_eq_true, Bool.or_eq_true, decide_eq_true_eq] at hp h6
  obtain ⟨hn, hp⟩ := hp
  by_cases k1 : k = 1
  · subst k1
    simp only [if_true, Bool.and_eq_true, Bool.not_eq_true'] at hp
    have hn0 : n = 0 := by omega
    subst hn0
    show tokS tx = _
    rw [word tx hp.1, hp.2]; rfl
  rw [if_neg k1] at hp
  by_cases k2 : k = 2
  · subst k2
    rw [if_pos rfl] at hp
    have hn0 : n = 0 := by omega
    subst hn0
    show tokS tx = _
    have hv := hkw tx (by unfold kwB at hp; simpa using hp)
    rw [word tx hv, hp]; rfl
  rw [if_neg k2] at hp
  by_cases k3 : k = 3
  · subst k3
    simp only [if_true, Bool.and_eq_true, decide_eq_true_eq] at hp
    obtain ⟨rfl, h0, h1⟩ := hp
    obtain ⟨u, rfl⟩ : ∃ u : Nat, n = u := ⟨n.toNat, by omega⟩
    have hsp : spT ⟨3, [], (u : Int), a⟩ = Lib.decDigits u := by
      rw [spT_int, itoa_nat]
    rw [hsp]
    obtain ⟨d1, d2, d3, d4⟩ := dd_dig u
    show tokS (Lib.decDigits u) = .ok 3 [] (u : Int) _
    generalize Lib.decDigits u = w at *
    cases w with
    | nil => exact absurd rfl d3
    | cons c r =>
      have hc : digB c = true := by rw [List.all_cons, Bool.and_eq_true] at d1; exact d1.1
      have hl : letB c = false := by
        rw [digB_iff] at hc
        simp [letB]; omega
      simp only [tokS, hl, hc, Bool.false_eq_true, if_false, if_true]
      rw [takeWhile_all digB _ d1]
      unfold tokD
      rw [if_neg (fun q => d4 q.1 q.2), if_neg (by rw [d2]; omega), d2]
  rw [if_neg k3] at hp
  have hn0 : n = 0 := by omega
  subst hn0
  by_cases k4 : k = 4
  · subst k4
    rw [if_pos rfl] at hp
    show tokS (39 :: (tx ++ [39])) = .ok 4 tx 0 (39 :: (tx ++ [39])).length
    have hv := hp
    unfold validN at hv
    simp only [Bool.and_eq_true, decide_eq_true_eq] at hv
    have hall : ∀ x ∈ tx, partB x = true := List.all_eq_true.1 hv.2.2.2
    have a1 : letB 39 = false := by decide
    have a2 : digB 39 = false := by decide
    have a3 : ((UInt8.toNat 39 : Nat) : Int) = 39 := by decide
    simp only [tokS, a1, a2, a3, Bool.false_eq_true, if_false, if_true]
    have e1 : (tx ++ [39]).takeWhile partB = tx := by
      rw [List.takeWhile_append_of_pos hall]
      have : ([39] : Bs).takeWhile partB = [] := by decide
      rw [this]; simp
    have e2 : (tx ++ [39]).dropWhile partB = [39] := by
      rw [List.dropWhile_append_of_pos hall]; decide
    rw [e1, e2]
    unfold tokQ
    rw [if_neg (by simp), if_pos hp]
    simp
  rw [if_neg k4] at hp
  by_cases k5 : k = 5
  · subst k5
    rw [if_pos rfl] at hp
    show tokS tx = _
    rw [hsg tx (by unfold signB at hp; simpa using hp)]
    rfl
  · rw [if_neg k5, if_neg h6] at hp
    cases hp

/-- The spelling of a token begins with no blank. -/
theorem spT_head {t : Tk} (h : poB t = true) (h6 : t.kind ≠ 6) (s : Bs) : spT t ≠ [] ∧ skB false (spT t ++ s) = 0 := by
  have ht := spT_tok h h6
  have hlen := tokS_len ht
  have hne : spT t ≠ [] := fun e => h6 (hlen.2.2 e)
  refine ⟨hne, ?_⟩
  cases e : spT t with
  | nil => exact absurd e hne
  | cons c r =>
    rw [e] at ht
    rw [List.cons_append]
    refine skB_other ?_ ?_ _
    · cases hb : blankB c
      · rfl
      · exfalso
        obtain ⟨b1, b2, b3⟩ := blank_not hb
        have hq : ¬ (c.toNat : Int) = 39 := by
          simp only [blankB, Bool.or_eq_true, decide_eq_true_eq] at hb; omega
        simp only [tokS, b1, b2, hq, Bool.false_eq_true, if_false] at ht
        have hs : ∀ x : UInt8, blankB x = true → ∀ g ∈ signList, g.getD 0 0 ≠ x := by
          intro x hx g hg e
          simp only [blankB, Bool.or_eq_true, decide_eq_true_eq] at hx
          have : ∀ g ∈ signList, ¬ blankB (g.getD 0 0) = true := by decide
          exact this g hg (by rw [e]; simp only [blankB, Bool.or_eq_true, decide_eq_true_eq]; exact hx)
        unfold tokG at ht
        split at ht
        · rename_i h2
          have := h2.2
          unfold signB at this
          rw [decide_eq_true_eq] at this
          exact hs c hb _ this rfl
        · split at ht
          · rename_i h2
            unfold signB at h2
            rw [decide_eq_true_eq] at h2
            exact hs c hb _ h2 rfl
          · cases ht
    · intro hh
      have b1 : letB c = false := by simp [letB]; omega
      have b2 : digB c = false := by simp [digB]; omega
      have hq : ¬ (c.toNat : Int) = 39 := by omega
      simp only [tokS, b1, b2, hq, Bool.false_eq_true, if_false] at ht
      have : ∀ g ∈ signList, (g.getD 0 0).toNat ≠ 35 := by decide
      unfold tokG at ht
      split at ht
      · rename_i h2
        have h3 := h2.2
        unfold signB at h3
        rw [decide_eq_true_eq] at h3
        exact this _ h3 (by show c.toNat = 35; omega)
      · split at ht
        · rename_i h2
          unfold signB at h2
          rw [decide_eq_true_eq] at h2
          exact this _ h2 (by show c.toNat = 35; omega)
        · cases ht

theorem lexF_blank (f : Nat) (x : Bs) (o : Nat) : lexF (f + 1) (32 :: x) o = lexF (f + 1) x (o + 1) := by
  rw [lexF_step, lexF_step]
  have h : skB false (32 :: x) = skB false x + 1 := by
    simp only [skB]; rw [if_pos (by decide)]
  rw [h, List.drop_succ_cons, show o + (skB false x + 1) = o + 1 + skB false x by omega]
  cases tokS (x.drop (skB false x)) with
  | bad c => rfl
  | ok k t n m =>
    simp only
    rw [show skB false x + 1 + m = (skB false x + m) + 1 by omega, List.drop_succ_cons]

theorem lexF_one {t : Tk} (h : poB t = true) (h6 : t.kind ≠ 6) {s : Bs} (hs : s = [] ∨ ∃ y, s = 32 :: y) (f : Nat) (o : Nat) :
    lexF (f + 1) (spT t ++ s) o = LR.cons ⟨t.kind, t.text, t.n, (o : Int)⟩ (lexF f s (o + (spT t).length)) := by
  obtain ⟨hne, hsk⟩ := spT_head h h6 s
  have ht := spT_tok h h6
  have htok : tokS (spT t ++ s) = .ok t.kind t.text t.n (spT t).length := by
    have h0 : tokS (spT t ++ []) = .ok t.kind t.text t.n (spT t).length := by rw [List.append_nil]; exact ht
    refine tokS_behind h0 hne ?_
    rcases hs with rfl | ⟨y, rfl⟩
    · exact .inl rfl
    · exact .inr (.inr ⟨by show blankB 32 = true; decide, by simp⟩)
  rw [lexF_step, hsk, List.drop_zero, htok]
  simp only
  rw [if_neg h6, Nat.zero_add, List.drop_left, Nat.add_zero]

theorem lexF_join (e : Tk) (he : e.kind = 6) (he2 : e.text = []) (he3 : e.n = 0) : ∀ (init : List Tk), (∀ t ∈ init, poB t = true ∧ t.kind ≠ 6) → ∀ (f o : Nat), (Lib.join (init.map spT) [32]).length < f →
    ∃ ts', lexF f (Lib.join (init.map spT) [32]) o = .ok ts' ∧ sameT false ts' (init ++ [e]) = true
  | [], _, f, o, hf => by
    have hj : Lib.join ([] : List Bs) [32] = [] := rfl
    rw [List.map_nil, hj] at hf ⊢
    obtain ⟨f, rfl⟩ : ∃ g, f = g + 1 := ⟨f - 1, by simp at hf; omega⟩
    refine ⟨[⟨6, [], 0, (o : Int)⟩], rfl, ?_⟩
    simp [sameT, tkEq, he, he2, he3]
  | [t], h, f, o, hf => by
    obtain ⟨h1, h6⟩ := h t (by simp)
    have hj : Lib.join ([t].map spT) [32] = spT t := by simp [Lib.join]
    rw [hj] at hf ⊢
    have hpos : 0 < (spT t).length := List.length_pos_iff.2 (spT_head h1 h6 []).1
    obtain ⟨f, rfl⟩ : ∃ g, f = g + 2 := ⟨f - 2, by omega⟩
    have := lexF_one h1 h6 (s := []) (.inl rfl) (f + 1) o
    rw [List.append_nil] at this
    rw [this]
    refine ⟨_, rfl, ?_⟩
    simp [sameT, tkEq, he, he2, he3]
  | t :: u :: r, h, f, o, hf => by
    obtain ⟨h1, h6⟩ := h t (by simp)
    have hj : Lib.join ((t :: u :: r).map spT) [32] = spT t ++ 32 :: Lib.join ((u :: r).map spT) [32] := by
      rw [List.map_cons, Lib.join_cons]
      simp [Lib.joinTail, Lib.join_cons]
    rw [hj] at hf ⊢
    simp only [List.length_append, List.length_cons] at hf
    have hpos : 0 < (spT t).length := List.length_pos_iff.2 (spT_head h1 h6 []).1
    obtain ⟨f, rfl⟩ : ∃ g, f = g + 2 := ⟨f - 2, by omega⟩
    rw [lexF_one h1 h6 (.inr ⟨_, rfl⟩) (f + 1) o, lexF_blank]
    obtain ⟨ts', j1, j2⟩ := lexF_join e he he2 he3 (u :: r) (fun x hx => h x (by simp [hx])) (f + 1) (o + (spT t).length + 1) (by omega)
    rw [j1]
    refine ⟨_, rfl, ?_⟩
    rw [List.cons_append]
    simp only [sameT, tkEq, Bool.and_eq_true]
    exact ⟨by simp, j2⟩

theorem okG_parts : ∀ (l : List Tk), l ≠ [] → okG l = true → ∃ init e, l = init ++ [e] ∧ (∀ t ∈ init, poB t = true ∧ t.kind ≠ 6) ∧ poB e = true ∧ e.kind = 6
  | [], h, _ => absurd rfl h
  | [t], _, h => by
    simp only [okG, Bool.and_eq_true, List.isEmpty_nil, beq_iff_eq, decide_eq_true_eq] at h
    exact ⟨[], t, rfl, by simp, h.1.1, h.1.2⟩
  | t :: u :: r, _, h => by
    rw [okG, Bool.and_eq_true, Bool.and_eq_true] at h
    obtain ⟨init, e, h1, h2, h3, h4⟩ := okG_parts (u :: r) (by simp) h.2
    refine ⟨t :: init, e, by rw [h1]; rfl, fun x hx => ?_, h3, h4⟩
    rcases List.mem_cons.1 hx with rfl | hx
    · refine ⟨h.1.1, ?_⟩
      have := h.1.2
      simp only [List.isEmpty_cons, beq_iff_eq, decide_eq_false_iff_not] at this
      exact this
    · exact h2 x hx
/-- The tokens of a text are the tokens that were written. -/
theorem text_lex {l : List Tk} {s : Bs} (h : textT l = (s, 0)) : ∃ ts', lexT s = .ok ts' ∧ sameT false ts' l = true := by
  unfold textT at h
  split at h
  · simp at h
  · rename_i h1
    split at h
    · simp at h
    · rename_i h2
      simp only [Prod.mk.injEq, and_true] at h
      have hne : l ≠ [] := fun e => h1 (.inl e)
      have hok : okG l = true := by
        cases q : okG l
        · exact absurd (.inr q) h1
        · rfl
      obtain ⟨init, e, rfl, i1, i2, i3⟩ := okG_parts l hne hok
      have hsp : spells (init ++ [e]) = init.map spT := by
        unfold spells
        rw [List.filter_append]
        have e1 : init.filter (fun t => !decide (t.kind = 6)) = init := List.filter_eq_self.2 fun t ht => by simpa using (i1 t ht).2
        rw [e1]
        simp [i3]
      rw [hsp] at h h2
      have hpe : e.text = [] ∧ e.n = 0 := by
        unfold poB at i2
        rw [i3] at i2
        simpa [and_comm] using i2
      obtain ⟨ts', j1, j2⟩ := lexF_join e i3 hpe.1 hpe.2 init i1 (s.length + 1) 0 (by rw [h]; omega)
      rw [h] at j1 h2
      refine ⟨ts', ?_, j2⟩
      unfold lexT lexA
      rw [if_neg h2, List.drop_zero]
      exact j1

theorem textT_same : ∀ {a b : List Tk}, sameT false a b = true → okG a = okG b ∧ spells a = spells b ∧ (a = [] ↔ b = [])
  | [], [], _ => ⟨rfl, rfl, Iff.rfl⟩
  | x :: xs, y :: ys, h => by
    simp only [sameT, Bool.and_eq_true] at h
    obtain ⟨h1, h2⟩ := h
    obtain ⟨i1, i2, i3⟩ := textT_same h2
    simp only [tkEq, Bool.and_eq_true, decide_eq_true_eq] at h1
    obtain ⟨e1, e2, e3, _⟩ := h1
    have hpo : poB x = poB y := by unfold poB; rw [e1, e2, e3]
    have hsp : spT x = spT y := by unfold spT; rw [e1, e2, e3]
    have hem : xs.isEmpty = ys.isEmpty := by
      rw [Bool.eq_iff_iff, List.isEmpty_iff, List.isEmpty_iff]; exact i3
    refine ⟨by simp only [okG, hpo, e1, hem, i1], ?_, by simp⟩
    unfold spells at i2 ⊢
    rw [List.filter_cons, List.filter_cons, e1]
    split
    · rw [List.map_cons, List.map_cons, hsp, i2]
    · exact i2
  | [], _ :: _, h => by simp [sameT] at h
  | _ :: _, [], h => by simp [sameT] at h
theorem textT_eq {a b : List Tk} (h : sameT false a b = true) : textT a = textT b := by
  obtain ⟨h1, h2, h3⟩ := textT_same h
  unfold textT
  simp only [h1, h2, h3]
theorem sameT_symm : ∀ {a b : List Tk}, sameT false a b = true → sameT false b a = true
  | [], [], _ => rfl
  | x :: xs, y :: ys, h => by
    simp only [sameT, Bool.and_eq_true] at h ⊢
    refine ⟨?_, sameT_symm h.2⟩
    have h1 := h.1
    simp only [tkEq, Bool.and_eq_true, decide_eq_true_eq, Bool.not_false, Bool.true_or, and_true] at h1 ⊢
    exact ⟨h1.1.symm, h1.2.1.symm, h1.2.2.symm⟩
  | [], _ :: _, h => by simp [sameT] at h
  | _ :: _, [], h => by simp [sameT] at h

/-- A chain's tokens are possible, the end last. -/
theorem chainT_ok : ∀ (e : Nat) (s : Bs) (o : Nat) (ts : List Tk), chainT e s o ts → okG ts = true ∧ ts ≠ [] ∧ ts.length ≤ s.length + 1
  | e, s, o, [], h => h.elim
  | e, s, o, t :: r, h => by
    rcases h with ⟨rfl, rfl, _⟩ | ⟨h1, h2, q, h3, h4, h5, h6, h7⟩
    · exact ⟨by simp [okG, poB], by simp, by simp⟩
    · obtain ⟨i1, i2, i3⟩ := chainT_ok e _ _ r h7
      refine ⟨?_, by simp, by simp only [List.length_cons, List.length_drop] at i3 ⊢; omega⟩
      have : r.isEmpty = false := by
        cases r with
        | nil => exact absurd rfl i2
        | cons _ _ => rfl
      simp [okG, h1, h2, i1, this]
end Go.Proofs.YtbgjgaaobnbijaaDoor
end
section
/- The tokens of sources that are put together, but for offsets. -/
set_option linter.unusedSimpArgs false
set_option linter.unusedVariables false
set_option maxRecDepth 8000
namespace Go.Proofs.YtbgjgaaobnbijaaDoor
open Gx Go

theorem tkEq_iff {x y : Tk} : tkEq false x y = true ↔ tkE x y := by
  unfold tkE
  simp only [tkEq, Bool.and_eq_true, decide_eq_true_eq, Bool.not_false, Bool.true_or, and_true]
theorem sameT_trans : ∀ {a b c : List Tk}, sameT false a b = true → sameT false b c = true → sameT false a c = true
  | [], [], c, _, h => h
  | x :: a, y :: b, z :: c, h, h' => by
    simp only [sameT, Bool.and_eq_true, tkEq_iff] at h h' ⊢
    exact ⟨⟨h.1.1.trans h'.1.1, h.1.2.1.trans h'.1.2.1, h.1.2.2.trans h'.1.2.2⟩, sameT_trans h.2 h'.2⟩
  | [], _ :: _, _, h, _ => by simp [sameT] at h
  | _ :: _, [], _, h, _ => by simp [sameT] at h
  | _ :: _, _ :: _, [], _, h => by simp [sameT] at h
theorem sameT_app : ∀ {a b c d : List Tk}, sameT false a b = true → sameT false c d = true → sameT false (a ++ c) (b ++ d) = true
  | [], [], c, d, _, h => h
  | x :: a, y :: b, c, d, h, h' => by
    simp only [sameT, List.cons_append, Bool.and_eq_true] at h ⊢
    exact ⟨h.1, sameT_app h.2 h'⟩
  | [], _ :: _, _, _, h, _ => by simp [sameT] at h
  | _ :: _, [], _, _, h, _ => by simp [sameT] at h
theorem sameT_cons {x y : Tk} {a b : List Tk} (h : tkE x y) (h' : sameT false a b = true) : sameT false (x :: a) (y :: b) = true := by
  simp only [sameT, Bool.and_eq_true]
  exact ⟨tkEq_iff.2 h, h'⟩
theorem sameT_hd : ∀ {a b : List Tk} (i : Nat), sameT false a b = true → tkE (hd (a.drop i)) (hd (b.drop i))
  | [], [], i, _ => by simp [tkE]
  | x :: a, y :: b, 0, h => by
    simp only [sameT, Bool.and_eq_true] at h
    exact tkEq_iff.1 h.1
  | x :: a, y :: b, i + 1, h => by
    simp only [sameT, Bool.and_eq_true] at h
    exact sameT_hd i h.2
  | [], _ :: _, _, h => by simp [sameT] at h
  | _ :: _, [], _, h => by simp [sameT] at h

def LR.pre (I : List Tk) : LR → LR
  | .bad e k => .bad e k
  | .ok l => .ok (I ++ l)
theorem LR.cons_pre (t : Tk) (I : List Tk) (R : LR) : LR.cons t (LR.pre I R) = LR.pre (t :: I) R := by cases R <;> rfl
theorem lexF_over {s y : Bs} (hy : skB true y = skB false y) (hs : skB false s = s.length) (f o : Nat) : lexF (f + 1) (s ++ y) o = lexF (f + 1) y (o + s.length) := by
  have h := skB_take false s y hy
  rw [hs, List.take_length] at h
  rw [lexF_step, lexF_step, h]
  have e1 : ∀ k, (s ++ y).drop (s.length + k) = y.drop k := fun k => by rw [← List.drop_drop, List.drop_left]
  rw [e1]
  cases tokS (y.drop (skB false y)) with
  | bad c => simp only [Nat.add_assoc]
  | ok k t n m =>
    simp only [Nat.add_assoc, e1]
theorem lexF_app {y : Bs} (hy : skB true y = skB false y) (hb : blankB (y.getD 0 0) = true) (hn : y ≠ []) : ∀ (f : Nat) (s : Bs) (o o' : Nat) (T : List Tk), s.length < f → lexF f s o = .ok T →
    ∃ I E I', T = I ++ [E] ∧ tkE E ⟨6, [], 0, 0⟩ ∧ sameT false I' I = true ∧ ∀ g, (s ++ y).length < g → lexF g (s ++ y) o' = LR.pre I' (lexF (y.length + 1) y (o' + s.length))
  | 0, s, o, o', T, hf, _ => by omega
  | f + 1, s, o, o', T, hf, h => by
    rw [lexF_step] at h
    have hk := skB_le false s
    cases e : tokS (s.drop (skB false s)) with
    | bad c => rw [e] at h; cases h
    | ok k t n m =>
      rw [e] at h
      obtain ⟨l1, l2, l3⟩ := tokS_len e
      simp only at h
      split at h
      · rename_i h6
        have hnil := (end_nil e).1 h6
        rw [hnil] at e
        obtain ⟨_, rfl, rfl, _⟩ := end_val e
        cases h
        have hsk : skB false s = s.length := by
          have := congrArg List.length hnil
          simp only [List.length_drop, List.length_nil] at this
          omega
        refine ⟨[], _, [], rfl, ⟨h6, rfl, rfl⟩, rfl, fun g hg => ?_⟩
        obtain ⟨g, rfl⟩ : ∃ g', g = g' + 1 := ⟨g - 1, by omega⟩
        rw [lexF_over hy hsk, lexF_fuel (g + 1) (y.length + 1) _ _ (by simp at hg; omega) (by omega)]
        cases lexF (y.length + 1) y (o' + s.length) <;> rfl
      · rename_i h6
        have hne : s.drop (skB false s) ≠ [] := fun q => h6 (l3 q)
        obtain ⟨hm, _⟩ := l2 hne
        simp only [List.length_drop] at l1
        cases er : lexF f (s.drop (skB false s + m)) (o + skB false s + m) with
        | bad c q => rw [er] at h; cases h
        | ok r =>
          rw [er] at h
          have h' : LR.ok (⟨k, t, n, (o + skB false s : Nat)⟩ :: r) = LR.ok T := h
          cases h'
          have hrl : (s.drop (skB false s + m)).length = s.length - (skB false s + m) := List.length_drop
          obtain ⟨I, E, I', j1, j2, j3, j4⟩ := lexF_app hy hb hn f _ _ (o' + skB false s + m) r (by omega) er
          refine ⟨⟨k, t, n, (o + skB false s : Nat)⟩ :: I, E, ⟨k, t, n, (o' + skB false s : Nat)⟩ :: I', by rw [j1]; rfl, j2, sameT_cons ⟨rfl, rfl, rfl⟩ j3, fun g hg => ?_⟩
          obtain ⟨g, rfl⟩ : ∃ g', g = g' + 1 := ⟨g - 1, by omega⟩
          have hfol : FolB (s.drop (skB false s + m)) (s.drop (skB false s + m) ++ y) := by
            cases er2 : s.drop (skB false s + m) with
            | nil => exact .inr (.inr ⟨hb, hn⟩)
            | cons c u => exact .inr (.inl ⟨rfl, by simp⟩)
          have hsp := lexF_splice (f := f) (g := g) (o := o) (o' := o') e h6 hfol
          rw [← List.append_assoc, List.take_append_drop] at hsp
          simp only [List.length_append] at hg j4
          rw [hsp, j4 g (by omega), LR.cons_pre, hrl, show o' + skB false s + m + (s.length - (skB false s + m)) = o' + s.length by omega]

/-- A source's tokens, but for offsets. -/
def Lx (s : Bs) (T : List Tk) : Prop := ∀ o, ∃ T', lexF (s.length + 1) s o = .ok T' ∧ sameT false T' T = true
def eT : Tk := ⟨6, [], 0, 0⟩
def opT : Tk := ⟨5, [40], 0, 0⟩
def clT : Tk := ⟨5, [41], 0, 0⟩
theorem Lx.at {s : Bs} {T : List Tk} (h : Lx s T) {f : Nat} (hf : s.length < f) (o : Nat) : ∃ T', lexF f s o = .ok T' ∧ sameT false T' T = true := by
  obtain ⟨T', h1, h2⟩ := h o
  exact ⟨T', by rw [lexF_fuel f (s.length + 1) s o hf (by omega)]; exact h1, h2⟩
theorem Lx.of {s : Bs} {T : List Tk} (h : lexT s = .ok T) : Lx s T := fun o => by
  unfold lexT at h
  split at h
  · cases h
  · unfold lexA at h
    rw [List.drop_zero] at h
    obtain ⟨T', h1, h2⟩ := lexF_same _ s 0 o T h
    exact ⟨T', h1, sameT_symm h2⟩
theorem Lx.lexT {s : Bs} {T : List Tk} (h : Lx s T) (hl : s.length ≤ 65536) : ∃ T', lexT s = .ok T' ∧ sameT false T' T = true := by
  unfold Go.Proofs.YtbgjgaaobnbijaaDoor.lexT lexA
  rw [if_neg (by omega), List.drop_zero]
  exact h 0
theorem Lx.nil : Lx [] [eT] := fun o => ⟨[⟨6, [], 0, (o : Int)⟩], rfl, sameT_cons ⟨rfl, rfl, rfl⟩ rfl⟩
theorem Lx.sign {c : UInt8} (h : c = 40 ∨ c = 41) {s : Bs} {T : List Tk} (hs : Lx s T) : Lx (c :: s) (⟨5, [c], 0, 0⟩ :: T) := fun o => by
  obtain ⟨T', h1, h2⟩ := hs (o + 1)
  have hsk : skB false (c :: s) = 0 := by rcases h with rfl | rfl <;> rfl
  have ht : tokS (c :: s) = .ok 5 [c] 0 1 := by
    have hl : letB c = false := by rcases h with rfl | rfl <;> decide
    have hd : digB c = false := by rcases h with rfl | rfl <;> decide
    have hq : ¬ (c.toNat : Int) = 39 := by rcases h with rfl | rfl <;> decide
    have hg : signB [c] = true := by rcases h with rfl | rfl <;> decide
    have hg2 : ∀ d, signB [c, d] = false := by
      intro d
      unfold signB
      rcases h with rfl | rfl <;> simp [signList]
    simp only [tokS, hl, hd, hq, Bool.false_eq_true, if_false]
    unfold tokG
    cases s with
    | nil => simp [hg]
    | cons d s => simp [hg, hg2]
  rw [List.length_cons, lexF_step, hsk, List.drop_zero, ht]
  simp only
  rw [if_neg (by decide), Nat.zero_add, Nat.add_zero]
  have e1 : (c :: s).drop 1 = s := rfl
  rw [e1, h1]
  exact ⟨_, rfl, sameT_cons ⟨rfl, rfl, rfl⟩ h2⟩
theorem Lx.open {s : Bs} {T : List Tk} (hs : Lx s T) : Lx (40 :: s) (opT :: T) := Lx.sign (.inl rfl) hs
theorem Lx.close {s : Bs} {T : List Tk} (hs : Lx s T) : Lx (41 :: s) (clT :: T) := Lx.sign (.inr rfl) hs
theorem lexF_bl {c : UInt8} (h : blankB c = true) (f : Nat) (x : Bs) (o : Nat) : lexF (f + 1) (c :: x) o = lexF (f + 1) x (o + 1) := by
  rw [lexF_step, lexF_step]
  have h : skB false (c :: x) = skB false x + 1 := by
    simp only [skB]; rw [if_pos h]
  rw [h, List.drop_succ_cons, show o + (skB false x + 1) = o + 1 + skB false x by omega]
  cases tokS (x.drop (skB false x)) with
  | bad c => rfl
  | ok k t n m =>
    simp only
    rw [show skB false x + 1 + m = (skB false x + m) + 1 by omega, List.drop_succ_cons]
theorem Lx.blank {c : UInt8} (h : blankB c = true) {s : Bs} {T : List Tk} (hs : Lx s T) : Lx (c :: s) T := fun o => by
  obtain ⟨T', h1, h2⟩ := hs.at (f := s.length + 2) (by omega) (o + 1)
  exact ⟨T', by rw [List.length_cons, lexF_bl h]; exact h1, h2⟩
theorem Lx.tok {t : Tk} (h : poB t = true) (h6 : t.kind ≠ 6) {s : Bs} {T : List Tk} (hs : Lx (32 :: s) T) : Lx (spT t ++ 32 :: s) (t :: T) := fun o => by
  obtain ⟨T', h1, h2⟩ := hs.at (f := (spT t ++ 32 :: s).length) (by
    have := List.length_pos_iff.2 (spT_head h h6 []).1
    simp; omega) (o + (spT t).length)
  rw [lexF_one h h6 (.inr ⟨s, rfl⟩), h1]
  exact ⟨_, rfl, sameT_cons ⟨rfl, rfl, rfl⟩ h2⟩
/-- A line, and what stands behind it. -/
theorem Lx.line {s y : Bs} {T U : List Tk} (hs : Lx s T) (hy : Lx y U) : ∃ I E, T = I ++ [E] ∧ tkE E eT ∧ Lx (s ++ 10 :: y) (I ++ U) := by
  have hb : blankB 10 = true := by decide
  have hsk : skB true (10 :: y) = skB false (10 :: y) := by
    simp only [skB]
    rw [if_pos hb, if_neg (by decide)]
  have key : ∀ o, ∃ T0, lexF (s.length + 1) s o = .ok T0 ∧ sameT false T0 T = true := hs
  obtain ⟨T0, h1, h2⟩ := key 0
  have hsplit : ∀ (A : List Tk) (E : Tk) (T : List Tk), sameT false (A ++ [E]) T = true → ∃ A' E', T = A' ++ [E'] ∧ sameT false A A' = true ∧ tkE E E' := by
    intro A
    induction A with
    | nil =>
      intro E T h
      match T, h with
      | [t], h => exact ⟨[], t, rfl, rfl, by simpa [sameT, tkEq_iff] using h⟩
      | [], h => simp [sameT] at h
      | _ :: _ :: _, h => simp [sameT] at h
    | cons a A ih =>
      intro E T h
      match T, h with
      | [], h => simp [sameT] at h
      | t :: T, h =>
        simp only [List.cons_append, sameT, Bool.and_eq_true] at h
        obtain ⟨A', E', rfl, i2, i3⟩ := ih E T h.2
        exact ⟨t :: A', E', rfl, sameT_cons (tkEq_iff.1 h.1) i2, i3⟩
  obtain ⟨I, E, _, rfl, j2, _, _⟩ := lexF_app hsk hb (by simp) (s.length + 1) s 0 0 T0 (by omega) h1
  obtain ⟨A, E', rfl, a2, a3⟩ := hsplit I E T h2
  refine ⟨A, E', rfl, ⟨a3.1.symm.trans j2.1, a3.2.1.symm.trans j2.2.1, a3.2.2.symm.trans j2.2.2⟩, fun o => ?_⟩
  obtain ⟨I2, E2, I', k1, k2, k3, k4⟩ := lexF_app hsk hb (by simp) (s.length + 1) s 0 o _ (by omega) h1
  obtain ⟨rfl, _⟩ : I = I2 ∧ E = E2 := by
    have := List.append_inj' k1 rfl
    exact ⟨this.1, by simpa using this.2⟩
  obtain ⟨U', u1, u2⟩ := (Lx.blank hb hy) (o + s.length)
  rw [k4 _ (Nat.lt_succ_self _)]
  rw [u1]
  exact ⟨_, rfl, sameT_app (sameT_trans k3 a2) u2⟩
end Go.Proofs.YtbgjgaaobnbijaaDoor
end
section
/- Readings of trees; the example. -/
set_option linter.unusedSimpArgs false
set_option linter.unusedVariables false
set_option maxRecDepth 8000
namespace Go.Proofs.YtbgjgaaobnbijaaDoor
open Gx Go

def OpensF (P : Program) (F : Nat) (t : TypeId) {α : Type} (R : α → List Value → Heap → Prop) : Prop :=
  ∀ {H : Type} {enc : TypeId × Value → H} {W : World} {base : Nat} {sp : Nat → Bool} {held : Bool} {fuel : Nat} {cs : List Value} {x : DataW H × List MemPlace},
    fuel ≤ F → DataW.trod enc P W base sp held fuel t cs = some x → ∃ a, R a cs W.heap
theorem Opens.at {P : Program} {t : TypeId} {α : Type} {R : α → List Value → Heap → Prop} (h : Opens P t R) (F : Nat) : OpensF P F t R := by
  intro H enc W base sp held fuel cs x _ hx
  exact h hx

section
variable {P : Program}
theorem opensF_slice {t e m F : Nat} {α : Type} {R : α → List Value → Heap → Prop} (ht : P.underlying t = some (.slice e)) (hc : P.cellsOf e = m) (hm : 0 < m) (he : OpensF P F e R) : OpensF P (F + 1) t (SlR R m) := by
  intro H enc W base sp held fuel cs x hF h
  rcases DataW.trod_slice ht h with ⟨h0, _⟩ | ⟨a, len, cap, elems, rest, n, hn, rfl, rfl, hb, hl, hmx, hlen, hel, _, _⟩
  · exact ⟨[], none, 0, h0, by simp, by simp [maxLen], .inl rfl⟩
  · have hi : ∀ i, i < len → ∃ y : α, ∃ vs, vs.length = m ∧ (∀ j, j < m → cellAt W.heap (a.add (i * m + j)) = vs[j]?) ∧ R y vs W.heap := by
      intro i hi
      have h1 := hel i hi
      have h2 : elems[i]? = some elems[i] := List.getElem?_eq_getElem (by omega)
      rw [h2, Option.bind_eq_some_iff] at h1
      obtain ⟨vs, hv, hr⟩ := h1
      obtain ⟨h3, h4, h5⟩ := World.cells?_some hv
      obtain ⟨y, hy⟩ := he (by omega) hr
      rw [hc] at h4 h5 hv
      refine ⟨y, vs, h4, fun j hj => ?_, hy⟩
      have := h5 j hj
      rw [← this]
      show _ = cellAt W.heap _
      congr 1
      simp only [Addr.add]
      repeat' split
      all_goals first | rfl | omega | simp_all [Nat.add_assoc]
    obtain ⟨l, hl1, hl2⟩ := list_of (β := Unit) hi
    refine ⟨l, some a, cap, by rw [hl1], by omega, hmx, ?_⟩
    rcases Nat.eq_zero_or_pos l.length with h0 | h0
    · exact .inl (List.eq_nil_of_length_eq_zero h0)
    · have hspot : a.spot = none := by
        obtain ⟨vs, h1, h2, _⟩ := hl2 0 h0
        have h3 := h2 0 hm
        rw [List.getElem?_eq_getElem (by omega)] at h3
        unfold cellAt at h3
        split at h3
        · split at h3
          · cases h3
          · rename_i hs; simpa [Addr.add] using hs
        · cases h3
      obtain ⟨b, o, s⟩ := a
      simp only at hspot
      subst hspot
      refine .inr ⟨b, o, rfl, fun j hj => ?_⟩
      obtain ⟨vs, h1, h2, h3⟩ := hl2 j hj
      refine ⟨vs, h1, fun i hi => ?_, h3⟩
      rw [← h2 i hi, add_mk, cellAt_mk, Nat.add_assoc]

theorem structF_fields {H : Type} {enc : TypeId × Value → H} {W : World} {base : Nat} {sp : Nat → Bool} {held : Bool} {fuel F : Nat} {t : TypeId} {cs : List Value} {x : DataW H × List MemPlace} {fs : Array Field} (ht : P.underlying t = some (.struct fs))
    (hF : fuel ≤ F + 1) (h : DataW.trod enc P W base sp held fuel t cs = some x) : cs.length = P.cellsOf t ∧
      ∀ (i : Nat) (f : Field), fs[i]? = some f → ∀ {α : Type} {R : α → List Value → Heap → Prop} {m : Nat}, P.cellsOf f.type = m → OpensF P F f.type R → ∃ a, R a ((cs.drop f.offset).take m) W.heap := by
  obtain ⟨xs, n, hn, _, hl, hx, hf⟩ := DataW.trod_struct ht h
  refine ⟨hl, fun i f hi α R m hm ho => ?_⟩
  have h1 := hf i f hi
  have hlt : i < xs.length := by
    rw [hx]; exact (Array.getElem?_eq_some_iff.1 hi).1
  rw [List.getElem?_eq_getElem hlt, hm] at h1
  exact ho (by omega) h1
end

theorem Reps.of {H : Heap} {M : List Nat} : ∀ {ds : List Dat} {css : List (List Value)}, css.length = ds.length → (∀ (i : Nat) (h : i < css.length) (h' : i < ds.length), Rep H M ds[i] css[i]) → Reps H M ds css
  | [], [], _, _ => by simp [Reps]
  | d :: ds, c :: css, hl, h => by
    simp only [Reps]
    exact ⟨c, css, rfl, h 0 (by simp) (by simp), Reps.of (by simpa using hl) fun i hi hi' => h (i + 1) (by simpa using hi) (by simpa using hi')⟩
  | [], _ :: _, hl, _ => by simp at hl
  | _ :: _, [], hl, _ => by simp at hl
theorem flat_get {m : Nat} {css : List (List Value)} (h : ∀ x ∈ css, x.length = m) {q r : Nat} (hq : q < css.length) (hr : r < m) : css.flatten[q * m + r]? = css[q][r]? := by
  have h1 := flatten_drop q h
  have h2 : css.flatten[q * m + r]? = (css.flatten.drop (q * m))[r]? := by simp
  rw [h2, h1, List.drop_eq_getElem_cons hq, List.flatten_cons, List.getElem?_append_left (by rw [h _ (List.getElem_mem hq)]; exact hr)]
theorem rep_of_SlR {α : Type} {R : α → List Value → Heap → Prop} {D : α → Dat} {m : Nat} (h0 : 0 < m) {H : Heap} (hR : ∀ x vs, R x vs H → Rep H [] (D x) vs) {l : List α} {cs : List Value} (h : SlR R m l cs H) : Rep H [] (.list m (l.map D)) cs := by
  obtain ⟨a, c, rfl, h1, h2, h3⟩ := h
  simp only [Rep]
  rcases h3 with h3 | ⟨b, o, h4, h5⟩
  · subst h3
    exact ⟨a, c, [], rfl, by simp, h2, by simp [Reps], by simp, .inl rfl⟩
  · have hq : ∀ i, i < l.length → ∃ vs : List Value, vs.length = m ∧ (∀ k, k < m → cellB H b (o + i * m + k) = vs[k]?) ∧ ∀ hi : i < l.length, Rep H [] (D l[i]) vs := fun i hi => by
      obtain ⟨vs, q1, q2, q3⟩ := h5 i hi
      exact ⟨vs, q1, q2, fun _ => hR _ _ q3⟩
    obtain ⟨css, e1, e2⟩ := list_of (β := Unit) hq
    have hm : ∀ x ∈ css, x.length = m := fun x hx => by
      obtain ⟨i, hi, rfl⟩ := List.getElem_of_mem hx
      exact (e2 i hi).1
    refine ⟨a, c, css, by simp, by simpa using h1, h2, Reps.of (by simpa using e1) fun i hi hi' => ?_, hm, .inr ⟨b, o, h4, by simp, fun j hj => ?_⟩⟩
    · rw [List.getElem_map]
      exact (e2 i hi).2.2 (by omega)
    · have hlen : css.flatten.length = css.length * m := flatten_len hm
      have hqj : j / m < css.length := by rw [hlen] at hj; exact (Nat.div_lt_iff_lt_mul h0).2 hj
      have hrj : j % m < m := Nat.mod_lt _ h0
      have e : j = j / m * m + j % m := by rw [Nat.mul_comm, Nat.div_add_mod]
      have h8 := (e2 _ hqj).2.1 _ hrj
      rw [← flat_get hm hqj hrj, ← e, Nat.add_assoc, ← e] at h8
      rw [h8, List.getElem?_eq_getElem hj]


theorem opens_nd_F : ∀ F : Nat, OpensF Tryd.prog F 24 (fun (n : Nd) cs H => Rep H [] n.dat cs) := by
  intro F
  induction F using Nat.strongRecOn with
  | _ F ihF =>
  match F, ihF with
  | 0, _ =>
    intro H enc W base sp held fuel cs x hF h
    obtain rfl : fuel = 0 := by omega
    simp [DataW.trod] at h
  | 1, _ =>
    intro H enc W base sp held fuel cs x hF h
    obtain ⟨xs, n, hn, _, hl, hx, hf⟩ := DataW.trod_struct Tryd.underlying24 h
    obtain rfl : n = 0 := by omega
    have := hf 0 _ rfl
    have hx0 : 0 < xs.length := by rw [hx]; decide
    rw [List.getElem?_eq_getElem hx0] at this
    simp [DataW.trod] at this
  | F + 2, ihF =>
    have ih : OpensF Tryd.prog F 24 (fun (n : Nd) cs H => Rep H [] n.dat cs) := ihF F (by omega)
    intro H enc W base sp held fuel cs x hF h
    obtain ⟨hl, hf⟩ := structF_fields (F := F + 1) Tryd.underlying24 hF h
    have hc : Tryd.prog.cellsOf 24 = 5 := by kernel_rfl
    rw [hc] at hl
    obtain ⟨k, hk⟩ := hf 0 _ rfl (m := 1) (by kernel_rfl) (Opens.at (opens_int (k := .i64) Tryd.underlying3) _)
    obtain ⟨t, ht⟩ := hf 1 _ rfl (m := 1) (by kernel_rfl) (Opens.at (opens_str Tryd.underlying9) _)
    obtain ⟨n, hn⟩ := hf 2 _ rfl (m := 1) (by kernel_rfl) (Opens.at (opens_int (k := .i64) Tryd.underlying2) _)
    obtain ⟨a, ha⟩ := hf 3 _ rfl (m := 1) (by kernel_rfl) (Opens.at (opens_int (k := .i64) Tryd.underlying3) _)
    obtain ⟨ks, hks⟩ := hf 4 _ rfl (m := 1) (by kernel_rfl) (opensF_slice (R := fun (n : Nd) cs H => Rep H [] n.dat cs) (m := 5) Tryd.underlying22 (by kernel_rfl) (by decide) ih)
    match cs, hl with
    | [v0, v1, v2, v3, v4], _ =>
      obtain ⟨e0, _⟩ := hk
      obtain ⟨e1, _⟩ := ht
      obtain ⟨e2, _⟩ := hn
      obtain ⟨e3, _⟩ := ha
      change [v0] = _ at e0
      change [v1] = _ at e1
      change [v2] = _ at e2
      change [v3] = _ at e3
      cases e0; cases e1; cases e2; cases e3
      change SlR _ 5 ks [v4] _ at hks
      exact ⟨.mk k t n a ks, nd_rep.2 ⟨v4, rfl, rep_of_SlR (D := Nd.dat) (by decide) (fun x vs hx => hx) hks⟩⟩
theorem opens_nd : Opens Tryd.prog 24 (fun (n : Nd) cs H => Rep H [] n.dat cs) := by
  intro H enc W base sp held fuel cs x h
  exact opens_nd_F fuel (Nat.le_refl _) h

def exT : Nd := .mk 40 [] 0 6 [.mk 41 [] 0 2 [.mk 48 [97] 0 0 [], .mk 44 [] 1 4 []], .mk 49 [] 0 8 []]
theorem ex_ok : srcP (exprP (loK 64)) [97, 32, 45, 32, 49, 32, 43, 32, 115] = .ok exT := by rfl
theorem awake_ok {H : Heap} (hG : GlobH H) : HCalls Tryd.prog 10 #[] H fun v H' => v = .bool true ∧ Fr [] H H' := by
  refine calls_of_vc (args := []) Tryd.func10 c10ok (Nat.le_of_ble_eq_true rfl) ?_
  have L := L0 H
  have hx := pexpr_ok [97, 32, 45, 32, 49, 32, 43, 32, 115] (by decide) hG
  rw [ex_ok] at hx
  unfold sv at hx
  simp (implicitDefEqProofs := false) only [go_sem, c10]
  refine hx.mono ?_
  rintro v H1 ⟨⟨cs, rfl, hr⟩, hf⟩
  have L := L.ext hf
  unfold exT at hr
  obtain ⟨kv, rfl, hkv⟩ := RepP.nd_open hr
  simp (implicitDefEqProofs := false) only [go_sem]
  have L := L.add ((L0 H).built hkv)
  refine L.newP fun b1 H2 L => ?_
  simp (implicitDefEqProofs := false) only [go_sem]
  refine L.newP fun b2 H3 L => ?_
  simp (implicitDefEqProofs := false) only [go_sem]
  refine L.stoAll 1 rfl rfl (one_agg (t := []) (nd_one hkv)) fun H4 L => ?_
  simp only [List.set_cons_zero, List.set_cons_succ, List.set_nil, List.eraseIdx_cons_zero, List.eraseIdx_cons_succ] at L
  simp (implicitDefEqProofs := false) only [go_sem]
  refine L.stoAll 0 rfl rfl (by simp [Value.oneCell']) fun H5 L => ?_
  simp only [List.set_cons_zero, List.set_cons_succ, List.set_nil, List.eraseIdx_cons_zero, List.eraseIdx_cons_succ] at L
  have hr5 := (L.dat _ (List.mem_cons_self)).rep
  obtain ⟨aa, cc, rfl, _, _⟩ := kids_len hr5
  obtain ⟨b, o, c, k, t, n, a, kks, kv1, e1, e2, ⟨q0, q1, q2, q3, q4⟩, hr⟩ := kid_at hr5 0 (by decide)
  cases e1
  simp only [List.getElem_cons_zero, Nd.mk.injEq] at e2
  obtain ⟨rfl, rfl, rfl, rfl, rfl⟩ := e2
  have c0 := L.cell 0 rfl
  have c1 := L.cell 1 rfl
  simp only [Nat.zero_mul, Nat.add_zero] at q0
  have hs := size_ok _ exT (Nat.le_refl _) (H := H5) (NA.mk hr5)
  have e5 : IntKind.i64.wrap (sizeN exT) = 5 := by rfl
  rw [e5] at hs
  unfold sv at *
  simp (implicitDefEqProofs := false) only [go_sem, c0, c1, q0, List.length_cons, List.length_nil]
  refine hs.mono ?_
  rintro v H6 ⟨rfl, hf6⟩
  simp (implicitDefEqProofs := false) only [go_sem]
  exact L.fr.trans hf6
end Go.Proofs.YtbgjgaaobnbijaaDoor
end
section
/- Where the nodes of an expression stand: at tokens; where a fault stands. -/
set_option linter.unusedSimpArgs false
set_option linter.unusedVariables false
set_option maxRecDepth 8000
namespace Go.Proofs.YtbgjgaaobnbijaaDoor
open Gx Go
mutual
def Nd.al (A : Int → Prop) : Nd → Prop
  | .mk _ _ _ a ks => A a ∧ Nd.als A ks
def Nd.als (A : Int → Prop) : List Nd → Prop
  | [] => True
  | n :: l => Nd.al A n ∧ Nd.als A l
end
theorem als_app {A : Int → Prop} : ∀ {l m : List Nd}, Nd.als A l → Nd.als A m → Nd.als A (l ++ m)
  | [], m, _, h => h
  | x :: l, m, h, h' => by
    simp only [Nd.als, List.cons_append] at h ⊢
    exact ⟨h.1, als_app h.2 h'⟩
theorem als_one {A : Int → Prop} {n : Nd} (h : Nd.al A n) : Nd.als A [n] := by simp only [Nd.als]; exact ⟨h, trivial⟩
theorem als_two {A : Int → Prop} {n m : Nd} (h : Nd.al A n) (h' : Nd.al A m) : Nd.als A [n, m] := by simp only [Nd.als]; exact ⟨h, h', trivial⟩
theorem als_nil {A : Int → Prop} : Nd.als A [] := by simp only [Nd.als]
theorem al_mk {A : Int → Prop} {k : Int} {t : Bs} {n a : Int} {ks : List Nd} (h : A a) (h' : Nd.als A ks) : Nd.al A (.mk k t n a ks) := by simp only [Nd.al]; exact ⟨h, h'⟩
/-- What is known of the offsets of the tokens ahead. -/
structure Gd (A B : Int → Prop) (ts : List Tk) : Prop where
  a : ∀ t ∈ ts, t.kind ≠ 6 → A t.at_
  b : ∀ t ∈ ts, B t.at_
  z : B 0
section
variable {A B : Int → Prop}
theorem Gd.tl {ts : List Tk} (h : Gd A B ts) : Gd A B ts.tail := ⟨fun t ht => h.a t (List.mem_of_mem_tail ht), fun t ht => h.b t (List.mem_of_mem_tail ht), h.z⟩
theorem Gd.hb {ts : List Tk} (h : Gd A B ts) : B (hd ts).at_ := by
  cases ts with
  | nil => exact h.z
  | cons t r => exact h.b t (by simp)
theorem Gd.ha {ts : List Tk} (h : Gd A B ts) (hk : (hd ts).kind ≠ 6) : A (hd ts).at_ := by
  cases ts with
  | nil => exact absurd rfl hk
  | cons t r => exact h.a t (by simp) hk
/-- The result of a reading, and its fault. -/
def Wa (A B : Int → Prop) {α : Type} (p : PP α) (φ : α → Prop) (ts : List Tk) : Prop := match p ts with
  | .error e => e.1 ≠ 0 ∧ B e.2
  | .ok (a, r) => φ a ∧ Gd A B r
theorem Wa.bd {α β : Type} {p : PP α} {f : α → PP β} {φ : α → Prop} {ψ : β → Prop} {ts : List Tk} (h : Wa A B p φ ts) (hf : ∀ a r, φ a → Gd A B r → Wa A B (f a) ψ r) : Wa A B (bd p f) ψ ts := by
  unfold Wa at h
  cases e : p ts with
  | error e' =>
    rw [e] at h
    unfold Wa
    rw [bd_err e]; exact h
  | ok x =>
    obtain ⟨a, r⟩ := x
    rw [e] at h
    have := hf a r h.1 h.2
    unfold Wa at this ⊢
    rw [bd_ok e]; exact this
theorem Wa.ret {α : Type} {a : α} {φ : α → Prop} {ts : List Tk} (h : φ a) (hg : Gd A B ts) : Wa A B (ret a) φ ts := ⟨h, hg⟩
theorem Wa.mono {α : Type} {p : PP α} {φ ψ : α → Prop} {ts : List Tk} (h : Wa A B p φ ts) (hm : ∀ a, φ a → ψ a) : Wa A B p ψ ts := by
  unfold Wa at h ⊢
  cases e : p ts with
  | error e' => rw [e] at h; exact h
  | ok x =>
    obtain ⟨a, r⟩ := x
    rw [e] at h; exact ⟨hm a h.1, h.2⟩
theorem Wa.err {α : Type} {p : PP α} {φ : α → Prop} {ts : List Tk} {c : Int} (hg : Gd A B ts) (hc : c ≠ 0) (h : p ts = .error (c, (hd ts).at_)) : Wa A B p φ ts := by
  unfold Wa; rw [h]; exact ⟨hc, hg.hb⟩
theorem Wa.val {α : Type} {p : PP α} {φ : α → Prop} {ts r : List Tk} {a : α} (h : p ts = .ok (a, r)) (hφ : φ a) (hg : Gd A B r) : Wa A B p φ ts := by
  unfold Wa; rw [h]; exact ⟨hφ, hg⟩
theorem Wa.eq {α : Type} {p q : PP α} {φ : α → Prop} {ts ts' : List Tk} (h : p ts = q ts') (hq : Wa A B q φ ts') : Wa A B p φ ts := by
  unfold Wa at hq ⊢; rw [h]; exact hq
theorem Wa.take {k : Int} (hk : k ≠ 6) {ts : List Tk} (hg : Gd A B ts) : Wa A B (takeP k) (fun t => t = hd ts ∧ A t.at_ ∧ (hd ts).kind = k) ts := by
  by_cases h : (hd ts).kind = k
  · exact Wa.val (by unfold takeP; rw [if_pos h]) ⟨rfl, hg.ha (by rw [h]; exact hk), h⟩ hg.tl
  · exact Wa.err hg (c := 2) (by decide) (by unfold takeP; rw [if_neg h])
theorem Wa.exp {s : Bs} {ts : List Tk} (hg : Gd A B ts) : Wa A B (expP s) (fun _ => True) ts := by
  by_cases h : isB s ts = true
  · exact Wa.val (by unfold expP; rw [if_pos h]) trivial hg.tl
  · exact Wa.err hg (c := 2) (by decide) (by unfold expP; rw [if_neg h])
theorem Wa.ent {α β : Type} {lo : Option β} {s : Bs} {body : β → PP α} {φ : α → Prop} {ts : List Tk} (hg : Gd A B ts) (h : ∀ x, lo = some x → Wa A B (body x) φ ts.tail) : Wa A B (entP lo s body) φ ts := by
  by_cases e : isB s ts = true
  · cases lo with
    | none => exact Wa.err hg (c := 6) (by decide) (by simp only [entP, e, if_true])
    | some x => exact Wa.eq (by simp only [entP, e, if_true]) (h x rfl)
  · exact Wa.err hg (c := 2) (by decide) (by unfold entP; rw [if_neg e])
/-- An expression: its nodes stand at tokens, and it begins with one. -/
def Ex (A B : Int → Prop) (p : PP Nd) : Prop := ∀ ts, Gd A B ts → Wa A B p (fun n => Nd.al A n ∧ A (hd ts).at_) ts
theorem intP_ex : Ex A B intP := fun ts hg => by
  by_cases e : isB [45] ts = true
  · have ha := hg.ha (isB_kind e)
    refine Wa.eq (q := bd (takeP 3) fun t => ret (.mk 44 [] (IntKind.i64.wrap (0 - t.n)) (hd ts).at_ [])) (ts' := ts.tail) (by unfold intP; rw [if_pos e]) ?_
    exact (Wa.take (by decide) hg.tl).bd fun t r _ hr => Wa.ret ⟨al_mk ha als_nil, ha⟩ hr
  · refine Wa.eq (q := bd (takeP 3) fun t => ret (.mk 44 [] t.n (hd ts).at_ [])) (ts' := ts) (by unfold intP; rw [if_neg e]) ?_
    refine (Wa.take (by decide) hg).bd fun t r ht hr => ?_
    have ha : A (hd ts).at_ := ht.1 ▸ ht.2.1
    exact Wa.ret ⟨al_mk ha als_nil, ha⟩ hr
theorem namedP_ex (k : Int) : Ex A B (namedP k) := fun ts hg => (Wa.take (by decide) hg).bd fun t r ht hr => Wa.ret ⟨al_mk ht.2.1 als_nil, ht.1 ▸ ht.2.1⟩ hr
theorem quoteP_ex : Ex A B quoteP := fun ts hg => (Wa.take (by decide) hg).bd fun t r ht hr => Wa.ret ⟨al_mk ht.2.1 als_nil, ht.1 ▸ ht.2.1⟩ hr
theorem opAt_is {kd : Kd} {ts : List Tk} (h : opAt kd ts = true) : isB (hd ts).text ts = true := by
  unfold opAt at h
  rw [Bool.and_eq_true] at h
  exact h.2
theorem Wa.ite {α : Type} {c : List Tk → Prop} [∀ ts, Decidable (c ts)] {x y : PP α} {φ : α → Prop} {ts : List Tk} (h1 : c ts → Wa A B x φ ts) (h2 : ¬ c ts → Wa A B y φ ts) : Wa A B (fun ts => if c ts then x ts else y ts) φ ts := by
  by_cases h : c ts
  · exact Wa.eq (q := x) (ts' := ts) (if_pos h) (h1 h)
  · exact Wa.eq (q := y) (ts' := ts) (if_neg h) (h2 h)
theorem chainF_ex {op : PP Nd} {kd : Kd} (h : Ex A B op) : ∀ (f : Nat) (n : Nd) (ts : List Tk), Nd.al A n → Gd A B ts → Wa A B (chainF op kd f n) (Nd.al A) ts
  | 0, n, ts, hn, hg => Wa.ret hn hg
  | f + 1, n, ts, hn, hg => by
    by_cases e : opAt kd ts = true
    · have ha := hg.ha (isB_kind (opAt_is e))
      refine Wa.eq (q := bd op fun m => chainF op kd f (.mk (kdOf kd (hd ts).text) [] 0 (hd ts).at_ [n, m])) (ts' := ts.tail) (by simp only [chainF, e, if_true]) ?_
      exact (h _ hg.tl).bd fun m r hm hr => chainF_ex h f _ r (al_mk ha (als_two hn hm.1)) hr
    · refine Wa.val (a := n) (r := ts) ?_ hn hg
      have e' : opAt kd ts = false := by simpa using e
      simp only [chainF, e', Bool.false_eq_true, if_false]
theorem chainP_ex {op : PP Nd} {kd : Kd} (h : Ex A B op) : Ex A B (chainP op kd) := fun ts hg =>
  (h ts hg).bd fun n r hn hr => (Wa.eq (q := chainF op kd r.length n) rfl (chainF_ex h _ n r hn.1 hr)).mono fun _ hm => ⟨hm, hn.2⟩
def LoG (A B : Int → Prop) (lo : Lo) : Prop := ∀ x, lo = some x → Ex A B x.1 ∧ Ex A B x.2
theorem postF_ex {lo : Lo} (hlo : LoG A B lo) : ∀ (f : Nat) (n : Nd) (ts : List Tk), Nd.al A n → Gd A B ts → Wa A B (postF lo f n) (Nd.al A) ts
  | 0, n, ts, hn, hg => Wa.ret hn hg
  | f + 1, n, ts, hn, hg => by
    by_cases e : isB [46] ts = true
    · have ha := hg.ha (isB_kind e)
      refine Wa.eq (q := bd (takeP 1) fun t => postF lo f (.mk 42 t.text 0 (hd ts).at_ [n])) (ts' := ts.tail) (by simp only [postF, e, if_true]) ?_
      exact (Wa.take (by decide) hg.tl).bd fun t r _ hr => postF_ex hlo f _ r (al_mk ha (als_one hn)) hr
    · have e' : isB [46] ts = false := by simpa using e
      by_cases e2 : isB [91] ts = true
      · have ha := hg.ha (isB_kind e2)
        refine Wa.eq (q := entP lo [91] (fun x => bd x.1 fun m => bd (expP [93]) fun _ => postF lo f (.mk 43 [] 0 (hd ts).at_ [n, m]))) (ts' := ts) (by simp only [postF, e', e2, Bool.false_eq_true, if_false, if_true]) ?_
        refine Wa.ent hg fun x hx => ?_
        exact ((hlo x hx).1 _ hg.tl).bd fun m r hm hr => (Wa.exp hr).bd fun _ r2 _ hr2 => postF_ex hlo f _ r2 (al_mk ha (als_two hn hm.1)) hr2
      · have e2' : isB [91] ts = false := by simpa using e2
        exact Wa.val (a := n) (r := ts) (by simp only [postF, e', e2', Bool.false_eq_true, if_false]) hn hg
theorem argP_ex {e : PP Nd} (h : Ex A B e) (fn : Bs) (ts : List Tk) (hg : Gd A B ts) : Wa A B (argP e fn) (Nd.al A) ts := by
  by_cases e1 : fn = [114, 101, 99]
  · refine Wa.eq (q := bd (takeP 1) fun t => bd (expP [58]) fun _ => bd e fun x => ret (.mk 52 t.text 0 (hd ts).at_ [x])) (ts' := ts) (by unfold argP; rw [if_pos e1]) ?_
    refine (Wa.take (by decide) hg).bd fun t r ht hr => (Wa.exp hr).bd fun _ r2 _ hr2 => (h _ hr2).bd fun x r3 hx hr3 => Wa.ret (al_mk (ht.1 ▸ ht.2.1) (als_one hx.1)) hr3
  · by_cases e2 : fn = [109, 97, 112]
    · refine Wa.eq (q := bd e fun x => bd (expP [58]) fun _ => bd e fun y => ret (.mk 52 [] 0 (hd ts).at_ [x, y])) (ts' := ts) (by unfold argP; rw [if_neg e1, if_pos e2]) ?_
      exact (h ts hg).bd fun x r hx hr => (Wa.exp hr).bd fun _ r2 _ hr2 => (h _ hr2).bd fun y r3 hy hr3 => Wa.ret (al_mk hx.2 (als_two hx.1 hy.1)) hr3
    · exact (Wa.eq (q := e) (ts' := ts) (by unfold argP; rw [if_neg e1, if_neg e2]) (h ts hg)).mono fun _ hm => hm.1
theorem commaP_wa {ts : List Tk} (hg : Gd A B ts) : Wa A B commaP (fun _ => True) ts := by
  by_cases e : isB [44] ts = true
  · exact Wa.val (by unfold commaP; rw [if_pos e]) trivial hg.tl
  · exact Wa.eq (q := bd (expP [41]) fun _ => ret false) (ts' := ts) (by unfold commaP; rw [if_neg e]) ((Wa.exp hg).bd fun _ r _ hr => Wa.ret trivial hr)
theorem listF_ex {p : PP Nd} (h : ∀ ts, Gd A B ts → Wa A B p (Nd.al A) ts) : ∀ (f : Nat) (l : List Nd) (ts : List Tk), Nd.als A l → Gd A B ts → Wa A B (listF p f l) (Nd.als A) ts
  | 0, l, ts, hl, hg => Wa.ret hl hg
  | f + 1, l, ts, hl, hg => (h ts hg).bd fun a r ha hr => (commaP_wa hr).bd fun m r2 _ hr2 => by
    have hl2 := als_app hl (als_one ha)
    cases m with
    | true => exact listF_ex h f _ r2 hl2 hr2
    | false => exact Wa.ret hl2 hr2
theorem listP_ex {p : PP Nd} (h : ∀ ts, Gd A B ts → Wa A B p (Nd.al A) ts) (ts : List Tk) (hg : Gd A B ts) : Wa A B (listP p) (Nd.als A) ts := by
  by_cases e : isB [41] ts = true
  · exact Wa.val (by unfold listP; rw [if_pos e]) als_nil hg.tl
  · exact Wa.eq (q := listF p ts.length []) (ts' := ts) (by unfold listP; rw [if_neg e]) (listF_ex h _ _ ts als_nil hg)
theorem primP_ex {lo : Lo} (hlo : LoG A B lo) : Ex A B (primP lo) := fun ts hg => by
  have word : ∀ {s : Bs} {k : Int}, isB s ts = true → Nd.al A (.mk k [] 0 (hd ts).at_ []) ∧ A (hd ts).at_ := fun e => ⟨al_mk (hg.ha (isB_kind e)) als_nil, hg.ha (isB_kind e)⟩
  unfold primP
  refine Wa.ite (fun c1 => intP_ex ts hg) fun c1 => ?_
  refine Wa.ite (fun c2 => quoteP_ex ts hg) fun c2 => ?_
  refine Wa.ite (fun c3 => namedP_ex 48 ts hg) fun c3 => ?_
  refine Wa.ite (fun c4 => Wa.val rfl (word c4) hg.tl) fun c4 => ?_
  refine Wa.ite (fun c5 => Wa.val rfl (word c5) hg.tl) fun c5 => ?_
  refine Wa.ite (fun c6 => Wa.val rfl (word c6) hg.tl) fun c6 => ?_
  refine Wa.ite (fun c7 => Wa.val rfl (word c7) hg.tl) fun c7 => ?_
  refine Wa.ite (fun c8 => ?_) fun c8 => ?_
  · have ha := hg.ha (isB_kind c8)
    exact Wa.ent hg fun x hx => ((hlo x hx).1 _ hg.tl).bd fun n r hn hr => (Wa.exp hr).bd fun _ r2 _ hr2 => Wa.ret ⟨hn.1, ha⟩ hr2
  refine Wa.ite (fun c9 => ?_) fun c9 => ?_
  · have ha := hg.ha (by rw [c9.1]; decide)
    refine Wa.eq (q := entP lo [40] (fun x => bd (listP (argP x.1 (hd ts).text)) fun l => ret (.mk 51 (hd ts).text 0 (hd ts).at_ l))) (ts' := ts.tail) rfl ?_
    exact Wa.ent hg.tl fun x hx => (listP_ex (fun ts' hg' => argP_ex (hlo x hx).1 _ ts' hg') _ hg.tl.tl).bd fun l r hl hr => Wa.ret ⟨al_mk ha hl, ha⟩ hr
  exact Wa.err hg (c := 2) (by decide) rfl
theorem postP_ex {lo : Lo} (hlo : LoG A B lo) : Ex A B (postP lo) := fun ts hg =>
  (primP_ex hlo ts hg).bd fun n r hn hr => (Wa.eq (q := postF lo r.length n) rfl (postF_ex hlo _ n r hn.1 hr)).mono fun _ hm => ⟨hm, hn.2⟩
theorem cmpP_ex {lo : Lo} (hlo : LoG A B lo) : Ex A B (cmpP lo) := fun ts hg => by
  have hj : Ex A B (joinP lo) := chainP_ex (chainP_ex (postP_ex hlo))
  refine (hj ts hg).bd fun n r hn hr => ?_
  by_cases e : opAt kCmp r = true
  · have ha := hr.ha (isB_kind (opAt_is e))
    refine Wa.eq (q := bd (joinP lo) fun m => ret (.mk (kdOf kCmp (hd r).text) [] 0 (hd r).at_ [n, m])) (ts' := r.tail) (if_pos e) ?_
    exact (hj _ hr.tl).bd fun m r2 hm hr2 => Wa.ret ⟨al_mk ha (als_two hn.1 hm.1), hn.2⟩ hr2
  · exact Wa.val (if_neg e) ⟨hn.1, hn.2⟩ hr
theorem notP_ex {lo : Lo} (hlo : LoG A B lo) : Ex A B (notP lo) := fun ts hg => by
  by_cases e : isB [110, 111, 116] ts = true
  · have ha := hg.ha (isB_kind e)
    refine Wa.eq (q := entP lo [110, 111, 116] (fun x => bd x.2 fun n => ret (.mk 33 [] 0 (hd ts).at_ [n]))) (ts' := ts) (by unfold notP; rw [if_pos e]) ?_
    exact Wa.ent hg fun x hx => ((hlo x hx).2 _ hg.tl).bd fun n r hn hr => Wa.ret ⟨al_mk ha (als_one hn.1), ha⟩ hr
  · exact Wa.eq (q := cmpP lo) (ts' := ts) (by unfold notP; rw [if_neg e]) (cmpP_ex hlo ts hg)
theorem exprP_ex {lo : Lo} (hlo : LoG A B lo) : Ex A B (exprP lo) := fun ts hg => by
  by_cases e : isB [105, 102] ts = true
  · have ha := hg.ha (isB_kind e)
    refine Wa.eq (q := entP lo [105, 102] (fun x => bd x.1 fun a => bd (expP [116, 104, 101, 110]) fun _ => bd x.1 fun b => bd (expP [101, 108, 115, 101]) fun _ => bd x.1 fun c => ret (.mk 30 [] 0 (hd ts).at_ [a, b, c]))) (ts' := ts) (by unfold exprP; rw [if_pos e]) ?_
    refine Wa.ent hg fun x hx => ?_
    have hx1 := (hlo x hx).1
    exact (hx1 _ hg.tl).bd fun a r ha' hr => (Wa.exp hr).bd fun _ r2 _ hr2 => (hx1 _ hr2).bd fun b r3 hb hr3 => (Wa.exp hr3).bd fun _ r4 _ hr4 => (hx1 _ hr4).bd fun c r5 hc hr5 =>
      Wa.ret ⟨al_mk ha (by simp only [Nd.als]; exact ⟨ha'.1, hb.1, hc.1, trivial⟩), ha⟩ hr5
  · exact Wa.eq (q := orP lo) (ts' := ts) (by unfold exprP; rw [if_neg e]) (chainP_ex (chainP_ex (notP_ex hlo)) ts hg)
theorem lev_ex : ∀ k : Nat, Ex A B (lev k).1 ∧ Ex A B (lev k).2
  | 0 => ⟨exprP_ex fun x hx => (by cases hx), notP_ex fun x hx => (by cases hx)⟩
  | k + 1 => ⟨exprP_ex fun x hx => (by cases hx; exact lev_ex k), notP_ex fun x hx => (by cases hx; exact lev_ex k)⟩
theorem expr_ex (k : Nat) : Ex A B (exprP (loK k)) := by
  have := (lev_ex (A := A) (B := B) k).1
  rw [lev_eq] at this; exact this
end

/-! ### the tokens' offsets -/
theorem lexF_off : ∀ (f : Nat) (s : Bs) (o : Nat) (T : List Tk), lexF f s o = .ok T → (∀ t ∈ T, (o : Int) ≤ t.at_ ∧ t.at_ ≤ ((o + s.length : Nat) : Int)) ∧ T.Pairwise (fun a b => a.at_ < b.at_)
  | 0, s, o, T, h => by simp [lexF] at h
  | f + 1, s, o, T, h => by
    have hsk := skB_le false s
    unfold lexF at h
    split at h
    · cases h
    · rename_i k t n m he
      obtain ⟨h1, h2, h3⟩ := tokS_len he
      rw [List.length_drop] at h1
      split at h
      · cases h
        refine ⟨fun t' ht' => ?_, by simp⟩
        simp only [List.mem_singleton] at ht'
        subst ht'
        simp only; omega
      · rename_i hk
        have hne : s.drop (skB false s) ≠ [] := fun e => hk (h3 e)
        have hm := (h2 hne).1
        cases e : lexF f (s.drop (skB false s + m)) (o + skB false s + m) with
        | bad c j => rw [e] at h; cases h
        | ok T' =>
          rw [e] at h
          simp only [LR.cons, LR.ok.injEq] at h
          subst h
          obtain ⟨i1, i2⟩ := lexF_off f _ _ _ e
          rw [List.length_drop] at i1
          refine ⟨fun t' ht' => ?_, List.pairwise_cons.2 ⟨fun b hb => ?_, i2⟩⟩
          · rcases List.mem_cons.1 ht' with rfl | ht'
            · simp only; omega
            · have := i1 t' ht'; omega
          · have := i1 b hb
            simp only; omega
theorem lexF_badoff : ∀ (f : Nat) (s : Bs) (o : Nat) (c : Int) (k : Nat), s.length < f → lexF f s o = .bad c k → k ≤ o + s.length
  | 0, s, o, c, k, hf, h => by omega
  | f + 1, s, o, c, k, hf, h => by
    have hsk := skB_le false s
    unfold lexF at h
    split at h
    · cases h; omega
    · rename_i kd t n m he
      obtain ⟨h1, h2, h3⟩ := tokS_len he
      rw [List.length_drop] at h1
      split at h
      · cases h
      · rename_i hk
        have hne : s.drop (skB false s) ≠ [] := fun e => hk (h3 e)
        have hm := (h2 hne).1
        cases e : lexF f (s.drop (skB false s + m)) (o + skB false s + m) with
        | ok T' => rw [e] at h; cases h
        | bad c' j =>
          rw [e] at h
          simp only [LR.cons, LR.bad.injEq] at h
          obtain ⟨rfl, rfl⟩ := h
          have := lexF_badoff f _ _ _ _ (by rw [List.length_drop]; omega) e
          rw [List.length_drop] at this
          omega
/-- Where the tokens begin. -/
def Beg (T : List Tk) (a : Int) : Prop := ∃ t ∈ T, t.kind ≠ 6 ∧ t.at_ = a
theorem src_expr (s : Bs) : match srcP (exprP (loK 64)) s with
    | .error e => e.1 ≠ 0 ∧ 0 ≤ e.2 ∧ e.2 ≤ s.length
    | .ok n => ∃ T, lexT s = .ok T ∧ Nd.al (Beg T) n := by
  unfold srcP
  cases hl : lexT s with
  | bad c k =>
    have h1 := lexT_bad hl
    have h2 : k ≤ s.length := by
      unfold lexT at hl
      split at hl
      · cases hl; omega
      · have := lexF_badoff _ _ _ _ _ (by simp) hl
        simpa using this
    simp only
    exact ⟨h1, by omega, by omega⟩
  | ok T =>
    have hoff : ∀ t ∈ T, 0 ≤ t.at_ ∧ t.at_ ≤ (s.length : Int) := by
      unfold lexT at hl
      split at hl
      · cases hl
      · intro t ht
        have := (lexF_off _ _ _ _ hl).1 t ht
        simp at this
        exact this
    have hg : Gd (Beg T) (fun a => 0 ≤ a ∧ a ≤ (s.length : Int)) T := ⟨fun t ht hk => ⟨t, ht, hk, rfl⟩, hoff, by simp⟩
    have hw := expr_ex 64 T hg
    unfold Wa at hw
    simp only [topP]
    cases e : exprP (loK 64) T with
    | error er => rw [e] at hw; exact hw
    | ok x =>
      obtain ⟨n, r⟩ := x
      rw [e] at hw
      simp only at hw ⊢
      by_cases h6 : (hd r).kind = 6
      · rw [if_pos h6]
        exact ⟨T, rfl, hw.1.1⟩
      · rw [if_neg h6]
        exact ⟨show (2 : Int) ≠ 0 by decide, hw.2.hb⟩
end Go.Proofs.YtbgjgaaobnbijaaDoor
end
section
/- What the parser answers to sources that are put together: without the program. -/
set_option linter.unusedSimpArgs false
set_option linter.unusedVariables false
set_option maxRecDepth 8000
namespace Go.Proofs.YtbgjgaaobnbijaaDoor
open Gx Go

/-- Tokens that have an end. -/
def Hend (T : List Tk) : Prop := ∃ t ∈ T, t.kind = 6
theorem Hend.ne {T : List Tk} (h : Hend T) {i : Nat} (hn : Nk (T.take i)) : T.drop i ≠ [] := by
  obtain ⟨t, ht, hk⟩ := h
  intro e
  rw [List.drop_eq_nil_iff] at e
  rw [List.take_of_length_le e] at hn
  exact hn t ht hk
theorem sameT_ne {a b : List Tk} (h : sameT false a b = true) {i : Nat} (hn : a.drop i ≠ []) : b.drop i ≠ [] := by
  rw [ne_eq, List.drop_eq_nil_iff] at *
  rw [← sameT_len h]; exact hn
/-- Two answers: trees that are the same but for offsets, or one code of a fault. -/
def TopS (A B : Except Flt Nd) : Prop := (∃ n n', A = .ok n ∧ B = .ok n' ∧ NdE n n') ∨ ∃ c o o', A = .error (c, o) ∧ B = .error (c, o')
theorem agree_top {p : PP Nd} {T T' : List Tk} (hs : sameT false T T' = true) (he : Hend T) (h : ∀ M : Md, M.Ok → ¬ M.kx → Rl M NdE p p) : TopS (topP p T) (topP p T') := by
  have hM : Md.Ok ⟨T, T', fun _ => True, False, False, False⟩ := ⟨fun i _ => .inl (sameT_hd i hs), fun _ _ _ => .inl trivial, fun i _ hn => ⟨he.ne hn, sameT_ne hs (he.ne hn)⟩⟩
  have hi : In ⟨T, T', fun _ => True, False, False, False⟩ T T' := ⟨0, trivial, Nk.zero T, rfl, rfl⟩
  have ho := h _ hM (fun q => q) _ _ hi
  unfold topP
  rcases ho with ⟨q, _⟩ | ⟨q, _⟩ | ho
  · exact q.elim
  · exact q.elim
  cases e : p T with
  | error e' =>
    rw [e] at ho
    rcases ho with q | ⟨us, us', h1, h2, h3⟩
    · exact q.elim
    · rw [h3]
      exact .inr ⟨_, _, _, rfl, rfl⟩
  | ok x =>
    obtain ⟨n, r⟩ := x
    rw [e] at ho
    obtain ⟨n', r', h1, h2, h3⟩ := ho
    rw [h1]
    simp only
    have hk : (hd r).kind = (hd r').kind := by
      rcases h3.both hM with q | ⟨q, _⟩
      · exact q.1
      · exact q.elim
    by_cases k6 : (hd r).kind = 6
    · rw [if_pos k6, if_pos (hk ▸ k6)]
      exact .inl ⟨n, n', rfl, rfl, h2⟩
    · rw [if_neg k6, if_neg (fun q => k6 (hk.trans q))]
      exact .inr ⟨2, _, _, rfl, rfl⟩
theorem prog_any : ∀ M : Md, M.Ok → ¬ M.kx → Rl M NdE progP progP := fun M hM hk => progP_rl hM hk
theorem expr_any : ∀ M : Md, M.Ok → ¬ M.kx → Rl M NdE (exprP (loK 64)) (exprP (loK 64)) := fun M hM _ => expr_rl hM 64

/-! ### what a source's tokens are -/
theorem lex_parts {s : Bs} {T : List Tk} (h : lexT s = .ok T) : ∃ I, T = I ++ [⟨6, [], 0, (s.length : Int)⟩] ∧ (∀ t ∈ I, poB t = true ∧ t.kind ≠ 6) := by
  unfold lexT at h
  split at h
  · cases h
  · unfold lexA at h
    rw [List.drop_zero] at h
    have hc := lexF_chain _ _ _ _ (Nat.lt_succ_self _) h
    rw [Nat.zero_add] at hc
    have key : ∀ (e : Nat) (s : Bs) (o : Nat) (ts : List Tk), chainT e s o ts → ∃ I, ts = I ++ [⟨6, [], 0, (e : Int)⟩] ∧ (∀ t ∈ I, poB t = true ∧ t.kind ≠ 6) := by
      intro e s o ts
      induction ts generalizing s o with
      | nil => intro h; exact h.elim
      | cons t r ih =>
        rintro (⟨rfl, rfl, _⟩ | ⟨h1, h2, q, h3, h4, h5, h6, h7⟩)
        · exact ⟨[], rfl, by simp⟩
        · obtain ⟨I, rfl, hI⟩ := ih _ _ h7
          refine ⟨t :: I, rfl, fun x hx => ?_⟩
          rcases List.mem_cons.1 hx with rfl | hx
          · exact ⟨h1, h2⟩
          · exact hI x hx
    exact key _ _ _ _ hc
theorem lex_end {s : Bs} {T : List Tk} (h : lexT s = .ok T) : Hend T := by
  obtain ⟨I, rfl, _⟩ := lex_parts h
  exact ⟨⟨6, [], 0, (s.length : Int)⟩, by simp, rfl⟩
theorem same_end {T T' : List Tk} (h : sameT false T T' = true) (he : Hend T) : Hend T' := by
  obtain ⟨t, ht, hk⟩ := he
  obtain ⟨i, hi, rfl⟩ := List.getElem_of_mem ht
  have hl := sameT_len h
  have h1 := (sameT_hd i h).1
  have hi' : i < T'.length := by omega
  rw [List.drop_eq_getElem_cons hi, List.drop_eq_getElem_cons hi'] at h1
  exact ⟨T'[i], List.getElem_mem _, by rw [← hk]; exact h1.symm⟩

/-! ### blanks -/
theorem blanks_pure {s t : Bs} {T : List Tk} (h : lexT s = .ok T) (ht : textT T = (t, 0)) : TopS (srcP progP s) (srcP progP t) ∧ TopS (srcP (exprP (loK 64)) s) (srcP (exprP (loK 64)) t) := by
  obtain ⟨V, h1, h2⟩ := text_lex ht
  have h3 := sameT_symm h2
  unfold srcP
  rw [h, h1]
  exact ⟨agree_top h3 (lex_end h) prog_any, agree_top h3 (lex_end h) expr_any⟩

/-! ### the first fault -/
/-- The last token that is not the end and stands at o. -/
def findA (T : List Tk) (o : Int) : Nat → Int
  | 0 => -1
  | k + 1 => if (hd (T.drop k)).at_ = o ∧ (hd (T.drop k)).kind ≠ 6 then (k : Int) else findA T o k
theorem findA_at {T : List Tk} {o : Int} {i : Nat} (ha : (hd (T.drop i)).at_ = o) (hk : (hd (T.drop i)).kind ≠ 6) : ∀ n, i < n → (∀ j, i < j → j < n → (hd (T.drop j)).at_ ≠ o) → findA T o n = i
  | 0, h, _ => by omega
  | n + 1, h, hu => by
    unfold findA
    by_cases e : i = n
    · subst e; rw [if_pos ⟨ha, hk⟩]
    · rw [if_neg (fun q => hu n (by omega) (by omega) q.1)]
      exact findA_at ha hk n (by omega) fun j h1 h2 => hu j h1 (by omega)
theorem findA_no {T : List Tk} {o : Int} : ∀ n, (∀ j, j < n → (hd (T.drop j)).at_ = o → (hd (T.drop j)).kind = 6) → findA T o n = -1
  | 0, _ => rfl
  | n + 1, h => by
    unfold findA
    rw [if_neg (fun q => q.2 (h n (by omega) q.1))]
    exact findA_no n fun j h1 => h j (by omega)
theorem top_fault {p : PP Nd} (hw : Wg p) {T : List Tk} {c o : Int} (h : topP p T = .error (c, o)) : ∃ i, Nk (T.take i) ∧ o = (hd (T.drop i)).at_ ∧ (c = 2 ∨ (c = 6 ∧ (hd (T.drop i)).kind ≠ 6)) := by
  have h1 := hw T
  unfold topP at h
  cases e : p T with
  | error e' =>
    rw [e] at h h1
    cases h
    exact h1
  | ok x =>
    obtain ⟨n, r⟩ := x
    rw [e] at h h1
    obtain ⟨i, h2, h3⟩ := h1
    simp only at h h3
    split at h
    · cases h
    · cases h
      exact ⟨i, h2, by rw [h3], .inl rfl⟩
theorem pair_at {T : List Tk} (hp : T.Pairwise (fun a b => a.at_ < b.at_)) {i j : Nat} (hij : i < j) (hj : j < T.length) : (hd (T.drop i)).at_ < (hd (T.drop j)).at_ := by
  rw [List.drop_eq_getElem_cons (by omega : i < T.length), List.drop_eq_getElem_cons hj]
  exact List.pairwise_iff_getElem.1 hp i j (by omega) hj hij
theorem lex_pair {s : Bs} {T : List Tk} (h : lexT s = .ok T) : T.Pairwise (fun a b => a.at_ < b.at_) := by
  unfold lexT at h
  split at h
  · cases h
  · exact (lexF_off _ _ _ _ h).2
/-- Where the parser's fault stands, and that nothing behind it matters. -/
theorem prefix_pure {s : Bs} {T : List Tk} {c o : Int} (hl : lexT s = .ok T) (h : topP progP T = .error (c, o)) :
    (findA T o T.length = -1 ∧ o = s.length ∧ c = 2) ∨
    ∃ i, i < T.length ∧ findA T o T.length = (i : Nat) ∧ ∀ V U, sameT false V (T.take (i + 1) ++ U) = true → topP progP V = .error (c, (hd (V.drop i)).at_) := by
  obtain ⟨i, h1, h2, h3⟩ := top_fault progP_wg h
  have hend := lex_end hl
  have hp := lex_pair hl
  have hne := hend.ne h1
  have hi : i < T.length := by rw [ne_eq, List.drop_eq_nil_iff] at hne; omega
  have huniq : ∀ j, j < T.length → (hd (T.drop j)).at_ = o → j = i := fun j hj ej => by
    rcases Nat.lt_trichotomy j i with q | q | q
    · have := pair_at hp q hi; omega
    · exact q
    · have := pair_at hp q hj; omega
  by_cases k6 : (hd (T.drop i)).kind = 6
  · left
    obtain ⟨I, rfl, hI⟩ := lex_parts hl
    have hin : i = I.length := by
      simp only [List.length_append, List.length_cons, List.length_nil] at hi
      rcases Nat.lt_or_ge i I.length with q | q
      · exfalso
        rw [List.drop_append_of_le_length (by omega), List.drop_eq_getElem_cons q] at k6
        exact (hI _ (List.getElem_mem q)).2 k6
      · omega
    refine ⟨findA_no _ fun j hj ej => by rw [huniq j hj ej]; exact k6, ?_, ?_⟩
    · rw [h2, hin, List.drop_left]; rfl
    · rcases h3 with h3 | h3
      · exact h3
      · exact absurd k6 h3.2
  · right
    refine ⟨i, hi, findA_at h2.symm k6 _ hi fun j h4 h5 h6 => by have := huniq j h5 h6; omega, fun V U hV => ?_⟩
    have hlen := sameT_len hV
    rw [List.length_append, List.length_take] at hlen
    have hM : Md.Ok ⟨T, V, fun j => j < i + 1, False, False, True⟩ := ⟨fun j hj => .inl (by
        have hj : j < i + 1 := hj
        have q := sameT_hd j hV
        have e : hd ((T.take (i + 1) ++ U).drop j) = hd (T.drop j) := by
          rw [List.drop_append_of_le_length (by rw [List.length_take]; omega), List.drop_take]
          have hjl : j < T.length := by omega
          rw [List.drop_eq_getElem_cons hjl]
          obtain ⟨q, hq⟩ : ∃ q, i + 1 - j = q + 1 := ⟨i - j, by omega⟩
          rw [hq]; rfl
        rw [e] at q
        exact ⟨q.1.symm, q.2.1.symm, q.2.2.symm⟩), fun _ _ _ => .inr trivial, fun j hj _ => by
        have hj : j < i + 1 := hj
        rw [ne_eq, ne_eq, List.drop_eq_nil_iff, List.drop_eq_nil_iff]
        show ¬ T.length ≤ j ∧ ¬ V.length ≤ j
        omega⟩
    have hi0 : In ⟨T, V, fun j => j < i + 1, False, False, True⟩ T V := ⟨0, Nat.succ_pos _, Nk.zero T, rfl, rfl⟩
    have ho := progP_rl hM (fun q => q) _ _ hi0
    -- behind the place nothing has its offset
    have far : ∀ j l, ¬ j < i + 1 → Nk (T.take j) → Nk ((T.drop j).take l) → o = (hd ((T.drop j).drop l)).at_ → False := fun j l h4 h5 h6 h7 => by
      rw [List.drop_drop] at h7
      have := hend.ne (h5.more h6)
      rw [ne_eq, List.drop_eq_nil_iff] at this
      have := huniq (j + l) (by omega) h7.symm
      omega
    unfold topP at h ⊢
    rcases ho with ⟨q, _⟩ | ⟨_, j, h4, h5, h6⟩ | ho
    · exact q.elim
    · exfalso
      cases e : progP T with
      | error e' =>
        rw [e] at h h6
        cases h
        obtain ⟨l, h7, h8, _⟩ := h6
        exact far j l h4 h5 h7 h8
      | ok x =>
        obtain ⟨n, r⟩ := x
        rw [e] at h h6
        obtain ⟨l, h7, h8⟩ := h6
        simp only at h h8
        split at h
        · cases h
        · cases h
          exact far j l h4 h5 h7 (by show (hd r).at_ = _; rw [h8])
    · cases e : progP T with
      | error e' =>
        rw [e] at h ho
        cases h
        rcases ho with q | ⟨us, us', ⟨j, h4, h5, rfl, rfl⟩, h7, h8⟩
        · exact q.elim
        · have h4 : j < i + 1 := h4
          have : j = i := huniq j (by omega) h7.symm
          subst this
          rw [h8]
      | ok x =>
        obtain ⟨n, r⟩ := x
        rw [e] at h ho
        obtain ⟨n', r', h4, h5, hr⟩ := ho
        rw [h4]
        have hb := hr.both hM
        obtain ⟨j, h6, h7, h8, h9⟩ := hr
        simp only at h h8 h9 h6 ⊢
        split at h
        · cases h
        · rename_i hk
          cases h
          have : j = i := huniq j (by omega) (by rw [← h8])
          subst this
          rcases hb with q | ⟨q, _⟩
          · rw [if_neg (by rw [← q.1]; exact hk), h9]
          · exact q.elim
end Go.Proofs.YtbgjgaaobnbijaaDoor
end
section
/- The law of trees. -/
set_option linter.unusedSimpArgs false
set_option linter.unusedVariables false
set_option maxRecDepth 8000
namespace Go.Proofs.YtbgjgaaobnbijaaDoor
open Gx Go

mutual
theorem sameN_refl : ∀ x : Nd, sameN x x = true
  | .mk k t n a ks => by simp [sameN, sameL_refl ks]
theorem sameL_refl : ∀ l : List Nd, sameL l l = true
  | [] => by simp [sameL]
  | x :: l => by simp [sameL, sameN_refl x, sameL_refl l]
end
mutual
theorem sameN_symm : ∀ x y : Nd, sameN x y = sameN y x
  | .mk k t n a ks, .mk k' t' n' a' ks' => by
    simp only [sameN, sameL_symm ks ks', eq_comm (a := k), eq_comm (a := t), eq_comm (a := n), eq_comm (a := ks.length)]
theorem sameL_symm : ∀ l m : List Nd, sameL l m = sameL m l
  | [], [] => rfl
  | [], _ :: _ => by simp [sameL]
  | _ :: _, [] => by simp [sameL]
  | x :: l, y :: m => by simp only [sameL, sameN_symm x y, sameL_symm l m]
end
set_option maxHeartbeats 1000000 in
theorem trees_law (x y : Nd) {H : Heap} {vx vy : Value} (hG : GlobH H) (hx : NA H x vx) (hy : NA H y vy) : HCalls Tryd.prog 3 #[vx, vy] H fun v H' => v = .bool true ∧ Fr [] H H' := by
  have hx0 := hx
  have hy0 := hy
  obtain ⟨k, t, n, a, ks⟩ := x
  obtain ⟨k', t', n', a', ks'⟩ := y
  obtain ⟨kv, rfl, hk⟩ := hx.open
  obtain ⟨kv', rfl, hk'⟩ := hy.open
  obtain ⟨aa, cc, rfl, hcc, hmx⟩ := kids_len hk
  obtain ⟨aa', cc', rfl, hcc', hmx'⟩ := kids_len hk'
  refine calls_of_vc (args := [_, _]) Tryd.func3 c3ok (Nat.le_of_ble_eq_true rfl) ?_
  have L := L0 H
  simp (implicitDefEqProofs := false) only [go_sem, c3]
  refine L.newP fun bx H1 L => ?_
  simp (implicitDefEqProofs := false) only [go_sem]
  refine L.newP fun bb H2 L => ?_
  simp (implicitDefEqProofs := false) only [go_sem]
  refine (awake_ok (hG.ext L.fr)).mono ?_
  rintro v H3 ⟨rfl, hf⟩
  have L := L.ext hf
  have ca := L.cell 1 rfl
  have cb := L.cell 0 rfl
  simp (implicitDefEqProofs := false) only [go_sem, ca, cb, beq_self_eq_true]
  refine (small_ok _ (by decide) (hx0.ext L.fr)).mono ?_
  rintro v H4 ⟨rfl, hf⟩
  have L := L.ext hf
  have ca := L.cell 1 rfl
  have cb := L.cell 0 rfl
  by_cases e1 : sizeN (.mk k t n a ks) ≤ 400
  case neg =>
    simp (implicitDefEqProofs := false) only [go_sem, e1]
    exact L.fr
  simp (implicitDefEqProofs := false) only [go_sem, e1, ca, cb]
  refine (small_ok _ (by decide) (hy0.ext L.fr)).mono ?_
  rintro v H5 ⟨rfl, hf⟩
  have L := L.ext hf
  have ca := L.cell 1 rfl
  have cb := L.cell 0 rfl
  by_cases e2 : sizeN (.mk k' t' n' a' ks') ≤ 400
  case neg =>
    simp (implicitDefEqProofs := false) only [go_sem, e2]
    exact L.fr
  simp (implicitDefEqProofs := false) only [go_sem, e2, ca, cb]
  refine (same_ok _ _ _ (Nat.le_refl _) (hx0.ext L.fr) (hy0.ext L.fr)).mono ?_
  rintro v HF ⟨rfl, hf⟩
  have L := L.ext hf
  have ca := L.cell 1 rfl
  have cb := L.cell 0 rfl
  simp (implicitDefEqProofs := false) only [go_sem, ca, cb, beq_self_eq_true]
  refine (rsame_ok _ _ _ (Nat.le_refl _) (hx0.ext L.fr) (hy0.ext L.fr)).mono ?_
  rintro v HF ⟨rfl, hf⟩
  have L := L.ext hf
  have ca := L.cell 1 rfl
  have cb := L.cell 0 rfl
  simp (implicitDefEqProofs := false) only [go_sem, ca, cb, beq_self_eq_true]
  refine (same_ok _ _ _ (Nat.le_refl _) (hy0.ext L.fr) (hx0.ext L.fr)).mono ?_
  rintro v HF ⟨rfl, hf⟩
  have L := L.ext hf
  have ca := L.cell 1 rfl
  have cb := L.cell 0 rfl
  simp (implicitDefEqProofs := false) only [go_sem, ca, cb, beq_self_eq_true]
  refine (same_ok _ _ _ (Nat.le_refl _) (hx0.ext L.fr) (hy0.ext L.fr)).mono ?_
  rintro v HF ⟨rfl, hf⟩
  have L := L.ext hf
  have ca := L.cell 1 rfl
  have cb := L.cell 0 rfl
  rw [sameN_symm (.mk k' t' n' a' ks')]
  simp (implicitDefEqProofs := false) only [go_sem, ca, cb, beq_self_eq_true]
  refine (same_ok _ _ _ (Nat.le_refl _) (hx0.ext L.fr) (hx0.ext L.fr)).mono ?_
  rintro v HF ⟨rfl, hf⟩
  have L := L.ext hf
  have ca := L.cell 1 rfl
  have cb := L.cell 0 rfl
  rw [sameN_refl]
  simp (implicitDefEqProofs := false) only [go_sem, ca, cb, beq_self_eq_true]
  refine (size_ok _ _ (Nat.le_refl _) (hx0.ext L.fr)).mono ?_
  rintro v HF ⟨rfl, hf⟩
  have L := L.ext hf
  have ca := L.cell 1 rfl
  have cb := L.cell 0 rfl
  simp (implicitDefEqProofs := false) only [go_sem, ca, cb, beq_self_eq_true]
  refine (rsize_ok _ _ (Nat.le_refl _) (hx0.ext L.fr)).mono ?_
  rintro v HF ⟨rfl, hf⟩
  have L := L.ext hf
  have ca := L.cell 1 rfl
  have cb := L.cell 0 rfl
  simp (implicitDefEqProofs := false) only [go_sem, ca, cb, beq_self_eq_true]
  exact L.fr
end Go.Proofs.YtbgjgaaobnbijaaDoor
end
section
/- Parentheses, operators, programs one behind the other: what the parser answers. -/
set_option linter.unusedSimpArgs false
set_option linter.unusedVariables false
set_option maxRecDepth 8000
namespace Go.Proofs.YtbgjgaaobnbijaaDoor
open Gx Go

theorem NdE.symm {n m : Nd} (h : NdE n m) : NdE m n := by unfold NdE at *; rw [sameN_symm]; exact h
theorem NdE.refl (n : Nd) : NdE n n := sameN_refl n
mutual
theorem sameN_trans : ∀ x y z : Nd, sameN x y = true → sameN y z = true → sameN x z = true
  | .mk k t n a ks, .mk k' t' n' a' ks', .mk k2 t2 n2 a2 ks2, h, h' => by
    simp only [sameN, Bool.and_eq_true, decide_eq_true_eq] at h h' ⊢
    obtain ⟨⟨⟨⟨h1, h2⟩, h3⟩, h4⟩, h5⟩ := h
    obtain ⟨⟨⟨⟨g1, g2⟩, g3⟩, g4⟩, g5⟩ := h'
    exact ⟨⟨⟨⟨h1.trans g1, h2.trans g2⟩, h3.trans g3⟩, h4.trans g4⟩, sameL_trans ks ks' ks2 h4 h5 g5⟩
theorem sameL_trans : ∀ x y z : List Nd, x.length = y.length → sameL x y = true → sameL y z = true → sameL x z = true
  | [], _, _, _, _, _ => by simp [sameL]
  | x :: l, y :: m, [], _, _, _ => by simp [sameL]
  | x :: l, [], z, h, _, _ => by simp at h
  | x :: l, y :: m, z :: r, hl, h, h' => by
    simp only [sameL, Bool.and_eq_true] at h h' ⊢
    exact ⟨sameN_trans x y z h.1 h'.1, sameL_trans l m r (by simpa using hl) h.2 h'.2⟩
end
theorem NdE.trans {a b c : Nd} (h : NdE a b) (h' : NdE b c) : NdE a c := sameN_trans a b c h h'

theorem Nk.init {I : List Tk} {E : Tk} (h : Nk I) {i : Nat} (hk : (hd ((I ++ [E]).drop i)).kind = 6) : I.length ≤ i := by
  rcases Nat.lt_or_ge i I.length with q | q
  · exfalso
    rw [List.drop_append_of_le_length (by omega), List.drop_eq_getElem_cons q] at hk
    exact h _ (List.getElem_mem q) hk
  · exact q
/-- The readings of I behind which stands the end, and behind which stands what may end it. -/
theorem close_ok {I Y : List Tk} {E : Tk} (hI : Nk I) (hE : E.kind = 6) (hY : isCl (hd Y)) (hn : Y ≠ []) : Md.Ok ⟨I ++ [E], I ++ Y, fun j => j ≤ I.length, False, True, False⟩ := by
  have hlt : ∀ j, j < I.length → ∀ X : List Tk, hd ((I ++ X).drop j) = I.getD j E := fun j hj X => by
    rw [List.drop_append_of_le_length (by omega), List.drop_eq_getElem_cons hj, List.getD_eq_getElem?_getD, List.getElem?_eq_getElem hj]; rfl
  refine ⟨fun j hj => ?_, fun j hj hk => ?_, fun j hj _ => ?_⟩
  · rcases Nat.lt_or_ge j I.length with q | q
    · left
      show tkE (hd ((I ++ [E]).drop j)) (hd ((I ++ Y).drop j))
      rw [hlt j q, hlt j q]
      exact tkE.refl _
    · right
      have : j = I.length := Nat.le_antisymm hj q
      subst this
      refine ⟨trivial, ?_, ?_⟩
      · show (hd ((I ++ [E]).drop I.length)).kind = 6
        rw [List.drop_left]; exact hE
      · show isCl (hd ((I ++ Y).drop I.length))
        rw [List.drop_left]; exact hY
  · left
    show j + 1 ≤ I.length
    rcases Nat.lt_or_ge j I.length with q | q
    · omega
    · exfalso
      have : j = I.length := Nat.le_antisymm hj q
      subst this
      exact hk (by show (hd ((I ++ [E]).drop I.length)).kind = 6; rw [List.drop_left]; exact hE)
  · have hj : j ≤ I.length := hj
    show (I ++ [E]).drop j ≠ [] ∧ (I ++ Y).drop j ≠ []
    have := List.length_pos_iff.2 hn
    rw [ne_eq, ne_eq, List.drop_eq_nil_iff, List.drop_eq_nil_iff, List.length_append, List.length_append, List.length_singleton]
    omega
/-- What ends an expression may be another thing. -/
theorem expr_close {k : Nat} {I Y r : List Tk} {E : Tk} {m : Nd} (hI : Nk I) (hE : E.kind = 6) (hY : isCl (hd Y)) (hn : Y ≠ []) (h : exprP (loK k) (I ++ [E]) = .ok (m, r)) (h6 : (hd r).kind = 6) :
    ∃ m', exprP (loK k) (I ++ Y) = .ok (m', Y) ∧ NdE m m' := by
  have hM := close_ok (E := E) hI hE hY hn
  have ho := expr_rl hM k _ _ ⟨0, Nat.zero_le _, Nk.zero _, rfl, rfl⟩
  change Ou _ NdE (exprP (loK k) (I ++ [E])) (exprP (loK k) (I ++ Y)) at ho
  rw [h] at ho
  rcases ho with ⟨q, _⟩ | ⟨q, _⟩ | ⟨m', r', h1, h2, j, h3, h4, h5, h7⟩
  · exact q.elim
  · exact q.elim
  · have h5 : r = (I ++ [E]).drop j := h5
    have h7 : r' = (I ++ Y).drop j := h7
    have h3 : j ≤ I.length := h3
    rw [h5] at h6
    have : j = I.length := Nat.le_antisymm h3 (hI.init h6)
    subst this
    rw [List.drop_left] at h7
    subst h7
    exact ⟨m', h1, h2⟩
/-- One level less. -/
theorem expr_down {k : Nat} {ts : List Tk} (he : Hend ts) : (∀ m r, exprP (loK (k + 1)) ts = .ok (m, r) → (∃ o, exprP (loK k) ts = .error (6, o)) ∨ ∃ m', exprP (loK k) ts = .ok (m', r) ∧ NdE m m') ∧
    (∀ c o, exprP (loK (k + 1)) ts = .error (c, o) → ∃ o', exprP (loK k) ts = .error (6, o') ∨ exprP (loK k) ts = .error (c, o')) := by
  have hM : Md.Ok ⟨ts, ts, fun _ => True, True, False, False⟩ := ⟨fun i _ => .inl (tkE.refl _), fun _ _ _ => .inl trivial, fun i _ hn => ⟨he.ne hn, he.ne hn⟩⟩
  have ho := expr_less hM trivial k _ _ ⟨0, trivial, Nk.zero _, rfl, rfl⟩
  change Ou _ NdE (exprP (loK (k + 1)) ts) (exprP (loK k) ts) at ho
  refine ⟨fun m r h => ?_, fun c o h => ?_⟩
  · rw [h] at ho
    rcases ho with ⟨_, q⟩ | ⟨q, _⟩ | ⟨m', r', h1, h2, j, h3, h4, h5, h7⟩
    · exact .inl q
    · exact q.elim
    · have h5 : r = ts.drop j := h5
      have h7 : r' = ts.drop j := h7
      exact .inr ⟨m', by rw [h1, h7, h5], h2⟩
  · rw [h] at ho
    rcases ho with ⟨_, o', q⟩ | ⟨q, _⟩ | ⟨q | ⟨us, us', h1, h2, h3⟩⟩
    · exact ⟨o', .inl q⟩
    · exact q.elim
    · exact q.elim
    · exact ⟨_, .inr h3⟩
/-- Fewer levels: the same tree, or too deep; and what is too deep stays so. -/
theorem expr_lev {ts : List Tk} (he : Hend ts) {k : Nat} {m : Nd} {r : List Tk} (h : exprP (loK k) ts = .ok (m, r)) : ∀ j, j ≤ k → (∃ o, exprP (loK j) ts = .error (6, o)) ∨ ∃ m', exprP (loK j) ts = .ok (m', r) ∧ NdE m m' := by
  have key : ∀ d j, j + d = k → (∃ o, exprP (loK j) ts = .error (6, o)) ∨ ∃ m', exprP (loK j) ts = .ok (m', r) ∧ NdE m m' := by
    intro d
    induction d with
    | zero => intro j hj; obtain rfl : j = k := hj; exact .inr ⟨m, h, NdE.refl m⟩
    | succ d ih =>
      intro j hj
      rcases ih (j + 1) (by omega) with ⟨o, q⟩ | ⟨m', q, hm⟩
      · obtain ⟨o', q | q⟩ := (expr_down he).2 _ _ q
        · exact .inl ⟨o', q⟩
        · exact .inl ⟨o', q⟩
      · rcases (expr_down he).1 _ _ q with q | ⟨m2, q, hm2⟩
        · exact .inl q
        · exact .inr ⟨m2, q, hm.trans hm2⟩
  exact fun j hj => key (k - j) j (by omega)
/-- What is read within some levels is read within more. -/
theorem expr_up {ts : List Tk} (he : Hend ts) {k : Nat} {m : Nd} {r : List Tk} (h : exprP (loK k) ts = .ok (m, r)) : ∃ m', exprP (loK (k + 1)) ts = .ok (m', r) := by
  cases e : exprP (loK (k + 1)) ts with
  | error e' =>
    obtain ⟨o, q | q⟩ := (expr_down he).2 e'.1 e'.2 e <;> rw [h] at q <;> cases q
  | ok x =>
    obtain ⟨m', r'⟩ := x
    rcases (expr_down he).1 _ _ e with ⟨o, q⟩ | ⟨m2, q, _⟩
    · rw [h] at q; cases q
    · rw [h] at q; cases q
      exact ⟨m', rfl⟩

/-! ### what is read of one thing in parentheses -/
def isOp (ts : List Tk) : Prop := (hd ts).kind = 5 ∧ (hd ts).text = [40]
theorem isOp.isB {ts : List Tk} (h : isOp ts) (s : Bs) : isB s ts = decide (s = [40]) := by
  unfold Go.Proofs.YtbgjgaaobnbijaaDoor.isB
  rw [h.1, h.2]
  simp [eq_comm]
theorem prim_open0 {ts : List Tk} (h : isOp ts) : primP (loK 0) ts = .error (6, (hd ts).at_) := by
  unfold primP
  have hb := h.isB
  have k5 := h.1
  simp only [k5, hb]
  simp [entP, loK, hb]
theorem prim_open {k : Nat} {ts : List Tk} (h : isOp ts) : primP (loK (k + 1)) ts = bd (exprP (loK k)) (fun n => bd (expP [41]) fun _ => ret n) ts.tail := by
  unfold primP
  have hb := h.isB
  have k5 := h.1
  have e : loK (k + 1) = some (exprP (loK k), notP (loK k)) := by
    show some (lev k) = _
    rw [lev_eq]
  rw [e]
  simp only [k5, hb]
  simp [entP, hb]
theorem prim_err {k : Nat} {ts : List Tk} {e : Flt} (h : isOp ts) (he : exprP (loK k) ts.tail = .error e) : primP (loK (k + 1)) ts = .error e := by
  rw [prim_open h]; exact bd_err he
theorem prim_val {k : Nat} {ts r : List Tk} {m : Nd} (h : isOp ts) (he : exprP (loK k) ts.tail = .ok (m, r)) (hr : (hd r).kind = 5 ∧ (hd r).text = [41]) : primP (loK (k + 1)) ts = .ok (m, r.tail) := by
  rw [prim_open h, bd_ok he]
  have e : expP [41] r = .ok ((hd r).at_, r.tail) := by
    unfold expP
    rw [if_pos]
    unfold isB
    rw [hr.1, hr.2]; simp
  rw [bd_ok e]; rfl
theorem chain_err {op : PP Nd} {kd : Kd} {ts : List Tk} {e : Flt} (h : op ts = .error e) : chainP op kd ts = .error e := bd_err h
theorem chainF_stop {op : PP Nd} {kd : Kd} {n : Nd} {r : List Tk} (h : opAt kd r = false) : ∀ f, chainF op kd f n r = .ok (n, r)
  | 0 => rfl
  | f + 1 => by simp only [chainF, h, Bool.false_eq_true, if_false]
theorem chain_skip {op : PP Nd} {kd : Kd} {ts r : List Tk} {n : Nd} (h : op ts = .ok (n, r)) (hr : opAt kd r = false) : chainP op kd ts = .ok (n, r) := by
  unfold chainP
  rw [bd_ok h]
  exact chainF_stop hr _
/-- What may stand behind an expression ends all its parts. -/
def stops (r : List Tk) : Prop := isB [46] r = false ∧ isB [91] r = false
theorem cl_isB {r : List Tk} (h : isCl (hd r)) {s : Bs} (hs : s ∉ clL) : isB s r = false := by
  cases e : isB s r with
  | false => rfl
  | true =>
    exfalso
    have hk := isB_kind e
    unfold isB at e
    simp only [Bool.and_eq_true, Bool.or_eq_true, decide_eq_true_eq] at e
    rcases h with h | h
    · exact hk h
    · rw [e.2] at h; exact hs h.2
theorem cl_op {r : List Tk} (h : isCl (hd r)) {kd : Kd} (hk : ∀ c ∈ clL, kdOf kd c = 0) : opAt kd r = false := by
  cases e : opAt kd r with
  | false => rfl
  | true =>
    exfalso
    have h6 := isB_kind (opAt_isB e)
    rcases h with h | h
    · exact h6 h
    · unfold opAt at e
      rw [hk _ h.2] at e
      simp at e
theorem postF_stop {lo : Lo} {n : Nd} {r : List Tk} (h : stops r) : ∀ f, postF lo f n r = .ok (n, r)
  | 0 => rfl
  | f + 1 => by simp only [postF, h.1, h.2, Bool.false_eq_true, if_false]
theorem post_val {lo : Lo} {ts r : List Tk} {n : Nd} (h : primP lo ts = .ok (n, r)) (hr : stops r) : postP lo ts = .ok (n, r) := by
  unfold postP
  rw [bd_ok h]
  exact postF_stop hr _
theorem cmp_skip {lo : Lo} {ts r : List Tk} {n : Nd} (h : joinP lo ts = .ok (n, r)) (hr : opAt kCmp r = false) : cmpP lo ts = .ok (n, r) := by
  unfold cmpP
  rw [bd_ok h]
  simp only [hr, Bool.false_eq_true, if_false]
theorem not_open {lo : Lo} {ts : List Tk} (h : isOp ts) : notP lo ts = cmpP lo ts := by
  unfold notP
  rw [h.isB]; simp
theorem expr_open {lo : Lo} {ts : List Tk} (h : isOp ts) : exprP lo ts = orP lo ts := by
  unfold exprP
  rw [h.isB]; simp
theorem expr_err {lo : Lo} {ts : List Tk} {e : Flt} (ho : isOp ts) (h : primP lo ts = .error e) : exprP lo ts = .error e := by
  rw [expr_open ho]
  refine chain_err (chain_err ?_)
  rw [not_open ho]
  exact bd_err (chain_err (chain_err (bd_err h)))
theorem expr_val {lo : Lo} {ts r : List Tk} {n : Nd} (ho : isOp ts) (h : primP lo ts = .ok (n, r)) (hr : isCl (hd r)) : exprP lo ts = .ok (n, r) := by
  rw [expr_open ho]
  refine chain_skip (chain_skip ?_ (cl_op hr (by decide))) (cl_op hr (by decide))
  rw [not_open ho]
  exact cmp_skip (chain_skip (chain_skip (post_val h ⟨cl_isB hr (by decide), cl_isB hr (by decide)⟩) (cl_op hr (by decide))) (cl_op hr (by decide))) (cl_op hr (by decide))

/-! ### parentheses -/
def opens (n : Nat) : List Tk := List.replicate n opT
def closes (n : Nat) : List Tk := List.replicate n clT
theorem opens_deep : ∀ (n k : Nat) (X : List Tk), k < n → ∃ o, exprP (loK k) (opens n ++ X) = .error (6, o)
  | 0, k, X, h => by omega
  | n + 1, 0, X, h => ⟨_, expr_err (ts := opens (n + 1) ++ X) ⟨rfl, rfl⟩ (prim_open0 ⟨rfl, rfl⟩)⟩
  | n + 1, k + 1, X, h => by
    obtain ⟨o, ho⟩ := opens_deep n k X (by omega)
    exact ⟨o, expr_err (ts := opens (n + 1) ++ X) ⟨rfl, rfl⟩ (prim_err ⟨rfl, rfl⟩ ho)⟩
theorem opens_err {j : Nat} {X : List Tk} {e : Flt} (h : exprP (loK j) X = .error e) : ∀ n, exprP (loK (j + n)) (opens n ++ X) = .error e
  | 0 => h
  | n + 1 => expr_err (ts := opens (n + 1) ++ X) ⟨rfl, rfl⟩ (prim_err ⟨rfl, rfl⟩ (opens_err h n))
theorem closes_succ (n : Nat) (Y : List Tk) : closes (n + 1) ++ Y = closes n ++ (clT :: Y) := by
  unfold closes
  rw [List.replicate_succ', List.append_assoc]; rfl
theorem opens_val {j : Nat} {I : List Tk} {m : Nd} : ∀ (n : Nat) (Y : List Tk), isCl (hd Y) → exprP (loK j) (I ++ (closes n ++ Y)) = .ok (m, closes n ++ Y) → exprP (loK (j + n)) (opens n ++ (I ++ (closes n ++ Y))) = .ok (m, Y)
  | 0, Y, hY, h => h
  | n + 1, Y, hY, h => by
    rw [closes_succ] at h ⊢
    have ih := opens_val n (clT :: Y) (.inr ⟨.inr rfl, show ([41] : Bs) ∈ clL by decide⟩) h
    exact expr_val (ts := opens (n + 1) ++ (I ++ (closes n ++ (clT :: Y)))) ⟨rfl, rfl⟩ (prim_val (r := clT :: Y) ⟨rfl, rfl⟩ ih ⟨rfl, rfl⟩) hY
def paren (I : List Tk) (n : Nat) : List Tk := opens n ++ (I ++ (closes n ++ [eT]))
theorem paren_end (I : List Tk) (n : Nat) : Hend (I ++ (closes n ++ [eT])) := ⟨eT, by simp, rfl⟩
/-- What is read of an expression in parentheses. -/
theorem paren_pure {I : List Tk} {E : Tk} {m : Nd} (hI : Nk I) (hE : E.kind = 6) (h : topP (exprP (loK 64)) (I ++ [E]) = .ok m) (n : Nat) :
    ((∃ o, topP (exprP (loK 64)) (paren I n) = .error (6, o)) ∧ 0 < n ∧ ∃ o, topP (exprP (loK 64)) (paren I (n + 1)) = .error (6, o)) ∨
    (n ≤ 64 ∧ (∃ m', topP (exprP (loK 64)) (paren I n) = .ok m' ∧ NdE m m')) := by
  obtain ⟨r, h1, h6⟩ : ∃ r, exprP (loK 64) (I ++ [E]) = .ok (m, r) ∧ (hd r).kind = 6 := by
    unfold topP at h
    cases e : exprP (loK 64) (I ++ [E]) with
    | error e' => rw [e] at h; cases h
    | ok x =>
      obtain ⟨n, r⟩ := x
      rw [e] at h
      simp only at h
      split at h
      · cases h; exact ⟨r, rfl, by assumption⟩
      · cases h
  have hcl : ∀ n, isCl (hd (closes n ++ [eT])) := fun n => by
    cases n with
    | zero => exact .inl rfl
    | succ n => exact .inr ⟨.inr rfl, show ([41] : Bs) ∈ clL by decide⟩
  have full : ∀ n, ∃ m', exprP (loK 64) (I ++ (closes n ++ [eT])) = .ok (m', closes n ++ [eT]) ∧ NdE m m' := fun n => expr_close hI hE (hcl n) (by simp) h1 h6
  have top_err : ∀ {T : List Tk} {e : Flt}, exprP (loK 64) T = .error e → topP (exprP (loK 64)) T = .error e := fun h => by unfold topP; rw [h]
  have deep : ∀ n, (∃ o, topP (exprP (loK 64)) (paren I n) = .error (6, o)) ∨ (n ≤ 64 ∧ ∃ m', exprP (loK (64 - n)) (I ++ (closes n ++ [eT])) = .ok (m', closes n ++ [eT]) ∧ topP (exprP (loK 64)) (paren I n) = .ok m' ∧ NdE m m') := fun n => by
    rcases Nat.lt_or_ge 64 n with hn | hn
    · obtain ⟨o, ho⟩ := opens_deep n 64 (I ++ (closes n ++ [eT])) hn
      exact .inl ⟨o, top_err ho⟩
    · obtain ⟨m1, f1, f2⟩ := full n
      rcases expr_lev (paren_end I n) f1 (64 - n) (by omega) with ⟨o, q⟩ | ⟨m', q, hm⟩
      · have := opens_err q n
        rw [show 64 - n + n = 64 by omega] at this
        exact .inl ⟨o, top_err this⟩
      · have := opens_val (j := 64 - n) n [eT] (.inl rfl) q
        rw [show 64 - n + n = 64 by omega] at this
        refine .inr ⟨hn, m', q, ?_, f2.trans hm⟩
        unfold topP paren
        rw [this]; rfl
  rcases deep n with ⟨o, hd1⟩ | ⟨hn, m', q, ht, hm⟩
  · left
    refine ⟨⟨o, hd1⟩, ?_, ?_⟩
    · rcases Nat.eq_zero_or_pos n with rfl | q
      · exfalso
        obtain ⟨m1, f1, f2⟩ := full 0
        have e : topP (exprP (loK 64)) (paren I 0) = .ok m1 := by
          unfold topP paren
          show (match exprP (loK 64) (I ++ (closes 0 ++ [eT])) with | .error e => _ | .ok (n, r) => _) = _
          rw [f1]; rfl
        rw [e] at hd1; cases hd1
      · exact q
    · rcases deep (n + 1) with q | ⟨hn, m', q, ht, hm⟩
      · exact q
      · exfalso
        -- within one level more, and with one parenthesis less behind it
        obtain ⟨m2, q2⟩ := expr_up (paren_end I (n + 1)) q
        rw [show 64 - (n + 1) + 1 = 64 - n by omega] at q2
        rcases Nat.eq_zero_or_pos n with rfl | hpos
        · obtain ⟨m1, f1, f2⟩ := full 0
          have e : topP (exprP (loK 64)) (paren I 0) = .ok m1 := by
            unfold topP paren
            show (match exprP (loK 64) (I ++ (closes 0 ++ [eT])) with | .error e => _ | .ok (n, r) => _) = _
            rw [f1]; rfl
          rw [e] at hd1; cases hd1
        · obtain ⟨u, rfl⟩ : ∃ u, n = u + 1 := ⟨n - 1, by omega⟩
          have hM : Md.Ok ⟨I ++ (closes (u + 2) ++ [eT]), I ++ (closes (u + 1) ++ [eT]), fun j => j < I.length + 1, False, False, True⟩ := ⟨fun j hj => .inl (by
              have hj : j < I.length + 1 := hj
              show tkE (hd ((I ++ (clT :: (closes (u + 1) ++ [eT]))).drop j)) (hd ((I ++ (clT :: (closes u ++ [eT]))).drop j))
              rcases Nat.lt_or_ge j I.length with q | q
              · rw [List.drop_append_of_le_length (by omega), List.drop_append_of_le_length (by omega), List.drop_eq_getElem_cons q]; exact tkE.refl _
              · obtain rfl : j = I.length := by omega
                rw [List.drop_left, List.drop_left]; exact tkE.refl _), fun _ _ _ => .inr trivial, fun j hj _ => by
              have hj : j < I.length + 1 := hj
              rw [ne_eq, ne_eq, List.drop_eq_nil_iff, List.drop_eq_nil_iff]
              simp only [List.length_append, List.length_cons, List.length_nil]
              omega⟩
          have ho := expr_rl hM (64 - (u + 1)) _ _ ⟨0, Nat.succ_pos _, Nk.zero _, rfl, rfl⟩
          change Ou _ NdE (exprP (loK (64 - (u + 1))) (I ++ (closes (u + 2) ++ [eT]))) (exprP (loK (64 - (u + 1))) (I ++ (closes (u + 1) ++ [eT]))) at ho
          rw [q2] at ho
          have hlen : (closes (u + 1 + 1) ++ [eT]).length = u + 3 := by simp [closes]
          rcases ho with ⟨q, _⟩ | ⟨_, j, h3, h4, l, h5, h7⟩ | ⟨m3, r3, h3, h4, _⟩
          · exact q.elim
          · have h7 : closes (u + 1 + 1) ++ [eT] = ((I ++ (closes (u + 2) ++ [eT])).drop j).drop l := h7
            have h3 : ¬ j < I.length + 1 := h3
            have := congrArg List.length h7
            rw [hlen] at this
            simp only [List.length_drop, List.length_append, closes, List.length_replicate, List.length_singleton] at this
            omega
          · rcases deep (u + 1) with ⟨o2, _⟩ | ⟨_, _, _, ht2, _⟩
            · -- the reading within the levels is no fault
              obtain ⟨m1, f1, f2⟩ := full (u + 1)
              rcases expr_lev (paren_end I (u + 1)) f1 (64 - (u + 1)) (by omega) with ⟨o, q⟩ | ⟨m4, q4, _⟩
              · rw [h3] at q; cases q
              · have := opens_val (j := 64 - (u + 1)) (u + 1) [eT] (.inl rfl) q4
                rw [show 64 - (u + 1) + (u + 1) = 64 by omega] at this
                have e : topP (exprP (loK 64)) (paren I (u + 1)) = .ok m4 := by
                  unfold topP paren
                  rw [this]; rfl
                rw [e] at hd1; cases hd1
            · rw [ht2] at hd1; cases hd1
  · exact .inr ⟨hn, m', ht, hm⟩
end Go.Proofs.YtbgjgaaobnbijaaDoor
end
section
/- Operators: what the parser answers to three things in parentheses with two operators between them. -/
set_option linter.unusedSimpArgs false
set_option linter.unusedVariables false
set_option maxRecDepth 8000
namespace Go.Proofs.YtbgjgaaobnbijaaDoor
open Gx Go

def lvP (lo : Lo) : Nat → PP Nd
  | 0 => orP lo
  | 1 => andP lo
  | 2 => notP lo
  | 3 => joinP lo
  | 4 => sumP lo
  | _ => postP lo
def kdL : Nat → Kd
  | 0 => kOr
  | 1 => kAnd
  | 2 => kCmp
  | 3 => kJoin
  | _ => kSum
theorem lv_err {lo : Lo} {ts : List Tk} {e : Flt} (ho : isOp ts) : ∀ l, l < 5 → lvP lo (l + 1) ts = .error e → lvP lo l ts = .error e
  | 0, _, h => chain_err h
  | 1, _, h => chain_err h
  | 2, _, h => by
    show notP lo ts = _
    rw [not_open ho]
    exact bd_err h
  | 3, _, h => chain_err h
  | 4, _, h => chain_err h
  | l + 5, hl, _ => by omega
theorem lv_skip {lo : Lo} {ts r : List Tk} {n : Nd} (ho : isOp ts) : ∀ l, l < 5 → lvP lo (l + 1) ts = .ok (n, r) → opAt (kdL l) r = false → lvP lo l ts = .ok (n, r)
  | 0, _, h, hr => chain_skip h hr
  | 1, _, h, hr => chain_skip h hr
  | 2, _, h, hr => by
    show notP lo ts = _
    rw [not_open ho]
    exact cmp_skip h hr
  | 3, _, h, hr => chain_skip h hr
  | 4, _, h, hr => chain_skip h hr
  | l + 5, hl, _, _ => by omega
theorem chain_takeE {op : PP Nd} {kd : Kd} {ts u : List Tk} {n : Nd} {o : Tk} {e : Flt} (h : op ts = .ok (n, o :: u)) (hr : opAt kd (o :: u) = true) (hu : op u = .error e) : chainP op kd ts = .error e := by
  unfold chainP
  rw [bd_ok h]
  simp only [List.length_cons, chainF, hr, if_true, List.tail_cons]
  exact bd_err hu
theorem chain_take {op : PP Nd} {kd : Kd} {ts u r : List Tk} {n m : Nd} {o : Tk} (h : op ts = .ok (n, o :: u)) (hr : opAt kd (o :: u) = true) (hu : op u = .ok (m, r)) (hr2 : opAt kd r = false) : chainP op kd ts = .ok (.mk (kdOf kd o.text) [] 0 o.at_ [n, m], r) := by
  unfold chainP
  rw [bd_ok h]
  simp only [List.length_cons, chainF, hr, if_true, List.tail_cons]
  rw [bd_ok hu]
  exact chainF_stop hr2 _
theorem chain_twoE {op : PP Nd} {kd : Kd} {ts u u2 : List Tk} {n m : Nd} {o o2 : Tk} {e : Flt} (h : op ts = .ok (n, o :: u)) (hr : opAt kd (o :: u) = true) (hn : u ≠ []) (hu : op u = .ok (m, o2 :: u2)) (hr2 : opAt kd (o2 :: u2) = true) (hu2 : op u2 = .error e) :
    chainP op kd ts = .error e := by
  unfold chainP
  rw [bd_ok h]
  simp only [List.length_cons, chainF, hr, if_true, List.tail_cons]
  rw [bd_ok hu]
  obtain ⟨f, hf⟩ : ∃ f, u.length = f + 1 := ⟨u.length - 1, by have := List.length_pos_iff.2 hn; omega⟩
  rw [hf]
  simp only [chainF, hr2, if_true, List.tail_cons]
  exact bd_err hu2
theorem chain_two {op : PP Nd} {kd : Kd} {ts u u2 r : List Tk} {n m m2 : Nd} {o o2 : Tk} (h : op ts = .ok (n, o :: u)) (hr : opAt kd (o :: u) = true) (hn : u ≠ []) (hu : op u = .ok (m, o2 :: u2)) (hr2 : opAt kd (o2 :: u2) = true) (hu2 : op u2 = .ok (m2, r)) (hr3 : opAt kd r = false) :
    chainP op kd ts = .ok (.mk (kdOf kd o2.text) [] 0 o2.at_ [.mk (kdOf kd o.text) [] 0 o.at_ [n, m], m2], r) := by
  unfold chainP
  rw [bd_ok h]
  simp only [List.length_cons, chainF, hr, if_true, List.tail_cons]
  rw [bd_ok hu]
  obtain ⟨f, hf⟩ : ∃ f, u.length = f + 1 := ⟨u.length - 1, by have := List.length_pos_iff.2 hn; omega⟩
  rw [hf]
  simp only [chainF, hr2, if_true, List.tail_cons]
  rw [bd_ok hu2]
  exact chainF_stop hr3 _
theorem cmp_takeE {lo : Lo} {ts u : List Tk} {n : Nd} {o : Tk} {e : Flt} (h : joinP lo ts = .ok (n, o :: u)) (hr : opAt kCmp (o :: u) = true) (hu : joinP lo u = .error e) : cmpP lo ts = .error e := by
  unfold cmpP
  rw [bd_ok h]
  simp only [hr, if_true, List.tail_cons]
  exact bd_err hu
theorem cmp_take {lo : Lo} {ts u r : List Tk} {n m : Nd} {o : Tk} (h : joinP lo ts = .ok (n, o :: u)) (hr : opAt kCmp (o :: u) = true) (hu : joinP lo u = .ok (m, r)) : cmpP lo ts = .ok (.mk (kdOf kCmp o.text) [] 0 o.at_ [n, m], r) := by
  unfold cmpP
  rw [bd_ok h]
  simp only [hr, if_true, List.tail_cons]
  rw [bd_ok hu]; rfl
theorem lv_takeE {lo : Lo} {ts u : List Tk} {n : Nd} {o : Tk} {e : Flt} (ho : isOp ts) : ∀ l, l < 5 → lvP lo (l + 1) ts = .ok (n, o :: u) → opAt (kdL l) (o :: u) = true → lvP lo (l + 1) u = .error e → lvP lo l ts = .error e
  | 0, _, h, hr, hu => chain_takeE h hr hu
  | 1, _, h, hr, hu => chain_takeE h hr hu
  | 2, _, h, hr, hu => by
    show notP lo ts = _
    rw [not_open ho]
    exact cmp_takeE h hr hu
  | 3, _, h, hr, hu => chain_takeE h hr hu
  | 4, _, h, hr, hu => chain_takeE h hr hu
  | l + 5, hl, _, _, _ => by omega
theorem lv_take {lo : Lo} {ts u r : List Tk} {n m : Nd} {o : Tk} (ho : isOp ts) : ∀ l, l < 5 → lvP lo (l + 1) ts = .ok (n, o :: u) → opAt (kdL l) (o :: u) = true → lvP lo (l + 1) u = .ok (m, r) → (l = 2 ∨ opAt (kdL l) r = false) → lvP lo l ts = .ok (.mk (kdOf (kdL l) o.text) [] 0 o.at_ [n, m], r)
  | 0, _, h, hr, hu, h2 => chain_take h hr hu (h2.resolve_left (by decide))
  | 1, _, h, hr, hu, h2 => chain_take h hr hu (h2.resolve_left (by decide))
  | 2, _, h, hr, hu, h2 => by
    show notP lo ts = _
    rw [not_open ho]
    exact cmp_take h hr hu
  | 3, _, h, hr, hu, h2 => chain_take h hr hu (h2.resolve_left (by decide))
  | 4, _, h, hr, hu, h2 => chain_take h hr hu (h2.resolve_left (by decide))
  | l + 5, hl, _, _, _, _ => by omega
theorem lv_twoE {lo : Lo} {ts u u2 : List Tk} {n m : Nd} {o o2 : Tk} {e : Flt} : ∀ l, l < 5 → l ≠ 2 → lvP lo (l + 1) ts = .ok (n, o :: u) → opAt (kdL l) (o :: u) = true → u ≠ [] → lvP lo (l + 1) u = .ok (m, o2 :: u2) → opAt (kdL l) (o2 :: u2) = true → lvP lo (l + 1) u2 = .error e → lvP lo l ts = .error e
  | 0, _, _, h, hr, hn, hu, hr2, hu2 => chain_twoE h hr hn hu hr2 hu2
  | 1, _, _, h, hr, hn, hu, hr2, hu2 => chain_twoE h hr hn hu hr2 hu2
  | 2, _, h2, _, _, _, _, _, _ => absurd rfl h2
  | 3, _, _, h, hr, hn, hu, hr2, hu2 => chain_twoE h hr hn hu hr2 hu2
  | 4, _, _, h, hr, hn, hu, hr2, hu2 => chain_twoE h hr hn hu hr2 hu2
  | l + 5, hl, _, _, _, _, _, _, _ => by omega
theorem lv_two {lo : Lo} {ts u u2 r : List Tk} {n m m2 : Nd} {o o2 : Tk} : ∀ l, l < 5 → l ≠ 2 → lvP lo (l + 1) ts = .ok (n, o :: u) → opAt (kdL l) (o :: u) = true → u ≠ [] → lvP lo (l + 1) u = .ok (m, o2 :: u2) → opAt (kdL l) (o2 :: u2) = true → lvP lo (l + 1) u2 = .ok (m2, r) → opAt (kdL l) r = false →
    lvP lo l ts = .ok (.mk (kdOf (kdL l) o2.text) [] 0 o2.at_ [.mk (kdOf (kdL l) o.text) [] 0 o.at_ [n, m], m2], r)
  | 0, _, _, h, hr, hn, hu, hr2, hu2, hr3 => chain_two h hr hn hu hr2 hu2 hr3
  | 1, _, _, h, hr, hn, hu, hr2, hu2, hr3 => chain_two h hr hn hu hr2 hu2 hr3
  | 2, _, h2, _, _, _, _, _, _, _ => absurd rfl h2
  | 3, _, _, h, hr, hn, hu, hr2, hu2, hr3 => chain_two h hr hn hu hr2 hu2 hr3
  | 4, _, _, h, hr, hn, hu, hr2, hu2, hr3 => chain_two h hr hn hu hr2 hu2 hr3
  | l + 5, hl, _, _, _, _, _, _, _, _ => by omega
/-- From the tightest level to the loosest. -/
theorem down5 {P : Nat → Prop} (h5 : P 5) (h : ∀ l, l < 5 → P (l + 1) → P l) : ∀ l, l ≤ 5 → P l := by
  have h4 := h 4 (by decide) h5
  have h3 := h 3 (by decide) h4
  have h2 := h 2 (by decide) h3
  have h1 := h 1 (by decide) h2
  have h0 := h 0 (by decide) h1
  intro l hl
  match l, hl with
  | 0, _ => exact h0
  | 1, _ => exact h1
  | 2, _ => exact h2
  | 3, _ => exact h3
  | 4, _ => exact h4
  | 5, _ => exact h5
/-- A binary operator, its level and kind. -/
structure OpF (o : Tk) (a : Nat) (k : Int) : Prop where
  at_ : ∀ l s, l < 5 → opAt (kdL l) (o :: s) = decide (l = a)
  kind : kdOf (kdL a) o.text = k
  stop : ∀ s, stops (o :: s)
  lt : a < 5
section
variable {lo : Lo} {o1 o2 : Tk} {a b : Nat} {k1 k2 : Int} (f1 : OpF o1 a k1) (f2 : OpF o2 b k2) {s0 s1 s2 : List Tk} (i0 : isOp s0) (i1 : isOp s1) (i2 : isOp s2) {e : Flt} {x0 x1 x2 : Nd}
theorem err_all {ts : List Tk} (hi : isOp ts) (h : postP lo ts = .error e) : ∀ l, l ≤ 5 → lvP lo l ts = .error e := down5 (P := fun l => lvP lo l ts = .error e) h fun l hl ih => lv_err hi l hl ih
theorem end_op (l : Nat) : opAt (kdL l) [eT] = false := by
  have : isB [] [eT] = false := rfl
  unfold opAt
  rw [show (hd [eT]).text = [] from rfl, this, Bool.and_false]
theorem end_all {ts : List Tk} (hi : isOp ts) (h : postP lo ts = .ok (x0, [eT])) : ∀ l, l ≤ 5 → lvP lo l ts = .ok (x0, [eT]) := down5 (P := fun l => lvP lo l ts = .ok (x0, [eT])) h fun l hl ih => lv_skip hi l hl ih (end_op l)
include f2 i1
/-- Two things with an operator between them. -/
theorem two_all (i2 : isOp s2) (h1 : postP lo s1 = .ok (x1, o2 :: s2)) (h2 : postP lo s2 = .ok (x2, [eT])) : ∀ l, l ≤ 5 → lvP lo l s1 = if l ≤ b then .ok (.mk k2 [] 0 o2.at_ [x1, x2], [eT]) else .ok (x1, o2 :: s2) := by
  have hb := f2.lt
  refine down5 (P := fun l => lvP lo l s1 = if l ≤ b then .ok (.mk k2 [] 0 o2.at_ [x1, x2], [eT]) else .ok (x1, o2 :: s2)) ?_ fun l hl ih => ?_
  · rw [if_neg (by omega)]; exact h1
  · rcases Nat.lt_trichotomy l b with q | q | q
    · rw [if_pos (by omega)] at ih ⊢
      exact lv_skip i1 l hl ih (end_op l)
    · rw [if_neg (by omega)] at ih
      rw [if_pos (by omega), ← f2.kind, ← q]
      exact lv_take i1 l hl ih (by rw [f2.at_ l s2 hl, q]; simp) (end_all i2 h2 (l + 1) (by omega)) (.inr (end_op l))
    · rw [if_neg (by omega)] at ih ⊢
      exact lv_skip i1 l hl ih (by rw [f2.at_ l s2 hl]; simp; omega)
theorem two_err (i2 : isOp s2) (h1 : postP lo s1 = .ok (x1, o2 :: s2)) (h2 : postP lo s2 = .error e) : ∀ l, l ≤ 5 → lvP lo l s1 = if l ≤ b then .error e else .ok (x1, o2 :: s2) := by
  have hb := f2.lt
  refine down5 (P := fun l => lvP lo l s1 = if l ≤ b then .error e else .ok (x1, o2 :: s2)) ?_ fun l hl ih => ?_
  · rw [if_neg (by omega)]; exact h1
  · rcases Nat.lt_trichotomy l b with q | q | q
    · rw [if_pos (by omega)] at ih ⊢
      exact lv_err i1 l hl ih
    · rw [if_neg (by omega)] at ih
      rw [if_pos (by omega)]
      exact lv_takeE i1 l hl ih (by rw [f2.at_ l s2 hl, q]; simp) (err_all i2 h2 (l + 1) (by omega))
    · rw [if_neg (by omega)] at ih ⊢
      exact lv_skip i1 l hl ih (by rw [f2.at_ l s2 hl]; simp; omega)
include f1 i0 i2
/-- What is read of the whole. -/
def ThreeR (a b : Nat) (k1 k2 : Int) (x0 x1 x2 : Nd) (A : Except Flt (Nd × List Tk)) : Prop :=
  (∃ o, A = .error (6, o)) ∨ (a = 2 ∧ b = 2 ∧ ∃ n r, A = .ok (n, r) ∧ (hd r).kind ≠ 6) ∨
  (¬ (a = 2 ∧ b = 2) ∧ b ≤ a ∧ ∃ p q, A = .ok (.mk k2 [] 0 p [.mk k1 [] 0 q [x0, x1], x2], [eT])) ∨ (a < b ∧ ∃ p q, A = .ok (.mk k1 [] 0 p [x0, .mk k2 [] 0 q [x1, x2]], [eT]))
theorem three_ok (h0 : postP lo s0 = .ok (x0, o1 :: s1) ∨ ∃ o, postP lo s0 = .error (6, o)) (h1 : postP lo s1 = .ok (x1, o2 :: s2) ∨ ∃ o, postP lo s1 = .error (6, o)) (h2 : postP lo s2 = .ok (x2, [eT]) ∨ ∃ o, postP lo s2 = .error (6, o)) (hk : o2.kind ≠ 6) :
    ThreeR a b k1 k2 x0 x1 x2 (lvP lo 0 s0) := by
  have ha := f1.lt
  have hb := f2.lt
  have hn1 : s1 ≠ [] := fun q => by rw [q] at i1; exact absurd i1.1 (by decide)
  rcases h0 with h0 | ⟨o, h0⟩
  case inr => exact .inl ⟨o, err_all i0 h0 0 (by decide)⟩
  -- above the first operator's level
  have top : ∀ {A : Except Flt (Nd × List Tk)}, (∀ l, l < 5 → l = a → lvP lo (l + 1) s0 = .ok (x0, o1 :: s1) → lvP lo l s0 = A) → lvP lo a s0 = A := fun {A} hA => by
    have := down5 (P := fun l => if l ≤ a then l < a ∨ lvP lo l s0 = A else lvP lo l s0 = .ok (x0, o1 :: s1)) (by rw [if_neg (by omega)]; exact h0) (fun l hl ih => by
      rcases Nat.lt_trichotomy l a with q | q | q
      · rw [if_pos (by omega)]; exact .inl q
      · rw [if_neg (by omega)] at ih
        rw [if_pos (by omega)]
        exact .inr (hA l hl q ih)
      · rw [if_neg (by omega)] at ih ⊢
        exact lv_skip i0 l hl ih (by rw [f1.at_ l s1 hl]; simp; omega)) a (by omega)
    rw [if_pos (Nat.le_refl _)] at this
    rcases this with q | q
    · omega
    · exact q
  -- below it
  have low : ∀ {P : Nat → Prop}, P a → (∀ l, l < a → P (l + 1) → P l) → P 0 := fun {P} hP hs => by
    have : ∀ d l, l + d = a → P l := by
      intro d
      induction d with
      | zero => intro l hl; obtain rfl : l = a := hl; exact hP
      | succ d ih => intro l hl; exact hs l (by omega) (ih (l + 1) (by omega))
    exact this a 0 (by omega)
  have errd : ∀ {e : Flt}, lvP lo a s0 = .error e → lvP lo 0 s0 = .error e := fun {e} h => low (P := fun l => lvP lo l s0 = .error e) h fun l hl ih => lv_err i0 l (by omega) ih
  have endd : ∀ {n : Nd}, lvP lo a s0 = .ok (n, [eT]) → lvP lo 0 s0 = .ok (n, [eT]) := fun {n} h => low (P := fun l => lvP lo l s0 = .ok (n, [eT])) h fun l hl ih => lv_skip i0 l (by omega) ih (end_op l)
  have ta : ∀ l, l < 5 → l = a → opAt (kdL l) (o1 :: s1) = true := fun l hl q => by rw [f1.at_ l s1 hl, q]; simp
  rcases h1 with h1 | ⟨o, h1⟩
  case inr => exact .inl ⟨o, errd (top fun l hl q ih => lv_takeE i0 l hl ih (ta l hl q) (err_all i1 h1 (l + 1) (by omega)))⟩
  rcases Nat.lt_trichotomy a b with q | q | q
  · -- the second one binds tighter
    rcases h2 with h2 | ⟨o, h2⟩
    case inr =>
      refine .inl ⟨o, errd (top fun l hl ql ih => lv_takeE i0 l hl ih (ta l hl ql) ?_)⟩
      rw [two_err f2 i1 i2 h1 h2 (l + 1) (by omega), if_pos (by omega)]
    refine .inr (.inr (.inr ⟨q, o1.at_, o2.at_, endd (top fun l hl ql ih => ?_)⟩))
    have hr := two_all f2 i1 i2 h1 h2 (l + 1) (by omega)
    rw [if_pos (by omega)] at hr
    have := lv_take i0 l hl ih (ta l hl ql) hr (.inr (end_op l))
    rw [this, ql, f1.kind]
  · subst q
    by_cases ha2 : a = 2
    · -- comparisons
      refine .inr (.inl ⟨ha2, ha2, ?_⟩)
      have hr : ∀ l, a < l → l ≤ 5 → lvP lo l s1 = .ok (x1, o2 :: s2) := fun l q1 q2 => by
        rcases h2 with h2 | ⟨o, h2⟩
        · rw [two_all f2 i1 i2 h1 h2 l q2, if_neg (by omega)]
        · rw [two_err f2 i1 i2 h1 h2 l q2, if_neg (by omega)]
      have h3 := top (A := .ok (.mk k1 [] 0 o1.at_ [x0, x1], o2 :: s2)) fun l hl ql ih => by
        have := lv_take i0 l hl ih (ta l hl ql) (hr (l + 1) (by omega) (by omega)) (.inl (by omega))
        rw [this, ql, f1.kind]
      refine ⟨_, _, low (P := fun l => lvP lo l s0 = .ok (.mk k1 [] 0 o1.at_ [x0, x1], o2 :: s2)) h3 fun l hl ih => lv_skip i0 l (by omega) ih (by rw [f2.at_ l s2 (by omega)]; simp; omega), hk⟩
    · have tb : ∀ l, l < 5 → l = a → opAt (kdL l) (o2 :: s2) = true := fun l hl q => by rw [f2.at_ l s2 hl, q]; simp
      rcases h2 with h2 | ⟨o, h2⟩
      case inr =>
        refine .inl ⟨o, errd (top fun l hl ql ih => ?_)⟩
        have hr := two_err f2 i1 i2 h1 h2 (l + 1) (by omega)
        rw [if_neg (by omega)] at hr
        exact lv_twoE l hl (by omega) ih (ta l hl ql) hn1 hr (tb l hl ql) (err_all i2 h2 (l + 1) (by omega))
      refine .inr (.inr (.inl ⟨fun q => ha2 q.1, Nat.le_refl _, o2.at_, o1.at_, endd (top fun l hl ql ih => ?_)⟩))
      have hr := two_all f2 i1 i2 h1 h2 (l + 1) (by omega)
      rw [if_neg (by omega)] at hr
      have := lv_two l hl (by omega) ih (ta l hl ql) hn1 hr (tb l hl ql) (end_all i2 h2 (l + 1) (by omega)) (end_op l)
      rw [this, ql, f1.kind, f2.kind]
  · -- the first one binds tighter
    have hr : ∀ l, b < l → l ≤ 5 → lvP lo l s1 = .ok (x1, o2 :: s2) := fun l q1 q2 => by
      rcases h2 with h2 | ⟨o, h2⟩
      · rw [two_all f2 i1 i2 h1 h2 l q2, if_neg (by omega)]
      · rw [two_err f2 i1 i2 h1 h2 l q2, if_neg (by omega)]
    have h3 := top (A := .ok (.mk k1 [] 0 o1.at_ [x0, x1], o2 :: s2)) fun l hl ql ih => by
      have := lv_take i0 l hl ih (ta l hl ql) (hr (l + 1) (by omega) (by omega)) (.inr (by rw [f2.at_ l s2 hl]; simp; omega))
      rw [this, ql, f1.kind]
    rcases h2 with h2 | ⟨o, h2⟩
    case inr =>
      refine .inl ⟨o, ?_⟩
      have := low (P := fun l => if l ≤ b then lvP lo l s0 = .error (6, o) else lvP lo l s0 = .ok (.mk k1 [] 0 o1.at_ [x0, x1], o2 :: s2)) (by rw [if_neg (by omega)]; exact h3) fun l hl ih => by
        rcases Nat.lt_trichotomy l b with q | q | q
        · rw [if_pos (by omega)] at ih ⊢
          exact lv_err i0 l (by omega) ih
        · rw [if_neg (by omega)] at ih
          rw [if_pos (by omega)]
          exact lv_takeE i0 l (by omega) ih (by rw [f2.at_ l s2 (by omega), q]; simp) (err_all i2 h2 (l + 1) (by omega))
        · rw [if_neg (by omega)] at ih ⊢
          exact lv_skip i0 l (by omega) ih (by rw [f2.at_ l s2 (by omega)]; simp; omega)
      rw [if_pos (Nat.zero_le _)] at this
      exact this
    refine .inr (.inr (.inl ⟨by omega, Nat.le_of_lt q, o2.at_, o1.at_, ?_⟩))
    have := low (P := fun l => if l ≤ b then lvP lo l s0 = .ok (.mk k2 [] 0 o2.at_ [.mk k1 [] 0 o1.at_ [x0, x1], x2], [eT]) else lvP lo l s0 = .ok (.mk k1 [] 0 o1.at_ [x0, x1], o2 :: s2)) (by rw [if_neg (by omega)]; exact h3) fun l hl ih => by
      rcases Nat.lt_trichotomy l b with q | q | q
      · rw [if_pos (by omega)] at ih ⊢
        exact lv_skip i0 l (by omega) ih (end_op l)
      · rw [if_neg (by omega)] at ih
        rw [if_pos (by omega)]
        have := lv_take i0 l (by omega) ih (by rw [f2.at_ l s2 (by omega), q]; simp) (end_all i2 h2 (l + 1) (by omega)) (.inr (end_op l))
        rw [this, q, f2.kind]
      · rw [if_neg (by omega)] at ih ⊢
        exact lv_skip i0 l (by omega) ih (by rw [f2.at_ l s2 (by omega)]; simp; omega)
    rw [if_pos (Nat.zero_le _)] at this
    exact this
end
/-- An operand: an expression in parentheses. -/
theorem opd_pure {I R : List Tk} {E : Tk} {m : Nd} (hI : Nk I) (hE : E.kind = 6) (h : topP (exprP (loK 64)) (I ++ [E]) = .ok m) (hR : Hend R) (hs : stops R) :
    ∃ m', NdE m m' ∧ (postP (loK 64) (opT :: (I ++ (clT :: R))) = .ok (m', R) ∨ ∃ o, postP (loK 64) (opT :: (I ++ (clT :: R))) = .error (6, o)) := by
  obtain ⟨r, h1, h6⟩ : ∃ r, exprP (loK 64) (I ++ [E]) = .ok (m, r) ∧ (hd r).kind = 6 := by
    unfold topP at h
    cases e : exprP (loK 64) (I ++ [E]) with
    | error e' => rw [e] at h; cases h
    | ok x =>
      obtain ⟨n, r⟩ := x
      rw [e] at h
      simp only at h
      split at h
      · cases h; exact ⟨r, rfl, by assumption⟩
      · cases h
  obtain ⟨m1, f1, f2⟩ := expr_close hI hE (Y := clT :: R) (.inr ⟨.inr rfl, show ([41] : Bs) ∈ clL by decide⟩) (by simp) h1 h6
  have he : Hend (I ++ (clT :: R)) := by
    obtain ⟨t, ht, hk⟩ := hR
    exact ⟨t, by simp [ht], hk⟩
  rcases expr_lev he f1 63 (by decide) with ⟨o, q⟩ | ⟨m', q, hm⟩
  · exact ⟨m, NdE.refl m, .inr ⟨o, bd_err (prim_err (k := 63) (ts := opT :: (I ++ (clT :: R))) ⟨rfl, rfl⟩ q)⟩⟩
  · exact ⟨m', f2.trans hm, .inl (post_val (prim_val (k := 63) (ts := opT :: (I ++ (clT :: R))) (r := clT :: R) ⟨rfl, rfl⟩ q ⟨rfl, rfl⟩) hs)⟩
def tail3 (I : List Tk) (R : List Tk) : List Tk := opT :: (I ++ (clT :: R))
/-- Three operands. -/
theorem prec_pure {I0 I1 I2 : List Tk} {E0 E1 E2 o1 o2 : Tk} {m0 m1 m2 : Nd} {a b : Nat} {k1 k2 : Int} (f1 : OpF o1 a k1) (f2 : OpF o2 b k2) (hk : o2.kind ≠ 6) (g0 : Nk I0) (g1 : Nk I1) (g2 : Nk I2) (e0 : E0.kind = 6) (e1 : E1.kind = 6) (e2 : E2.kind = 6)
    (h0 : topP (exprP (loK 64)) (I0 ++ [E0]) = .ok m0) (h1 : topP (exprP (loK 64)) (I1 ++ [E1]) = .ok m1) (h2 : topP (exprP (loK 64)) (I2 ++ [E2]) = .ok m2) :
    (∃ o, topP (exprP (loK 64)) (tail3 I0 (o1 :: tail3 I1 (o2 :: tail3 I2 [eT]))) = .error (6, o)) ∨
    (a = 2 ∧ b = 2 ∧ ∃ o, topP (exprP (loK 64)) (tail3 I0 (o1 :: tail3 I1 (o2 :: tail3 I2 [eT]))) = .error (2, o)) ∨
    (¬ (a = 2 ∧ b = 2) ∧ b ≤ a ∧ ∃ n, topP (exprP (loK 64)) (tail3 I0 (o1 :: tail3 I1 (o2 :: tail3 I2 [eT]))) = .ok n ∧ NdE n (.mk k2 [] 0 0 [.mk k1 [] 0 0 [m0, m1], m2])) ∨
    (a < b ∧ ∃ n, topP (exprP (loK 64)) (tail3 I0 (o1 :: tail3 I1 (o2 :: tail3 I2 [eT]))) = .ok n ∧ NdE n (.mk k1 [] 0 0 [m0, .mk k2 [] 0 0 [m1, m2]])) := by
  have hE : Hend [eT] := ⟨eT, by simp, rfl⟩
  have hc : ∀ (t : Tk) (I : List Tk) {R : List Tk}, Hend R → Hend (t :: tail3 I R) := fun t I R h => by
    obtain ⟨u, hu, hk⟩ := h
    exact ⟨u, by simp [tail3, hu], hk⟩
  obtain ⟨x2, n2, p2⟩ := opd_pure g2 e2 h2 hE ⟨rfl, rfl⟩
  obtain ⟨x1, n1, p1⟩ := opd_pure g1 e1 h1 (hc o2 I2 hE) (f2.stop _)
  obtain ⟨x0, n0, p0⟩ := opd_pure g0 e0 h0 (hc o1 I1 (hc o2 I2 hE)) (f1.stop _)
  have i0 : isOp (tail3 I0 (o1 :: tail3 I1 (o2 :: tail3 I2 [eT]))) := ⟨rfl, rfl⟩
  have hr := three_ok (lo := loK 64) f1 f2 i0 (s1 := tail3 I1 (o2 :: tail3 I2 [eT])) ⟨rfl, rfl⟩ (s2 := tail3 I2 [eT]) ⟨rfl, rfl⟩ p0 p1 p2 hk
  unfold topP
  rw [expr_open i0]
  change ThreeR a b k1 k2 x0 x1 x2 (orP (loK 64) (tail3 I0 (o1 :: tail3 I1 (o2 :: tail3 I2 [eT])))) at hr
  rcases hr with ⟨o, q⟩ | ⟨q1, q2, n, r, q, q3⟩ | ⟨q1, q2, p, p', q⟩ | ⟨q1, p, p', q⟩
  · rw [q]; exact .inl ⟨o, rfl⟩
  · rw [q]
    refine .inr (.inl ⟨q1, q2, (hd r).at_, ?_⟩)
    simp only
    rw [if_neg q3]
  · rw [q]
    exact .inr (.inr (.inl ⟨q1, q2, _, rfl, ndE rfl rfl rfl (LsE.two (ndE rfl rfl rfl (LsE.two n0.symm n1.symm)) n2.symm)⟩))
  · rw [q]
    exact .inr (.inr (.inr ⟨q1, _, rfl, ndE rfl rfl rfl (LsE.two n0.symm (ndE rfl rfl rfl (LsE.two n1.symm n2.symm)))⟩))

/-! ### one program behind another -/
theorem progF_acc : ∀ (f : Nat) (l0 l : List Nd) (ts : List Tk), progF f (l0 ++ l) ts = match progF f l ts with
    | .error e => .error e
    | .ok (m, r) => .ok (l0 ++ m, r)
  | 0, l0, l, ts => rfl
  | f + 1, l0, l, ts => by
    simp only [progF]
    by_cases h : (hd ts).kind = 6
    · rw [if_pos h, if_pos h]
    · rw [if_neg h, if_neg h]
      cases e : declP ts with
      | error e' => rw [bd_err e, bd_err e]
      | ok x =>
        obtain ⟨d, r⟩ := x
        rw [bd_ok e, bd_ok e, List.append_assoc]
        exact progF_acc f l0 (l ++ [d]) r
theorem progF_fuel : ∀ (f g : Nat) (l : List Nd) (ts : List Tk), ts.length < f → ts.length < g → progF f l ts = progF g l ts
  | 0, _, _, ts, h, _ => by omega
  | _ + 1, 0, _, ts, _, h => by omega
  | f + 1, g + 1, l, ts, hf, hg => by
    simp only [progF]
    by_cases h : (hd ts).kind = 6
    · rw [if_pos h, if_pos h]
    · rw [if_neg h, if_neg h]
      refine bd_eq fun d r e => ?_
      have hn : ts ≠ [] := fun q => h (by rw [q]; rfl)
      have := declP_lt e hn
      exact progF_fuel f g _ r (by omega) (by omega)
theorem prog_app {I Y : List Tk} {E : Tk} (hI : Nk I) (hE : E.kind = 6) (hY : isCl (hd Y)) (hn : Y ≠ []) :
    ∀ (f f' : Nat) (l l' : List Nd) (j : Nat) (m : List Nd) (r : List Tk), j ≤ I.length → ((I ++ Y).drop j).length < f' → LsE l l' → progF f l ((I ++ [E]).drop j) = .ok (m, r) → (hd r).kind = 6 → ((I ++ [E]).drop j).length < f →
      ∃ m', LsE m m' ∧ progF f' l' ((I ++ Y).drop j) = progF (Y.length + 1) m' Y
  | 0, _, _, _, _, _, _, _, _, _, _, _, h => by omega
  | f + 1, f', l, l', j, m, r, hj, hf', hl, h, h6, hf => by
    have hM := close_ok (E := E) hI hE hY hn
    simp only [progF] at h
    by_cases hk : (hd ((I ++ [E]).drop j)).kind = 6
    · rw [if_pos hk] at h
      cases h
      have : j = I.length := Nat.le_antisymm hj (hI.init hk)
      subst this
      rw [List.drop_left] at hf' ⊢
      exact ⟨l', hl, progF_fuel _ _ _ _ hf' (by omega)⟩
    · rw [if_neg hk] at h
      have hjl : j < I.length := by
        rcases Nat.lt_or_ge j I.length with q | q
        · exact q
        · exfalso
          have : j = I.length := by omega
          subst this
          rw [List.drop_left] at hk; exact hk hE
      have hnk : Nk (I.take j) := fun t ht => hI t (List.mem_of_mem_take ht)
      have hin : In ⟨I ++ [E], I ++ Y, fun j => j ≤ I.length, False, True, False⟩ ((I ++ [E]).drop j) ((I ++ Y).drop j) := ⟨j, hj, by
        show Nk ((I ++ [E]).take j)
        rw [List.take_append_of_le_length hj]; exact hnk, rfl, rfl⟩
      have ho := declP_rl hM _ _ hin
      cases e : declP ((I ++ [E]).drop j) with
      | error e' => rw [bd_err e] at h; cases h
      | ok x =>
        obtain ⟨d, r1⟩ := x
        rw [bd_ok e] at h
        rw [e] at ho
        rcases ho with ⟨q, _⟩ | ⟨q, _⟩ | ⟨d', r1', h1, h2, i, h3, h4, h5, h7⟩
        · exact q.elim
        · exact q.elim
        · have h3 : i ≤ I.length := h3
          have h5 : r1 = (I ++ [E]).drop i := h5
          have h7 : r1' = (I ++ Y).drop i := h7
          subst h5 h7
          have l1 := declP_lt e (by rw [ne_eq, List.drop_eq_nil_iff]; simp; omega)
          have l2 := declP_lt h1 (by
            have := List.length_pos_iff.2 hn
            rw [ne_eq, List.drop_eq_nil_iff, List.length_append]; omega)
          obtain ⟨g, rfl⟩ : ∃ g, f' = g + 1 := ⟨f' - 1, by omega⟩
          have hk' : ¬ (hd ((I ++ Y).drop j)).kind = 6 := by
            rw [List.drop_append_of_le_length (by omega), List.drop_eq_getElem_cons hjl]
            exact hI _ (List.getElem_mem hjl)
          obtain ⟨m', i1, i2⟩ := prog_app hI hE hY hn f g (l ++ [d]) (l' ++ [d']) i m r h3 (by omega) (hl.app (LsE.one h2)) h h6 (by omega)
          refine ⟨m', i1, ?_⟩
          rw [← i2]
          simp only [progF]
          rw [if_neg hk', bd_ok h1]
theorem prog_open {T : List Tk} {n : Nd} (h : topP progP T = .ok n) : ∃ l r, progF (T.length + 1) [] T = .ok (l, r) ∧ (hd r).kind = 6 ∧ n = .mk 1 [] 0 0 l := by
  unfold topP progP at h
  cases e : progF (T.length + 1) [] T with
  | error e' => rw [bd_err e] at h; cases h
  | ok x =>
    obtain ⟨l, r⟩ := x
    rw [bd_ok e] at h
    simp only [ret] at h
    split at h
    · cases h; exact ⟨l, r, rfl, by assumption, rfl⟩
    · cases h
theorem append_pure {I J : List Tk} {E F : Tk} {x y : Nd} (hI : Nk I) (hE : E.kind = 6) (hF : F.kind = 6) (hx : topP progP (I ++ [E]) = .ok x) (hy : topP progP (J ++ [F]) = .ok y) :
    ∃ l m z, x = .mk 1 [] 0 0 l ∧ y = .mk 1 [] 0 0 m ∧ topP progP (I ++ (J ++ [F])) = .ok z ∧ NdE z (.mk 1 [] 0 0 (l ++ m)) := by
  obtain ⟨l, r, h1, h2, rfl⟩ := prog_open hx
  obtain ⟨m, r', h3, h4, rfl⟩ := prog_open hy
  have hY : isCl (hd (J ++ [F])) := by
    by_cases hk : (hd (J ++ [F])).kind = 6
    · exact .inl hk
    · right
      simp only [progF] at h3
      rw [if_neg hk] at h3
      cases e : declP (J ++ [F]) with
      | error e' => rw [bd_err e] at h3; cases h3
      | ok d =>
        have key : ∀ s, s ∈ clL → isB s (J ++ [F]) = true → ((hd (J ++ [F])).kind = 2 ∨ (hd (J ++ [F])).kind = 5) ∧ (hd (J ++ [F])).text ∈ clL := fun s hs q => by
          unfold isB at q
          simp only [Bool.and_eq_true, Bool.or_eq_true, decide_eq_true_eq] at q
          exact ⟨q.1, by rw [q.2]; exact hs⟩
        unfold declP at e
        split at e
        · rename_i q; exact key _ (by decide) q
        split at e
        · rename_i q; exact key _ (by decide) q
        split at e
        · rename_i q; exact key _ (by decide) q
        split at e
        · rename_i q; exact key _ (by decide) q
        · cases e
  obtain ⟨l', g1, g2⟩ := prog_app hI hE hY (by simp) _ ((I ++ (J ++ [F])).length + 1) [] [] 0 l r (Nat.zero_le _) (by rw [List.drop_zero]; omega) LsE.nil h1 h2 (by rw [List.drop_zero]; omega)
  rw [List.drop_zero] at g2
  have g3 := progF_acc ((J ++ [F]).length + 1) l' [] (J ++ [F])
  rw [List.append_nil, h3] at g3
  refine ⟨l, m, .mk 1 [] 0 0 (l' ++ m), rfl, rfl, ?_, ndE rfl rfl rfl ?_⟩
  · have e : progP (I ++ (J ++ [F])) = .ok (.mk 1 [] 0 0 (l' ++ m), r') := by
      unfold progP
      rw [bd_ok (g2.trans g3)]; rfl
    unfold topP
    rw [e]
    simp only
    rw [if_pos h4]
  · have sy : ∀ {a b : List Nd}, LsE a b → LsE b a := fun h => ⟨h.1.symm, by rw [sameL_symm]; exact h.2⟩
    exact (sy g1).app ⟨rfl, sameL_refl m⟩
end Go.Proofs.YtbgjgaaobnbijaaDoor
end
section
/- The law of blanks. -/
set_option linter.unusedSimpArgs false
set_option linter.unusedVariables false
set_option maxRecDepth 8000
namespace Go.Proofs.YtbgjgaaobnbijaaDoor
open Gx Go

/-- What a call of the parser returns. -/
def ndOf : Except Flt Nd → Nd
  | .error _ => .mk 0 [] 0 0 []
  | .ok n => n
def ftOf : Except Flt Nd → Flt
  | .error e => e
  | .ok _ => (0, 0)
theorem ResR.open {A : Except Flt Nd} {v : Value} {H H' : Heap} (h : ResR A v H H') : ∃ k t n a ks kv, ndOf A = .mk k t n a ks ∧ v = .tuple #[.agg #[.int .i64 k, sv t, .int .i64 n, .int .i64 a, kv], .agg #[.int .i64 (ftOf A).1, .int .i64 (ftOf A).2]] ∧ RepP H' (fun x => x < H.size) (kidsD ks) [kv] := by
  cases A with
  | error e =>
    simp only [ResR] at h
    exact ⟨0, [], 0, 0, [], _, rfl, h, zeroKids⟩
  | ok m =>
    simp only [ResR] at h
    obtain ⟨cs, rfl, hr⟩ := h
    obtain ⟨k, t, n, a, ks⟩ := m
    obtain ⟨kv, rfl, hkv⟩ := RepP.nd_open hr
    exact ⟨k, t, n, a, ks, kv, rfl, rfl, hkv⟩
theorem zeroNA (H : Heap) : NA H (.mk 0 [] 0 0 []) (.agg #[.int .i64 0, sv [], .int .i64 0, .int .i64 0, .slice none 0 0]) := NA.mk (zeroKids (B := fun _ => False) [] (by simp))
theorem TopS.same {A B : Except Flt Nd} (h : TopS A B) : (ftOf A).1 = (ftOf B).1 ∧ sameN (ndOf A) (ndOf B) = true := by
  rcases h with ⟨n, n', rfl, rfl, h⟩ | ⟨c, o, o', rfl, rfl⟩
  · exact ⟨rfl, h⟩
  · exact ⟨rfl, sameN_refl _⟩
theorem poB_bd {t : Tk} (h : poB t = true) : (-9223372036854775808 ≤ t.n ∧ t.n ≤ 9223372036854775807) ∧ t.text.length ≤ 1000000000000 := by
  unfold poB at h
  simp only [Bool.and_eq_true, Bool.or_eq_true, decide_eq_true_eq] at h
  obtain ⟨hn, hp⟩ := h
  split at hp
  · rename_i k
    rw [Bool.and_eq_true] at hp
    have := valid_len hp.1
    exact ⟨by omega, by omega⟩
  · split at hp
    · have := kw_len hp
      exact ⟨by omega, by omega⟩
    · split at hp
      · simp only [Bool.and_eq_true, decide_eq_true_eq] at hp
        exact ⟨by omega, by rw [hp.1]; simp⟩
      · split at hp
        · have := valid_len hp
          exact ⟨by omega, by omega⟩
        · split at hp
          · have := sign_len hp
            exact ⟨by omega, by omega⟩
          · split at hp
            · simp only [decide_eq_true_eq] at hp
              exact ⟨by omega, by rw [hp]; simp⟩
            · cases hp
theorem lex_bd {s : Bs} {T : List Tk} (h : lexT s = .ok T) : ∀ t ∈ T, (-9223372036854775808 ≤ t.n ∧ t.n ≤ 9223372036854775807) ∧ t.text.length ≤ 1000000000000 := by
  obtain ⟨I, rfl, hI⟩ := lex_parts h
  intro t ht
  rcases List.mem_append.1 ht with q | q
  · exact poB_bd (hI t q).1
  · simp only [List.mem_singleton] at q
    subst q
    exact ⟨by simp, by simp⟩
theorem text_len {l : List Tk} {s : Bs} (h : textT l = (s, 0)) : s.length ≤ maxLen := by
  unfold textT at h
  split at h
  · simp at h
  · split at h
    · simp at h
    · simp only [Prod.mk.injEq, and_true] at h
      rw [← h]; unfold maxLen; omega
set_option maxHeartbeats 2000000 in
theorem blanks_law (s : Bs) (hl : s.length ≤ maxLen) {H : Heap} (hG : GlobH H) : HCalls Tryd.prog 9 #[sv s] H fun v H' => v = .bool true ∧ Fr [] H H' := by
  refine calls_of_vc (args := [_]) Tryd.func9 c9ok (Nat.le_of_ble_eq_true rfl) ?_
  have L := L0 H
  simp (implicitDefEqProofs := false) only [go_sem, c9]
  refine (awake_ok (hG.ext L.fr)).mono ?_
  rintro v H1 ⟨rfl, hf1⟩
  have L := L.ext hf1
  simp (implicitDefEqProofs := false) only [go_sem]
  refine (lex_ok s hl (hG.ext L.fr)).mono ?_
  rintro v H2 ⟨hv, hf2⟩
  have L := L.ext hf2
  cases hlex : lexT s with
  | bad c k =>
    rw [hlex] at hv
    simp only [LexR] at hv
    subst hv
    have hc := lexT_bad hlex
    simp (implicitDefEqProofs := false) only [go_sem, ftV]
    refine L.newP fun b1 H3 L => ?_
    simp (implicitDefEqProofs := false) only [go_sem]
    refine L.stoAll 0 rfl rfl (by simp [Value.oneCell']) fun H4 L => ?_
    simp only [List.set_cons_zero, List.set_cons_succ, List.set_nil, List.eraseIdx_cons_zero, List.eraseIdx_cons_succ] at L
    have c0 := L.cell 0 rfl
    have e : srcP progP s = .error (c, k) := by unfold srcP; rw [hlex]
    simp (implicitDefEqProofs := false) only [go_sem, c0, hc]
    refine (pparse_ok s hl (hG.ext L.fr)).mono ?_
    rintro v H5 ⟨hv, hf5⟩
    rw [e] at hv
    simp only [ResR, zeroN] at hv
    subst hv
    have L := L.ext hf5
    simp (implicitDefEqProofs := false) only [go_sem]
    refine L.newP fun b2 H6 L => ?_
    simp (implicitDefEqProofs := false) only [go_sem]
    refine L.newP fun b3 H7 L => ?_
    simp (implicitDefEqProofs := false) only [go_sem]
    refine L.stoAll 1 rfl rfl (one_agg (t := []) rfl) fun H8 L => ?_
    simp only [List.set_cons_zero, List.set_cons_succ, List.set_nil, List.eraseIdx_cons_zero, List.eraseIdx_cons_succ] at L
    simp (implicitDefEqProofs := false) only [go_sem]
    refine L.stoAll 0 rfl rfl (by simp [Value.oneCell']) fun H9 L => ?_
    simp only [List.set_cons_zero, List.set_cons_succ, List.set_nil, List.eraseIdx_cons_zero, List.eraseIdx_cons_succ] at L
    have c0 := L.cell 0 rfl
    have c1 := L.cell 1 rfl
    have c2 := L.cell 2 rfl
    have hsame := same_ok _ _ _ (Nat.le_refl _) (zeroNA H9) (zeroNA H9)
    rw [sameN_refl] at hsame
    unfold sv at hsame
    simp (implicitDefEqProofs := false) only [go_sem, c0, c1, c2, sv]
    refine hsame.mono ?_
    rintro v H10 ⟨rfl, hf10⟩
    have L := L.ext hf10
    simp (implicitDefEqProofs := false) only [go_sem]
    exact L.fr
  | ok T =>
    rw [hlex] at hv
    simp only [LexR] at hv
    obtain ⟨a, cT, rfl, hcap1, hcap2, hrow⟩ := hv
    obtain ⟨hT1, hT2, hT3⟩ := lexT_len hlex
    simp (implicitDefEqProofs := false) only [go_sem, ftV]
    refine NewP_intro fun H8 hn8 hf8 hs8 => ?_
    have L := L.push hf8 hn8
    simp (implicitDefEqProofs := false) only [go_sem]
    refine Sto_all hn8 rfl (by simp [Value.oneCell']) fun H9 hn9 hf9 hs9 => ?_
    have L := L.sto 0 rfl hf9 hn9
    simp only [List.set_cons_zero, List.set_cons_succ, List.set_nil, List.eraseIdx_cons_zero, List.eraseIdx_cons_succ] at L
    have c0 := L.cell 0 rfl
    have hlt9 : ∀ rb o, a = some ⟨rb, o, none⟩ → rb < H2.size := by
      intro rb o ea
      obtain ⟨rb', ro, ha, hget⟩ := RowR.get hrow tkC_len 0 (List.length_pos_iff.2 hT2) (by decide)
      rw [ha] at ea; cases ea
      have := cellB_lt (hget 0 (by decide))
      omega
    have hrow9 : RowR tkC H9 a T := (hrow.ext hf8).fr hf9 fun b o ea => by have := hlt9 b o ea; simp only [List.mem_singleton]; omega
    simp (implicitDefEqProofs := false) only [go_sem, c0]
    refine (text_ok (lc := cT) hrow9 (by omega) (lex_bd hlex) (hG.ext L.fr)).mono ?_
    rintro v H10 ⟨rfl, hf10⟩
    have L := L.ext hf10
    cases hx : textT T with
    | mk t code =>
      by_cases hcode : code = 0
      case neg =>
        simp (implicitDefEqProofs := false) only [go_sem, hcode]
        exact L.fr
      subst hcode
      have htl := text_len hx
      obtain ⟨hb1, hb2⟩ := blanks_pure hlex hx
      have hb1 := hb1.same
      have hb2 := hb2.same
      have hx0 : (textT T).1 = t := by rw [hx]
      generalize e1 : srcP progP s = A1 at *
      generalize e2 : srcP progP t = A2 at *
      generalize e3 : srcP (exprP (loK 64)) s = A3 at *
      generalize e4 : srcP (exprP (loK 64)) t = A4 at *
      simp (implicitDefEqProofs := false) only [go_sem]
      refine (pparse_ok s hl (hG.ext L.fr)).mono ?_
      rintro v H1 ⟨hv, hf1⟩
      rw [e1] at hv
      obtain ⟨x1k, x1t, x1n, x1a, x1ks, x1kv, x1e, rfl, hkv⟩ := hv.open
      have L := (L.ext hf1).add (L.built hkv)
      simp (implicitDefEqProofs := false) only [go_sem]
      refine L.newP fun x1x H2 L => ?_
      simp (implicitDefEqProofs := false) only [go_sem]
      refine L.newP fun x1y H3 L => ?_
      simp (implicitDefEqProofs := false) only [go_sem]
      refine L.stoAll 1 rfl rfl (one_agg (nd_one (L.dat (kidsD x1ks, [x1kv]) (by simp)))) fun H4 L => ?_
      simp only [List.set_cons_zero, List.set_cons_succ, List.set_nil, List.eraseIdx_cons_zero, List.eraseIdx_cons_succ] at L
      simp (implicitDefEqProofs := false) only [go_sem]
      refine L.stoAll 0 rfl rfl (by simp [Value.oneCell']) fun H5 L => ?_
      simp only [List.set_cons_zero, List.set_cons_succ, List.set_nil, List.eraseIdx_cons_zero, List.eraseIdx_cons_succ] at L
      simp (implicitDefEqProofs := false) only [go_sem]
      refine (pparse_ok t htl (hG.ext L.fr)).mono ?_
      rintro v H1 ⟨hv, hf1⟩
      rw [e2] at hv
      obtain ⟨x2k, x2t, x2n, x2a, x2ks, x2kv, x2e, rfl, hkv⟩ := hv.open
      have L := (L.ext hf1).add (L.built hkv)
      simp (implicitDefEqProofs := false) only [go_sem]
      refine L.newP fun x2x H2 L => ?_
      simp (implicitDefEqProofs := false) only [go_sem]
      refine L.newP fun x2y H3 L => ?_
      simp (implicitDefEqProofs := false) only [go_sem]
      refine L.stoAll 1 rfl rfl (one_agg (nd_one (L.dat (kidsD x2ks, [x2kv]) (by simp)))) fun H4 L => ?_
      simp only [List.set_cons_zero, List.set_cons_succ, List.set_nil, List.eraseIdx_cons_zero, List.eraseIdx_cons_succ] at L
      simp (implicitDefEqProofs := false) only [go_sem]
      refine L.stoAll 0 rfl rfl (by simp [Value.oneCell']) fun H5 L => ?_
      simp only [List.set_cons_zero, List.set_cons_succ, List.set_nil, List.eraseIdx_cons_zero, List.eraseIdx_cons_succ] at L
      simp (implicitDefEqProofs := false) only [go_sem]
      refine (pexpr_ok s hl (hG.ext L.fr)).mono ?_
      rintro v H1 ⟨hv, hf1⟩
      rw [e3] at hv
      obtain ⟨x3k, x3t, x3n, x3a, x3ks, x3kv, x3e, rfl, hkv⟩ := hv.open
      have L := (L.ext hf1).add (L.built hkv)
      simp (implicitDefEqProofs := false) only [go_sem]
      refine L.newP fun x3x H2 L => ?_
      simp (implicitDefEqProofs := false) only [go_sem]
      refine L.newP fun x3y H3 L => ?_
      simp (implicitDefEqProofs := false) only [go_sem]
      refine L.stoAll 1 rfl rfl (one_agg (nd_one (L.dat (kidsD x3ks, [x3kv]) (by simp)))) fun H4 L => ?_
      simp only [List.set_cons_zero, List.set_cons_succ, List.set_nil, List.eraseIdx_cons_zero, List.eraseIdx_cons_succ] at L
      simp (implicitDefEqProofs := false) only [go_sem]
      refine L.stoAll 0 rfl rfl (by simp [Value.oneCell']) fun H5 L => ?_
      simp only [List.set_cons_zero, List.set_cons_succ, List.set_nil, List.eraseIdx_cons_zero, List.eraseIdx_cons_succ] at L
      simp (implicitDefEqProofs := false) only [go_sem]
      refine (pexpr_ok t htl (hG.ext L.fr)).mono ?_
      rintro v H1 ⟨hv, hf1⟩
      rw [e4] at hv
      obtain ⟨x4k, x4t, x4n, x4a, x4ks, x4kv, x4e, rfl, hkv⟩ := hv.open
      have L := (L.ext hf1).add (L.built hkv)
      simp (implicitDefEqProofs := false) only [go_sem]
      refine L.newP fun x4x H2 L => ?_
      simp (implicitDefEqProofs := false) only [go_sem]
      refine L.newP fun x4y H3 L => ?_
      simp (implicitDefEqProofs := false) only [go_sem]
      refine L.stoAll 1 rfl rfl (one_agg (nd_one (L.dat (kidsD x4ks, [x4kv]) (by simp)))) fun H4 L => ?_
      simp only [List.set_cons_zero, List.set_cons_succ, List.set_nil, List.eraseIdx_cons_zero, List.eraseIdx_cons_succ] at L
      simp (implicitDefEqProofs := false) only [go_sem]
      refine L.stoAll 0 rfl rfl (by simp [Value.oneCell']) fun H5 L => ?_
      simp only [List.set_cons_zero, List.set_cons_succ, List.set_nil, List.eraseIdx_cons_zero, List.eraseIdx_cons_succ] at L
      have c0 := L.cell 0 rfl
      have c1 := L.cell 1 rfl
      have c2 := L.cell 2 rfl
      have c3 := L.cell 3 rfl
      have c4 := L.cell 4 rfl
      have c5 := L.cell 5 rfl
      have c6 := L.cell 6 rfl
      have c7 := L.cell 7 rfl
      obtain ⟨q1, q2⟩ := hb1
      obtain ⟨q3, q4⟩ := hb2
      have hs1 := same_ok _ _ _ (Nat.le_refl (sizeN (.mk x1k x1t x1n x1a x1ks))) (NA.mk (L.dat (kidsD x1ks, [x1kv]) (by simp)).rep) (NA.mk (k := x2k) (t := x2t) (n := x2n) (a := x2a) (L.dat (kidsD x2ks, [x2kv]) (by simp)).rep)
      rw [← x1e, ← x2e, q2] at hs1
      unfold sv at *
      simp (implicitDefEqProofs := false) only [go_sem, c0, c1, c2, c3, c4, c5, c6, c7, q1, q3]
      refine hs1.mono ?_
      rintro v H10 ⟨rfl, hf10⟩
      have L := L.ext hf10
      have c0 := L.cell 0 rfl
      have c1 := L.cell 1 rfl
      have c2 := L.cell 2 rfl
      have c3 := L.cell 3 rfl
      have hs2 := same_ok _ _ _ (Nat.le_refl (sizeN (.mk x3k x3t x3n x3a x3ks))) (NA.mk (L.dat (kidsD x3ks, [x3kv]) (by simp)).rep) (NA.mk (k := x4k) (t := x4t) (n := x4n) (a := x4a) (L.dat (kidsD x4ks, [x4kv]) (by simp)).rep)
      rw [← x3e, ← x4e, q4] at hs2
      unfold sv at *
      simp (implicitDefEqProofs := false) only [go_sem, c0, c1, c2, c3, q1, q3]
      refine hs2.mono ?_
      rintro v H11 ⟨rfl, hf11⟩
      have L := L.ext hf11
      simp (implicitDefEqProofs := false) only [go_sem]
      exact L.fr
end Go.Proofs.YtbgjgaaobnbijaaDoor
end
section
/- The law of two programs, one after the other. -/
set_option linter.unusedSimpArgs false
set_option linter.unusedVariables false
set_option maxRecDepth 8000
namespace Go.Proofs.YtbgjgaaobnbijaaDoor
open Gx Go

theorem progF_len : ∀ (f : Nat) (l : List Nd) (ts : List Tk) (m : List Nd) (r : List Tk), progF f l ts = .ok (m, r) → m.length + r.length ≤ l.length + ts.length
  | 0, l, ts, m, r, h => by
    simp only [progF, ret] at h
    cases h; exact Nat.le_refl _
  | f + 1, l, ts, m, r, h => by
    simp only [progF] at h
    by_cases hk : (hd ts).kind = 6
    · rw [if_pos hk] at h; cases h; exact Nat.le_refl _
    · rw [if_neg hk] at h
      cases e : declP ts with
      | error e' => rw [bd_err e] at h; cases h
      | ok x =>
        obtain ⟨d, r1⟩ := x
        rw [bd_ok e] at h
        have h1 := progF_len f _ _ _ _ h
        have h2 := declP_lt e (fun q => hk (by rw [q]; rfl))
        simp only [List.length_append, List.length_singleton] at h1
        omega
theorem src_ok {p : PP Nd} (hw : Wg p) {s : Bs} (h : (ftOf (srcP p s)).1 = 0) : ∃ T n, lexT s = .ok T ∧ topP p T = .ok n ∧ srcP p s = .ok n := by
  unfold srcP at h ⊢
  cases hl : lexT s with
  | bad c k =>
    rw [hl] at h
    exact absurd h (lexT_bad hl)
  | ok T =>
    rw [hl] at h
    simp only at h ⊢
    cases e : topP p T with
    | ok n => exact ⟨T, n, rfl, e, rfl⟩
    | error e' =>
      obtain ⟨c, o⟩ := e'
      rw [e] at h
      obtain ⟨i, _, _, h3⟩ := top_fault hw e
      have h : c = 0 := h
      omega
theorem src_of {p : PP Nd} {s : Bs} {T : List Tk} (h : lexT s = .ok T) : srcP p s = topP p T := by unfold srcP; rw [h]
theorem lex_le {s : Bs} {T : List Tk} (h : lexT s = .ok T) : s.length ≤ 65536 := by
  unfold lexT at h
  split at h
  · cases h
  · omega
theorem lex_nk {s : Bs} {T : List Tk} (h : lexT s = .ok T) : ∃ I, T = I ++ [⟨6, [], 0, (s.length : Int)⟩] ∧ Nk I := by
  obtain ⟨I, h1, h2⟩ := lex_parts h
  exact ⟨I, h1, fun t ht => (h2 t ht).2⟩
theorem append_src {a b : Bs} {x y : Nd} {T U : List Tk} (la : lexT a = .ok T) (lb : lexT b = .ok U) (ha : topP progP T = .ok x) (hb : topP progP U = .ok y) :
    (∃ o, srcP progP (a ++ 10 :: b) = .error (6, o) ∧ 65536 ≤ a.length + b.length) ∨
    ∃ l m z, x = .mk 1 [] 0 0 l ∧ y = .mk 1 [] 0 0 m ∧ srcP progP (a ++ 10 :: b) = .ok z ∧ NdE z (.mk 1 [] 0 0 (l ++ m)) ∧ l.length ≤ 65537 ∧ m.length ≤ 65537 := by
  rcases Nat.lt_or_ge 65536 (a ++ 10 :: b).length with hbig | hsm
  · left
    refine ⟨65536, ?_, by simp at hbig; omega⟩
    unfold srcP lexT
    rw [if_pos hbig]; rfl
  · right
    obtain ⟨I, E, rfl, hE, hx⟩ := (Lx.of la).line (Lx.of lb)
    obtain ⟨J, rfl, hJ⟩ := lex_nk lb
    obtain ⟨I', hI', hnI⟩ := lex_nk la
    obtain ⟨rfl, _⟩ : I = I' ∧ [E] = _ := List.append_inj' hI' rfl
    obtain ⟨l, m, z, rfl, rfl, h3, h4⟩ := append_pure hnI hE.1 rfl ha hb
    obtain ⟨V, v1, v2⟩ := hx.lexT hsm
    have hend : Hend V := same_end (sameT_symm v2) ⟨⟨6, [], 0, (b.length : Int)⟩, by simp, rfl⟩
    rw [src_of v1]
    have hl : ∀ {T : List Tk} {l : List Nd} {s : Bs}, lexT s = .ok T → topP progP T = .ok (.mk 1 [] 0 0 l) → l.length ≤ 65537 := fun hl h => by
      obtain ⟨l', r, q1, q2, q3⟩ := prog_open h
      cases q3
      have := progF_len _ _ _ _ _ q1
      have := (lexT_len hl).1
      simp at *; omega
    rcases agree_top v2 hend prog_any with ⟨n, n', q1, q2, q3⟩ | ⟨c, o, o', q1, q2⟩
    · rw [h3] at q2
      cases q2
      exact ⟨l, m, n, rfl, rfl, q1, q3.trans h4, hl la ha, hl lb hb⟩
    · rw [h3] at q2; cases q2

/-! ### kids behind kids -/
theorem RepP.list_open {H : Heap} {B : Nat → Prop} {m : Nat} {dl : List Dat} {v : Value} (h : RepP H B (.list m dl) [v]) : ∃ a c css, v = .slice a dl.length c ∧ dl.length ≤ c ∧ RepsP H B dl css ∧ (∀ x ∈ css, x.length = m) ∧ CsR H a css.flatten := by
  classical
  obtain ⟨a, c, css, h1, h2, h3, h4, h5, h6⟩ := (by simpa only [Rep] using h ((List.range H.size).filter (fun b => decide (B b))) (fun x hx => by simpa using (List.mem_filter.1 hx).2) : ∃ a c css, _)
  simp only [List.cons.injEq, and_true] at h1
  refine ⟨a, c, css, h1, h2, fun M hM => Reps.to (fun b hb hn => ⟨fun hm => hn (List.mem_filter.2 ⟨List.mem_range.2 hb, by simpa using hM b hm⟩), rfl⟩) dl css h4, h5, h6.csR⟩
theorem nds_one {H : Heap} {M : List Nat} : ∀ (ks : List Nd) (css : List (List Value)), Reps H M (ks.map Nd.dat) css → ∀ x ∈ css, ∀ u ∈ x, u.oneCell' = true
  | [], css, h, x, hx => by
    simp only [List.map_nil, Reps] at h
    subst h; simp at hx
  | k :: ks, css, h, x, hx => by
    simp only [List.map_cons, Reps] at h
    obtain ⟨y, ys, rfl, h1, h2⟩ := h
    rcases List.mem_cons.1 hx with rfl | hx
    · obtain ⟨kk, t, n, a, l⟩ := k
      obtain ⟨v, rfl, hv⟩ := nd_rep.1 h1
      obtain ⟨ad, c, rfl, _⟩ := Rep.slice hv
      intro u hu
      simp only [List.mem_cons, List.not_mem_nil, or_false] at hu
      rcases hu with rfl | rfl | rfl | rfl | rfl <;> rfl
    · exact nds_one ks ys h2 x hx
section
variable {H0 H : Heap} {O0 O : List Nat} {S : Heap → Prop} {l : List Ent} {ds : List (Dat × List Value)}
theorem _root_.Gx.Lv.appK {R : Value → Heap → Prop} {kv v : Value} {g : Option Nat} {ns ks : List Nd} (L : Lv O0 H0 O S H l ds) (i : Nat) (hi : l[i]? = some (.row 24 5 v (ns.map Nd.dat) g)) (hk : (kidsD ks, [kv]) ∈ ds) (h63 : ns.length + ks.length ≤ 1048576)
    (hR : ∀ a c g' H', Lv O0 H0 O S H' (l.set i (.row 24 5 (.slice a (ns ++ ks).length c) ((ns ++ ks).map Nd.dat) g')) ds → R (.slice a (ns ++ ks).length c) H') :
    App Tryd.prog 22 22 22 H v kv R := by
  have hrow := L.rowGet i hi
  have hmem := List.mem_of_getElem? hi
  obtain ⟨css, ho, h2, h3⟩ := hrow
  rw [List.length_map] at ho
  have hdat : RepP H (Lk H0.size O l) (kidsD ks) [kv] := L.dat _ hk
  unfold kidsD at hdat
  obtain ⟨a, c, css', rfl, hc, h4, h5, h6⟩ := RepP.list_open hdat
  have hlen : css'.length = ks.length := by rw [Reps.length (h4 [] (by simp)), List.length_map]
  have hone := nds_one ks css' (h4 [] (by simp))
  have hfl : css'.flatten.length = ks.length * 5 := by rw [flatten_len h5, hlen]
  have hone' : ∀ u ∈ css'.flatten, u.oneCell' = true := fun u hu => by
    obtain ⟨x, hx, hu⟩ := List.mem_flatten.1 hu
    exact hone x hx u hu
  have hsrc : SrcH Tryd.prog H 5 22 (.slice a (ks.map Nd.dat).length c) ks.length css'.flatten := by
    rw [List.length_map]
    rcases h6 with h6 | ⟨b, o, rfl, h7⟩
    · have : ks = [] := by
        rw [h6] at hfl
        exact List.eq_nil_of_length_eq_zero (by simp at hfl; omega)
      subst this
      rw [h6]
      exact SrcH.empty Tryd.underlying22 a c
    · refine SrcH.cells Tryd.underlying22 hfl (fun j u hj => ?_) hone'
      have hlt : j < css'.flatten.length := by
        rcases Nat.lt_or_ge j css'.flatten.length with h | h
        · exact h
        · rw [List.getElem?_eq_none h] at hj; cases hj
      rw [add_mk, cellAt_mk, h7 j hlt, ← List.getElem?_eq_getElem hlt]; exact hj
  refine App_own ENd ho hsrc (by unfold maxLen; omega) (by omega) fun a' c' H' g' ho' hf hg' => ?_
  have e : ns.length + ks.length = (ns ++ ks).length := by rw [List.length_append]
  rw [e] at ho' ⊢
  refine hR a' c' g' H' (L.setE hi hf (fun x hx => hx) (fun x hx => ?_) (by cases g' <;> simp [Ent.bs]) ?_)
  · simp only [Ent.bs, Option.mem_toList] at hx ⊢
    exact hg' x hx
  · refine ⟨css ++ css', by rw [List.length_map, List.flatten_append]; exact ho', fun x hx => ?_, ?_⟩
    · rcases List.mem_append.1 hx with hx | hx
      · exact h2 x hx
      · exact h5 x hx
    · have hst : StaysP H (fun b => Lk H0.size O l b) H' (fun b => (Lk H0.size O l b ∨ b ∈ (Ent.row 24 5 (.slice a' (ns ++ ks).length c') ((ns ++ ks).map Nd.dat) g').bs) ∨ g' = some b) := StaysP.fr hf (fun x hx => .inl (.inr (.inr (List.mem_flatMap.2 ⟨_, hmem, by simpa [Ent.bs] using hx⟩)))) fun x hx => by
        simp only [Ent.bs, Option.mem_toList] at hx
        have key : g' = some x → Lk H0.size O l x ∨ H.size ≤ x := fun q => (hg' x q).imp (fun q => .inr (.inr (List.mem_flatMap.2 ⟨_, hmem, by simp [Ent.bs, q]⟩))) id
        rcases hx with (hx | hx) | hx
        · exact .inl hx
        · exact key hx
        · exact key hx
      rw [List.map_append]
      exact RepsP.append ((h3.more fun x hx => .inl (.inl hx)).to hst) (h4.to hst)
end
set_option maxHeartbeats 2000000 in
theorem appends_law (a b : Bs) (hla : a.length ≤ maxLen) (hlb : b.length ≤ maxLen) {H : Heap} (hG : GlobH H) : HCalls Tryd.prog 7 #[sv a, sv b] H fun v H' => v = .bool true ∧ Fr [] H H' := by
  refine calls_of_vc (args := [_, _]) Tryd.func7 c7ok (Nat.le_of_ble_eq_true rfl) ?_
  have L := L0 H
  simp (implicitDefEqProofs := false) only [go_sem, c7]
  refine (awake_ok (hG.ext L.fr)).mono ?_
  rintro v H1 ⟨rfl, hf1⟩
  have L := L.ext hf1
  generalize e1 : srcP progP a = A1 at *
  generalize e2 : srcP progP b = A2 at *
  simp (implicitDefEqProofs := false) only [go_sem]
  refine (pparse_ok a hla (hG.ext L.fr)).mono ?_
  rintro v H1 ⟨hv, hf1⟩
  rw [e1] at hv
  obtain ⟨x1k, x1t, x1n, x1a, x1ks, x1kv, x1e, rfl, hkv⟩ := hv.open
  have L := (L.ext hf1).add (L.built hkv)
  simp (implicitDefEqProofs := false) only [go_sem]
  refine L.newP fun x1x H2 L => ?_
  simp (implicitDefEqProofs := false) only [go_sem]
  refine L.newP fun x1y H3 L => ?_
  simp (implicitDefEqProofs := false) only [go_sem]
  refine L.stoAll 1 rfl rfl (one_agg (nd_one (L.dat (kidsD x1ks, [x1kv]) (by simp)))) fun H4 L => ?_
  simp only [List.set_cons_zero, List.set_cons_succ, List.set_nil, List.eraseIdx_cons_zero, List.eraseIdx_cons_succ] at L
  simp (implicitDefEqProofs := false) only [go_sem]
  refine L.stoAll 0 rfl rfl (by simp [Value.oneCell']) fun H5 L => ?_
  simp only [List.set_cons_zero, List.set_cons_succ, List.set_nil, List.eraseIdx_cons_zero, List.eraseIdx_cons_succ] at L
  simp (implicitDefEqProofs := false) only [go_sem]
  refine (pparse_ok b hlb (hG.ext L.fr)).mono ?_
  rintro v H1 ⟨hv, hf1⟩
  rw [e2] at hv
  obtain ⟨x2k, x2t, x2n, x2a, x2ks, x2kv, x2e, rfl, hkv⟩ := hv.open
  have L := (L.ext hf1).add (L.built hkv)
  simp (implicitDefEqProofs := false) only [go_sem]
  refine L.newP fun x2x H2 L => ?_
  simp (implicitDefEqProofs := false) only [go_sem]
  refine L.newP fun x2y H3 L => ?_
  simp (implicitDefEqProofs := false) only [go_sem]
  refine L.stoAll 1 rfl rfl (one_agg (nd_one (L.dat (kidsD x2ks, [x2kv]) (by simp)))) fun H4 L => ?_
  simp only [List.set_cons_zero, List.set_cons_succ, List.set_nil, List.eraseIdx_cons_zero, List.eraseIdx_cons_succ] at L
  simp (implicitDefEqProofs := false) only [go_sem]
  refine L.stoAll 0 rfl rfl (by simp [Value.oneCell']) fun H5 L => ?_
  simp only [List.set_cons_zero, List.set_cons_succ, List.set_nil, List.eraseIdx_cons_zero, List.eraseIdx_cons_succ] at L
  have c0 := L.cell 0 rfl
  have c2 := L.cell 2 rfl
  by_cases q1 : (ftOf A1).1 = 0
  case neg =>
    simp (implicitDefEqProofs := false) only [go_sem, c0, c2, q1]
    exact L.fr
  by_cases q2 : (ftOf A2).1 = 0
  case neg =>
    simp (implicitDefEqProofs := false) only [go_sem, c0, c2, q1, q2]
    exact L.fr
  subst e1 e2
  obtain ⟨T, x, la, ta, ea⟩ := src_ok progP_wg q1
  obtain ⟨U, y, lb, tb, eb⟩ := src_ok progP_wg q2
  have h65a := lex_le la
  have h65b := lex_le lb
  have happ := append_src la lb ta tb
  have hsum : a.length + [(10 : UInt8)].length ≤ 9223372036854775807 := by simp; omega
  have hsum2 : (a ++ [10]).length + b.length ≤ 9223372036854775807 := by simp; omega
  have hlab : (a ++ 10 :: b).length ≤ maxLen := by simp [maxLen]; omega
  generalize e3 : srcP progP (a ++ 10 :: b) = A3 at *
  unfold sv at *
  simp (implicitDefEqProofs := false) only [go_sem, c0, c2, q1, q2, ba_size, ba_app, hsum, hsum2]
  have eab : a ++ [10] ++ b = a ++ 10 :: b := by simp
  rw [eab]
  refine ⟨by omega, ?_⟩
  refine (pparse_ok (a ++ 10 :: b) hlab (hG.ext L.fr)).mono ?_
  rintro v H1 ⟨hv, hf1⟩
  rw [e3] at hv
  obtain ⟨x3k, x3t, x3n, x3a, x3ks, x3kv, x3e, rfl, hkv⟩ := hv.open
  have L := (L.ext hf1).add (L.built hkv)
  simp (implicitDefEqProofs := false) only [go_sem]
  refine L.newP fun x3x H2 L => ?_
  simp (implicitDefEqProofs := false) only [go_sem]
  refine L.newP fun x3y H3 L => ?_
  simp (implicitDefEqProofs := false) only [go_sem]
  refine L.stoAll 1 rfl rfl (one_agg (nd_one (L.dat (kidsD x3ks, [x3kv]) (by simp)))) fun H4 L => ?_
  simp only [List.set_cons_zero, List.set_cons_succ, List.set_nil, List.eraseIdx_cons_zero, List.eraseIdx_cons_succ] at L
  simp (implicitDefEqProofs := false) only [go_sem]
  refine L.stoAll 0 rfl rfl (by simp [Value.oneCell']) fun H5 L => ?_
  simp only [List.set_cons_zero, List.set_cons_succ, List.set_nil, List.eraseIdx_cons_zero, List.eraseIdx_cons_succ] at L
  unfold sv at *
  have c0 := L.cell 0 rfl
  rcases happ with ⟨o, rfl, hbig⟩ | ⟨l, m, z, rfl, rfl, rfl, hz, hl1, hl2⟩
  · have hw : IntKind.i64.wrap ((a.length : Int) + (b.length : Int)) = ((a.length + b.length : Nat) : Int) := by rw [wrap_i64_id _ (by omega) (by omega)]; omega
    have hge : (65536 : Int) ≤ ((a.length + b.length : Nat) : Int) := by omega
    simp (implicitDefEqProofs := false) only [go_sem, c0, ftOf, ba_size, hw, hge]
    exact L.fr
  rw [ea] at x1e
  rw [eb] at x2e
  simp only [ndOf, Nd.mk.injEq] at x1e x2e x3e
  obtain ⟨rfl, rfl, rfl, rfl, rfl⟩ := x1e
  obtain ⟨rfl, rfl, rfl, rfl, rfl⟩ := x2e
  have c3 := L.cell 3 rfl
  have c5 := L.cell 5 rfl
  simp (implicitDefEqProofs := false) only [go_sem, c0, ftOf, c3, c5]
  refine L.newS fun bA HA L => ?_
  have L := L.rowOwn (n := 0) (m := 5) (dl := []) (css := []) rfl (by simp) RepsP.nil rfl (by simp [maxLen])
  have c4 := L.cell 4 rfl
  have c6 := L.cell 6 rfl
  simp (implicitDefEqProofs := false) only [go_sem, c4, c6]
  refine L.appK (ns := []) (ks := l) 0 rfl (by simp) (by simp; omega) fun aA cA gA HB L => ?_
  simp only [List.set_cons_zero, List.set_cons_succ, List.set_nil, List.eraseIdx_cons_zero, List.eraseIdx_cons_succ] at L
  have c4 := L.cell 4 rfl
  have c6 := L.cell 6 rfl
  simp (implicitDefEqProofs := false) only [go_sem, c4, c6]
  refine L.appK (ns := l) (ks := m) 0 rfl (by simp) (by omega) fun aB cB gB HC L => ?_
  simp only [List.set_cons_zero, List.set_cons_succ, List.set_nil, List.eraseIdx_cons_zero, List.eraseIdx_cons_succ] at L
  have c1 := L.cell 1 rfl
  have c2 := L.cell 2 rfl
  simp (implicitDefEqProofs := false) only [go_sem, c1, c2, ftOf]
  have L := L.rowDone 0 rfl
  simp only [List.set_cons_zero, List.set_cons_succ, List.set_nil, List.eraseIdx_cons_zero, List.eraseIdx_cons_succ] at L
  have hs := same_ok _ _ _ (Nat.le_refl (sizeN (.mk x3k x3t x3n x3a x3ks))) (NA.mk (L.dat (kidsD x3ks, [x3kv]) (by simp)).rep) (NA.mk (k := 1) (t := []) (n := 0) (a := 0) (ks := l ++ m) (L.dat (_, [.slice aB (l ++ m).length cB]) (List.mem_cons_self ..)).rep)
  rw [← x3e] at hs
  rw [show sameN z (.mk 1 [] 0 0 (l ++ m)) = true from hz] at hs
  unfold sv at hs
  refine hs.mono ?_
  rintro v HD ⟨rfl, hfD⟩
  have L := L.ext hfD
  have c0 := L.cell 0 rfl
  simp (implicitDefEqProofs := false) only [go_sem, c0]
  exact L.fr
end Go.Proofs.YtbgjgaaobnbijaaDoor
end
section
/- The law of operators. -/
set_option linter.unusedSimpArgs false
set_option linter.unusedVariables false
set_option maxRecDepth 8000
namespace Go.Proofs.YtbgjgaaobnbijaaDoor
open Gx Go
/-- The binary operators: text, kind, level. -/
def binT : Nat → Bs × Int × Nat
  | 0 => ([111, 114], 31, 0)
  | 1 => ([97, 110, 100], 32, 1)
  | 2 => ([60, 61], 34, 2)
  | 3 => ([60], 35, 2)
  | 4 => ([61, 61], 36, 2)
  | 5 => ([105, 110], 37, 2)
  | 6 => ([108, 101, 113], 38, 2)
  | 7 => ([106, 111, 105, 110], 39, 3)
  | 8 => ([43], 40, 4)
  | _ => ([45], 41, 4)
def binD (j : Int) : Nat := ((IntKind.u64.wrap j) % 10).toNat
def opTk (d : Nat) : Tk := ⟨if kwB (binT d).1 then 2 else 5, (binT d).1, 0, 0⟩
theorem opTk_ok : ∀ d, d < 10 → poB (opTk d) = true ∧ (opTk d).kind ≠ 6 ∧ spT (opTk d) = (binT d).1 := by decide
theorem opTk_f : ∀ d, d < 10 → OpF (opTk d) (binT d).2.2 (binT d).2.1 := by
  have key : ∀ d, d < 10 → (∀ l, l < 5 → (decide (kdOf (kdL l) (opTk d).text ≠ 0) = decide (l = (binT d).2.2))) ∧ kdOf (kdL (binT d).2.2) (opTk d).text = (binT d).2.1 ∧ ((opTk d).kind = 2 ∨ (opTk d).kind = 5) ∧ (opTk d).text ≠ [46] ∧ (opTk d).text ≠ [91] ∧ (binT d).2.2 < 5 := by decide
  intro d hd
  obtain ⟨h1, h2, h3, h4, h5, h6⟩ := key d hd
  refine ⟨fun l s hl => ?_, h2, fun s => ⟨?_, ?_⟩, h6⟩
  · have e : isB (opTk d).text (opTk d :: s) = true := isB_iff.2 ⟨h3, rfl⟩
    show (decide (kdOf (kdL l) (opTk d).text ≠ 0) && isB (opTk d).text (opTk d :: s)) = _
    rw [e, Bool.and_true]; exact h1 l hl
  · cases e : isB [46] (opTk d :: s) with
    | false => rfl
    | true => exact absurd (isB_iff.1 e).2 h4
  · cases e : isB [91] (opTk d :: s) with
    | false => rfl
    | true => exact absurd (isB_iff.1 e).2 h5
theorem binD_lt (j : Int) : binD j < 10 := by
  unfold binD
  rw [IntKind.wrap_u64]; omega
set_option maxHeartbeats 1000000 in
theorem binary_ok (j : Int) (H : Heap) : HCalls Tryd.prog 20 #[.int .i64 j] H fun v H' => v = .tuple #[sv (binT (binD j)).1, .int .i64 (binT (binD j)).2.1, .int .i64 ((binT (binD j)).2.2 : Nat)] ∧ H' = H := by
  refine calls_of_vc (args := [_]) Tryd.func20 c20ok (Nat.le_of_ble_eq_true rfl) ?_
  have h0 : 0 ≤ IntKind.u64.wrap j := by rw [IntKind.wrap_u64]; omega
  have hd : (IntKind.u64.wrap j).tmod 10 = (binD j : Int) := by
    unfold binD
    rw [Int.tmod_eq_emod_of_nonneg h0]; omega
  have hlt := binD_lt j
  generalize binD j = d at *
  obtain rfl | rfl | rfl | rfl | rfl | rfl | rfl | rfl | rfl | rfl : d = 0 ∨ d = 1 ∨ d = 2 ∨ d = 3 ∨ d = 4 ∨ d = 5 ∨ d = 6 ∨ d = 7 ∨ d = 8 ∨ d = 9 := by omega
  all_goals
    simp only [Int.cast_ofNat_Int] at hd
    simp (implicitDefEqProofs := false) only [go_sem, c20, hd, binT, sv]
theorem prec_src {p0 p1 p2 : Bs} {I0 I1 I2 : List Tk} {E0 E1 E2 : Tk} {d1 d2 : Nat} (l0 : lexT p0 = .ok (I0 ++ [E0])) (l1 : lexT p1 = .ok (I1 ++ [E1])) (l2 : lexT p2 = .ok (I2 ++ [E2])) (h1 : d1 < 10) (h2 : d2 < 10) :
    Lx (40 :: (p0 ++ 10 :: 41 :: 32 :: ((binT d1).1 ++ 32 :: 40 :: (p1 ++ 10 :: 41 :: 32 :: ((binT d2).1 ++ 32 :: 40 :: (p2 ++ 10 :: [41])))))) (tail3 I0 (opTk d1 :: tail3 I1 (opTk d2 :: tail3 I2 [eT]))) := by
  have b32 : blankB 32 = true := by decide
  have key : ∀ {p y : Bs} {I U : List Tk} {E : Tk}, lexT p = .ok (I ++ [E]) → Lx y U → Lx (40 :: (p ++ 10 :: 41 :: y)) (tail3 I U) := fun {p y I U E} hp hy => by
    obtain ⟨I', E', q1, q2, q3⟩ := (Lx.of hp).line (Lx.close hy)
    obtain ⟨rfl, _⟩ : I = I' ∧ [E] = [E'] := List.append_inj' q1 rfl
    exact Lx.open q3
  have op : ∀ {d : Nat} {y : Bs} {U : List Tk}, d < 10 → Lx y U → Lx (32 :: ((binT d).1 ++ 32 :: y)) (opTk d :: U) := fun {d y U} hd hy => by
    obtain ⟨o1, o2, o3⟩ := opTk_ok d hd
    have := Lx.tok o1 o2 (Lx.blank b32 hy)
    rw [o3] at this
    exact Lx.blank b32 this
  exact key l0 (op h1 (key l1 (op h2 (key l2 Lx.nil))))
def ndC : Nd → Value → List Value
  | .mk k t n a _, v => [.int .i64 k, sv t, .int .i64 n, .int .i64 a, v]
def ndK : Nd → List Nd
  | .mk _ _ _ _ ks => ks
def pieceS (p : Bs) : Bs := 40 :: (p ++ [10, 41])
def signS (d : Nat) : Bs := 32 :: ((binT d).1 ++ [32])
theorem prec_all {p0 p1 p2 : Bs} {j0 j1 : Int} (q0 : (ftOf (srcP (exprP (loK 64)) p0)).1 = 0) (q1 : (ftOf (srcP (exprP (loK 64)) p1)).1 = 0) (q2 : (ftOf (srcP (exprP (loK 64)) p2)).1 = 0) :
    let A := srcP (exprP (loK 64)) (pieceS p0 ++ signS (binD j0) ++ pieceS p1 ++ signS (binD j1) ++ pieceS p2)
    let x0 := ndOf (srcP (exprP (loK 64)) p0)
    let x1 := ndOf (srcP (exprP (loK 64)) p1)
    let x2 := ndOf (srcP (exprP (loK 64)) p2)
    let B0 := binT (binD j0)
    let B1 := binT (binD j1)
    (ftOf A).1 = 6 ∨ (B0.2.2 = 2 ∧ B1.2.2 = 2 ∧ (ftOf A).1 = 2) ∨
    (¬ (B0.2.2 = 2 ∧ B1.2.2 = 2) ∧ B1.2.2 ≤ B0.2.2 ∧ (ftOf A).1 = 0 ∧ sameN (ndOf A) (.mk B1.2.1 [] 0 0 [.mk B0.2.1 [] 0 0 [x0, x1], x2]) = true) ∨
    (B0.2.2 < B1.2.2 ∧ (ftOf A).1 = 0 ∧ sameN (ndOf A) (.mk B0.2.1 [] 0 0 [x0, .mk B1.2.1 [] 0 0 [x1, x2]]) = true) := by
  intro A x0 x1 x2 B0 B1
  obtain ⟨T0, m0, la0, ta0, ea0⟩ := src_ok lev64_wg q0
  obtain ⟨T1, m1, la1, ta1, ea1⟩ := src_ok lev64_wg q1
  obtain ⟨T2, m2, la2, ta2, ea2⟩ := src_ok lev64_wg q2
  have hx0 : x0 = m0 := by show ndOf _ = _; rw [ea0]; rfl
  have hx1 : x1 = m1 := by show ndOf _ = _; rw [ea1]; rfl
  have hx2 : x2 = m2 := by show ndOf _ = _; rw [ea2]; rfl
  rw [hx0, hx1, hx2]
  obtain ⟨I0, rfl, hI0⟩ := lex_nk la0
  obtain ⟨I1, rfl, hI1⟩ := lex_nk la1
  obtain ⟨I2, rfl, hI2⟩ := lex_nk la2
  have hd0 := binD_lt j0
  have hd1 := binD_lt j1
  have hs := prec_src la0 la1 la2 hd0 hd1
  have e : 40 :: (p0 ++ 10 :: 41 :: 32 :: ((binT (binD j0)).1 ++ 32 :: 40 :: (p1 ++ 10 :: 41 :: 32 :: ((binT (binD j1)).1 ++ 32 :: 40 :: (p2 ++ 10 :: [41]))))) = pieceS p0 ++ signS (binD j0) ++ pieceS p1 ++ signS (binD j1) ++ pieceS p2 := by
    simp [pieceS, signS]
  rw [e] at hs
  rcases Nat.lt_or_ge 65536 (pieceS p0 ++ signS (binD j0) ++ pieceS p1 ++ signS (binD j1) ++ pieceS p2).length with hbig | hsm
  · left
    show (ftOf (srcP _ _)).1 = 6
    unfold srcP lexT
    rw [if_pos hbig]; rfl
  · obtain ⟨V, v1, v2⟩ := hs.lexT hsm
    have ht : TopS A (topP (exprP (loK 64)) (tail3 I0 (opTk (binD j0) :: tail3 I1 (opTk (binD j1) :: tail3 I2 [eT])))) := by
      show TopS (srcP _ _) _
      rw [src_of v1]
      exact agree_top v2 (lex_end v1) expr_any
    have bad : ∀ {c o : Int}, topP (exprP (loK 64)) (tail3 I0 (opTk (binD j0) :: tail3 I1 (opTk (binD j1) :: tail3 I2 [eT]))) = .error (c, o) → (ftOf A).1 = c := fun q => by
      rw [q] at ht
      rcases ht with ⟨_, _, _, q2, _⟩ | ⟨c, _, _, q1, q2⟩
      · cases q2
      · cases q2; rw [q1]; rfl
    have good : ∀ {n m : Nd}, topP (exprP (loK 64)) (tail3 I0 (opTk (binD j0) :: tail3 I1 (opTk (binD j1) :: tail3 I2 [eT]))) = .ok n → NdE n m → (ftOf A).1 = 0 ∧ sameN (ndOf A) m = true := fun q hm => by
      rw [q] at ht
      rcases ht with ⟨n1, _, q1, q2, h3⟩ | ⟨c, _, _, _, q2⟩
      · cases q2
        rw [q1]
        exact ⟨rfl, h3.trans hm⟩
      · cases q2
    rcases prec_pure (opTk_f _ hd0) (opTk_f _ hd1) (opTk_ok _ hd1).2.1 hI0 hI1 hI2 rfl rfl rfl ta0 ta1 ta2 with ⟨o, q⟩ | ⟨g1, g2, o, q⟩ | ⟨g1, g2, n, q, hn⟩ | ⟨g1, n, q, hn⟩
    · exact .inl (bad q)
    · exact .inr (.inl ⟨g1, g2, bad q⟩)
    · exact .inr (.inr (.inl ⟨g1, g2, good q hn⟩))
    · exact .inr (.inr (.inr ⟨g1, good q hn⟩))
theorem ndC_len (n : Nd) (v : Value) : (ndC n v).length = 5 := by cases n; rfl
set_option maxHeartbeats 4000000 in
theorem precedence_law (p0 p1 p2 : Bs) (j0 j1 : Int) (h0 : p0.length ≤ maxLen) (h1 : p1.length ≤ maxLen) (h2 : p2.length ≤ maxLen) {H : Heap} (hG : GlobH H) : HCalls Tryd.prog 6 #[.agg #[sv p0, sv p1, sv p2], .agg #[.int .i64 j0, .int .i64 j1]] H fun v H' => v = .bool true ∧ Fr [] H H' := by
  refine calls_of_vc (args := [_, _]) Tryd.func6 c6ok (Nat.le_of_ble_eq_true rfl) ?_
  have L := L0 H
  simp (implicitDefEqProofs := false) only [go_sem, c6]
  refine L.newP fun a1 H1 L => ?_
  simp (implicitDefEqProofs := false) only [go_sem]
  refine L.newP fun a2 H2 L => ?_
  simp (implicitDefEqProofs := false) only [go_sem]
  refine (awake_ok (hG.ext L.fr)).mono ?_
  rintro v H3 ⟨rfl, hf3⟩
  have L := L.ext hf3
  simp (implicitDefEqProofs := false) only [go_sem]
  refine L.newP fun bx H4 L => ?_
  simp (implicitDefEqProofs := false) only [go_sem]
  refine L.stoAll 0 rfl rfl (by simp [Value.oneCell', sv]) fun H5 L => ?_
  simp only [List.set_cons_zero, List.set_cons_succ, List.set_nil, List.eraseIdx_cons_zero, List.eraseIdx_cons_succ] at L
  generalize e0 : srcP (exprP (loK 64)) p0 = A0 at *
  generalize e1 : srcP (exprP (loK 64)) p1 = A1 at *
  generalize e2 : srcP (exprP (loK 64)) p2 = A2 at *
  have len : ∀ {p : Bs} {A : Except Flt Nd}, srcP (exprP (loK 64)) p = A → (ftOf A).1 = 0 → p.length ≤ 65536 := fun {p A} h q => by
    subst h
    obtain ⟨T, m, la, _, _⟩ := src_ok lev64_wg q
    exact lex_le la
  have tl : ∀ d, d < 10 → (binT d).1.length ≤ 8 := by decide
  have td0 := tl _ (binD_lt j0)
  have td1 := tl _ (binD_lt j1)
  simp (implicitDefEqProofs := false) only [go_sem]
  refine vc_loop (fun (i : Nat) H' =>
      (i = 0 ∧ Lv [] H [] (fun _ => True) H' [.blk bx 47 (zeroN ++ zeroN ++ zeroN), .blk a2 46 [.int .i64 j0, .int .i64 j1], .blk a1 45 [sv p0, sv p1, sv p2]] []) ∨
      (i = 1 ∧ (ftOf A0).1 = 0 ∧ ∃ v0, Lv [] H [] (fun _ => True) H' [.blk bx 47 (ndC (ndOf A0) v0 ++ zeroN ++ zeroN), .blk a2 46 [.int .i64 j0, .int .i64 j1], .blk a1 45 [sv p0, sv p1, sv p2]] [(kidsD (ndK (ndOf A0)), [v0])]) ∨
      (i = 2 ∧ (ftOf A0).1 = 0 ∧ (ftOf A1).1 = 0 ∧ ∃ v0 v1, Lv [] H [] (fun _ => True) H' [.blk bx 47 (ndC (ndOf A0) v0 ++ ndC (ndOf A1) v1 ++ zeroN), .blk a2 46 [.int .i64 j0, .int .i64 j1], .blk a1 45 [sv p0, sv p1, sv p2]] [(kidsD (ndK (ndOf A1)), [v1]), (kidsD (ndK (ndOf A0)), [v0])]) ∨
      (i = 3 ∧ (ftOf A0).1 = 0 ∧ (ftOf A1).1 = 0 ∧ (ftOf A2).1 = 0 ∧ ∃ v0 v1 v2, Lv [] H [] (fun _ => True) H' [.blk bx 47 (ndC (ndOf A0) v0 ++ ndC (ndOf A1) v1 ++ ndC (ndOf A2) v2), .blk a2 46 [.int .i64 j0, .int .i64 j1], .blk a1 45 [sv p0, sv p1, sv p2]] [(kidsD (ndK (ndOf A2)), [v2]), (kidsD (ndK (ndOf A1)), [v1]), (kidsD (ndK (ndOf A0)), [v0])]))
    (fun i => [(2, .pointer (some ⟨a1, 0, none⟩)), (3, .pointer (some ⟨a2, 0, none⟩)), (5, .pointer (some ⟨bx, 0, none⟩)), (6, sv (match i with
      | 0 => []
      | 1 => pieceS p0 ++ signS (binD j0)
      | 2 => pieceS p0 ++ signS (binD j0) ++ pieceS p1 ++ signS (binD j1)
      | _ => pieceS p0 ++ signS (binD j0) ++ pieceS p1 ++ signS (binD j1) ++ pieceS p2)), (7, .int .i64 i)]) (fun i => 3 - i) 0 ?_ ?_ ?_
  · exact .inl ⟨rfl, L⟩
  · simp (implicitDefEqProofs := false) only [go_sem, sv]
  · have hw1 : IntKind.i64.wrap 1 = 1 := rfl
    have hw2 : IntKind.i64.wrap 2 = 2 := rfl
    have hw3 : IntKind.i64.wrap 3 = 3 := rfl
    rintro i H6 (⟨rfl, L⟩ | ⟨rfl, q0, v0, L⟩ | ⟨rfl, q0, q1, v0, v1, L⟩ | ⟨rfl, q0, q1, q2, v0, v1, v2, L⟩)
    · have ca := L.cell 2 rfl
      simp (implicitDefEqProofs := false) only [go_sem, ca]
      refine (pexpr_ok p0 h0 (hG.ext L.fr)).mono ?_
      rintro v H1 ⟨hv, hf1⟩
      rw [e0] at hv
      obtain ⟨xk, xt, xn, xa, xks, xkv, xe, rfl, hkv⟩ := hv.open
      have L := (L.ext hf1).add (L.built hkv)
      simp (implicitDefEqProofs := false) only [go_sem]
      refine L.newP fun xx H2 L => ?_
      simp (implicitDefEqProofs := false) only [go_sem]
      refine L.newP fun xy H3 L => ?_
      simp (implicitDefEqProofs := false) only [go_sem]
      refine L.stoAll 1 rfl rfl (one_agg (nd_one (L.dat (kidsD xks, [xkv]) (by simp)))) fun H4 L => ?_
      simp only [List.set_cons_zero, List.set_cons_succ, List.set_nil, List.eraseIdx_cons_zero, List.eraseIdx_cons_succ] at L
      simp (implicitDefEqProofs := false) only [go_sem]
      refine L.stoAll 0 rfl rfl (by simp [Value.oneCell']) fun H5 L => ?_
      simp only [List.set_cons_zero, List.set_cons_succ, List.set_nil, List.eraseIdx_cons_zero, List.eraseIdx_cons_succ] at L
      have c0 := L.cell 0 rfl
      have c1 := L.cell 1 rfl
      have ca := L.cell 4 rfl
      have cj := L.cell 3 rfl
      by_cases q0 : (ftOf A0).1 = 0
      case neg =>
        simp (implicitDefEqProofs := false) only [go_sem, c0, q0]
        exact L.fr
      simp (implicitDefEqProofs := false) only [go_sem, c0, c1, q0, ca]
      refine L.stoMany 2 rfl (by simp [zeroN]) (one_agg (nd_one (L.dat (kidsD xks, [xkv]) (by simp)))) fun H6 L => ?_
      simp only [List.set_cons_zero, List.set_cons_succ, List.set_nil, List.eraseIdx_cons_zero, List.eraseIdx_cons_succ] at L
      have hp := len e0 q0
      have ca := L.cell 4 rfl
      have cj := L.cell 3 rfl
      have u1 : [(40 : UInt8)].length + p0.length ≤ 9223372036854775807 := by simp; omega
      have u2 : ([40] ++ p0).length + [(10 : UInt8), 41].length ≤ 9223372036854775807 := by simp; omega
      unfold sv at *
      simp (implicitDefEqProofs := false) only [go_sem, ba_size, ba_app, ca, cj, u1, u2]
      refine ⟨by omega, by omega, by simp; omega, ?_⟩
      refine (binary_ok j0 _).mono ?_
      rintro v H7 ⟨rfl, rfl⟩
      unfold sv
      simp (implicitDefEqProofs := false) only [go_sem, ba_size, ba_app]
      refine ⟨by omega, by omega, by simp; omega, ?_⟩
      have e : setL (zeroN ++ zeroN ++ zeroN) 0 [.int .i64 xk, .string ⟨⟨xt⟩⟩, .int .i64 xn, .int .i64 xa, xkv] = ndC (ndOf A0) xkv ++ zeroN ++ zeroN := by rw [xe]; rfl
      rw [e] at L
      have L := L.drop (List.Sublist.cons _ (List.Sublist.cons _ (List.Sublist.refl _))) (fun p hp => hp)
      refine loopK_intro 1 (by decide) ?_ (.inr (.inl ⟨rfl, xkv, by rw [xe]; rw [xe] at L; exact L⟩))
      simp (implicitDefEqProofs := false) only [go_sem, pieceS, signS, List.append_assoc, hw1]
    · have ca := L.cell 2 rfl
      simp (implicitDefEqProofs := false) only [go_sem, ca]
      refine (pexpr_ok p1 h1 (hG.ext L.fr)).mono ?_
      rintro v H1 ⟨hv, hf1⟩
      rw [e1] at hv
      obtain ⟨xk, xt, xn, xa, xks, xkv, xe, rfl, hkv⟩ := hv.open
      have L := (L.ext hf1).add (L.built hkv)
      simp (implicitDefEqProofs := false) only [go_sem]
      refine L.newP fun xx H2 L => ?_
      simp (implicitDefEqProofs := false) only [go_sem]
      refine L.newP fun xy H3 L => ?_
      simp (implicitDefEqProofs := false) only [go_sem]
      refine L.stoAll 1 rfl rfl (one_agg (nd_one (L.dat (kidsD xks, [xkv]) (by simp)))) fun H4 L => ?_
      simp only [List.set_cons_zero, List.set_cons_succ, List.set_nil, List.eraseIdx_cons_zero, List.eraseIdx_cons_succ] at L
      simp (implicitDefEqProofs := false) only [go_sem]
      refine L.stoAll 0 rfl rfl (by simp [Value.oneCell']) fun H5 L => ?_
      simp only [List.set_cons_zero, List.set_cons_succ, List.set_nil, List.eraseIdx_cons_zero, List.eraseIdx_cons_succ] at L
      have c0 := L.cell 0 rfl
      have c1 := L.cell 1 rfl
      have ca := L.cell 4 rfl
      by_cases q1 : (ftOf A1).1 = 0
      case neg =>
        simp (implicitDefEqProofs := false) only [go_sem, c0, q1]
        exact L.fr
      simp (implicitDefEqProofs := false) only [go_sem, c0, c1, q1, ca]
      refine L.stoMany 2 rfl (by simp [zeroN, ndC_len]) (one_agg (nd_one (L.dat (kidsD xks, [xkv]) (by simp)))) fun H6 L => ?_
      simp only [List.set_cons_zero, List.set_cons_succ, List.set_nil, List.eraseIdx_cons_zero, List.eraseIdx_cons_succ] at L
      have hp := len e0 q0
      have hp1 := len e1 q1
      have ca := L.cell 4 rfl
      have cj := L.cell 3 rfl
      unfold sv at *
      simp (implicitDefEqProofs := false) only [go_sem, ba_size, ba_app, ca, cj]
      refine ⟨by omega, by omega, by simp [pieceS, signS]; omega, ?_⟩
      refine (binary_ok j1 _).mono ?_
      rintro v H7 ⟨rfl, rfl⟩
      unfold sv
      simp (implicitDefEqProofs := false) only [go_sem, ba_size, ba_app]
      refine ⟨by omega, by omega, by simp [pieceS, signS]; omega, ?_⟩
      have e : setL (ndC (ndOf A0) v0 ++ zeroN ++ zeroN) 5 [.int .i64 xk, .string ⟨⟨xt⟩⟩, .int .i64 xn, .int .i64 xa, xkv] = ndC (ndOf A0) v0 ++ ndC (ndOf A1) xkv ++ zeroN := by
        rw [xe]
        generalize ndOf A0 = m0
        cases m0; rfl
      rw [e] at L
      have L := L.drop (List.Sublist.cons _ (List.Sublist.cons _ (List.Sublist.refl _))) (fun p hp => hp)
      refine loopK_intro 2 (by decide) ?_ (.inr (.inr (.inl ⟨rfl, q0, v0, xkv, by rw [xe]; rw [xe] at L; exact L⟩)))
      simp (implicitDefEqProofs := false) only [go_sem, pieceS, signS, List.append_assoc, hw2]
    · have ca := L.cell 2 rfl
      simp (implicitDefEqProofs := false) only [go_sem, ca]
      refine (pexpr_ok p2 h2 (hG.ext L.fr)).mono ?_
      rintro v H1 ⟨hv, hf1⟩
      rw [e2] at hv
      obtain ⟨xk, xt, xn, xa, xks, xkv, xe, rfl, hkv⟩ := hv.open
      have L := (L.ext hf1).add (L.built hkv)
      simp (implicitDefEqProofs := false) only [go_sem]
      refine L.newP fun xx H2 L => ?_
      simp (implicitDefEqProofs := false) only [go_sem]
      refine L.newP fun xy H3 L => ?_
      simp (implicitDefEqProofs := false) only [go_sem]
      refine L.stoAll 1 rfl rfl (one_agg (nd_one (L.dat (kidsD xks, [xkv]) (by simp)))) fun H4 L => ?_
      simp only [List.set_cons_zero, List.set_cons_succ, List.set_nil, List.eraseIdx_cons_zero, List.eraseIdx_cons_succ] at L
      simp (implicitDefEqProofs := false) only [go_sem]
      refine L.stoAll 0 rfl rfl (by simp [Value.oneCell']) fun H5 L => ?_
      simp only [List.set_cons_zero, List.set_cons_succ, List.set_nil, List.eraseIdx_cons_zero, List.eraseIdx_cons_succ] at L
      have c0 := L.cell 0 rfl
      have c1 := L.cell 1 rfl
      have ca := L.cell 4 rfl
      by_cases q2 : (ftOf A2).1 = 0
      case neg =>
        simp (implicitDefEqProofs := false) only [go_sem, c0, q2]
        exact L.fr
      simp (implicitDefEqProofs := false) only [go_sem, c0, c1, q2, ca]
      refine L.stoMany 2 rfl (by simp [zeroN, ndC_len]) (one_agg (nd_one (L.dat (kidsD xks, [xkv]) (by simp)))) fun H6 L => ?_
      simp only [List.set_cons_zero, List.set_cons_succ, List.set_nil, List.eraseIdx_cons_zero, List.eraseIdx_cons_succ] at L
      have hp := len e0 q0
      have hp1 := len e1 q1
      have hp2 := len e2 q2
      have ca := L.cell 4 rfl
      unfold sv at *
      simp (implicitDefEqProofs := false) only [go_sem, ba_size, ba_app, ca]
      refine ⟨by omega, by omega, by simp [pieceS, signS]; omega, ?_⟩
      have e : setL (ndC (ndOf A0) v0 ++ ndC (ndOf A1) v1 ++ zeroN) 10 [.int .i64 xk, .string ⟨⟨xt⟩⟩, .int .i64 xn, .int .i64 xa, xkv] = ndC (ndOf A0) v0 ++ ndC (ndOf A1) v1 ++ ndC (ndOf A2) xkv := by
        rw [xe]
        generalize ndOf A0 = m0
        generalize ndOf A1 = m1
        cases m0; cases m1; rfl
      rw [e] at L
      have L := L.drop (List.Sublist.cons _ (List.Sublist.cons _ (List.Sublist.refl _))) (fun p hp => hp)
      refine loopK_intro 3 (by decide) ?_ (.inr (.inr (.inr ⟨rfl, q0, q1, v0, v1, xkv, by rw [xe]; rw [xe] at L; exact L⟩)))
      simp (implicitDefEqProofs := false) only [go_sem, pieceS, signS, List.append_assoc, hw3]
    · have hp := len e0 q0
      have hp1 := len e1 q1
      have hp2 := len e2 q2
      subst e0 e1 e2
      have hpure := prec_all (j0 := j0) (j1 := j1) q0 q1 q2
      dsimp only at hpure
      generalize srcP (exprP (loK 64)) p0 = A0 at *
      generalize srcP (exprP (loK 64)) p1 = A1 at *
      generalize srcP (exprP (loK 64)) p2 = A2 at *
      generalize e3 : srcP (exprP (loK 64)) (pieceS p0 ++ signS (binD j0) ++ pieceS p1 ++ signS (binD j1) ++ pieceS p2) = A3 at *
      generalize hm0 : ndOf A0 = m0 at *
      generalize hm1 : ndOf A1 = m1 at *
      generalize hm2 : ndOf A2 = m2 at *
      obtain ⟨ak, atx, an, aa, aks⟩ := m0
      obtain ⟨bk, btx, bn, ba, bks⟩ := m1
      obtain ⟨ck, ctx, cn, ca, cks⟩ := m2
      simp only [ndC, ndK, List.cons_append, List.nil_append] at L
      have hl3 : (pieceS p0 ++ signS (binD j0) ++ pieceS p1 ++ signS (binD j1) ++ pieceS p2).length ≤ maxLen := by
        simp [pieceS, signS, maxLen]; omega
      have cj := L.cell 1 rfl
      simp (implicitDefEqProofs := false) only [go_sem, cj]
      refine (binary_ok j0 _).mono ?_
      rintro v H7 ⟨rfl, rfl⟩
      simp (implicitDefEqProofs := false) only [go_sem, cj]
      refine (binary_ok j1 _).mono ?_
      rintro v H7 ⟨rfl, rfl⟩
      simp (implicitDefEqProofs := false) only [go_sem]
      refine (pexpr_ok (pieceS p0 ++ signS (binD j0) ++ pieceS p1 ++ signS (binD j1) ++ pieceS p2) hl3 (hG.ext L.fr)).mono ?_
      rintro v H1 ⟨hv, hf1⟩
      rw [e3] at hv
      obtain ⟨xk, xt, xn, xa, xks, xkv, xe, rfl, hkv⟩ := hv.open
      have L := (L.ext hf1).add (L.built hkv)
      simp (implicitDefEqProofs := false) only [go_sem]
      refine L.newP fun xx H2 L => ?_
      simp (implicitDefEqProofs := false) only [go_sem]
      refine L.newP fun xy H3 L => ?_
      simp (implicitDefEqProofs := false) only [go_sem]
      refine L.stoAll 1 rfl rfl (one_agg (nd_one (L.dat (kidsD xks, [xkv]) (by simp)))) fun H4 L => ?_
      simp only [List.set_cons_zero, List.set_cons_succ, List.set_nil, List.eraseIdx_cons_zero, List.eraseIdx_cons_succ] at L
      simp (implicitDefEqProofs := false) only [go_sem]
      refine L.stoAll 0 rfl rfl (by simp [Value.oneCell']) fun H5 L => ?_
      simp only [List.set_cons_zero, List.set_cons_succ, List.set_nil, List.eraseIdx_cons_zero, List.eraseIdx_cons_succ] at L
      have c0 := L.cell 0 rfl
      generalize (binT (binD j0)).2.2 = a at *
      generalize (binT (binD j1)).2.2 = b at *
      generalize (binT (binD j0)).2.1 = k1 at *
      generalize (binT (binD j1)).2.1 = k2 at *
      rcases hpure with g1 | ⟨rfl, rfl, g1⟩ | ⟨g0, g1, g2, g3⟩ | ⟨g1, g2, g3⟩
      · simp (implicitDefEqProofs := false) only [go_sem, c0, g1]
        exact L.fr
      · simp (implicitDefEqProofs := false) only [go_sem, c0, g1]
        exact L.fr
      · have h5 : (b : Int) ≤ (a : Int) := by omega
        have cb := L.cell 2 rfl
        have c1 := L.cell 1 rfl
        by_cases ha : a = 2
        · have hb : ¬ (b : Int) = 2 := by omega
          subst ha
          have h5 : (b : Int) ≤ 2 := h5
          simp (implicitDefEqProofs := false) only [go_sem, c0, g2, hb, h5, cb, c1]
          refine L.newS fun bA HA L => ?_
          have L := L.rowOf (css := [[.int .i64 ak, sv atx, .int .i64 an, .int .i64 aa, v0], [.int .i64 bk, sv btx, .int .i64 bn, .int .i64 ba, v1]]) (m := 5) (dl := [Nd.mk ak atx an aa aks, Nd.mk bk btx bn ba bks].map Nd.dat) rfl (by simp) (RepsP.cons (RepP.nd (L.lk_sub (List.sublist_cons_self _ _) (L.dat (kidsD aks, [v0]) (by simp)))) (RepsP.cons (RepP.nd (L.lk_sub (List.sublist_cons_self _ _) (L.dat (kidsD bks, [v1]) (by simp)))) RepsP.nil)) rfl (by simp [maxLen])
          have cb := L.cell 2 rfl
          simp (implicitDefEqProofs := false) only [go_sem, cb]
          refine L.newS fun bB HB L => ?_
          have L := L.rowOf (css := [[.int .i64 k1, sv [], .int .i64 0, .int .i64 0, .slice (some ⟨bA, 0, none⟩) 2 2], [.int .i64 ck, sv ctx, .int .i64 cn, .int .i64 ca, v2]]) (m := 5) (dl := [Nd.mk k1 [] 0 0 [Nd.mk ak atx an aa aks, Nd.mk bk btx bn ba bks], Nd.mk ck ctx cn ca cks].map Nd.dat) rfl (by simp) (RepsP.cons (RepP.nd (L.lk_sub (List.sublist_cons_self _ _) (L.dat (kidsD [Nd.mk ak atx an aa aks, Nd.mk bk btx bn ba bks], _) (List.mem_cons_self ..)))) (RepsP.cons (RepP.nd (L.lk_sub (List.sublist_cons_self _ _) (L.dat (kidsD cks, [v2]) (by simp)))) RepsP.nil)) rfl (by simp [maxLen])
          have hs := same_ok _ _ _ (Nat.le_refl (sizeN (.mk xk xt xn xa xks))) (NA.mk (L.dat (kidsD xks, [xkv]) (by simp)).rep) (NA.mk (k := k2) (t := []) (n := 0) (a := 0) (ks := [Nd.mk k1 [] 0 0 [Nd.mk ak atx an aa aks, Nd.mk bk btx bn ba bks], Nd.mk ck ctx cn ca cks]) (L.dat (kidsD [Nd.mk k1 [] 0 0 [Nd.mk ak atx an aa aks, Nd.mk bk btx bn ba bks], Nd.mk ck ctx cn ca cks], _) (List.mem_cons_self ..)).rep)
          rw [← xe, g3] at hs
          unfold sv at *
          simp (implicitDefEqProofs := false) only [go_sem]
          refine hs.mono ?_
          rintro v HC ⟨rfl, hfC⟩
          have L := L.ext hfC
          simp (implicitDefEqProofs := false) only [go_sem]
          exact L.fr
        · have ha : ¬ (a : Int) = 2 := by omega
          simp (implicitDefEqProofs := false) only [go_sem, c0, g2, ha, h5, cb, c1]
          refine L.newS fun bA HA L => ?_
          have L := L.rowOf (css := [[.int .i64 ak, sv atx, .int .i64 an, .int .i64 aa, v0], [.int .i64 bk, sv btx, .int .i64 bn, .int .i64 ba, v1]]) (m := 5) (dl := [Nd.mk ak atx an aa aks, Nd.mk bk btx bn ba bks].map Nd.dat) rfl (by simp) (RepsP.cons (RepP.nd (L.lk_sub (List.sublist_cons_self _ _) (L.dat (kidsD aks, [v0]) (by simp)))) (RepsP.cons (RepP.nd (L.lk_sub (List.sublist_cons_self _ _) (L.dat (kidsD bks, [v1]) (by simp)))) RepsP.nil)) rfl (by simp [maxLen])
          have cb := L.cell 2 rfl
          simp (implicitDefEqProofs := false) only [go_sem, cb]
          refine L.newS fun bB HB L => ?_
          have L := L.rowOf (css := [[.int .i64 k1, sv [], .int .i64 0, .int .i64 0, .slice (some ⟨bA, 0, none⟩) 2 2], [.int .i64 ck, sv ctx, .int .i64 cn, .int .i64 ca, v2]]) (m := 5) (dl := [Nd.mk k1 [] 0 0 [Nd.mk ak atx an aa aks, Nd.mk bk btx bn ba bks], Nd.mk ck ctx cn ca cks].map Nd.dat) rfl (by simp) (RepsP.cons (RepP.nd (L.lk_sub (List.sublist_cons_self _ _) (L.dat (kidsD [Nd.mk ak atx an aa aks, Nd.mk bk btx bn ba bks], _) (List.mem_cons_self ..)))) (RepsP.cons (RepP.nd (L.lk_sub (List.sublist_cons_self _ _) (L.dat (kidsD cks, [v2]) (by simp)))) RepsP.nil)) rfl (by simp [maxLen])
          have hs := same_ok _ _ _ (Nat.le_refl (sizeN (.mk xk xt xn xa xks))) (NA.mk (L.dat (kidsD xks, [xkv]) (by simp)).rep) (NA.mk (k := k2) (t := []) (n := 0) (a := 0) (ks := [Nd.mk k1 [] 0 0 [Nd.mk ak atx an aa aks, Nd.mk bk btx bn ba bks], Nd.mk ck ctx cn ca cks]) (L.dat (kidsD [Nd.mk k1 [] 0 0 [Nd.mk ak atx an aa aks, Nd.mk bk btx bn ba bks], Nd.mk ck ctx cn ca cks], _) (List.mem_cons_self ..)).rep)
          rw [← xe, g3] at hs
          unfold sv at *
          simp (implicitDefEqProofs := false) only [go_sem]
          refine hs.mono ?_
          rintro v HC ⟨rfl, hfC⟩
          have L := L.ext hfC
          simp (implicitDefEqProofs := false) only [go_sem]
          exact L.fr
      · have h5 : ¬ (b : Int) ≤ (a : Int) := by omega
        have cb := L.cell 2 rfl
        have c1 := L.cell 1 rfl
        by_cases ha : a = 2
        · have hb : ¬ (b : Int) = 2 := by omega
          subst ha
          have h5 : ¬ (b : Int) ≤ 2 := h5
          simp (implicitDefEqProofs := false) only [go_sem, c0, g2, hb, h5, cb, c1]
          refine L.newS fun bA HA L => ?_
          have L := L.rowOf (css := [[.int .i64 bk, sv btx, .int .i64 bn, .int .i64 ba, v1], [.int .i64 ck, sv ctx, .int .i64 cn, .int .i64 ca, v2]]) (m := 5) (dl := [Nd.mk bk btx bn ba bks, Nd.mk ck ctx cn ca cks].map Nd.dat) rfl (by simp) (RepsP.cons (RepP.nd (L.lk_sub (List.sublist_cons_self _ _) (L.dat (kidsD bks, [v1]) (by simp)))) (RepsP.cons (RepP.nd (L.lk_sub (List.sublist_cons_self _ _) (L.dat (kidsD cks, [v2]) (by simp)))) RepsP.nil)) rfl (by simp [maxLen])
          simp (implicitDefEqProofs := false) only [go_sem]
          refine L.newS fun bB HB L => ?_
          have L := L.rowOf (css := [[.int .i64 ak, sv atx, .int .i64 an, .int .i64 aa, v0], [.int .i64 k2, sv [], .int .i64 0, .int .i64 0, .slice (some ⟨bA, 0, none⟩) 2 2]]) (m := 5) (dl := [Nd.mk ak atx an aa aks, Nd.mk k2 [] 0 0 [Nd.mk bk btx bn ba bks, Nd.mk ck ctx cn ca cks]].map Nd.dat) rfl (by simp) (RepsP.cons (RepP.nd (L.lk_sub (List.sublist_cons_self _ _) (L.dat (kidsD aks, [v0]) (by simp)))) (RepsP.cons (RepP.nd (L.lk_sub (List.sublist_cons_self _ _) (L.dat (kidsD [Nd.mk bk btx bn ba bks, Nd.mk ck ctx cn ca cks], _) (List.mem_cons_self ..)))) RepsP.nil)) rfl (by simp [maxLen])
          have hs := same_ok _ _ _ (Nat.le_refl (sizeN (.mk xk xt xn xa xks))) (NA.mk (L.dat (kidsD xks, [xkv]) (by simp)).rep) (NA.mk (k := k1) (t := []) (n := 0) (a := 0) (ks := [Nd.mk ak atx an aa aks, Nd.mk k2 [] 0 0 [Nd.mk bk btx bn ba bks, Nd.mk ck ctx cn ca cks]]) (L.dat (kidsD [Nd.mk ak atx an aa aks, Nd.mk k2 [] 0 0 [Nd.mk bk btx bn ba bks, Nd.mk ck ctx cn ca cks]], _) (List.mem_cons_self ..)).rep)
          rw [← xe, g3] at hs
          unfold sv at *
          simp (implicitDefEqProofs := false) only [go_sem]
          refine hs.mono ?_
          rintro v HC ⟨rfl, hfC⟩
          have L := L.ext hfC
          simp (implicitDefEqProofs := false) only [go_sem]
          exact L.fr
        · have ha : ¬ (a : Int) = 2 := by omega
          simp (implicitDefEqProofs := false) only [go_sem, c0, g2, ha, h5, cb, c1]
          refine L.newS fun bA HA L => ?_
          have L := L.rowOf (css := [[.int .i64 bk, sv btx, .int .i64 bn, .int .i64 ba, v1], [.int .i64 ck, sv ctx, .int .i64 cn, .int .i64 ca, v2]]) (m := 5) (dl := [Nd.mk bk btx bn ba bks, Nd.mk ck ctx cn ca cks].map Nd.dat) rfl (by simp) (RepsP.cons (RepP.nd (L.lk_sub (List.sublist_cons_self _ _) (L.dat (kidsD bks, [v1]) (by simp)))) (RepsP.cons (RepP.nd (L.lk_sub (List.sublist_cons_self _ _) (L.dat (kidsD cks, [v2]) (by simp)))) RepsP.nil)) rfl (by simp [maxLen])
          simp (implicitDefEqProofs := false) only [go_sem]
          refine L.newS fun bB HB L => ?_
          have L := L.rowOf (css := [[.int .i64 ak, sv atx, .int .i64 an, .int .i64 aa, v0], [.int .i64 k2, sv [], .int .i64 0, .int .i64 0, .slice (some ⟨bA, 0, none⟩) 2 2]]) (m := 5) (dl := [Nd.mk ak atx an aa aks, Nd.mk k2 [] 0 0 [Nd.mk bk btx bn ba bks, Nd.mk ck ctx cn ca cks]].map Nd.dat) rfl (by simp) (RepsP.cons (RepP.nd (L.lk_sub (List.sublist_cons_self _ _) (L.dat (kidsD aks, [v0]) (by simp)))) (RepsP.cons (RepP.nd (L.lk_sub (List.sublist_cons_self _ _) (L.dat (kidsD [Nd.mk bk btx bn ba bks, Nd.mk ck ctx cn ca cks], _) (List.mem_cons_self ..)))) RepsP.nil)) rfl (by simp [maxLen])
          have hs := same_ok _ _ _ (Nat.le_refl (sizeN (.mk xk xt xn xa xks))) (NA.mk (L.dat (kidsD xks, [xkv]) (by simp)).rep) (NA.mk (k := k1) (t := []) (n := 0) (a := 0) (ks := [Nd.mk ak atx an aa aks, Nd.mk k2 [] 0 0 [Nd.mk bk btx bn ba bks, Nd.mk ck ctx cn ca cks]]) (L.dat (kidsD [Nd.mk ak atx an aa aks, Nd.mk k2 [] 0 0 [Nd.mk bk btx bn ba bks, Nd.mk ck ctx cn ca cks]], _) (List.mem_cons_self ..)).rep)
          rw [← xe, g3] at hs
          unfold sv at *
          simp (implicitDefEqProofs := false) only [go_sem]
          refine hs.mono ?_
          rintro v HC ⟨rfl, hfC⟩
          have L := L.ext hfC
          simp (implicitDefEqProofs := false) only [go_sem]
          exact L.fr
end Go.Proofs.YtbgjgaaobnbijaaDoor
end
section
/- Readings of arrays. -/
set_option linter.unusedSimpArgs false
set_option linter.unusedVariables false
set_option maxRecDepth 8000
namespace Go.Proofs.YtbgjgaaobnbijaaDoor
open Gx Go
theorem arg_arr {H : Type} {enc : TypeId × Value → H} {P : Program} {W : World} {b0 : Nat} {t e : TypeId} {n : Nat} {v : Value} {α : Type} {R : α → List Value → Heap → Prop} (h : ArgOk enc P W b0 t v) (ht : P.underlying t = some (.array n e)) (hc : P.cellsOf e = 1) (ht' : P.cellsOf t = n) (ho : Opens P e R) :
    ∃ cs : List Value, v = .agg cs.toArray ∧ cs.length = n ∧ ∀ i (h : i < cs.length), ∃ a, R a [cs[i]] W.heap := by
  obtain ⟨h1, d, ps, fuel, h2⟩ := h
  simp only [Value.okWide, ht] at h1
  obtain ⟨cs, rfl, h3, _⟩ := h1
  obtain ⟨xs, m, _, _, hl, hx, hf⟩ := DataW.trod_array ht h2
  refine ⟨cs.toList, rfl, by simp only [Array.length_toList]; rw [h3, ht'], fun i hi => ?_⟩
  have hi' : i < cs.size := by simpa using hi
  have h4 := hf i (by rw [← ht', ← h3]; exact hi')
  rw [hc, List.getElem?_eq_getElem (by omega), Nat.mul_one] at h4
  have h5 : ((Value.agg cs).cells.toList.drop i).take 1 = [cs.toList[i]] := by
    show (cs.toList.drop i).take 1 = _
    rw [List.drop_eq_getElem_cons hi]; rfl
  rw [h5] at h4
  exact ho h4
end Go.Proofs.YtbgjgaaobnbijaaDoor
end
section
/- From a call on heaps to a row that lists variables. -/
set_option linter.unusedSimpArgs false
set_option linter.unusedVariables false
set_option maxRecDepth 8000
namespace Go.Proofs.YtbgjgaaobnbijaaDoor
open Gx Go Go.ChangeShapes Go.WideShapes Go.ChangeAt Go.RowKit

def laidL : List (String × DataW Unit) := Rows.parserTreesRow.laid
theorem own : ownKnob Tryd.prog.godebug = none := by kernel_rfl
theorem laidOut : laidOutB Tryd.prog = true := by kernel_rfl
theorem plainLaid : (laidL.filter fun x => x.2.handleName?.isSome) = [] := by kernel_rfl

theorem heap_of_var {P : Program} {W : World} {name : String} {g : Nat} {cs : Array Value} (hg : P.globalNamed name = some g) (h : W.var? P name = some cs) : ∃ t fr, W.heap[g]? = some (.cells cs t fr) := by
  unfold World.var? at h
  rw [hg, Option.bind_some] at h
  split at h
  · rename_i c t fr he
    simp only [Option.some.injEq] at h
    subst h
    exact ⟨t, fr, he⟩
  · cases h

theorem glob_of_laid {W : World} (h : laidMetH Tryd.prog laidL W) : GlobH W.heap := by
  rw [MakeChecks.laidMetH_plain _ _ _ (by kernel_rfl)] at h
  obtain ⟨ps, ⟨g0, t0, cs0, f0, p0, q0, hg0, ht0, hv0, hd0, ⟨g1, t1, cs1, f1, p1, q1, hg1, ht1, hv1, hd1, ⟨g2, t2, cs2, f2, p2, q2, hg2, ht2, hv2, hd2, ⟨g3, t3, cs3, f3, p3, q3, hg3, ht3, hv3, hd3, _, _⟩, _⟩, _⟩, _⟩, _, _⟩ := h
  obtain rfl := Option.some.inj (gTab.symm.trans hg2)
  obtain rfl := Option.some.inj (gErr.symm.trans hg3)
  have e2 : (Tryd.prog.globals[0]?).map (·.type) = some 119 := by kernel_rfl
  have e3 : (Tryd.prog.globals[3]?).map (·.type) = some 84 := by kernel_rfl
  obtain rfl := Option.some.inj (e2.symm.trans ht2)
  obtain rfl := Option.some.inj (e3.symm.trans ht3)
  obtain ⟨t2', fr2, hh2⟩ := heap_of_var hg2 hv2
  obtain ⟨t3', fr3, hh3⟩ := heap_of_var hg3 hv3
  have hc := Lib.cells_of_tab (k := .u64) (zs := Lib.pow10Tab) Tryd.underlying119 Tryd.underlying103 (by kernel_rfl) (by kernel_rfl) hd2
  obtain ⟨_, u, v, hcs3, _, _⟩ := iface_of_trod Tryd.underlying84 hd3
  refine ⟨⟨.iface u v, ?_, .inr ⟨u, v, rfl⟩⟩, t2', fr2, ?_⟩
  · unfold cellB
    rw [hh3]
    show cs3[0]? = _
    rw [← Array.getElem?_toList, hcs3]; rfl
  · rw [hh2, ← hc]

/-- The door's own heap meets the condition. -/
theorem door_met (os : Os) (args : Array Value) : laidMetH Tryd.prog laidL ((World.doorLaid Tryd.prog 400 os).forCall (fun _ _ => 0) ⟨#[], args, []⟩).memory :=
  laidMetH_of_parts3 (fuel := 8) (laidMet_of_run' 8 (by kernel_rfl) (by kernel_rfl)) (by kernel_rfl) (by kernel_rfl)

theorem law_row_laid {H : Type} {enc : TypeId × Value → H} {os : Os} {f : FuncId} {fn : Func} {s : ChangeSpec} {tb : TypeId} (started : os.Started) (noInit : Tryd.prog.inits.idxOf? f = none) (hf : Tryd.prog.funcs[f]? = some fn)
    (hpar : fn.params.toList.all (fun t => Tryd.prog.readableRec t && decide (t < Tryd.prog.types.size)) = true) (hres : fn.resultTypes = #[tb]) (htb : Tryd.prog.underlying tb = some .bool) (hv : s.vars = [])
    (hfn : ∀ (K : Type) (ds : List (DataW K)), ds.length = fn.params.size → s.fn K ds = { results := [.lit (.bool true)], args := ds })
    (witness : ∃ (w : World) (tape : Tape) (i : Input), w.os = os ∧ (w.forCall tape i).Shaped Tryd.prog ∧ i.vars = [] ∧ Input.okWide Tryd.prog (w.forCall tape i) .any w.heap.size f i ∧
      ((s.pre enc Tryd.prog fn [] false (w.forCall tape i).memory i.args ∧ laidMetH Tryd.prog laidL (w.forCall tape i).memory) ∧ sizedMet enc Tryd.prog fn (OpenSpec.ofChange s) false (w.forCall tape i).memory i.args) ∧
      Assume.holds {} Tryd.prog (lone (Frame.enter Tryd.prog f i.args .normal) [] (w.forCall tape i)))
    (contract : ∀ (W : World) (base : Nat) (args : Array Value) (ds : List (DataW H)) (ps : List MemPlace),
      (∀ (j : Nat) t v, fn.params[j]? = some t → args[j]? = some v → Value.okWide Tryd.prog W .any base t v) →
      DataW.TrodAll enc Tryd.prog W 0 (fun _ => true) true fn.params.toList args.toList ds ps → GlobH W.heap → HCalls Tryd.prog f args W.heap fun v H' => v = .bool true ∧ Fr [] W.heap H') :
    ReturnsInHanded {} Tryd.checked os f .any (fun w args => (s.pre enc Tryd.prog fn [] false w args ∧ laidMetH Tryd.prog laidL w) ∧ sizedMet enc Tryd.prog fn (OpenSpec.ofChange s) false w args) (s.post enc Tryd.prog fn false true false false) := by
  refine returnsInHanded_of_change_and (C := Tryd.checked) (X := fun w _ => laidMetH Tryd.prog laidL w) (fun _ _ _ hh h => h.of_heap hh) own started noInit hf witness ?_
  intro W base args ds gs before hval hW _ _ hL _
  have hW' := hW
  obtain ⟨p, q, hA, hV, rfl, hz, hn⟩ := hW
  have hV' := hV
  rw [hv] at hV'
  obtain ⟨rfl, rfl⟩ := trodVars_none hV'
  refine ((contract W base args ds p hval hA (glob_of_laid hL)).out W rfl).mono fun e W' ⟨v, he, ⟨hvt, hfr⟩, hs⟩ => ?_
  subst hvt
  refine ⟨_, he, law_post laidOut hpar hres htb hv ?_ hW' (below_of hs hfr)⟩
  rw [List.append_nil]
  exact hfn H ds (by have := trodAll_len hA; simpa using this)
end Go.Proofs.YtbgjgaaobnbijaaDoor
end
