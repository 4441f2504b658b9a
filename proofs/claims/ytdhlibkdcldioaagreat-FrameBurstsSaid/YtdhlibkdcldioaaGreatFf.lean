/- Lists held against each other. -/
import Derived.Test.YtdhlibkdcldioaaGreatFw
set_option linter.unusedSimpArgs false
set_option linter.unusedVariables false
set_option maxRecDepth 8000
namespace Go.Proofs.YtdhlibkdcldioaaGreat
open Gx Go

noncomputable def eqB {α : Type} (a b : α) : Bool := @decide (a = b) (Classical.propDecidable _)
theorem eqB_true {α : Type} {a b : α} (h : a = b) : eqB a b = true := by simp [eqB, h]
theorem eqB_false {α : Type} {a b : α} (h : a ≠ b) : eqB a b = false := by simp [eqB, h]
/-- This function holds two of this shape against each other. -/
def SOk (f : Nat) (t : Ty) : Prop := hasBody Tryz.prog f = true ∧ ∀ (d d' : den t) {H : Heap} {cs cs' : List Value}, Rep H [] (datT t d) cs → Rep H [] (datT t d') cs' →
  HCalls Tryz.prog f #[argOf t cs, argOf t cs'] H fun v H' => v = .bool (eqB d d') ∧ Fr [] H H'
theorem take_ne {α : Type} {l l' : List α} {i : Nat} (h : i < l.length) (h' : i < l'.length) (hne : l[i] ≠ l'[i]) : l ≠ l' := by
  rintro rfl; exact hne rfl
theorem take_eq_succ {α : Type} {l l' : List α} {i : Nat} (h : i < l.length) (h' : i < l'.length) (ht : l.take i = l'.take i) (he : l[i] = l'[i]) : l.take (i + 1) = l'.take (i + 1) := by
  rw [List.take_succ_eq_append_getElem h, List.take_succ_eq_append_getElem h', ht, he]
theorem eqb_ok (l l' : Bs) {H : Heap} {a a' : Option Addr} {c c' : Nat} (h : BsR H a l) (h' : BsR H a' l') (hl : l.length < 2^63) : HCalls Tryz.prog 109 #[.slice a l.length c, .slice a' l'.length c'] H fun v H' => v = .bool (eqB l l') ∧ Fr [] H H' := by
  refine calls_of_vc (args := [_, _]) Tryz.func109 c109ok (Nat.le_of_ble_eq_true rfl) ?_
  by_cases hn : l.length = l'.length
  · have hn' : (l.length : Int) = (l'.length : Int) := by omega
    simp (implicitDefEqProofs := false) only [go_sem, c109, hn']
    refine vc_loop (fun (i : Nat) H' => i ≤ l.length ∧ l.take i = l'.take i ∧ H' = H)
      (fun i => [(0, .slice a l.length c), (1, .slice a' l'.length c'), (12, .int .i64 l'.length), (13, .int .i64 i)]) (fun i => l.length - i) 0 ?_ ?_ ?_
    · exact ⟨Nat.zero_le _, by simp, rfl⟩
    · simp (implicitDefEqProofs := false) only [go_sem]
    · rintro i H' ⟨hi, ht, rfl⟩
      rcases Nat.lt_or_ge i l.length with hlt | hge
      · have hlt2 : i < l'.length := by omega
        have hl1 : (i : Int) < (l.length : Int) := by omega
        have hl2 : (i : Int) < (l'.length : Int) := by omega
        have h0 : (0 : Int) ≤ (i : Int) := by omega
        have hw1 := succ_i64 i l.length hlt hl
        obtain ⟨b, o, rfl, hc⟩ : ∃ b o, a = some ⟨b, o, none⟩ ∧ cellB H' b (o + i) = some (bv l[i]) := by
          rcases h with h | ⟨b, o, h1, h2⟩
          · subst h; simp at hlt
          · exact ⟨b, o, h1, h2 i hlt⟩
        obtain ⟨b', o', rfl, hc'⟩ : ∃ b o, a' = some ⟨b, o, none⟩ ∧ cellB H' b (o + i) = some (bv l'[i]) := by
          rcases h' with h | ⟨b, o, h1, h2⟩
          · subst h; simp at hlt2
          · exact ⟨b, o, h1, h2 i hlt2⟩
        by_cases he : l[i] = l'[i]
        · have he' : (l[i].toNat : Int) = (l'[i].toNat : Int) := by rw [he]
          simp (implicitDefEqProofs := false) only [go_sem, hl1, hl2, h0, hc, hc', bv, he']
          refine loopK_intro (i + 1) (by show l.length - (i + 1) < l.length - i; omega) ?_ ⟨hlt, take_eq_succ hlt hlt2 ht he, rfl⟩
          simp (implicitDefEqProofs := false) only [go_sem, hw1]
        · have he' : ¬ (l[i].toNat : Int) = (l'[i].toNat : Int) := by
            intro e; exact he (UInt8.toNat_inj.1 (by omega))
          simp (implicitDefEqProofs := false) only [go_sem, hl1, hl2, h0, hc, hc', bv, he']
          exact ⟨by rw [eqB_false (take_ne hlt hlt2 he)], Fr.refl _ _⟩
      · have hge' : ¬ (i : Int) < (l'.length : Int) := by omega
        simp (implicitDefEqProofs := false) only [go_sem, hge']
        rw [List.take_of_length_le hge, List.take_of_length_le (by omega)] at ht
        exact ⟨by rw [eqB_true ht], Fr.refl _ _⟩
  · have hn' : ¬ (l.length : Int) = (l'.length : Int) := by omega
    simp (implicitDefEqProofs := false) only [go_sem, c109, hn']
    exact ⟨by rw [eqB_false (fun e => hn (by rw [e]))], Fr.refl _ _⟩
theorem sb_ok : SOk 109 .bytes := by
  refine ⟨by kernel_rfl, ?_⟩
  intro d d' H cs cs' h h'
  obtain ⟨a, c, rfl, h1, h2, h3⟩ := rep_bytes.1 h
  obtain ⟨a', c', rfl, h1', h2', h3'⟩ := rep_bytes.1 h'
  have hm : maxLen < 2^63 := by decide
  exact eqb_ok d d' (csR_bsR.1 h3.csR) (csR_bsR.1 h3'.csR) (by omega)
theorem str_inj {a b : Bs} : ((⟨⟨a⟩⟩ : ByteArray) = ⟨⟨b⟩⟩) = (a = b) := by
  apply propext
  constructor
  · intro h; injection h with h; injection h
  · rintro rfl; rfl
theorem eqs_ok (l l' : List Bs) {H : Heap} {a a' : Option Addr} {c c' : Nat} (h : Rep H [] (datT (.list .text) l) [.slice a l.length c]) (h' : Rep H [] (datT (.list .text) l') [.slice a' l'.length c']) (hl : l.length < 2^63) :
    HCalls Tryz.prog 59 #[.slice a l.length c, .slice a' l'.length c'] H fun v H' => v = .bool (eqB l l') ∧ Fr [] H H' := by
  refine calls_of_vc (args := [_, _]) Tryz.func59 c59ok (Nat.le_of_ble_eq_true rfl) ?_
  by_cases hn : l.length = l'.length
  · have hn' : (l.length : Int) = (l'.length : Int) := by omega
    simp (implicitDefEqProofs := false) only [go_sem, c59, hn']
    refine vc_loop (fun (i : Nat) H' => i ≤ l.length ∧ l.take i = l'.take i ∧ H' = H)
      (fun i => [(0, .slice a l.length c), (1, .slice a' l'.length c'), (12, .int .i64 l'.length), (13, .int .i64 i)]) (fun i => l.length - i) 0 ?_ ?_ ?_
    · exact ⟨Nat.zero_le _, by simp, rfl⟩
    · simp (implicitDefEqProofs := false) only [go_sem]
    · rintro i H' ⟨hi, ht, rfl⟩
      rcases Nat.lt_or_ge i l.length with hlt | hge
      · have hlt2 : i < l'.length := by omega
        have hl1 : (i : Int) < (l.length : Int) := by omega
        have hl2 : (i : Int) < (l'.length : Int) := by omega
        have h0 : (0 : Int) ≤ (i : Int) := by omega
        have hw1 := succ_i64 i l.length hlt hl
        obtain ⟨b, o, cc, x, e1, _, hxl, hc, hx⟩ := rep_at h i hlt
        cases e1
        obtain ⟨b', o', cc', x', e1', _, hxl', hc', hx'⟩ := rep_at h' i hlt2
        cases e1'
        have := rep_text hx; subst this
        have := rep_text hx'; subst this
        have p := hc 0 (by decide)
        have p' := hc' 0 (by decide)
        simp only [wid, Nat.mul_one, Nat.add_zero, List.getElem?_cons_zero] at p p'
        by_cases he : l[i] = l'[i]
        · rw [he] at p
          simp (implicitDefEqProofs := false) only [go_sem, hl1, hl2, h0, p, p', str_inj]
          refine loopK_intro (i + 1) (by show l.length - (i + 1) < l.length - i; omega) ?_ ⟨hlt, take_eq_succ hlt hlt2 ht he, rfl⟩
          simp (implicitDefEqProofs := false) only [go_sem, hw1]
        · simp (implicitDefEqProofs := false) only [go_sem, hl1, hl2, h0, p, p', str_inj, he]
          exact ⟨by rw [eqB_false (take_ne hlt hlt2 he)], Fr.refl _ _⟩
      · have hge' : ¬ (i : Int) < (l'.length : Int) := by omega
        simp (implicitDefEqProofs := false) only [go_sem, hge']
        rw [List.take_of_length_le hge, List.take_of_length_le (by omega)] at ht
        exact ⟨by rw [eqB_true ht], Fr.refl _ _⟩
  · have hn' : ¬ (l.length : Int) = (l'.length : Int) := by omega
    simp (implicitDefEqProofs := false) only [go_sem, c59, hn']
    exact ⟨by rw [eqB_false (fun e => hn (by rw [e]))], Fr.refl _ _⟩

set_option maxHeartbeats 1000000 in
theorem eqfReadID_ok {f : Nat} {t : Ty} (hw : wid t = 3) (hp : ∀ cs, argOf t cs = .agg cs.toArray) (hf : SOk f t) (l l' : List (den t)) {H : Heap} {a a' : Option Addr} {c c' : Nat} (h : Rep H [] (datT (.list t) l) [.slice a l.length c]) (h' : Rep H [] (datT (.list t) l') [.slice a' l'.length c']) (hl : l.length < 2^63) :
    HCalls Tryz.prog 47 #[.slice a l.length c, .slice a' l'.length c', .func (.func f) #[] #[]] H fun v H' => v = .bool (eqB l l') ∧ Fr [] H H' := by
  refine calls_of_vc (args := [_, _, _]) Tryz.func47 c47ok (Nat.le_of_ble_eq_true rfl) ?_
  by_cases hn : l.length = l'.length
  · have hn' : (l.length : Int) = (l'.length : Int) := by omega
    simp (implicitDefEqProofs := false) only [go_sem, c47, hn']
    refine vc_loop (fun (i : Nat) H' => i ≤ l.length ∧ l.take i = l'.take i ∧ Fr [] H H')
      (fun i => [(1, .slice a' l'.length c'), (2, .func (.func f) #[] #[]), (15, .slice a l.length c), (16, .int .i64 l'.length), (17, .int .i64 i)]) (fun i => l.length - i) 0 ?_ ?_ ?_
    · exact ⟨Nat.zero_le _, by simp, Fr.refl _ _⟩
    · simp (implicitDefEqProofs := false) only [go_sem]
    · rintro i H' ⟨hi, ht, hfr⟩
      rcases Nat.lt_or_ge i l.length with hlt | hge
      · have hlt2 : i < l'.length := by omega
        have hl1 : (i : Int) < (l.length : Int) := by omega
        have hl2 : (i : Int) < (l'.length : Int) := by omega
        have h0 : (0 : Int) ≤ (i : Int) := by omega
        have hw1 := succ_i64 i l.length hlt hl
        obtain ⟨b, o, cc, x, e1, _, hxl, hc, hx⟩ := rep_at (Rep.ext h hfr) i hlt
        cases e1
        obtain ⟨b', o', cc', x', e1', _, hxl', hc', hx'⟩ := rep_at (Rep.ext h' hfr) i hlt2
        cases e1'
        rw [hw] at hxl hc hxl' hc'
        obtain ⟨x0, x1, x2, rfl⟩ := len3 hxl
        obtain ⟨y0, y1, y2, rfl⟩ := len3 hxl'
        have p0 := hc 0 (by omega)
        have q0 := hc' 0 (by omega)
        have p1 := hc 1 (by omega)
        have q1 := hc' 1 (by omega)
        have p2 := hc 2 (by omega)
        have q2 := hc' 2 (by omega)
        simp only [Nat.add_zero, List.getElem?_cons_zero, List.getElem?_cons_succ, Nat.mul_one] at p0 q0 p1 q1 p2 q2
        simp (implicitDefEqProofs := false) only [go_sem, hl1, hl2, h0, p0, p1, p2]
        refine NewP_intro fun A hA hfA hsA => ?_
        simp (implicitDefEqProofs := false) only [go_sem]
        refine Sto_all hA rfl (rep_one hx) fun A2 hA2 hfA2 hsA2 => ?_
        have hfn := new_fr hfA hfA2
        replace q0 := cellB_fr q0 hfn (by simp)
        replace q1 := cellB_fr q1 hfn (by simp)
        replace q2 := cellB_fr q2 hfn (by simp)
        simp (implicitDefEqProofs := false) only [go_sem, hl2, h0, q0, q1, q2]
        refine NewP_intro fun B hB hfB hsB => ?_
        simp (implicitDefEqProofs := false) only [go_sem]
        refine Sto_all hB rfl (rep_one hx') fun B2 hB2 hfB2 hsB2 => ?_
        have hfn2 := hfn.trans (new_fr hfB hfB2)
        have hcA := ((hA2.ext hfB).fr hfB2 (by have := hA2.lt; simp; omega)).cell
        have hcB := hB2.cell
        simp (implicitDefEqProofs := false) only [go_sem, hcA, hcB]
        have hcall := hf.2 l[i] l'[i] (Rep.ext hx hfn2) (Rep.ext hx' hfn2)
        rw [hp, hp] at hcall
        refine ⟨hf.1, hcall.mono ?_⟩
        rintro v K ⟨rfl, hfK⟩
        by_cases he : l[i] = l'[i]
        · have he' : eqB l[i] l'[i] = true := eqB_true he
          simp (implicitDefEqProofs := false) only [go_sem, he']
          refine loopK_intro (i + 1) (by show l.length - (i + 1) < l.length - i; omega) ?_ ⟨hlt, take_eq_succ hlt hlt2 ht he, hfr.trans (hfn2.trans hfK)⟩
          simp (implicitDefEqProofs := false) only [go_sem, hw1]
        · have he' : eqB l[i] l'[i] = false := eqB_false he
          simp (implicitDefEqProofs := false) only [go_sem, he']
          exact ⟨by rw [eqB_false (take_ne hlt hlt2 he)], hfr.trans (hfn2.trans hfK)⟩
      · have hge' : ¬ (i : Int) < (l'.length : Int) := by omega
        simp (implicitDefEqProofs := false) only [go_sem, hge']
        rw [List.take_of_length_le hge, List.take_of_length_le (by omega)] at ht
        exact ⟨by rw [eqB_true ht], hfr⟩
  · have hn' : ¬ (l.length : Int) = (l'.length : Int) := by omega
    simp (implicitDefEqProofs := false) only [go_sem, c47, hn']
    exact ⟨by rw [eqB_false (fun e => hn (by rw [e]))], Fr.refl _ _⟩

set_option maxHeartbeats 1000000 in
theorem eqfBase_ok {f : Nat} {t : Ty} (hw : wid t = 2) (hp : ∀ cs, argOf t cs = .agg cs.toArray) (hf : SOk f t) (l l' : List (den t)) {H : Heap} {a a' : Option Addr} {c c' : Nat} (h : Rep H [] (datT (.list t) l) [.slice a l.length c]) (h' : Rep H [] (datT (.list t) l') [.slice a' l'.length c']) (hl : l.length < 2^63) :
    HCalls Tryz.prog 49 #[.slice a l.length c, .slice a' l'.length c', .func (.func f) #[] #[]] H fun v H' => v = .bool (eqB l l') ∧ Fr [] H H' := by
  refine calls_of_vc (args := [_, _, _]) Tryz.func49 c49ok (Nat.le_of_ble_eq_true rfl) ?_
  by_cases hn : l.length = l'.length
  · have hn' : (l.length : Int) = (l'.length : Int) := by omega
    simp (implicitDefEqProofs := false) only [go_sem, c49, hn']
    refine vc_loop (fun (i : Nat) H' => i ≤ l.length ∧ l.take i = l'.take i ∧ Fr [] H H')
      (fun i => [(1, .slice a' l'.length c'), (2, .func (.func f) #[] #[]), (15, .slice a l.length c), (16, .int .i64 l'.length), (17, .int .i64 i)]) (fun i => l.length - i) 0 ?_ ?_ ?_
    · exact ⟨Nat.zero_le _, by simp, Fr.refl _ _⟩
    · simp (implicitDefEqProofs := false) only [go_sem]
    · rintro i H' ⟨hi, ht, hfr⟩
      rcases Nat.lt_or_ge i l.length with hlt | hge
      · have hlt2 : i < l'.length := by omega
        have hl1 : (i : Int) < (l.length : Int) := by omega
        have hl2 : (i : Int) < (l'.length : Int) := by omega
        have h0 : (0 : Int) ≤ (i : Int) := by omega
        have hw1 := succ_i64 i l.length hlt hl
        obtain ⟨b, o, cc, x, e1, _, hxl, hc, hx⟩ := rep_at (Rep.ext h hfr) i hlt
        cases e1
        obtain ⟨b', o', cc', x', e1', _, hxl', hc', hx'⟩ := rep_at (Rep.ext h' hfr) i hlt2
        cases e1'
        rw [hw] at hxl hc hxl' hc'
        obtain ⟨x0, x1, rfl⟩ := len2 hxl
        obtain ⟨y0, y1, rfl⟩ := len2 hxl'
        have p0 := hc 0 (by omega)
        have q0 := hc' 0 (by omega)
        have p1 := hc 1 (by omega)
        have q1 := hc' 1 (by omega)
        simp only [Nat.add_zero, List.getElem?_cons_zero, List.getElem?_cons_succ, Nat.mul_one] at p0 q0 p1 q1
        simp (implicitDefEqProofs := false) only [go_sem, hl1, hl2, h0, p0, p1]
        refine NewP_intro fun A hA hfA hsA => ?_
        simp (implicitDefEqProofs := false) only [go_sem]
        refine Sto_all hA rfl (rep_one hx) fun A2 hA2 hfA2 hsA2 => ?_
        have hfn := new_fr hfA hfA2
        replace q0 := cellB_fr q0 hfn (by simp)
        replace q1 := cellB_fr q1 hfn (by simp)
        simp (implicitDefEqProofs := false) only [go_sem, hl2, h0, q0, q1]
        refine NewP_intro fun B hB hfB hsB => ?_
        simp (implicitDefEqProofs := false) only [go_sem]
        refine Sto_all hB rfl (rep_one hx') fun B2 hB2 hfB2 hsB2 => ?_
        have hfn2 := hfn.trans (new_fr hfB hfB2)
        have hcA := ((hA2.ext hfB).fr hfB2 (by have := hA2.lt; simp; omega)).cell
        have hcB := hB2.cell
        simp (implicitDefEqProofs := false) only [go_sem, hcA, hcB]
        have hcall := hf.2 l[i] l'[i] (Rep.ext hx hfn2) (Rep.ext hx' hfn2)
        rw [hp, hp] at hcall
        refine ⟨hf.1, hcall.mono ?_⟩
        rintro v K ⟨rfl, hfK⟩
        by_cases he : l[i] = l'[i]
        · have he' : eqB l[i] l'[i] = true := eqB_true he
          simp (implicitDefEqProofs := false) only [go_sem, he']
          refine loopK_intro (i + 1) (by show l.length - (i + 1) < l.length - i; omega) ?_ ⟨hlt, take_eq_succ hlt hlt2 ht he, hfr.trans (hfn2.trans hfK)⟩
          simp (implicitDefEqProofs := false) only [go_sem, hw1]
        · have he' : eqB l[i] l'[i] = false := eqB_false he
          simp (implicitDefEqProofs := false) only [go_sem, he']
          exact ⟨by rw [eqB_false (take_ne hlt hlt2 he)], hfr.trans (hfn2.trans hfK)⟩
      · have hge' : ¬ (i : Int) < (l'.length : Int) := by omega
        simp (implicitDefEqProofs := false) only [go_sem, hge']
        rw [List.take_of_length_le hge, List.take_of_length_le (by omega)] at ht
        exact ⟨by rw [eqB_true ht], hfr⟩
  · have hn' : ¬ (l.length : Int) = (l'.length : Int) := by omega
    simp (implicitDefEqProofs := false) only [go_sem, c49, hn']
    exact ⟨by rw [eqB_false (fun e => hn (by rw [e]))], Fr.refl _ _⟩

set_option maxHeartbeats 1000000 in
theorem eqfCommand_ok {f : Nat} {t : Ty} (hw : wid t = 6) (hp : ∀ cs, argOf t cs = .agg cs.toArray) (hf : SOk f t) (l l' : List (den t)) {H : Heap} {a a' : Option Addr} {c c' : Nat} (h : Rep H [] (datT (.list t) l) [.slice a l.length c]) (h' : Rep H [] (datT (.list t) l') [.slice a' l'.length c']) (hl : l.length < 2^63) :
    HCalls Tryz.prog 51 #[.slice a l.length c, .slice a' l'.length c', .func (.func f) #[] #[]] H fun v H' => v = .bool (eqB l l') ∧ Fr [] H H' := by
  refine calls_of_vc (args := [_, _, _]) Tryz.func51 c51ok (Nat.le_of_ble_eq_true rfl) ?_
  by_cases hn : l.length = l'.length
  · have hn' : (l.length : Int) = (l'.length : Int) := by omega
    simp (implicitDefEqProofs := false) only [go_sem, c51, hn']
    refine vc_loop (fun (i : Nat) H' => i ≤ l.length ∧ l.take i = l'.take i ∧ Fr [] H H')
      (fun i => [(1, .slice a' l'.length c'), (2, .func (.func f) #[] #[]), (15, .slice a l.length c), (16, .int .i64 l'.length), (17, .int .i64 i)]) (fun i => l.length - i) 0 ?_ ?_ ?_
    · exact ⟨Nat.zero_le _, by simp, Fr.refl _ _⟩
    · simp (implicitDefEqProofs := false) only [go_sem]
    · rintro i H' ⟨hi, ht, hfr⟩
      rcases Nat.lt_or_ge i l.length with hlt | hge
      · have hlt2 : i < l'.length := by omega
        have hl1 : (i : Int) < (l.length : Int) := by omega
        have hl2 : (i : Int) < (l'.length : Int) := by omega
        have h0 : (0 : Int) ≤ (i : Int) := by omega
        have hw1 := succ_i64 i l.length hlt hl
        obtain ⟨b, o, cc, x, e1, _, hxl, hc, hx⟩ := rep_at (Rep.ext h hfr) i hlt
        cases e1
        obtain ⟨b', o', cc', x', e1', _, hxl', hc', hx'⟩ := rep_at (Rep.ext h' hfr) i hlt2
        cases e1'
        rw [hw] at hxl hc hxl' hc'
        obtain ⟨x0, x1, x2, x3, x4, x5, rfl⟩ := len6 hxl
        obtain ⟨y0, y1, y2, y3, y4, y5, rfl⟩ := len6 hxl'
        have p0 := hc 0 (by omega)
        have q0 := hc' 0 (by omega)
        have p1 := hc 1 (by omega)
        have q1 := hc' 1 (by omega)
        have p2 := hc 2 (by omega)
        have q2 := hc' 2 (by omega)
        have p3 := hc 3 (by omega)
        have q3 := hc' 3 (by omega)
        have p4 := hc 4 (by omega)
        have q4 := hc' 4 (by omega)
        have p5 := hc 5 (by omega)
        have q5 := hc' 5 (by omega)
        simp only [Nat.add_zero, List.getElem?_cons_zero, List.getElem?_cons_succ, Nat.mul_one] at p0 q0 p1 q1 p2 q2 p3 q3 p4 q4 p5 q5
        simp (implicitDefEqProofs := false) only [go_sem, hl1, hl2, h0, p0, p1, p2, p3, p4, p5]
        refine NewP_intro fun A hA hfA hsA => ?_
        simp (implicitDefEqProofs := false) only [go_sem]
        refine Sto_all hA rfl (rep_one hx) fun A2 hA2 hfA2 hsA2 => ?_
        have hfn := new_fr hfA hfA2
        replace q0 := cellB_fr q0 hfn (by simp)
        replace q1 := cellB_fr q1 hfn (by simp)
        replace q2 := cellB_fr q2 hfn (by simp)
        replace q3 := cellB_fr q3 hfn (by simp)
        replace q4 := cellB_fr q4 hfn (by simp)
        replace q5 := cellB_fr q5 hfn (by simp)
        simp (implicitDefEqProofs := false) only [go_sem, hl2, h0, q0, q1, q2, q3, q4, q5]
        refine NewP_intro fun B hB hfB hsB => ?_
        simp (implicitDefEqProofs := false) only [go_sem]
        refine Sto_all hB rfl (rep_one hx') fun B2 hB2 hfB2 hsB2 => ?_
        have hfn2 := hfn.trans (new_fr hfB hfB2)
        have hcA := ((hA2.ext hfB).fr hfB2 (by have := hA2.lt; simp; omega)).cell
        have hcB := hB2.cell
        simp (implicitDefEqProofs := false) only [go_sem, hcA, hcB]
        have hcall := hf.2 l[i] l'[i] (Rep.ext hx hfn2) (Rep.ext hx' hfn2)
        rw [hp, hp] at hcall
        refine ⟨hf.1, hcall.mono ?_⟩
        rintro v K ⟨rfl, hfK⟩
        by_cases he : l[i] = l'[i]
        · have he' : eqB l[i] l'[i] = true := eqB_true he
          simp (implicitDefEqProofs := false) only [go_sem, he']
          refine loopK_intro (i + 1) (by show l.length - (i + 1) < l.length - i; omega) ?_ ⟨hlt, take_eq_succ hlt hlt2 ht he, hfr.trans (hfn2.trans hfK)⟩
          simp (implicitDefEqProofs := false) only [go_sem, hw1]
        · have he' : eqB l[i] l'[i] = false := eqB_false he
          simp (implicitDefEqProofs := false) only [go_sem, he']
          exact ⟨by rw [eqB_false (take_ne hlt hlt2 he)], hfr.trans (hfn2.trans hfK)⟩
      · have hge' : ¬ (i : Int) < (l'.length : Int) := by omega
        simp (implicitDefEqProofs := false) only [go_sem, hge']
        rw [List.take_of_length_le hge, List.take_of_length_le (by omega)] at ht
        exact ⟨by rw [eqB_true ht], hfr⟩
  · have hn' : ¬ (l.length : Int) = (l'.length : Int) := by omega
    simp (implicitDefEqProofs := false) only [go_sem, c51, hn']
    exact ⟨by rw [eqB_false (fun e => hn (by rw [e]))], Fr.refl _ _⟩

set_option maxHeartbeats 1000000 in
theorem eqfAck_ok {f : Nat} {t : Ty} (hw : wid t = 2) (hp : ∀ cs, argOf t cs = .agg cs.toArray) (hf : SOk f t) (l l' : List (den t)) {H : Heap} {a a' : Option Addr} {c c' : Nat} (h : Rep H [] (datT (.list t) l) [.slice a l.length c]) (h' : Rep H [] (datT (.list t) l') [.slice a' l'.length c']) (hl : l.length < 2^63) :
    HCalls Tryz.prog 53 #[.slice a l.length c, .slice a' l'.length c', .func (.func f) #[] #[]] H fun v H' => v = .bool (eqB l l') ∧ Fr [] H H' := by
  refine calls_of_vc (args := [_, _, _]) Tryz.func53 c53ok (Nat.le_of_ble_eq_true rfl) ?_
  by_cases hn : l.length = l'.length
  · have hn' : (l.length : Int) = (l'.length : Int) := by omega
    simp (implicitDefEqProofs := false) only [go_sem, c53, hn']
    refine vc_loop (fun (i : Nat) H' => i ≤ l.length ∧ l.take i = l'.take i ∧ Fr [] H H')
      (fun i => [(1, .slice a' l'.length c'), (2, .func (.func f) #[] #[]), (15, .slice a l.length c), (16, .int .i64 l'.length), (17, .int .i64 i)]) (fun i => l.length - i) 0 ?_ ?_ ?_
    · exact ⟨Nat.zero_le _, by simp, Fr.refl _ _⟩
    · simp (implicitDefEqProofs := false) only [go_sem]
    · rintro i H' ⟨hi, ht, hfr⟩
      rcases Nat.lt_or_ge i l.length with hlt | hge
      · have hlt2 : i < l'.length := by omega
        have hl1 : (i : Int) < (l.length : Int) := by omega
        have hl2 : (i : Int) < (l'.length : Int) := by omega
        have h0 : (0 : Int) ≤ (i : Int) := by omega
        have hw1 := succ_i64 i l.length hlt hl
        obtain ⟨b, o, cc, x, e1, _, hxl, hc, hx⟩ := rep_at (Rep.ext h hfr) i hlt
        cases e1
        obtain ⟨b', o', cc', x', e1', _, hxl', hc', hx'⟩ := rep_at (Rep.ext h' hfr) i hlt2
        cases e1'
        rw [hw] at hxl hc hxl' hc'
        obtain ⟨x0, x1, rfl⟩ := len2 hxl
        obtain ⟨y0, y1, rfl⟩ := len2 hxl'
        have p0 := hc 0 (by omega)
        have q0 := hc' 0 (by omega)
        have p1 := hc 1 (by omega)
        have q1 := hc' 1 (by omega)
        simp only [Nat.add_zero, List.getElem?_cons_zero, List.getElem?_cons_succ, Nat.mul_one] at p0 q0 p1 q1
        simp (implicitDefEqProofs := false) only [go_sem, hl1, hl2, h0, p0, p1]
        refine NewP_intro fun A hA hfA hsA => ?_
        simp (implicitDefEqProofs := false) only [go_sem]
        refine Sto_all hA rfl (rep_one hx) fun A2 hA2 hfA2 hsA2 => ?_
        have hfn := new_fr hfA hfA2
        replace q0 := cellB_fr q0 hfn (by simp)
        replace q1 := cellB_fr q1 hfn (by simp)
        simp (implicitDefEqProofs := false) only [go_sem, hl2, h0, q0, q1]
        refine NewP_intro fun B hB hfB hsB => ?_
        simp (implicitDefEqProofs := false) only [go_sem]
        refine Sto_all hB rfl (rep_one hx') fun B2 hB2 hfB2 hsB2 => ?_
        have hfn2 := hfn.trans (new_fr hfB hfB2)
        have hcA := ((hA2.ext hfB).fr hfB2 (by have := hA2.lt; simp; omega)).cell
        have hcB := hB2.cell
        simp (implicitDefEqProofs := false) only [go_sem, hcA, hcB]
        have hcall := hf.2 l[i] l'[i] (Rep.ext hx hfn2) (Rep.ext hx' hfn2)
        rw [hp, hp] at hcall
        refine ⟨hf.1, hcall.mono ?_⟩
        rintro v K ⟨rfl, hfK⟩
        by_cases he : l[i] = l'[i]
        · have he' : eqB l[i] l'[i] = true := eqB_true he
          simp (implicitDefEqProofs := false) only [go_sem, he']
          refine loopK_intro (i + 1) (by show l.length - (i + 1) < l.length - i; omega) ?_ ⟨hlt, take_eq_succ hlt hlt2 ht he, hfr.trans (hfn2.trans hfK)⟩
          simp (implicitDefEqProofs := false) only [go_sem, hw1]
        · have he' : eqB l[i] l'[i] = false := eqB_false he
          simp (implicitDefEqProofs := false) only [go_sem, he']
          exact ⟨by rw [eqB_false (take_ne hlt hlt2 he)], hfr.trans (hfn2.trans hfK)⟩
      · have hge' : ¬ (i : Int) < (l'.length : Int) := by omega
        simp (implicitDefEqProofs := false) only [go_sem, hge']
        rw [List.take_of_length_le hge, List.take_of_length_le (by omega)] at ht
        exact ⟨by rw [eqB_true ht], hfr⟩
  · have hn' : ¬ (l.length : Int) = (l'.length : Int) := by omega
    simp (implicitDefEqProofs := false) only [go_sem, c53, hn']
    exact ⟨by rw [eqB_false (fun e => hn (by rw [e]))], Fr.refl _ _⟩

set_option maxHeartbeats 1000000 in
theorem eqfProof_ok {f : Nat} {t : Ty} (hw : wid t = 10) (hp : ∀ cs, argOf t cs = .agg cs.toArray) (hf : SOk f t) (l l' : List (den t)) {H : Heap} {a a' : Option Addr} {c c' : Nat} (h : Rep H [] (datT (.list t) l) [.slice a l.length c]) (h' : Rep H [] (datT (.list t) l') [.slice a' l'.length c']) (hl : l.length < 2^63) :
    HCalls Tryz.prog 55 #[.slice a l.length c, .slice a' l'.length c', .func (.func f) #[] #[]] H fun v H' => v = .bool (eqB l l') ∧ Fr [] H H' := by
  refine calls_of_vc (args := [_, _, _]) Tryz.func55 c55ok (Nat.le_of_ble_eq_true rfl) ?_
  by_cases hn : l.length = l'.length
  · have hn' : (l.length : Int) = (l'.length : Int) := by omega
    simp (implicitDefEqProofs := false) only [go_sem, c55, hn']
    refine vc_loop (fun (i : Nat) H' => i ≤ l.length ∧ l.take i = l'.take i ∧ Fr [] H H')
      (fun i => [(1, .slice a' l'.length c'), (2, .func (.func f) #[] #[]), (15, .slice a l.length c), (16, .int .i64 l'.length), (17, .int .i64 i)]) (fun i => l.length - i) 0 ?_ ?_ ?_
    · exact ⟨Nat.zero_le _, by simp, Fr.refl _ _⟩
    · simp (implicitDefEqProofs := false) only [go_sem]
    · rintro i H' ⟨hi, ht, hfr⟩
      rcases Nat.lt_or_ge i l.length with hlt | hge
      · have hlt2 : i < l'.length := by omega
        have hl1 : (i : Int) < (l.length : Int) := by omega
        have hl2 : (i : Int) < (l'.length : Int) := by omega
        have h0 : (0 : Int) ≤ (i : Int) := by omega
        have hw1 := succ_i64 i l.length hlt hl
        obtain ⟨b, o, cc, x, e1, _, hxl, hc, hx⟩ := rep_at (Rep.ext h hfr) i hlt
        cases e1
        obtain ⟨b', o', cc', x', e1', _, hxl', hc', hx'⟩ := rep_at (Rep.ext h' hfr) i hlt2
        cases e1'
        rw [hw] at hxl hc hxl' hc'
        obtain ⟨x0, x1, x2, x3, x4, x5, x6, x7, x8, x9, rfl⟩ := len10 hxl
        obtain ⟨y0, y1, y2, y3, y4, y5, y6, y7, y8, y9, rfl⟩ := len10 hxl'
        have p0 := hc 0 (by omega)
        have q0 := hc' 0 (by omega)
        have p1 := hc 1 (by omega)
        have q1 := hc' 1 (by omega)
        have p2 := hc 2 (by omega)
        have q2 := hc' 2 (by omega)
        have p3 := hc 3 (by omega)
        have q3 := hc' 3 (by omega)
        have p4 := hc 4 (by omega)
        have q4 := hc' 4 (by omega)
        have p5 := hc 5 (by omega)
        have q5 := hc' 5 (by omega)
        have p6 := hc 6 (by omega)
        have q6 := hc' 6 (by omega)
        have p7 := hc 7 (by omega)
        have q7 := hc' 7 (by omega)
        have p8 := hc 8 (by omega)
        have q8 := hc' 8 (by omega)
        have p9 := hc 9 (by omega)
        have q9 := hc' 9 (by omega)
        simp only [Nat.add_zero, List.getElem?_cons_zero, List.getElem?_cons_succ, Nat.mul_one] at p0 q0 p1 q1 p2 q2 p3 q3 p4 q4 p5 q5 p6 q6 p7 q7 p8 q8 p9 q9
        simp (implicitDefEqProofs := false) only [go_sem, hl1, hl2, h0, p0, p1, p2, p3, p4, p5, p6, p7, p8, p9]
        refine NewP_intro fun A hA hfA hsA => ?_
        simp (implicitDefEqProofs := false) only [go_sem]
        refine Sto_all hA rfl (rep_one hx) fun A2 hA2 hfA2 hsA2 => ?_
        have hfn := new_fr hfA hfA2
        replace q0 := cellB_fr q0 hfn (by simp)
        replace q1 := cellB_fr q1 hfn (by simp)
        replace q2 := cellB_fr q2 hfn (by simp)
        replace q3 := cellB_fr q3 hfn (by simp)
        replace q4 := cellB_fr q4 hfn (by simp)
        replace q5 := cellB_fr q5 hfn (by simp)
        replace q6 := cellB_fr q6 hfn (by simp)
        replace q7 := cellB_fr q7 hfn (by simp)
        replace q8 := cellB_fr q8 hfn (by simp)
        replace q9 := cellB_fr q9 hfn (by simp)
        simp (implicitDefEqProofs := false) only [go_sem, hl2, h0, q0, q1, q2, q3, q4, q5, q6, q7, q8, q9]
        refine NewP_intro fun B hB hfB hsB => ?_
        simp (implicitDefEqProofs := false) only [go_sem]
        refine Sto_all hB rfl (rep_one hx') fun B2 hB2 hfB2 hsB2 => ?_
        have hfn2 := hfn.trans (new_fr hfB hfB2)
        have hcA := ((hA2.ext hfB).fr hfB2 (by have := hA2.lt; simp; omega)).cell
        have hcB := hB2.cell
        simp (implicitDefEqProofs := false) only [go_sem, hcA, hcB]
        have hcall := hf.2 l[i] l'[i] (Rep.ext hx hfn2) (Rep.ext hx' hfn2)
        rw [hp, hp] at hcall
        refine ⟨hf.1, hcall.mono ?_⟩
        rintro v K ⟨rfl, hfK⟩
        by_cases he : l[i] = l'[i]
        · have he' : eqB l[i] l'[i] = true := eqB_true he
          simp (implicitDefEqProofs := false) only [go_sem, he']
          refine loopK_intro (i + 1) (by show l.length - (i + 1) < l.length - i; omega) ?_ ⟨hlt, take_eq_succ hlt hlt2 ht he, hfr.trans (hfn2.trans hfK)⟩
          simp (implicitDefEqProofs := false) only [go_sem, hw1]
        · have he' : eqB l[i] l'[i] = false := eqB_false he
          simp (implicitDefEqProofs := false) only [go_sem, he']
          exact ⟨by rw [eqB_false (take_ne hlt hlt2 he)], hfr.trans (hfn2.trans hfK)⟩
      · have hge' : ¬ (i : Int) < (l'.length : Int) := by omega
        simp (implicitDefEqProofs := false) only [go_sem, hge']
        rw [List.take_of_length_le hge, List.take_of_length_le (by omega)] at ht
        exact ⟨by rw [eqB_true ht], hfr⟩
  · have hn' : ¬ (l.length : Int) = (l'.length : Int) := by omega
    simp (implicitDefEqProofs := false) only [go_sem, c55, hn']
    exact ⟨by rw [eqB_false (fun e => hn (by rw [e]))], Fr.refl _ _⟩

set_option maxHeartbeats 1000000 in
theorem eqfDigest_ok {f : Nat} {t : Ty} (hw : wid t = 3) (hp : ∀ cs, argOf t cs = .agg cs.toArray) (hf : SOk f t) (l l' : List (den t)) {H : Heap} {a a' : Option Addr} {c c' : Nat} (h : Rep H [] (datT (.list t) l) [.slice a l.length c]) (h' : Rep H [] (datT (.list t) l') [.slice a' l'.length c']) (hl : l.length < 2^63) :
    HCalls Tryz.prog 57 #[.slice a l.length c, .slice a' l'.length c', .func (.func f) #[] #[]] H fun v H' => v = .bool (eqB l l') ∧ Fr [] H H' := by
  refine calls_of_vc (args := [_, _, _]) Tryz.func57 c57ok (Nat.le_of_ble_eq_true rfl) ?_
  by_cases hn : l.length = l'.length
  · have hn' : (l.length : Int) = (l'.length : Int) := by omega
    simp (implicitDefEqProofs := false) only [go_sem, c57, hn']
    refine vc_loop (fun (i : Nat) H' => i ≤ l.length ∧ l.take i = l'.take i ∧ Fr [] H H')
      (fun i => [(1, .slice a' l'.length c'), (2, .func (.func f) #[] #[]), (15, .slice a l.length c), (16, .int .i64 l'.length), (17, .int .i64 i)]) (fun i => l.length - i) 0 ?_ ?_ ?_
    · exact ⟨Nat.zero_le _, by simp, Fr.refl _ _⟩
    · simp (implicitDefEqProofs := false) only [go_sem]
    · rintro i H' ⟨hi, ht, hfr⟩
      rcases Nat.lt_or_ge i l.length with hlt | hge
      · have hlt2 : i < l'.length := by omega
        have hl1 : (i : Int) < (l.length : Int) := by omega
        have hl2 : (i : Int) < (l'.length : Int) := by omega
        have h0 : (0 : Int) ≤ (i : Int) := by omega
        have hw1 := succ_i64 i l.length hlt hl
        obtain ⟨b, o, cc, x, e1, _, hxl, hc, hx⟩ := rep_at (Rep.ext h hfr) i hlt
        cases e1
        obtain ⟨b', o', cc', x', e1', _, hxl', hc', hx'⟩ := rep_at (Rep.ext h' hfr) i hlt2
        cases e1'
        rw [hw] at hxl hc hxl' hc'
        obtain ⟨x0, x1, x2, rfl⟩ := len3 hxl
        obtain ⟨y0, y1, y2, rfl⟩ := len3 hxl'
        have p0 := hc 0 (by omega)
        have q0 := hc' 0 (by omega)
        have p1 := hc 1 (by omega)
        have q1 := hc' 1 (by omega)
        have p2 := hc 2 (by omega)
        have q2 := hc' 2 (by omega)
        simp only [Nat.add_zero, List.getElem?_cons_zero, List.getElem?_cons_succ, Nat.mul_one] at p0 q0 p1 q1 p2 q2
        simp (implicitDefEqProofs := false) only [go_sem, hl1, hl2, h0, p0, p1, p2]
        refine NewP_intro fun A hA hfA hsA => ?_
        simp (implicitDefEqProofs := false) only [go_sem]
        refine Sto_all hA rfl (rep_one hx) fun A2 hA2 hfA2 hsA2 => ?_
        have hfn := new_fr hfA hfA2
        replace q0 := cellB_fr q0 hfn (by simp)
        replace q1 := cellB_fr q1 hfn (by simp)
        replace q2 := cellB_fr q2 hfn (by simp)
        simp (implicitDefEqProofs := false) only [go_sem, hl2, h0, q0, q1, q2]
        refine NewP_intro fun B hB hfB hsB => ?_
        simp (implicitDefEqProofs := false) only [go_sem]
        refine Sto_all hB rfl (rep_one hx') fun B2 hB2 hfB2 hsB2 => ?_
        have hfn2 := hfn.trans (new_fr hfB hfB2)
        have hcA := ((hA2.ext hfB).fr hfB2 (by have := hA2.lt; simp; omega)).cell
        have hcB := hB2.cell
        simp (implicitDefEqProofs := false) only [go_sem, hcA, hcB]
        have hcall := hf.2 l[i] l'[i] (Rep.ext hx hfn2) (Rep.ext hx' hfn2)
        rw [hp, hp] at hcall
        refine ⟨hf.1, hcall.mono ?_⟩
        rintro v K ⟨rfl, hfK⟩
        by_cases he : l[i] = l'[i]
        · have he' : eqB l[i] l'[i] = true := eqB_true he
          simp (implicitDefEqProofs := false) only [go_sem, he']
          refine loopK_intro (i + 1) (by show l.length - (i + 1) < l.length - i; omega) ?_ ⟨hlt, take_eq_succ hlt hlt2 ht he, hfr.trans (hfn2.trans hfK)⟩
          simp (implicitDefEqProofs := false) only [go_sem, hw1]
        · have he' : eqB l[i] l'[i] = false := eqB_false he
          simp (implicitDefEqProofs := false) only [go_sem, he']
          exact ⟨by rw [eqB_false (take_ne hlt hlt2 he)], hfr.trans (hfn2.trans hfK)⟩
      · have hge' : ¬ (i : Int) < (l'.length : Int) := by omega
        simp (implicitDefEqProofs := false) only [go_sem, hge']
        rw [List.take_of_length_le hge, List.take_of_length_le (by omega)] at ht
        exact ⟨by rw [eqB_true ht], hfr⟩
  · have hn' : ¬ (l.length : Int) = (l'.length : Int) := by omega
    simp (implicitDefEqProofs := false) only [go_sem, c57, hn']
    exact ⟨by rw [eqB_false (fun e => hn (by rw [e]))], Fr.refl _ _⟩

set_option maxHeartbeats 1000000 in
theorem eqfItem_ok {f : Nat} {t : Ty} (hw : wid t = 4) (hp : ∀ cs, argOf t cs = .agg cs.toArray) (hf : SOk f t) (l l' : List (den t)) {H : Heap} {a a' : Option Addr} {c c' : Nat} (h : Rep H [] (datT (.list t) l) [.slice a l.length c]) (h' : Rep H [] (datT (.list t) l') [.slice a' l'.length c']) (hl : l.length < 2^63) :
    HCalls Tryz.prog 60 #[.slice a l.length c, .slice a' l'.length c', .func (.func f) #[] #[]] H fun v H' => v = .bool (eqB l l') ∧ Fr [] H H' := by
  refine calls_of_vc (args := [_, _, _]) Tryz.func60 c60ok (Nat.le_of_ble_eq_true rfl) ?_
  by_cases hn : l.length = l'.length
  · have hn' : (l.length : Int) = (l'.length : Int) := by omega
    simp (implicitDefEqProofs := false) only [go_sem, c60, hn']
    refine vc_loop (fun (i : Nat) H' => i ≤ l.length ∧ l.take i = l'.take i ∧ Fr [] H H')
      (fun i => [(1, .slice a' l'.length c'), (2, .func (.func f) #[] #[]), (15, .slice a l.length c), (16, .int .i64 l'.length), (17, .int .i64 i)]) (fun i => l.length - i) 0 ?_ ?_ ?_
    · exact ⟨Nat.zero_le _, by simp, Fr.refl _ _⟩
    · simp (implicitDefEqProofs := false) only [go_sem]
    · rintro i H' ⟨hi, ht, hfr⟩
      rcases Nat.lt_or_ge i l.length with hlt | hge
      · have hlt2 : i < l'.length := by omega
        have hl1 : (i : Int) < (l.length : Int) := by omega
        have hl2 : (i : Int) < (l'.length : Int) := by omega
        have h0 : (0 : Int) ≤ (i : Int) := by omega
        have hw1 := succ_i64 i l.length hlt hl
        obtain ⟨b, o, cc, x, e1, _, hxl, hc, hx⟩ := rep_at (Rep.ext h hfr) i hlt
        cases e1
        obtain ⟨b', o', cc', x', e1', _, hxl', hc', hx'⟩ := rep_at (Rep.ext h' hfr) i hlt2
        cases e1'
        rw [hw] at hxl hc hxl' hc'
        obtain ⟨x0, x1, x2, x3, rfl⟩ := len4 hxl
        obtain ⟨y0, y1, y2, y3, rfl⟩ := len4 hxl'
        have p0 := hc 0 (by omega)
        have q0 := hc' 0 (by omega)
        have p1 := hc 1 (by omega)
        have q1 := hc' 1 (by omega)
        have p2 := hc 2 (by omega)
        have q2 := hc' 2 (by omega)
        have p3 := hc 3 (by omega)
        have q3 := hc' 3 (by omega)
        simp only [Nat.add_zero, List.getElem?_cons_zero, List.getElem?_cons_succ, Nat.mul_one] at p0 q0 p1 q1 p2 q2 p3 q3
        simp (implicitDefEqProofs := false) only [go_sem, hl1, hl2, h0, p0, p1, p2, p3]
        refine NewP_intro fun A hA hfA hsA => ?_
        simp (implicitDefEqProofs := false) only [go_sem]
        refine Sto_all hA rfl (rep_one hx) fun A2 hA2 hfA2 hsA2 => ?_
        have hfn := new_fr hfA hfA2
        replace q0 := cellB_fr q0 hfn (by simp)
        replace q1 := cellB_fr q1 hfn (by simp)
        replace q2 := cellB_fr q2 hfn (by simp)
        replace q3 := cellB_fr q3 hfn (by simp)
        simp (implicitDefEqProofs := false) only [go_sem, hl2, h0, q0, q1, q2, q3]
        refine NewP_intro fun B hB hfB hsB => ?_
        simp (implicitDefEqProofs := false) only [go_sem]
        refine Sto_all hB rfl (rep_one hx') fun B2 hB2 hfB2 hsB2 => ?_
        have hfn2 := hfn.trans (new_fr hfB hfB2)
        have hcA := ((hA2.ext hfB).fr hfB2 (by have := hA2.lt; simp; omega)).cell
        have hcB := hB2.cell
        simp (implicitDefEqProofs := false) only [go_sem, hcA, hcB]
        have hcall := hf.2 l[i] l'[i] (Rep.ext hx hfn2) (Rep.ext hx' hfn2)
        rw [hp, hp] at hcall
        refine ⟨hf.1, hcall.mono ?_⟩
        rintro v K ⟨rfl, hfK⟩
        by_cases he : l[i] = l'[i]
        · have he' : eqB l[i] l'[i] = true := eqB_true he
          simp (implicitDefEqProofs := false) only [go_sem, he']
          refine loopK_intro (i + 1) (by show l.length - (i + 1) < l.length - i; omega) ?_ ⟨hlt, take_eq_succ hlt hlt2 ht he, hfr.trans (hfn2.trans hfK)⟩
          simp (implicitDefEqProofs := false) only [go_sem, hw1]
        · have he' : eqB l[i] l'[i] = false := eqB_false he
          simp (implicitDefEqProofs := false) only [go_sem, he']
          exact ⟨by rw [eqB_false (take_ne hlt hlt2 he)], hfr.trans (hfn2.trans hfK)⟩
      · have hge' : ¬ (i : Int) < (l'.length : Int) := by omega
        simp (implicitDefEqProofs := false) only [go_sem, hge']
        rw [List.take_of_length_le hge, List.take_of_length_le (by omega)] at ht
        exact ⟨by rw [eqB_true ht], hfr⟩
  · have hn' : ¬ (l.length : Int) = (l'.length : Int) := by omega
    simp (implicitDefEqProofs := false) only [go_sem, c60, hn']
    exact ⟨by rw [eqB_false (fun e => hn (by rw [e]))], Fr.refl _ _⟩

set_option maxHeartbeats 1000000 in
theorem eqfCertificate_ok {f : Nat} {t : Ty} (hw : wid t = 9) (hp : ∀ cs, argOf t cs = .agg cs.toArray) (hf : SOk f t) (l l' : List (den t)) {H : Heap} {a a' : Option Addr} {c c' : Nat} (h : Rep H [] (datT (.list t) l) [.slice a l.length c]) (h' : Rep H [] (datT (.list t) l') [.slice a' l'.length c']) (hl : l.length < 2^63) :
    HCalls Tryz.prog 110 #[.slice a l.length c, .slice a' l'.length c', .func (.func f) #[] #[]] H fun v H' => v = .bool (eqB l l') ∧ Fr [] H H' := by
  refine calls_of_vc (args := [_, _, _]) Tryz.func110 c110ok (Nat.le_of_ble_eq_true rfl) ?_
  by_cases hn : l.length = l'.length
  · have hn' : (l.length : Int) = (l'.length : Int) := by omega
    simp (implicitDefEqProofs := false) only [go_sem, c110, hn']
    refine vc_loop (fun (i : Nat) H' => i ≤ l.length ∧ l.take i = l'.take i ∧ Fr [] H H')
      (fun i => [(1, .slice a' l'.length c'), (2, .func (.func f) #[] #[]), (15, .slice a l.length c), (16, .int .i64 l'.length), (17, .int .i64 i)]) (fun i => l.length - i) 0 ?_ ?_ ?_
    · exact ⟨Nat.zero_le _, by simp, Fr.refl _ _⟩
    · simp (implicitDefEqProofs := false) only [go_sem]
    · rintro i H' ⟨hi, ht, hfr⟩
      rcases Nat.lt_or_ge i l.length with hlt | hge
      · have hlt2 : i < l'.length := by omega
        have hl1 : (i : Int) < (l.length : Int) := by omega
        have hl2 : (i : Int) < (l'.length : Int) := by omega
        have h0 : (0 : Int) ≤ (i : Int) := by omega
        have hw1 := succ_i64 i l.length hlt hl
        obtain ⟨b, o, cc, x, e1, _, hxl, hc, hx⟩ := rep_at (Rep.ext h hfr) i hlt
        cases e1
        obtain ⟨b', o', cc', x', e1', _, hxl', hc', hx'⟩ := rep_at (Rep.ext h' hfr) i hlt2
        cases e1'
        rw [hw] at hxl hc hxl' hc'
        obtain ⟨x0, x1, x2, x3, x4, x5, x6, x7, x8, rfl⟩ := len9 hxl
        obtain ⟨y0, y1, y2, y3, y4, y5, y6, y7, y8, rfl⟩ := len9 hxl'
        have p0 := hc 0 (by omega)
        have q0 := hc' 0 (by omega)
        have p1 := hc 1 (by omega)
        have q1 := hc' 1 (by omega)
        have p2 := hc 2 (by omega)
        have q2 := hc' 2 (by omega)
        have p3 := hc 3 (by omega)
        have q3 := hc' 3 (by omega)
        have p4 := hc 4 (by omega)
        have q4 := hc' 4 (by omega)
        have p5 := hc 5 (by omega)
        have q5 := hc' 5 (by omega)
        have p6 := hc 6 (by omega)
        have q6 := hc' 6 (by omega)
        have p7 := hc 7 (by omega)
        have q7 := hc' 7 (by omega)
        have p8 := hc 8 (by omega)
        have q8 := hc' 8 (by omega)
        simp only [Nat.add_zero, List.getElem?_cons_zero, List.getElem?_cons_succ, Nat.mul_one] at p0 q0 p1 q1 p2 q2 p3 q3 p4 q4 p5 q5 p6 q6 p7 q7 p8 q8
        simp (implicitDefEqProofs := false) only [go_sem, hl1, hl2, h0, p0, p1, p2, p3, p4, p5, p6, p7, p8]
        refine NewP_intro fun A hA hfA hsA => ?_
        simp (implicitDefEqProofs := false) only [go_sem]
        refine Sto_all hA rfl (rep_one hx) fun A2 hA2 hfA2 hsA2 => ?_
        have hfn := new_fr hfA hfA2
        replace q0 := cellB_fr q0 hfn (by simp)
        replace q1 := cellB_fr q1 hfn (by simp)
        replace q2 := cellB_fr q2 hfn (by simp)
        replace q3 := cellB_fr q3 hfn (by simp)
        replace q4 := cellB_fr q4 hfn (by simp)
        replace q5 := cellB_fr q5 hfn (by simp)
        replace q6 := cellB_fr q6 hfn (by simp)
        replace q7 := cellB_fr q7 hfn (by simp)
        replace q8 := cellB_fr q8 hfn (by simp)
        simp (implicitDefEqProofs := false) only [go_sem, hl2, h0, q0, q1, q2, q3, q4, q5, q6, q7, q8]
        refine NewP_intro fun B hB hfB hsB => ?_
        simp (implicitDefEqProofs := false) only [go_sem]
        refine Sto_all hB rfl (rep_one hx') fun B2 hB2 hfB2 hsB2 => ?_
        have hfn2 := hfn.trans (new_fr hfB hfB2)
        have hcA := ((hA2.ext hfB).fr hfB2 (by have := hA2.lt; simp; omega)).cell
        have hcB := hB2.cell
        simp (implicitDefEqProofs := false) only [go_sem, hcA, hcB]
        have hcall := hf.2 l[i] l'[i] (Rep.ext hx hfn2) (Rep.ext hx' hfn2)
        rw [hp, hp] at hcall
        refine ⟨hf.1, hcall.mono ?_⟩
        rintro v K ⟨rfl, hfK⟩
        by_cases he : l[i] = l'[i]
        · have he' : eqB l[i] l'[i] = true := eqB_true he
          simp (implicitDefEqProofs := false) only [go_sem, he']
          refine loopK_intro (i + 1) (by show l.length - (i + 1) < l.length - i; omega) ?_ ⟨hlt, take_eq_succ hlt hlt2 ht he, hfr.trans (hfn2.trans hfK)⟩
          simp (implicitDefEqProofs := false) only [go_sem, hw1]
        · have he' : eqB l[i] l'[i] = false := eqB_false he
          simp (implicitDefEqProofs := false) only [go_sem, he']
          exact ⟨by rw [eqB_false (take_ne hlt hlt2 he)], hfr.trans (hfn2.trans hfK)⟩
      · have hge' : ¬ (i : Int) < (l'.length : Int) := by omega
        simp (implicitDefEqProofs := false) only [go_sem, hge']
        rw [List.take_of_length_le hge, List.take_of_length_le (by omega)] at ht
        exact ⟨by rw [eqB_true ht], hfr⟩
  · have hn' : ¬ (l.length : Int) = (l'.length : Int) := by omega
    simp (implicitDefEqProofs := false) only [go_sem, c110, hn']
    exact ⟨by rw [eqB_false (fun e => hn (by rw [e]))], Fr.refl _ _⟩

set_option maxHeartbeats 1000000 in
theorem eqfWrite_ok {f : Nat} {t : Ty} (hw : wid t = 2) (hp : ∀ cs, argOf t cs = .agg cs.toArray) (hf : SOk f t) (l l' : List (den t)) {H : Heap} {a a' : Option Addr} {c c' : Nat} (h : Rep H [] (datT (.list t) l) [.slice a l.length c]) (h' : Rep H [] (datT (.list t) l') [.slice a' l'.length c']) (hl : l.length < 2^63) :
    HCalls Tryz.prog 112 #[.slice a l.length c, .slice a' l'.length c', .func (.func f) #[] #[]] H fun v H' => v = .bool (eqB l l') ∧ Fr [] H H' := by
  refine calls_of_vc (args := [_, _, _]) Tryz.func112 c112ok (Nat.le_of_ble_eq_true rfl) ?_
  by_cases hn : l.length = l'.length
  · have hn' : (l.length : Int) = (l'.length : Int) := by omega
    simp (implicitDefEqProofs := false) only [go_sem, c112, hn']
    refine vc_loop (fun (i : Nat) H' => i ≤ l.length ∧ l.take i = l'.take i ∧ Fr [] H H')
      (fun i => [(1, .slice a' l'.length c'), (2, .func (.func f) #[] #[]), (15, .slice a l.length c), (16, .int .i64 l'.length), (17, .int .i64 i)]) (fun i => l.length - i) 0 ?_ ?_ ?_
    · exact ⟨Nat.zero_le _, by simp, Fr.refl _ _⟩
    · simp (implicitDefEqProofs := false) only [go_sem]
    · rintro i H' ⟨hi, ht, hfr⟩
      rcases Nat.lt_or_ge i l.length with hlt | hge
      · have hlt2 : i < l'.length := by omega
        have hl1 : (i : Int) < (l.length : Int) := by omega
        have hl2 : (i : Int) < (l'.length : Int) := by omega
        have h0 : (0 : Int) ≤ (i : Int) := by omega
        have hw1 := succ_i64 i l.length hlt hl
        obtain ⟨b, o, cc, x, e1, _, hxl, hc, hx⟩ := rep_at (Rep.ext h hfr) i hlt
        cases e1
        obtain ⟨b', o', cc', x', e1', _, hxl', hc', hx'⟩ := rep_at (Rep.ext h' hfr) i hlt2
        cases e1'
        rw [hw] at hxl hc hxl' hc'
        obtain ⟨x0, x1, rfl⟩ := len2 hxl
        obtain ⟨y0, y1, rfl⟩ := len2 hxl'
        have p0 := hc 0 (by omega)
        have q0 := hc' 0 (by omega)
        have p1 := hc 1 (by omega)
        have q1 := hc' 1 (by omega)
        simp only [Nat.add_zero, List.getElem?_cons_zero, List.getElem?_cons_succ, Nat.mul_one] at p0 q0 p1 q1
        simp (implicitDefEqProofs := false) only [go_sem, hl1, hl2, h0, p0, p1]
        refine NewP_intro fun A hA hfA hsA => ?_
        simp (implicitDefEqProofs := false) only [go_sem]
        refine Sto_all hA rfl (rep_one hx) fun A2 hA2 hfA2 hsA2 => ?_
        have hfn := new_fr hfA hfA2
        replace q0 := cellB_fr q0 hfn (by simp)
        replace q1 := cellB_fr q1 hfn (by simp)
        simp (implicitDefEqProofs := false) only [go_sem, hl2, h0, q0, q1]
        refine NewP_intro fun B hB hfB hsB => ?_
        simp (implicitDefEqProofs := false) only [go_sem]
        refine Sto_all hB rfl (rep_one hx') fun B2 hB2 hfB2 hsB2 => ?_
        have hfn2 := hfn.trans (new_fr hfB hfB2)
        have hcA := ((hA2.ext hfB).fr hfB2 (by have := hA2.lt; simp; omega)).cell
        have hcB := hB2.cell
        simp (implicitDefEqProofs := false) only [go_sem, hcA, hcB]
        have hcall := hf.2 l[i] l'[i] (Rep.ext hx hfn2) (Rep.ext hx' hfn2)
        rw [hp, hp] at hcall
        refine ⟨hf.1, hcall.mono ?_⟩
        rintro v K ⟨rfl, hfK⟩
        by_cases he : l[i] = l'[i]
        · have he' : eqB l[i] l'[i] = true := eqB_true he
          simp (implicitDefEqProofs := false) only [go_sem, he']
          refine loopK_intro (i + 1) (by show l.length - (i + 1) < l.length - i; omega) ?_ ⟨hlt, take_eq_succ hlt hlt2 ht he, hfr.trans (hfn2.trans hfK)⟩
          simp (implicitDefEqProofs := false) only [go_sem, hw1]
        · have he' : eqB l[i] l'[i] = false := eqB_false he
          simp (implicitDefEqProofs := false) only [go_sem, he']
          exact ⟨by rw [eqB_false (take_ne hlt hlt2 he)], hfr.trans (hfn2.trans hfK)⟩
      · have hge' : ¬ (i : Int) < (l'.length : Int) := by omega
        simp (implicitDefEqProofs := false) only [go_sem, hge']
        rw [List.take_of_length_le hge, List.take_of_length_le (by omega)] at ht
        exact ⟨by rw [eqB_true ht], hfr⟩
  · have hn' : ¬ (l.length : Int) = (l'.length : Int) := by omega
    simp (implicitDefEqProofs := false) only [go_sem, c112, hn']
    exact ⟨by rw [eqB_false (fun e => hn (by rw [e]))], Fr.refl _ _⟩

set_option maxHeartbeats 1000000 in
theorem eqfBts_ok {f : Nat} {t : Ty} (hw : wid t = 1) (hp : ∀ v, argOf t [v] = v) (hf : SOk f t) (l l' : List (den t)) {H : Heap} {a a' : Option Addr} {c c' : Nat} (h : Rep H [] (datT (.list t) l) [.slice a l.length c]) (h' : Rep H [] (datT (.list t) l') [.slice a' l'.length c']) (hl : l.length < 2^63) :
    HCalls Tryz.prog 114 #[.slice a l.length c, .slice a' l'.length c', .func (.func f) #[] #[]] H fun v H' => v = .bool (eqB l l') ∧ Fr [] H H' := by
  refine calls_of_vc (args := [_, _, _]) Tryz.func114 c114ok (Nat.le_of_ble_eq_true rfl) ?_
  by_cases hn : l.length = l'.length
  · have hn' : (l.length : Int) = (l'.length : Int) := by omega
    simp (implicitDefEqProofs := false) only [go_sem, c114, hn']
    refine vc_loop (fun (i : Nat) H' => i ≤ l.length ∧ l.take i = l'.take i ∧ Fr [] H H')
      (fun i => [(1, .slice a' l'.length c'), (2, .func (.func f) #[] #[]), (15, .slice a l.length c), (16, .int .i64 l'.length), (17, .int .i64 i)]) (fun i => l.length - i) 0 ?_ ?_ ?_
    · exact ⟨Nat.zero_le _, by simp, Fr.refl _ _⟩
    · simp (implicitDefEqProofs := false) only [go_sem]
    · rintro i H' ⟨hi, ht, hfr⟩
      rcases Nat.lt_or_ge i l.length with hlt | hge
      · have hlt2 : i < l'.length := by omega
        have hl1 : (i : Int) < (l.length : Int) := by omega
        have hl2 : (i : Int) < (l'.length : Int) := by omega
        have h0 : (0 : Int) ≤ (i : Int) := by omega
        have hw1 := succ_i64 i l.length hlt hl
        obtain ⟨b, o, cc, x, e1, _, hxl, hc, hx⟩ := rep_at (Rep.ext h hfr) i hlt
        cases e1
        obtain ⟨b', o', cc', x', e1', _, hxl', hc', hx'⟩ := rep_at (Rep.ext h' hfr) i hlt2
        cases e1'
        rw [hw] at hxl hc hxl' hc'
        obtain ⟨x0, rfl⟩ := len1 hxl
        obtain ⟨y0, rfl⟩ := len1 hxl'
        have p0 := hc 0 (by omega)
        have q0 := hc' 0 (by omega)
        simp only [Nat.add_zero, List.getElem?_cons_zero, List.getElem?_cons_succ, Nat.mul_one] at p0 q0
        simp (implicitDefEqProofs := false) only [go_sem, hl1, hl2, h0, p0]
        simp (implicitDefEqProofs := false) only [go_sem, hl2, h0, q0]
        have hfn2 := Fr.refl [] H'
        have hcall := hf.2 l[i] l'[i] hx hx'
        rw [hp, hp] at hcall
        refine ⟨hf.1, hcall.mono ?_⟩
        rintro v K ⟨rfl, hfK⟩
        by_cases he : l[i] = l'[i]
        · have he' : eqB l[i] l'[i] = true := eqB_true he
          simp (implicitDefEqProofs := false) only [go_sem, he']
          refine loopK_intro (i + 1) (by show l.length - (i + 1) < l.length - i; omega) ?_ ⟨hlt, take_eq_succ hlt hlt2 ht he, hfr.trans (hfn2.trans hfK)⟩
          simp (implicitDefEqProofs := false) only [go_sem, hw1]
        · have he' : eqB l[i] l'[i] = false := eqB_false he
          simp (implicitDefEqProofs := false) only [go_sem, he']
          exact ⟨by rw [eqB_false (take_ne hlt hlt2 he)], hfr.trans (hfn2.trans hfK)⟩
      · have hge' : ¬ (i : Int) < (l'.length : Int) := by omega
        simp (implicitDefEqProofs := false) only [go_sem, hge']
        rw [List.take_of_length_le hge, List.take_of_length_le (by omega)] at ht
        exact ⟨by rw [eqB_true ht], hfr⟩
  · have hn' : ¬ (l.length : Int) = (l'.length : Int) := by omega
    simp (implicitDefEqProofs := false) only [go_sem, c114, hn']
    exact ⟨by rw [eqB_false (fun e => hn (by rw [e]))], Fr.refl _ _⟩

end Go.Proofs.YtdhlibkdcldioaaGreat
