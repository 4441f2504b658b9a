/- Maps of kinds; rows of trees; chains of operands: contracts. -/
import Derived.Test.YtbgjgaaobnbijaaDoorPb
set_option linter.unusedSimpArgs false
set_option linter.unusedVariables false
set_option maxRecDepth 8000
namespace Go.Proofs.YtbgjgaaobnbijaaDoor
open Gx Go

/-- A map from strings to numbers. -/
def MapH (H : Heap) (r : Nat) (l : Kd) : Prop := ∃ es c, H[r]? = some (.map es c) ∧ es.toList.map (fun e => (e.key, e.val)) = l.map fun p => (sv p.1, Value.int .i64 p.2)
theorem MapH.lt {H : Heap} {r : Nat} {l : Kd} (h : MapH H r l) : r < H.size := by
  obtain ⟨es, c, h1, _⟩ := h
  exact (Array.getElem?_eq_some_iff.1 h1).1
theorem MapH.fr {M : List Nat} {H H' : Heap} {r : Nat} {l : Kd} (h : MapH H r l) (hf : Fr M H H') (hr : r ∉ M) : MapH H' r l := by
  have hlt := h.lt
  obtain ⟨es, c, h1, h2⟩ := h
  exact ⟨es, c, by rw [hf.same r hlt hr]; exact h1, h2⟩
theorem MapH.ne {H : Heap} {r b t : Nat} {l : Kd} {cs : List Value} (h : MapH H r l) (hb : Blk H b t cs) : r ≠ b := by
  obtain ⟨es, c, h1, _⟩ := h
  rintro rfl
  unfold Blk at hb
  rw [h1] at hb
  simp at hb
theorem NewM_intro {H : Heap} {R : Value → Heap → Prop} (h : ∀ H', MapH H' H.size [] → Fr [] H H' → H'.size = H.size + 1 → R (.map (some H.size)) H') : NewM H R :=
  h _ ⟨#[], 0, by simp, rfl⟩ (fr_push _ _ _) (by simp)
theorem keys_of {es : List MapEntry} {l : Kd} (h : es.map (fun e => (e.key, e.val)) = l.map fun p => (sv p.1, Value.int .i64 p.2)) : ∀ x ∈ es, MapKept.IsKey .string x.key := by
  intro x hx
  have : (x.key, x.val) ∈ es.map fun e => (e.key, e.val) := List.mem_map.2 ⟨x, hx, rfl⟩
  rw [h] at this
  obtain ⟨p, _, hp⟩ := List.mem_map.1 this
  simp only [Prod.mk.injEq] at hp
  rw [← hp.1]; trivial
theorem find_of : ∀ {es : List MapEntry} {l : Kd} (s : Bs) (i : Nat), es.map (fun e => (e.key, e.val)) = (l.map fun p => (sv p.1, Value.int .i64 p.2)) →
    (l.lookup s = none ∧ Instr.findNow .string (sv s) es i = some none) ∨ ∃ n j, l.lookup s = some n ∧ Instr.findNow .string (sv s) es i = some (some (j, .int .i64 n))
  | [], [], s, i, _ => .inl ⟨rfl, rfl⟩
  | e :: es, p :: l, s, i, h => by
    simp only [List.map_cons, List.cons.injEq, Prod.mk.injEq] at h
    obtain ⟨⟨h1, h2⟩, h3⟩ := h
    have hs : Instr.sameNow .string (sv s) e.key = some (decide (s = p.1)) := by
      rw [h1]
      obtain ⟨b, hb, hiff⟩ := MapKept.sameNow_of_keys (d := .string) (a := sv s) (b := sv p.1) trivial trivial
      rw [hb]
      congr 1
      unfold sv at hiff
      simp only [Value.string.injEq, ba_eq] at hiff
      cases b <;> simp_all
    by_cases q : s = p.1
    · refine .inr ⟨p.2, i, ?_, ?_⟩
      · obtain ⟨a, b⟩ := p
        simp only at q; subst q
        simp [List.lookup]
      · simp only [Instr.findNow, hs, decide_eq_true q, h2]
    · have hl : (p :: l).lookup s = l.lookup s := by
        obtain ⟨a, b⟩ := p
        simp only at q
        have : (s == a) = false := by simpa using q
        simp [List.lookup, this]
      rw [hl]
      simp only [Instr.findNow, hs, decide_eq_false q]
      exact find_of s (i + 1) h3
  | [], _ :: _, _, _, h => by simp at h
  | _ :: _, [], _, _, h => by simp at h
theorem InsM_intro {H : Heap} {r : Nat} {l : Kd} {s : Bs} {n : Int} {R : Heap → Prop} (h : MapH H r l) (hs : l.lookup s = none) (hR : ∀ H', MapH H' r (l ++ [(s, n)]) → Fr [r] H H' → H'.size = H.size → R H') : InsM H r ⟨⟨s⟩⟩ (.int .i64 n) R := by
  have hlt := h.lt
  obtain ⟨es, c, h1, h2⟩ := h
  rcases find_of s 0 h2 with ⟨_, hf⟩ | ⟨_, _, q, _⟩
  · refine ⟨es, c, h1, hf, hR _ ⟨es.push ⟨.string ⟨⟨s⟩⟩, .int .i64 n, c⟩, c + 1, by simp [hlt], by simp [h2, sv]⟩ ⟨by simp, fun i hi hn => ?_⟩ (by simp)⟩
    have : r ≠ i := by simpa [eq_comm] using hn
    simp [this]
  · rw [hs] at q; cases q
theorem LkpM_intro {H : Heap} {r : Nat} {l : Kd} {s : Bs} {R : Value → Prop} (h : MapH H r l) (hR : R (.int .i64 (kdOf l s))) : LkpM H (.int .i64 0) r ⟨⟨s⟩⟩ R := by
  obtain ⟨es, c, h1, h2⟩ := h
  refine ⟨es, c, h1, ?_⟩
  rcases find_of s 0 h2 with ⟨q, hf⟩ | ⟨n, j, q, hf⟩
  · exact .inr ⟨hf, by simpa [kdOf, q] using hR⟩
  · exact .inl ⟨j, _, hf, by simpa [kdOf, q] using hR⟩

/-- A new row of trees. -/
theorem RepP.row {H : Heap} {B : Nat → Prop} {b t : Nat} {ks : List Nd} {css : List (List Value)} (hn : Blk H b t css.flatten) (hl : ∀ x ∈ css, x.length = 5) (hR : RepsP H B (ks.map Nd.dat) css) (hb : ¬ B b) (h63 : ks.length ≤ maxLen) :
    RepP H B (kidsD ks) [.slice (some ⟨b, 0, none⟩) ks.length ks.length] := fun M hM => by
  unfold kidsD
  simp only [Rep]
  refine ⟨_, ks.length, css, by simp, by simp, h63, hR M hM, hl, .inr ⟨b, 0, rfl, fun hm => hb (hM b hm), fun j hj => ?_⟩⟩
  rw [Nat.zero_add, hn.cell, List.getElem?_eq_getElem hj]
theorem RepP.row1 {H : Heap} {B : Nat → Prop} {b t : Nat} {x : Nd} {cx : List Value} (hn : Blk H b t cx) (hx : RepP H B x.dat cx) (hxl : cx.length = 5) (hb : ¬ B b) : RepP H B (kidsD [x]) [.slice (some ⟨b, 0, none⟩) 1 1] :=
  RepP.row (ks := [x]) (css := [cx]) (by simpa using hn) (by simpa using hxl) (RepsP.nil.cons hx) hb (show 1 ≤ maxLen by decide)
theorem RepP.row2 {H : Heap} {B : Nat → Prop} {b t : Nat} {x y : Nd} {cx cy : List Value} (hn : Blk H b t (cx ++ cy)) (hx : RepP H B x.dat cx) (hy : RepP H B y.dat cy) (hxl : cx.length = 5) (hyl : cy.length = 5) (hb : ¬ B b) : RepP H B (kidsD [x, y]) [.slice (some ⟨b, 0, none⟩) 2 2] :=
  RepP.row (ks := [x, y]) (css := [cx, cy]) (by simpa using hn) (by simp [hxl, hyl]) ((RepsP.nil.cons hy).cons hx) hb (show 2 ≤ maxLen by decide)
theorem RepP.row3 {H : Heap} {B : Nat → Prop} {b t : Nat} {x y z : Nd} {cx cy cz : List Value} (hn : Blk H b t (cx ++ (cy ++ cz))) (hx : RepP H B x.dat cx) (hy : RepP H B y.dat cy) (hz : RepP H B z.dat cz) (hxl : cx.length = 5) (hyl : cy.length = 5) (hzl : cz.length = 5) (hb : ¬ B b) : RepP H B (kidsD [x, y, z]) [.slice (some ⟨b, 0, none⟩) 3 3] :=
  RepP.row (ks := [x, y, z]) (css := [cx, cy, cz]) (by simpa using hn) (by simp [hxl, hyl, hzl]) (((RepsP.nil.cons hz).cons hy).cons hx) hb (show 3 ≤ maxLen by decide)
theorem nd_one {H : Heap} {B : Nat → Prop} {v : Value} {ks : List Nd} (h : RepP H B (kidsD ks) [v]) : v.oneCell' = true := by
  obtain ⟨a, c, rfl, _⟩ := RepP.elems h
  rfl

set_option maxHeartbeats 4000000 in
theorem chain_ok {k g : Nat} {op : PP Nd} {kd : Kd} (hg : hasBody Tryd.prog g = true) (hop : POk k g [] op NdR) (hdn : Dn op) {X : Cx} {H : Heap} {ts : List Tk} (hs : Ps X H ts k) {m : Nat} (hm : MapH H m kd) :
    PCalls Tryd.prog 56 #[ptr X.b, .func (.func g) #[ptr X.b] #[], .map (some m)] H (fun v H' => ∃ n r, chainP op kd ts = .ok (n, r) ∧ NdR n v H H' ∧ Ps X H' r k ∧ Fr [X.b] H H') fun ch H' => ∃ e, chainP op kd ts = .error e ∧ ch = flt e ∧ Fr [X.b] H H' := by
  refine pcalls_of_vc (args := [_, _, _]) Tryd.func56 c56ok (Nat.le_of_ble_eq_true rfl) ?_
  obtain ⟨i0, hb0, _⟩ := hs.ex
  have hmb := hm.ne hb0
  have hmlt := hm.lt
  have hblt := hs.lt
  simp (implicitDefEqProofs := false) only [go_sem, c56]
  refine NewP_intro fun H0 hn0 hf0 hs0 => ?_
  simp (implicitDefEqProofs := false) only [go_sem]
  refine ⟨hg, hop.use (hs.ext hf0) (fun e H' he hf => ⟨e, bd_err he, rfl, (fr1 hf0).trans hf⟩) fun n r v H1 he hv hs1 hf1 => ?_⟩
  obtain ⟨cs, rfl, hr1⟩ := hv
  obtain ⟨kk, tt, nn, aa, ks⟩ := n
  obtain ⟨kv, rfl, hkv⟩ := RepP.nd_open hr1
  have hF1 := (fr1 hf0).trans hf1
  simp (implicitDefEqProofs := false) only [go_sem]
  refine NewP_intro fun H2 hn2 hf2 hsz2 => ?_
  simp (implicitDefEqProofs := false) only [go_sem]
  refine Sto_all hn2 rfl (one_agg (nd_one hkv)) fun H3 hn3 hf3 hsz3 => ?_
  have hfn := new_fr hf2 hf3
  obtain ⟨bn, hbn⟩ : ∃ bn, bn = H1.size := ⟨_, rfl⟩
  rw [← hbn] at hn3 ⊢
  have hsz1 := hf1.size
  have hx0 : H.size ≠ X.b := by omega
  have hr3 := (hn0.fr hf1 (by simpa using hx0)).ext hfn
  simp (implicitDefEqProofs := false) only [go_sem]
  refine vc_loop (fun (s : Nd × List Tk × Value) H' => ∃ f, s.2.1.length ≤ f ∧ chainP op kd ts = chainF op kd f s.1 s.2.1 ∧ Ps X H' s.2.1 k ∧ Fr [X.b] H H' ∧ H3.size ≤ H'.size ∧ Blk H' H.size 24 [.int .i64 0, sv [], .int .i64 0, .int .i64 0, .slice none 0 0] ∧
      ∃ kk tt nn aa ks, s.1 = .mk kk tt nn aa ks ∧ Blk H' bn 24 [.int .i64 kk, sv tt, .int .i64 nn, .int .i64 aa, s.2.2] ∧ RepP H' (fun x => x < H0.size ∨ x = bn) (kidsD ks) [s.2.2])
    (fun s => [(0, ptr X.b), (1, .func (.func g) #[ptr X.b] #[]), (2, .map (some m)), (6, .pointer (some ⟨H.size, 0, none⟩)), (7, .pointer (some ⟨bn, 0, none⟩))]) (fun s => s.2.1.length) (.mk kk tt nn aa ks, r, kv) ?_ ?_ ?_
  · refine ⟨r.length, Nat.le_refl _, by unfold chainP; rw [bd_ok he], hs1.ext hfn, hF1.trans (fr1 hfn), Nat.le_refl _, hr3, kk, tt, nn, aa, ks, rfl, hn3, ?_⟩
    exact hkv.ext hfn fun x hx => by omega
  · simp (implicitDefEqProofs := false) only [go_sem]
  · rintro ⟨n, cur, kv⟩ H4 ⟨f, hf, hch, hs4, hF4, hz4, hr4, kk, tt, nn, aa, ks, rfl, hb4, hk4⟩
    simp only at hf hch hs4 hF4 hb4 hk4 ⊢
    have hsz3' := hf3.size
    have hcur := List.length_pos_iff.2 hs4.nil
    obtain ⟨f, rfl⟩ : ∃ f', f = f' + 1 := ⟨f - 1, by omega⟩
    simp (implicitDefEqProofs := false) only [go_sem]
    refine (look_ok hs4).mono ?_
    rintro v H5 ⟨rfl, hf5⟩
    simp (implicitDefEqProofs := false) only [go_sem, tkC]
    refine NewP_intro fun H6 hn6 hf6 hsz6 => ?_
    simp (implicitDefEqProofs := false) only [go_sem]
    refine Sto_all hn6 rfl (one4' (hd cur)) fun H7 hn7 hf7 hsz7 => ?_
    have hc7 := hn7.cell
    have hfn7 := hf5.trans (new_fr hf6 hf7)
    have hs7 := hs4.ext hfn7
    have hm7 := hm.fr (hF4.trans (fr1 hfn7)) (by simpa using hmb)
    simp (implicitDefEqProofs := false) only [go_sem, hc7, sv]
    refine LkpM_intro hm7 ?_
    have hb7 := hb4.ext hfn7
    have hr7 := hr4.ext hfn7
    have hk7 := hk4.ext hfn7 (B' := fun x => x < H0.size ∨ x = bn) fun x hx => .inl hx
    have hF7 := hF4.trans (fr1 hfn7)
    by_cases hz : kdOf kd (hd cur).text = 0
    · have hcb := hb7.cell
      simp (implicitDefEqProofs := false) only [go_sem, hz, hcb]
      refine Sto_all hr7 rfl (one_agg (nd_one hk7)) fun H8 hn8 hf8 hsz8 => ?_
      have hc8 := hn8.cell
      simp (implicitDefEqProofs := false) only [go_sem, hc8]
      refine ⟨.mk kk tt nn aa ks, cur, by rw [hch]; simp [chainF, opAt, hz], ⟨_, rfl, ?_⟩, Ps.on hs hs7 hf8 (by simp), hF7.trans' hf8 (by simp)⟩
      exact RepP.nd (RepP.fr hk7 hf8 (by simp; omega) fun x hx => by omega)
    · have hA := accept_ok hs7 (hd cur).text
      unfold sv at hA
      simp (implicitDefEqProofs := false) only [go_sem, hz, hc7, sv]
      refine hA.mono ?_
      rintro v H8 ⟨rfl, hs8, hf8⟩
      have hbx : bn ≠ X.b := by omega
      have h5x : H5.size ≠ X.b := by have := hf5.size; omega
      have hb8 := hb7.fr hf8 (by simpa using hbx)
      have hr8 := hr7.fr hf8 (by simpa using hx0)
      have hn8 := hn7.fr hf8 (by simpa using h5x)
      have hk8 := RepP.fr hk7 hf8 (B' := fun x => x < H0.size ∨ x = bn) (by simp; omega) fun x hx => .inl hx
      have hF8 := hF7.trans hf8
      have hcb := hb8.cell
      cases e : isB (hd cur).text cur with
      | false =>
        rw [e] at hs8
        simp (implicitDefEqProofs := false) only [go_sem, hcb]
        refine Sto_all hr8 rfl (one_agg (nd_one hk8)) fun H9 hn9 hf9 hsz9 => ?_
        have hc9 := hn9.cell
        simp (implicitDefEqProofs := false) only [go_sem, hc9]
        refine ⟨.mk kk tt nn aa ks, cur, by rw [hch]; simp [chainF, opAt, e], ⟨_, rfl, ?_⟩, Ps.on hs hs8 hf9 (by simp), hF8.trans' hf9 (by simp)⟩
        exact RepP.nd (RepP.fr hk8 hf9 (by simp; omega) fun x hx => by omega)
      | true =>
        rw [e, if_pos rfl] at hs8
        have hop' : opAt kd cur = true := by simp [opAt, e, hz]
        have hcn := hn8.cell
        simp (implicitDefEqProofs := false) only [go_sem, hcb, hcn]
        have hcF : chainF op kd (f + 1) (.mk kk tt nn aa ks) cur = bd op (fun m => chainF op kd f (.mk (kdOf kd (hd cur).text) [] 0 (hd cur).at_ [.mk kk tt nn aa ks, m])) cur.tail := by simp only [chainF, hop', if_true]
        refine ⟨hg, hop.use hs8 (fun e' H' he' hf' => ⟨e', by rw [hch, hcF]; exact bd_err he', rfl, hF8.trans hf'⟩) fun n' r' v H9 he' hv' hs9 hf9 => ?_⟩
        obtain ⟨cs', rfl, hr9'⟩ := hv'
        obtain ⟨k', t', n', a', ks'⟩ := n'
        obtain ⟨kv', rfl, hkv'⟩ := RepP.nd_open hr9'
        have hb9 := hb8.fr hf9 (by simpa using hbx)
        have hr9 := hr8.fr hf9 (by simpa using hx0)
        have hn9 := hn8.fr hf9 (by simpa using h5x)
        have hk9 := RepP.fr hk8 hf9 (B' := fun x => x < H0.size ∨ x = bn) (by simp; omega) fun x hx => .inl hx
        have hF9 := hF8.trans hf9
        have hcb9 := hb9.cell
        have hcn9 := hn9.cell
        have hz7 := hfn7.size
        have hz8 := hf8.size
        have hz9 := hf9.size
        simp (implicitDefEqProofs := false) only [go_sem, hcb9, hcn9]
        refine NewS_intro fun H10 hn10 hf10 hsz10 => ?_
        have hrow : RepP H10 (fun x => x < H0.size ∨ x = bn) (kidsD [.mk kk tt nn aa ks, .mk k' t' n' a' ks']) [.slice (some ⟨H9.size, 0, none⟩) 2 2] := by
          refine RepP.row2 (cx := [_, _, _, _, _]) (cy := [_, _, _, _, _]) hn10 (RepP.nd (RepP.ext hk9 hf10 fun x hx => .inl hx)) (RepP.ext hr9' hf10 fun x hx => .inl ?_) rfl rfl (by omega)
          omega
        have hcn10 := (hn9.ext hf10).cell
        simp (implicitDefEqProofs := false) only [go_sem, hcn10]
        refine Sto_all (hb9.ext hf10) rfl (one_agg (t := []) rfl) fun H11 hn11 hf11 hsz11 => ?_
        simp (implicitDefEqProofs := false) only [go_sem]
        have hle : r'.length ≤ f := by
          have h1 := hdn.of he'
          have h2 : cur.tail.length = cur.length - 1 := by simp
          omega
        refine loopK_intro (.mk (kdOf kd (hd cur).text) [] 0 (hd cur).at_ [.mk kk tt nn aa ks, .mk k' t' n' a' ks'], r', .slice (some ⟨H9.size, 0, none⟩) 2 2) ?_ ?_ ?_
        · show r'.length < cur.length
          have h1 := hdn.of he'
          have h2 : cur.tail.length = cur.length - 1 := by simp
          omega
        · simp (implicitDefEqProofs := false) only [go_sem]
        · refine ⟨f, hle, by rw [hch, hcF]; exact bd_ok he', Ps.on hs (hs9.ext hf10) hf11 (by simp; omega), (hF9.trans (fr1 hf10)).trans' hf11 (by simp; omega), by have := hf10.size; omega, (hr9.ext hf10).fr hf11 (by simp; omega), _, _, _, _, _, rfl, hn11, ?_⟩
          exact RepP.fr hrow hf11 (by simp) fun x hx => .inl hx
end Go.Proofs.YtbgjgaaobnbijaaDoor
