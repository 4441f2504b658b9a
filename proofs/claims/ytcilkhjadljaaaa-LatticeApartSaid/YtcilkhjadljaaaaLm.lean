/- The reading of lists of names and of trees: what is read. -/
import Derived.Test.YtcilkhjadljaaaaRo
import Derived.Test.YtcilkhjadljaaaaLh
set_option linter.unusedSimpArgs false
set_option linter.unusedVariables false
set_option maxRecDepth 8000
namespace Go.Proofs.Ytcilkhjadljaaaa
open Gx Go

theorem ES : ElemOk Try.prog 22 9 1 16 (.string ⟨⟨[]⟩⟩) := ⟨Try.underlying22, by kernel_rfl, rfl, by decide⟩
theorem EL : ElemOk Try.prog 23 26 6 96 (.agg #[.int .i64 0, .int .i64 0, .int .i64 0, .slice none 0 0, .slice none 0 0, .slice none 0 0]) := ⟨Try.underlying23, by kernel_rfl, rfl, by decide⟩
theorem ER : ElemOk Try.prog 24 50 2 40 (.agg #[.slice none 0 0, .string ⟨⟨[]⟩⟩]) := ⟨Try.underlying24, by kernel_rfl, rfl, by decide⟩

def textsO (L : Bs) : Nat → Pl → List Bs × Pl
  | 0, s => ([], s)
  | n + 1, s => ((bytesO L s).1 :: (textsO L n (bytesO L s).2).1, (textsO L n (bytesO L s).2).2)
def listO (L : Bs) (s : Pl) : List Bs × Pl := textsO L (countO L s).1 (countO L s).2

def partsO (f : Pl → Lt × Pl) (k6 : Bool) (L : Bs) : Nat → Pl → List Bs × List Lt × Pl
  | n + 1, some p =>
    let x := if k6 then bytesO L (some p) else ([], some p)
    let t := f x.2
    let r := partsO f k6 L n t.2
    (if k6 then x.1 :: r.1 else r.1, t.1 :: r.2.1, r.2.2)
  | _, s => ([], [], s)

def rulesO (L : Bs) : Nat → Pl → List Rl × Pl
  | 0, s => ([], s)
  | n + 1, s => match bytesO L (listO L s).2 with
    | (t, none) => ([⟨(listO L s).1, t⟩], none)
    | (t, some p) => (⟨(listO L s).1, t⟩ :: (rulesO L n (some p)).1, (rulesO L n (some p)).2)

structure Hd where
  lo : Int
  hi : Int
  names : List Bs
  n : Nat
  s : Pl
def headO (L : Bs) (k : Nat) (s : Pl) : Hd :=
  if k = 2 ∨ k = 3 then ⟨zag (uintO L s).1, zag (uintO L (uintO L s).2).1, [], 0, (uintO L (uintO L s).2).2⟩
  else if k = 4 ∨ k = 8 ∨ k = 10 then ⟨0, 0, (listO L s).1, 0, (listO L s).2⟩
  else if k = 5 then ⟨0, 0, (listO L s).1, 1, (listO L s).2⟩
  else if k = 7 then ⟨0, 0, [], 2, s⟩
  else if k = 6 then ⟨0, 0, [], (countO L s).1, (countO L s).2⟩
  else ⟨0, 0, [], 0, s⟩
def nodeO (L : Bs) (f : Pl → Lt × Pl) (k : Nat) (s : Pl) : Lt × Pl :=
  let h := headO L k s
  let p := partsO f (k == 6) L h.n h.s
  if k = 10 then (.mk k h.lo h.hi (h.names ++ p.1) p.2.1 (rulesO L (countO L p.2.2).1 (countO L p.2.2).2).1, (rulesO L (countO L p.2.2).1 (countO L p.2.2).2).2)
  else (.mk k h.lo h.hi (h.names ++ p.1) p.2.1 [], p.2.2)
def rT (L : Bs) : Nat → Pl → Lt × Pl
  | 0, _ => (Lt.zero, none)
  | lv + 1, s => if 10 < (uintO L s).1 then (Lt.zero, none) else nodeO L (rT L lv) (uintO L s).1 (uintO L s).2

theorem lsO_disj {H : Heap} {B B' : Nat → Prop} {e e' m m' : Nat} {v v' : Value} {ds ds' : List Dat} {g g' : Option Nat} (h : LsO H B e m v ds g) (h' : LsO H B' e' m' v' ds' g') (ht : e ≠ e') : ∀ b, g = some b → g' ≠ some b := by
  intro b hb hb'
  subst hb; subst hb'
  obtain ⟨css, h1, _⟩ := h'
  exact h.ne' h1 ht rfl
theorem lt_repP {H : Heap} {B : Nat → Prop} {k lo hi : Int} {ns : List Bs} {ps : List Lt} {rs : List Rl} {vn vp vr : Value} (h1 : RepP H B (strsD ns) [vn]) (h2 : RepP H B (partsD ps) [vp]) (h3 : RepP H B (rulesD rs) [vr]) :
    RepP H B (Lt.mk k lo hi ns ps rs).dat [.int .i64 k, .int .i64 lo, .int .i64 hi, vn, vp, vr] := fun M hM => LtA.mk (l := .mk k lo hi ns ps rs) (h1 M hM) (h2 M hM) (h3 M hM)

theorem textsO_len (L : Bs) : ∀ (n : Nat) (s : Pl), (textsO L n s).1.length = n
  | 0, _ => rfl
  | n + 1, s => by simp [textsO, textsO_len L n]

set_option maxHeartbeats 2000000 in
theorem readList_ok {H : Heap} {b : Nat} {L : Bs} {s : Pl} {g : Option Nat} (h : RdO H b L s g) :
    HCalls Try.prog 65 #[.pointer (some ⟨b, 0, none⟩)] H fun r H' => ∃ g', LsO H' (fun x => x < H.size) 9 1 r ((listO L s).1.map strD) g' ∧ (∀ k, g' = some k → H.size ≤ k) ∧ RdO H' b L (listO L s).2 g ∧ Fr [b] H H' := by
  refine calls_of_vc (args := [_]) Try.func65 c65ok (Nat.le_of_ble_eq_true rfl) ?_
  have hn := countO_le L s
  have hL := h.len
  have hb := h.lt
  unfold listO
  obtain ⟨n, hnn⟩ : ∃ n, n = (countO L s).1 := ⟨_, rfl⟩
  obtain ⟨s1, hs1⟩ : ∃ s1, s1 = (countO L s).2 := ⟨_, rfl⟩
  simp (implicitDefEqProofs := false) only [go_sem, c65]
  refine (rcount_o h).mono ?_
  rw [← hnn] at hn
  rw [← hnn, ← hs1]
  rintro r H1 ⟨rfl, h1, hf1⟩
  simp (implicitDefEqProofs := false) only [go_sem]
  refine vc_loop (fun (x : Nat × List Bs × Pl × Value × Option Nat) H' => x.1 ≤ n ∧ x.2.1.length = x.1 ∧ LsO H' (fun y => y < H.size) 9 1 x.2.2.2.1 (x.2.1.map strD) x.2.2.2.2 ∧ (∀ k, x.2.2.2.2 = some k → H.size ≤ k) ∧ RdO H' b L x.2.2.1 g ∧ Fr [b] H H' ∧
      (x.2.1 ++ (textsO L (n - x.1) x.2.2.1).1, (textsO L (n - x.1) x.2.2.1).2) = textsO L n s1)
    (fun x => [(0, .pointer (some ⟨b, 0, none⟩)), (3, x.2.2.2.1), (5, .int .i64 n), (6, .int .i64 x.1)]) (fun x => n - x.1) (0, [], s1, .slice none 0 0, none) ?_ ?_ ?_
  · exact ⟨Nat.zero_le _, rfl, LsO.nil, by simp, h1, hf1, by simp⟩
  · simp (implicitDefEqProofs := false) only [go_sem]
  · rintro ⟨i, done, s', v, g'⟩ H' ⟨hi, hd, hl, hg, hr, hF, he⟩
    simp only at hi hd hl hg hr hF he ⊢
    have hsz := hF.size
    rcases Nat.lt_or_ge i n with hlt | hge
    · have hlt' : (i : Int) < (n : Int) := by omega
      have hw := succ_i64 i n hlt (by unfold maxLen; omega)
      simp (implicitDefEqProofs := false) only [go_sem, hlt']
      refine (rtext_o hr).mono ?_
      rintro r H2 ⟨rfl, hr2, hf2⟩
      have hl2 := hl.fr (B' := fun y => y < H.size) hf2 (by simp; omega) (fun k hk => by have := hg k hk; simp; omega) (fun x hx => .inl hx)
      simp (implicitDefEqProofs := false) only [go_sem]
      refine NewS_intro fun H3 hn3 hf3 hs3 => ?_
      have hl3 := hl2.ext (B' := fun y => y < H.size) hf3 (fun x hx => .inl hx)
      have hdm : (done.map strD).length = i := by simpa using hd
      simp (implicitDefEqProofs := false) only [go_sem]
      refine App_ls ES hl3 Try.underlying22 hn3 rfl (by simp [Value.oneCell']) (RepP.v _) rfl (by unfold maxLen; omega) (by omega) fun a c H4 g4 hl4 hf4 hg4 => ?_
      simp (implicitDefEqProofs := false) only [go_sem]
      have hgs : ∀ k, g = some k → k < H.size := fun k hk => h.ltg hk
      have hnew : ∀ x ∈ g'.toList, H.size ≤ x := fun x hx => hg x (by simpa using hx)
      refine loopK_intro (i + 1, done ++ [(bytesO L s').1], (bytesO L s').2, .slice a ((done.map strD).length + 1) c, g4) (by show n - (i + 1) < n - i; omega) ?_ ⟨hlt, by simp [hd], ?_, ?_, ?_, ?_, ?_⟩
      · simp (implicitDefEqProofs := false) only [go_sem, hw]
      · simpa [strD, sv] using hl4
      · intro k hk
        rcases hg4 k hk with q | q
        · exact hg k q
        · have := hf2.size; have := hf3.size; omega
      · exact (hr2.ext hf3).fr hf4 (fun hm => by have := hnew b hm; omega) (fun k hk hm => by have := hnew k hm; have := hgs k hk; omega)
      · exact ((hF.trans hf2).trans (hf3.mono (by simp))).trans' hf4 fun x hx => .inr (hnew x hx)
      · rw [← he, show n - i = (n - (i + 1)) + 1 by omega]
        simp [textsO]
    · have hge' : ¬ (i : Int) < (n : Int) := by omega
      simp (implicitDefEqProofs := false) only [go_sem, hge']
      have e : n - i = 0 := by omega
      rw [e] at he
      simp only [textsO, List.append_nil] at he
      rw [← he]
      exact ⟨g', hl, hg, hr, hF⟩
end Go.Proofs.Ytcilkhjadljaaaa
