/- The reading of a tree: contract. -/
import Derived.Test.YtcilkhjadljaaaaLm
set_option linter.unusedSimpArgs false
set_option linter.unusedVariables false
set_option maxRecDepth 8000
namespace Go.Proofs.Ytcilkhjadljaaaa
open Gx Go

/-- What stands behind the head: the local tree, at a block X; all that is written later lies above. -/
structure HdS (H : Heap) (b : Nat) (L : Bs) (g : Option Nat) (H' : Heap) (X : Nat) (k : Nat) (h : Hd) (vn : Value) (gn : Option Nat) : Prop where
  blk : Blk H' X 26 [.int .i64 k, .int .i64 h.lo, .int .i64 h.hi, vn, .slice none 0 0, .slice none 0 0]
  cell : Blk H' H.size 26 [.int .i64 0, .int .i64 0, .int .i64 0, .slice none 0 0, .slice none 0 0, .slice none 0 0]
  names : LsO H' (fun x => x ≤ X) 9 1 vn (h.names.map strD) gn
  above : ∀ y, gn = some y → X < y
  rd : RdO H' b L h.s g
  fr : Fr [b] H H'

theorem partsO_none (f : Pl → Lt × Pl) (k6 : Bool) (L : Bs) (n : Nat) : partsO f k6 L n none = ([], [], none) := by cases n <;> rfl
theorem partsO_zero (f : Pl → Lt × Pl) (k6 : Bool) (L : Bs) (s : Pl) : partsO f k6 L 0 s = ([], [], s) := by cases s <;> rfl
theorem partsO_six (f : Pl → Lt × Pl) (L : Bs) (n p : Nat) : partsO f true L (n + 1) (some p) =
    ((bytesO L (some p)).1 :: (partsO f true L n (f (bytesO L (some p)).2).2).1, (f (bytesO L (some p)).2).1 :: (partsO f true L n (f (bytesO L (some p)).2).2).2.1, (partsO f true L n (f (bytesO L (some p)).2).2).2.2) := by
  simp only [partsO, if_true]
theorem partsO_else (f : Pl → Lt × Pl) (L : Bs) (n p : Nat) : partsO f false L (n + 1) (some p) =
    ((partsO f false L n (f (some p)).2).1, (f (some p)).1 :: (partsO f false L n (f (some p)).2).2.1, (partsO f false L n (f (some p)).2).2.2) := by
  simp only [partsO, Bool.false_eq_true, if_false]
theorem headO_n (L : Bs) (k : Nat) (s : Pl) : (headO L k s).n ≤ L.length + 2 := by
  have := countO_le L s
  unfold headO
  repeat' split
  all_goals (simp only; omega)

/-- What holds at the head of each round over the parts. -/
structure PtS (H : Heap) (b : Nat) (L : Bs) (g : Option Nat) (f : Pl → Lt × Pl) (X k : Nat) (hd : Hd) (H' : Heap) (i : Nat) (nd : List Bs) (pd : List Lt) (vn : Value) (gn : Option Nat) (vp : Value) (gp : Option Nat) (s' : Pl) : Prop where
  le : i ≤ hd.n
  npd : pd.length = i
  nnd : nd.length ≤ i
  blk : Blk H' X 26 [.int .i64 k, .int .i64 hd.lo, .int .i64 hd.hi, vn, vp, .slice none 0 0]
  cell : Blk H' H.size 26 [.int .i64 0, .int .i64 0, .int .i64 0, .slice none 0 0, .slice none 0 0, .slice none 0 0]
  names : LsO H' (fun x => x ≤ X ∨ gp = some x) 9 1 vn ((hd.names ++ nd).map strD) gn
  parts : LsO H' (fun x => x ≤ X ∨ gn = some x) 26 6 vp (pd.map Lt.dat) gp
  an : ∀ y, gn = some y → X < y
  ap : ∀ y, gp = some y → X < y
  rd : RdO H' b L s' g
  fr : Fr [b] H H'
  eq : (nd ++ (partsO f (k == 6) L (hd.n - i) s').1, pd ++ (partsO f (k == 6) L (hd.n - i) s').2.1, (partsO f (k == 6) L (hd.n - i) s').2.2) = partsO f (k == 6) L hd.n hd.s

/-- What holds at the head of each round over the rules. -/
structure RuS (H : Heap) (b : Nat) (L : Bs) (g : Option Nat) (X k : Nat) (hd : Hd) (H7 : Heap) (n : Nat) (vn vp : Value) (H' : Heap) (i : Nat) (rd : List Rl) (vr : Value) (gr : Option Nat) (s' : Pl) (ns : List Bs) (ps : List Lt) : Prop where
  le : i ≤ n
  len : rd.length = i
  blk : Blk H' X 26 [.int .i64 k, .int .i64 hd.lo, .int .i64 hd.hi, vn, vp, vr]
  cell : Blk H' H.size 26 [.int .i64 0, .int .i64 0, .int .i64 0, .slice none 0 0, .slice none 0 0, .slice none 0 0]
  names : RepP H' (fun y => y ≤ X ∨ H7.size ≤ y) (strsD ns) [vn]
  parts : RepP H' (fun y => y ≤ X ∨ H7.size ≤ y) (partsD ps) [vp]
  rules : LsO H' (fun y => y ≤ X) 50 2 vr (rd.map ruleD) gr
  ar : ∀ y, gr = some y → H7.size ≤ y ∧ X < y
  rd : RdO H' b L s' g
  fr : Fr [b] H H'
  up : H7.size ≤ H'.size

set_option maxHeartbeats 8000000 in
theorem read_ok (L : Bs) : ∀ (lv : Nat) {H : Heap} {b : Nat} {s : Pl} {g : Option Nat}, lv ≤ 6 → RdO H b L s g →
    HCalls Try.prog 42 #[.pointer (some ⟨b, 0, none⟩), .int .i64 lv] H fun r H' => ∃ cs, r = .agg cs.toArray ∧ RepP H' (fun x => x < H.size) (rT L lv s).1.dat cs ∧ RdO H' b L (rT L lv s).2 g ∧ Fr [b] H H' := by
  intro lv
  induction lv with
  | zero =>
    intro H b s g hlv h
    have hbl := h.lt
    refine calls_of_vc (args := [_, _]) Try.func42 c42ok (Nat.le_of_ble_eq_true rfl) ?_
    simp (implicitDefEqProofs := false) only [go_sem, c42]
    refine NewP_intro fun H1 hn1 hf1 hs1 => ?_
    simp (implicitDefEqProofs := false) only [go_sem]
    refine (ruint_o (h.ext hf1)).mono ?_
    rintro r H2 ⟨rfl, hr2, hf2⟩
    have e0 : ((0 : Nat) : Int) = 0 := rfl
    simp (implicitDefEqProofs := false) only [go_sem, e0]
    refine (rfail_o hr2).mono ?_
    rintro r H3 ⟨rfl, hr3, hf3⟩
    have hn3 := (hn1.fr hf2 (by simp; omega)).fr hf3 (by simp; omega)
    have hF : Fr [b] H H3 := ((hf1.mono (by simp)).trans hf2).trans hf3
    simp (implicitDefEqProofs := false) only [go_sem]
    refine Sto_all hn3 rfl (by simp [Value.oneCell']) fun H4 hn4 hf4 hs4 => ?_
    have hc4 := hn4.cell
    simp (implicitDefEqProofs := false) only [go_sem, hc4]
    refine ⟨_, rfl, fun M _ => zeroA _ _, hr3.fr hf4 (by simp; omega) (fun k hk => by have := h.ltg hk; simp; omega), hF.trans' hf4 (by simp)⟩
  | succ lv ih =>
    intro H b s g hlv h
    have hbl := h.lt
    have hgl : ∀ k, g = some k → k < H.size := fun k hk => h.ltg hk
    have hL := h.len
    refine calls_of_vc (args := [_, _]) Try.func42 c42ok (Nat.le_of_ble_eq_true rfl) ?_
    simp (implicitDefEqProofs := false) only [go_sem, c42]
    refine NewP_intro fun H1 hn1 hf1 hs1 => ?_
    simp (implicitDefEqProofs := false) only [go_sem]
    refine (ruint_o (h.ext hf1)).mono ?_
    rintro r H2 ⟨rfl, hr2, hf2⟩
    have hn2 := hn1.fr hf2 (by simp; omega)
    have hF2 : Fr [b] H H2 := (hf1.mono (by simp)).trans hf2
    have e0 : ¬ (((lv + 1 : Nat) : Int) = 0) := by omega
    unfold rT
    obtain ⟨k, hk⟩ : ∃ k, k = (uintO L s).1 := ⟨_, rfl⟩
    obtain ⟨s1, hs1⟩ : ∃ s1, s1 = (uintO L s).2 := ⟨_, rfl⟩
    rw [← hs1] at hr2
    rw [← hk, ← hs1]
    by_cases hk10 : 10 < k
    · have hk10' : (10 : Int) < (k : Int) := by omega
      simp (implicitDefEqProofs := false) only [go_sem, e0, hk10']
      refine (rfail_o hr2).mono ?_
      rintro r H3 ⟨rfl, hr3, hf3⟩
      have hn3 := hn2.fr hf3 (by simp; omega)
      have hF : Fr [b] H H3 := hF2.trans hf3
      simp (implicitDefEqProofs := false) only [go_sem]
      refine Sto_all hn3 rfl (by simp [Value.oneCell']) fun H4 hn4 hf4 hs4 => ?_
      have hc4 := hn4.cell
      simp (implicitDefEqProofs := false) only [go_sem, hc4]
      rw [if_pos hk10]
      refine ⟨_, rfl, fun M _ => zeroA _ _, hr3.fr hf4 (by simp; omega) (fun k hk => by have := h.ltg hk; simp; omega), hF.trans' hf4 (by simp)⟩
    have hk10' : ¬ (10 : Int) < (k : Int) := by omega
    have hwk : IntKind.i64.wrap (k : Int) = (k : Int) := wrap_i64_id _ (by omega) (by omega)
    rw [if_neg hk10]
    simp (implicitDefEqProofs := false) only [go_sem, e0, hk10', hwk]
    refine NewP_intro fun H3 hn3 hf3 hs3 => ?_
    simp (implicitDefEqProofs := false) only [go_sem]
    refine Sto_all hn3 rfl (by simp [Value.oneCell']) fun H4 hn4 hf4 hs4 => ?_
    have hc4 := hn4.cell
    have hfn := new_fr hf3 hf4
    have hr4 := hr2.ext hfn
    have hcl4 := hn2.ext hfn
    have hF4 : Fr [b] H H4 := hF2.trans (hfn.mono (by simp))
    have hX : H.size < H2.size := by have := hF2.size; have := hcl4.lt; have := hn2.lt; omega
    simp (implicitDefEqProofs := false) only [go_sem, hc4]
    refine vc_mid (fun σ H' => ∃ x10 x11 x12 x13 x14 vn gn, σ = [some (.pointer (some ⟨b, 0, none⟩)), some (.int .i64 (lv + 1 : Nat)), some (.pointer (some ⟨H.size, 0, none⟩)), some (.int .u64 k), some (.pointer (some ⟨H2.size, 0, none⟩)), some (.int .i64 (headO L k s1).n), some undef, some undef, some (.bool false), some (.int .i64 k), x10, x11, x12, x13, x14, some undef, some undef, some undef, some undef, some undef, some undef, some undef] ∧
      HdS H b L g H' H2.size k (headO L k s1) vn gn) ?_ ?_
    · intro K hK
      have hk11 : k = 0 ∨ k = 1 ∨ k = 2 ∨ k = 3 ∨ k = 4 ∨ k = 5 ∨ k = 6 ∨ k = 7 ∨ k = 8 ∨ k = 9 ∨ k = 10 := by omega
      clear hk hwk hk10 hk10'
      rcases hk11 with rfl | rfl | rfl | rfl | rfl | rfl | rfl | rfl | rfl | rfl | rfl
      · -- k = 0
        simp (implicitDefEqProofs := false) only [go_sem, c42s40eq]
        exact hK _ _ ⟨_, _, _, _, _, _, none, rfl, ⟨hn4, hcl4, LsO.nil, by simp, hr4, hF4⟩⟩
      · -- k = 1
        simp (implicitDefEqProofs := false) only [go_sem, c42s40eq]
        exact hK _ _ ⟨_, _, _, _, _, _, none, rfl, ⟨hn4, hcl4, LsO.nil, by simp, hr4, hF4⟩⟩
      · -- k = 2
        simp (implicitDefEqProofs := false) only [go_sem, c42s40eq]
        refine (rint_o hr4).mono ?_
        rintro r H5 ⟨rfl, hr5, hf5⟩
        have hb5 := hn4.fr hf5 (by simp; omega)
        have hc5 := hcl4.fr hf5 (by simp; omega)
        simp (implicitDefEqProofs := false) only [go_sem]
        refine Sto_one hb5 (by simp) rfl fun H6 hb6 hf6 hs6 => ?_
        have hr6 := hr5.fr hf6 (by simp; omega) (fun y hy => by have := hgl y hy; simp; omega)
        have hc6 := hc5.fr hf6 (by simp; omega)
        have hF6 := (hF4.trans hf5).trans' hf6 (by simp; omega)
        simp (implicitDefEqProofs := false) only [go_sem]
        refine (rint_o hr6).mono ?_
        rintro r H7 ⟨rfl, hr7, hf7⟩
        have hb7 := hb6.fr hf7 (by simp; omega)
        have hc7 := hc6.fr hf7 (by simp; omega)
        simp (implicitDefEqProofs := false) only [go_sem]
        refine Sto_one hb7 (by simp) rfl fun H8 hb8 hf8 hs8 => ?_
        have hr8 := hr7.fr hf8 (by simp; omega) (fun y hy => by have := hgl y hy; simp; omega)
        have hc8 := hc7.fr hf8 (by simp; omega)
        have hF8 := (hF6.trans hf7).trans' hf8 (by simp; omega)
        simp (implicitDefEqProofs := false) only [go_sem]
        exact hK _ _ ⟨_, _, _, _, _, _, none, rfl, ⟨by simpa [headO] using hb8, hc8, LsO.nil, by simp, hr8, hF8⟩⟩
      · -- k = 3
        simp (implicitDefEqProofs := false) only [go_sem, c42s40eq]
        refine (rint_o hr4).mono ?_
        rintro r H5 ⟨rfl, hr5, hf5⟩
        have hb5 := hn4.fr hf5 (by simp; omega)
        have hc5 := hcl4.fr hf5 (by simp; omega)
        simp (implicitDefEqProofs := false) only [go_sem]
        refine Sto_one hb5 (by simp) rfl fun H6 hb6 hf6 hs6 => ?_
        have hr6 := hr5.fr hf6 (by simp; omega) (fun y hy => by have := hgl y hy; simp; omega)
        have hc6 := hc5.fr hf6 (by simp; omega)
        have hF6 := (hF4.trans hf5).trans' hf6 (by simp; omega)
        simp (implicitDefEqProofs := false) only [go_sem]
        refine (rint_o hr6).mono ?_
        rintro r H7 ⟨rfl, hr7, hf7⟩
        have hb7 := hb6.fr hf7 (by simp; omega)
        have hc7 := hc6.fr hf7 (by simp; omega)
        simp (implicitDefEqProofs := false) only [go_sem]
        refine Sto_one hb7 (by simp) rfl fun H8 hb8 hf8 hs8 => ?_
        have hr8 := hr7.fr hf8 (by simp; omega) (fun y hy => by have := hgl y hy; simp; omega)
        have hc8 := hc7.fr hf8 (by simp; omega)
        have hF8 := (hF6.trans hf7).trans' hf8 (by simp; omega)
        simp (implicitDefEqProofs := false) only [go_sem]
        exact hK _ _ ⟨_, _, _, _, _, _, none, rfl, ⟨by simpa [headO] using hb8, hc8, LsO.nil, by simp, hr8, hF8⟩⟩
      · -- k = 4
        simp (implicitDefEqProofs := false) only [go_sem, c42s40eq]
        refine (readList_ok hr4).mono ?_
        rintro r H5 ⟨gn, hl5, hg5, hr5, hf5⟩
        have hs4' := hn4.lt
        have hb5 := hn4.fr hf5 (by simp; omega)
        have hc5 := hcl4.fr hf5 (by simp; omega)
        have hone := hl5.one
        obtain ⟨ra, rc, rfl, _, _⟩ := hl5.slice
        simp (implicitDefEqProofs := false) only [go_sem]
        refine Sto_one hb5 (by simp) hone fun H6 hb6 hf6 hs6 => ?_
        have hr6 := hr5.fr hf6 (by simp; omega) (fun y hy => by have := hgl y hy; simp; omega)
        have hc6 := hc5.fr hf6 (by simp; omega)
        have hF6 := (hF4.trans hf5).trans' hf6 (by simp; omega)
        have hl6 := hl5.fr (B' := fun y => y ≤ H2.size) hf6 (by simp; omega) (fun y hy => by have := hg5 y hy; simp; omega) (fun y hy => .inl (by omega))
        simp (implicitDefEqProofs := false) only [go_sem]
        exact hK _ _ ⟨_, _, _, _, _, _, gn, rfl, ⟨by simpa [headO] using hb6, hc6, hl6, fun y hy => by have := hg5 y hy; omega, hr6, hF6⟩⟩
      · -- k = 5
        simp (implicitDefEqProofs := false) only [go_sem, c42s40eq]
        refine (readList_ok hr4).mono ?_
        rintro r H5 ⟨gn, hl5, hg5, hr5, hf5⟩
        have hs4' := hn4.lt
        have hb5 := hn4.fr hf5 (by simp; omega)
        have hc5 := hcl4.fr hf5 (by simp; omega)
        have hone := hl5.one
        obtain ⟨ra, rc, rfl, _, _⟩ := hl5.slice
        simp (implicitDefEqProofs := false) only [go_sem]
        refine Sto_one hb5 (by simp) hone fun H6 hb6 hf6 hs6 => ?_
        have hr6 := hr5.fr hf6 (by simp; omega) (fun y hy => by have := hgl y hy; simp; omega)
        have hc6 := hc5.fr hf6 (by simp; omega)
        have hF6 := (hF4.trans hf5).trans' hf6 (by simp; omega)
        have hl6 := hl5.fr (B' := fun y => y ≤ H2.size) hf6 (by simp; omega) (fun y hy => by have := hg5 y hy; simp; omega) (fun y hy => .inl (by omega))
        simp (implicitDefEqProofs := false) only [go_sem]
        exact hK _ _ ⟨_, _, _, _, _, _, gn, rfl, ⟨by simpa [headO] using hb6, hc6, hl6, fun y hy => by have := hg5 y hy; omega, hr6, hF6⟩⟩
      · -- k = 6
        simp (implicitDefEqProofs := false) only [go_sem, c42s40eq]
        refine (rcount_o hr4).mono ?_
        rintro r H5 ⟨rfl, hr5, hf5⟩
        have hb5 := hn4.fr hf5 (by simp; omega)
        have hc5 := hcl4.fr hf5 (by simp; omega)
        simp (implicitDefEqProofs := false) only [go_sem]
        exact hK _ _ ⟨_, _, _, _, _, _, none, rfl, ⟨hb5, hc5, LsO.nil, by simp, hr5, hF4.trans hf5⟩⟩
      · -- k = 7
        simp (implicitDefEqProofs := false) only [go_sem, c42s40eq]
        exact hK _ _ ⟨_, _, _, _, _, _, none, rfl, ⟨hn4, hcl4, LsO.nil, by simp, hr4, hF4⟩⟩
      · -- k = 8
        simp (implicitDefEqProofs := false) only [go_sem, c42s40eq]
        refine (readList_ok hr4).mono ?_
        rintro r H5 ⟨gn, hl5, hg5, hr5, hf5⟩
        have hs4' := hn4.lt
        have hb5 := hn4.fr hf5 (by simp; omega)
        have hc5 := hcl4.fr hf5 (by simp; omega)
        have hone := hl5.one
        obtain ⟨ra, rc, rfl, _, _⟩ := hl5.slice
        simp (implicitDefEqProofs := false) only [go_sem]
        refine Sto_one hb5 (by simp) hone fun H6 hb6 hf6 hs6 => ?_
        have hr6 := hr5.fr hf6 (by simp; omega) (fun y hy => by have := hgl y hy; simp; omega)
        have hc6 := hc5.fr hf6 (by simp; omega)
        have hF6 := (hF4.trans hf5).trans' hf6 (by simp; omega)
        have hl6 := hl5.fr (B' := fun y => y ≤ H2.size) hf6 (by simp; omega) (fun y hy => by have := hg5 y hy; simp; omega) (fun y hy => .inl (by omega))
        simp (implicitDefEqProofs := false) only [go_sem]
        exact hK _ _ ⟨_, _, _, _, _, _, gn, rfl, ⟨by simpa [headO] using hb6, hc6, hl6, fun y hy => by have := hg5 y hy; omega, hr6, hF6⟩⟩
      · -- k = 9
        simp (implicitDefEqProofs := false) only [go_sem, c42s40eq]
        exact hK _ _ ⟨_, _, _, _, _, _, none, rfl, ⟨hn4, hcl4, LsO.nil, by simp, hr4, hF4⟩⟩
      · -- k = 10
        simp (implicitDefEqProofs := false) only [go_sem, c42s40eq]
        refine (readList_ok hr4).mono ?_
        rintro r H5 ⟨gn, hl5, hg5, hr5, hf5⟩
        have hs4' := hn4.lt
        have hb5 := hn4.fr hf5 (by simp; omega)
        have hc5 := hcl4.fr hf5 (by simp; omega)
        have hone := hl5.one
        obtain ⟨ra, rc, rfl, _, _⟩ := hl5.slice
        simp (implicitDefEqProofs := false) only [go_sem]
        refine Sto_one hb5 (by simp) hone fun H6 hb6 hf6 hs6 => ?_
        have hr6 := hr5.fr hf6 (by simp; omega) (fun y hy => by have := hgl y hy; simp; omega)
        have hc6 := hc5.fr hf6 (by simp; omega)
        have hF6 := (hF4.trans hf5).trans' hf6 (by simp; omega)
        have hl6 := hl5.fr (B' := fun y => y ≤ H2.size) hf6 (by simp; omega) (fun y hy => by have := hg5 y hy; simp; omega) (fun y hy => .inl (by omega))
        simp (implicitDefEqProofs := false) only [go_sem]
        exact hK _ _ ⟨_, _, _, _, _, _, gn, rfl, ⟨by simpa [headO] using hb6, hc6, hl6, fun y hy => by have := hg5 y hy; omega, hr6, hF6⟩⟩
    · rintro σ H5 ⟨x10, x11, x12, x13, x14, vn, gn, rfl, hS⟩
      clear hc4 hfn hr4 hcl4 hF4 hn4 hf4 hn3 hf3 hs3 hs4 hr2 hn2 hF2 hf2 hn1 hf1
      have hnb := headO_n L k s1
      have hd6 : k = 6 → (headO L k s1).names = [] := by rintro rfl; rfl
      obtain ⟨X, hXe⟩ : ∃ X, X = H2.size := ⟨_, rfl⟩
      rw [← hXe] at hX hS ⊢
      unfold nodeO
      obtain ⟨hd, hhd⟩ : ∃ hd, hd = headO L k s1 := ⟨_, rfl⟩
      rw [← hhd] at hnb hd6 hS ⊢
      have hXb : ¬ X ≤ b ∧ X ≠ b := by omega
      simp only
      simp (implicitDefEqProofs := false) only [go_sem]
      refine vc_mid (fun σ H' => ∃ a1 a3 a5 a6 a7 a8 a9 a10 a11 a12 a13 a14 a15 a16 a17 a18 a19 a20 a21, σ = [some (.pointer (some ⟨b, 0, none⟩)), a1, some (.pointer (some ⟨H.size, 0, none⟩)), a3, some (.pointer (some ⟨X, 0, none⟩)), a5, a6, a7, a8, a9, a10, a11, a12, a13, a14, a15, a16, a17, a18, a19, a20, a21] ∧ ∃ i nd pd vn gn vp gp s', PtS H b L g (rT L lv) X k hd H' i nd pd vn gn vp gp s' ∧ (nd, pd, s') = partsO (rT L lv) (k == 6) L hd.n hd.s) ?_ ?_
      · intro K hK
        simp (implicitDefEqProofs := false) only [go_sem, c42s53eq]
        refine vc_loop (fun (x : Nat × List Bs × List Lt × Value × Option Nat × Value × Option Nat × Pl) H' => PtS H b L g (rT L lv) X k hd H' x.1 x.2.1 x.2.2.1 x.2.2.2.1 x.2.2.2.2.1 x.2.2.2.2.2.1 x.2.2.2.2.2.2.1 x.2.2.2.2.2.2.2)
          (fun x => [(0, .pointer (some ⟨b, 0, none⟩)), (1, .int .i64 (lv + 1 : Nat)), (4, .pointer (some ⟨H.size, 0, none⟩)), (6, .pointer (some ⟨X, 0, none⟩)), (7, .int .i64 hd.n), (8, .int .i64 x.1)]) (fun x => hd.n - x.1) (0, [], [], vn, gn, .slice none 0 0, none, hd.s) ?_ ?_ ?_
        · exact ⟨Nat.zero_le _, rfl, Nat.le_refl _, hS.blk, hS.cell, by simpa using hS.names.ext (Fr.refl _ _) (B' := fun x => x ≤ X ∨ (none : Option Nat) = some x) (fun y hy => .inl (by simpa using hy)), LsO.nil, hS.above, by simp, hS.rd, hS.fr, by simp⟩
        · simp (implicitDefEqProofs := false) only [go_sem]
        · rintro ⟨i, nd, pd, vn, gn, vp, gp, s'⟩ H' hP
          simp only at hP ⊢
          have hbX := hP.blk.lt
          have hHs := hP.fr.size
          have hx := hP.blk.cell
          rcases Nat.lt_or_ge i hd.n with hlt | hge
          · have hlt' : (i : Int) < (hd.n : Int) := by omega
            have hw := succ_i64 i hd.n hlt (by unfold maxLen; omega)
            have hwl : IntKind.i64.wrap (((lv + 1 : Nat) : Int) - 1) = (lv : Int) := by rw [wrap_i64_id _ (by omega) (by omega)]; omega
            simp (implicitDefEqProofs := false) only [go_sem, hlt']
            refine (rerr_o hP.rd).mono ?_
            rintro r H6 ⟨rfl, hEq⟩
            obtain rfl := hEq.symm
            cases s' with
            | none =>
              have hq := hP.eq
              rw [partsO_none] at hq
              simp only [List.append_nil] at hq
              simp (implicitDefEqProofs := false) only [go_sem]
              exact hK _ _ ⟨_, _, _, _, _, _, _, _, _, _, _, _, _, _, _, _, _, _, _, rfl, i, nd, pd, vn, gn, vp, gp, none, hP, hq⟩
            | some p =>
              have e1 : hd.n - i = (hd.n - (i + 1)) + 1 := by omega
              have hEq := hP.eq
              rw [e1] at hEq
              by_cases k6 : k = 6
              · have k6' : (k : Int) = 6 := by omega
                have kb : (k == 6) = true := by simp [k6]
                have hn0 := hd6 k6
                rw [kb, partsO_six] at hEq
                have hnl : (hd.names ++ nd).length ≤ i := by rw [hn0]; exact hP.nnd
                simp (implicitDefEqProofs := false) only [go_sem, hx, k6']
                refine (rtext_o hP.rd).mono ?_
                rintro r H7 ⟨rfl, hr7, hf7⟩
                have hb7 := hP.blk.fr hf7 (by simp; omega)
                have hc7 := hP.cell.fr hf7 (by simp; omega)
                have hN7 := hP.names.fr (B' := fun x => x ≤ X ∨ gp = some x) hf7 (by simp; omega) (fun y hy => by have := hP.an y hy; simp; omega) (fun y hy => .inl hy)
                have hP7 := hP.parts.fr (B' := fun x => x ≤ X ∨ gn = some x) hf7 (by simp; omega) (fun y hy => by have := hP.ap y hy; simp; omega) (fun y hy => .inl hy)
                simp (implicitDefEqProofs := false) only [go_sem, hb7.cell]
                refine NewS_intro fun H8 hn8 hf8 hs8 => ?_
                have hb8 := hb7.ext hf8
                have hc8 := hc7.ext hf8
                have hN8 := hN7.ext (B' := fun x => x ≤ X ∨ gp = some x) hf8 (fun y hy => .inl hy)
                have hP8 := hP7.ext (B' := fun x => x ≤ X ∨ gn = some x) hf8 (fun y hy => .inl hy)
                simp (implicitDefEqProofs := false) only [go_sem, hb8.cell]
                refine App_ls ES hN8 Try.underlying22 hn8 rfl (by simp [Value.oneCell']) (RepP.v _) rfl (by rw [List.length_map]; unfold maxLen; omega) (by rw [List.length_map]; omega) fun a c H9 gn9 hN9 hf9 hg9 => ?_
                have hgN : ∀ x ∈ gn.toList, X < x := fun x hx => hP.an x (by simpa using hx)
                have hb9 := hb8.fr hf9 (fun hm => by have := hgN X hm; omega)
                have hc9 := hc8.fr hf9 (fun hm => by have := hgN H.size hm; omega)
                have hP9 := hP8.fr (B' := fun x => x ≤ X ∨ gn9 = some x) hf9 (fun y hy => .inl (.inr (by simpa using hy))) (fun y hy hm => lsO_disj hP8 hN8 (by decide) y hy (by simpa using hm)) (fun y hy => by
                  rcases hy with hy | hy
                  · exact .inl (.inl hy)
                  · exact (hg9 y hy).imp .inr id)
                simp (implicitDefEqProofs := false) only [go_sem]
                refine Sto_one hb9 (by simp) rfl fun H10 hb10 hf10 hs10 => ?_
                have han : ∀ y, gn9 = some y → X < y := fun y hy => by
                  have := hf7.size; have := hf8.size
                  rcases hg9 y hy with q | q
                  · exact hP.an y q
                  · omega
                have hc10 := hc9.fr hf10 (by simp; omega)
                have hN10 := hN9.fr (B' := fun x => x ≤ X ∨ gp = some x) hf10 (by simp) (fun y hy => by have := han y hy; simp; omega) (fun y hy => .inl hy)
                have hP10 := hP9.fr (B' := fun x => x ≤ X ∨ gn9 = some x) hf10 (by simp) (fun y hy => by have := hP.ap y hy; simp; omega) (fun y hy => .inl hy)
                have hr10 := ((hr7.ext hf8).fr hf9 (fun hm => by have := hgN b hm; omega) (fun y hy hm => by have := hgN y hm; have := hgl y hy; omega)).fr hf10 (by simp; omega) (fun y hy => by have := hgl y hy; simp; omega)
                have hF10 := (((hP.fr.trans hf7).trans (hf8.mono (by simp))).trans' hf9 (fun x hx => .inr (by have := hgN x hx; omega))).trans' hf10 (by simp; omega)
                have hN10' : LsO H10 (fun x => x ≤ X ∨ gp = some x) 9 1 (.slice a ((List.map strD (hd.names ++ nd)).length + 1) c) ((hd.names ++ (nd ++ [(bytesO L (some p)).1])).map strD) gn9 := by
                  have e : (hd.names ++ (nd ++ [(bytesO L (some p)).1])).map strD = (hd.names ++ nd).map strD ++ [strD (bytesO L (some p)).1] := by simp
                  rw [e]; exact hN10
                have hb10' : Blk H10 X 26 [.int .i64 k, .int .i64 hd.lo, .int .i64 hd.hi, .slice a ((List.map strD (hd.names ++ nd)).length + 1) c, vp, .slice none 0 0] := by simpa using hb10
                simp (implicitDefEqProofs := false) only [go_sem, hb10'.cell, hwl]
                refine (ih (by omega) hr10).mono ?_
                rintro r HB ⟨cs, rfl, hd1, hrB, hfB⟩
                obtain ⟨wn, wp, wr, rfl, _, _, _⟩ := LtA.open hd1.rep
                have hsA := hF10.size
                have hXA := hb10'.lt
                have hbB := hb10'.fr hfB (by simp; omega)
                have hcB := hc10.fr hfB (by simp; omega)
                have hNB := hN10'.fr (B' := fun x => x ≤ X ∨ gp = some x) hfB (by simp; omega) (fun y hy => by have := han y hy; simp; omega) (fun y hy => .inl hy)
                have hPB := hP10.fr (B' := fun x => x ≤ X ∨ gn9 = some x) hfB (by simp; omega) (fun y hy => by have := hP.ap y hy; simp; omega) (fun y hy => .inl hy)
                simp (implicitDefEqProofs := false) only [go_sem, hbB.cell]
                refine NewS_intro fun HC hnC hfC hsC => ?_
                have hbC := hbB.ext hfC
                have hcC := hcB.ext hfC
                have hNC := hNB.ext (B' := fun x => x ≤ X ∨ gp = some x) hfC (fun y hy => .inl hy)
                have hPC := hPB.ext (B' := fun x => x ≤ X ∨ gn9 = some x) hfC (fun y hy => .inl hy)
                have hdC : RepP HC (fun y => (y ≤ X ∨ gn9 = some y) ∨ gp = some y) (rT L lv (bytesO L (some p)).2).1.dat [.int .i64 (rT L lv (bytesO L (some p)).2).1.kind, .int .i64 (rT L lv (bytesO L (some p)).2).1.lo, .int .i64 (rT L lv (bytesO L (some p)).2).1.hi, wn, wp, wr] := hd1.ext hfC (by
                  rintro y ((hy | hy) | hy)
                  · exact .inl (by omega)
                  · exact .inl (hN10'.lt hy)
                  · exact .inl (hP10.lt hy))
                have hpl : (pd.map Lt.dat).length = i := by simpa using hP.npd
                simp (implicitDefEqProofs := false) only [go_sem, hbC.cell]
                refine App_ls EL hPC Try.underlying23 hnC rfl (LtA.one6 hd1.rep) hdC rfl (by unfold maxLen; omega) (by omega) fun a1 c1 HD gpD hPD hfD hgD => ?_
                have hbD := hbC.fr hfD (fun hm => by have := hP.ap X (by simpa using hm); omega)
                have hcD := hcC.fr hfD (fun hm => by have := hP.ap H.size (by simpa using hm); omega)
                have hND := hNC.fr (B' := fun x => x ≤ X ∨ gpD = some x) hfD (fun y hy => .inl (.inr (by simpa using hy))) (fun y hy hm => lsO_disj hNC hPC (by decide) y hy (by simpa using hm)) (fun y hy => by
                  rcases hy with hy | hy
                  · exact .inl (.inl hy)
                  · exact (hgD y hy).imp .inr id)
                simp (implicitDefEqProofs := false) only [go_sem]
                refine Sto_one hbD (by simp) rfl fun HE hbE hfE hsE => ?_
                have hcE := hcD.fr hfE (by simp; omega)
                have hNE := hND.fr (B' := fun x => x ≤ X ∨ gpD = some x) hfE (by simp) (fun y hy => by have := han y hy; simp; omega) (fun y hy => .inl hy)
                have hapD : ∀ y, gpD = some y → X < y := fun y hy => by
                  have := hfB.size; have := hfC.size
                  rcases hgD y hy with q | q
                  · exact hP.ap y q
                  · omega
                have hPE := hPD.fr (B' := fun x => x ≤ X ∨ gn9 = some x) hfE (by simp) (fun y hy => by have := hapD y hy; simp; omega) (fun y hy => .inl hy)
                have hgX : ∀ x ∈ gp.toList, X < x := fun x hx => hP.ap x (by simpa using hx)
                have hrE := ((hrB.ext hfC).fr hfD (fun hm => by have := hgX b hm; omega) (fun y hy hm => by have := hgX y hm; have := hgl y hy; omega)).fr hfE (by simp; omega) (fun y hy => by have := hgl y hy; simp; omega)
                have hFE := ((((hF10).trans hfB).trans (hfC.mono (by simp))).trans' hfD (fun x hx => .inr (by have := hgX x hx; omega))).trans' hfE (by simp; omega)
                simp (implicitDefEqProofs := false) only [go_sem]
                refine loopK_intro (i + 1, nd ++ [(bytesO L (some p)).1], pd ++ [(rT L lv (bytesO L (some p)).2).1], .slice a ((List.map strD (hd.names ++ nd)).length + 1) c, gn9, .slice a1 ((pd.map Lt.dat).length + 1) c1, gpD, (rT L lv (bytesO L (some p)).2).2) (by show hd.n - (i + 1) < hd.n - i; omega) ?_ ⟨hlt, by simp [hP.npd], by have := hP.nnd; simp; omega, by simpa using hbE, hcE, hNE, by simpa using hPE, han, hapD, hrE, hFE, ?_⟩
                · simp (implicitDefEqProofs := false) only [go_sem, hw]
                · simp only [kb]; rw [← hEq]; simp
              · have k6' : ¬ (k : Int) = 6 := by omega
                have kb : (k == 6) = false := by simp [k6]
                rw [kb, partsO_else] at hEq
                simp (implicitDefEqProofs := false) only [go_sem, hP.blk.cell, hwl, k6']
                refine (ih (by omega) hP.rd).mono ?_
                rintro r HB ⟨cs, rfl, hd1, hrB, hfB⟩
                obtain ⟨wn, wp, wr, rfl, _, _, _⟩ := LtA.open hd1.rep
                have hsA := hP.fr.size
                have hXA := hP.blk.lt
                have hbB := hP.blk.fr hfB (by simp; omega)
                have hcB := hP.cell.fr hfB (by simp; omega)
                have hNB := hP.names.fr (B' := fun x => x ≤ X ∨ gp = some x) hfB (by simp; omega) (fun y hy => by have := hP.an y hy; simp; omega) (fun y hy => .inl hy)
                have hPB := hP.parts.fr (B' := fun x => x ≤ X ∨ gn = some x) hfB (by simp; omega) (fun y hy => by have := hP.ap y hy; simp; omega) (fun y hy => .inl hy)
                simp (implicitDefEqProofs := false) only [go_sem, hbB.cell]
                refine NewS_intro fun HC hnC hfC hsC => ?_
                have hbC := hbB.ext hfC
                have hcC := hcB.ext hfC
                have hNC := hNB.ext (B' := fun x => x ≤ X ∨ gp = some x) hfC (fun y hy => .inl hy)
                have hPC := hPB.ext (B' := fun x => x ≤ X ∨ gn = some x) hfC (fun y hy => .inl hy)
                have hdC : RepP HC (fun y => (y ≤ X ∨ gn = some y) ∨ gp = some y) (rT L lv (some p)).1.dat [.int .i64 (rT L lv (some p)).1.kind, .int .i64 (rT L lv (some p)).1.lo, .int .i64 (rT L lv (some p)).1.hi, wn, wp, wr] := hd1.ext hfC (by
                  rintro y ((hy | hy) | hy)
                  · exact .inl (by omega)
                  · exact .inl (hP.names.lt hy)
                  · exact .inl (hP.parts.lt hy))
                have hpl : (pd.map Lt.dat).length = i := by simpa using hP.npd
                simp (implicitDefEqProofs := false) only [go_sem, hbC.cell]
                refine App_ls EL hPC Try.underlying23 hnC rfl (LtA.one6 hd1.rep) hdC rfl (by unfold maxLen; omega) (by omega) fun a1 c1 HD gpD hPD hfD hgD => ?_
                have hbD := hbC.fr hfD (fun hm => by have := hP.ap X (by simpa using hm); omega)
                have hcD := hcC.fr hfD (fun hm => by have := hP.ap H.size (by simpa using hm); omega)
                have hND := hNC.fr (B' := fun x => x ≤ X ∨ gpD = some x) hfD (fun y hy => .inl (.inr (by simpa using hy))) (fun y hy hm => lsO_disj hNC hPC (by decide) y hy (by simpa using hm)) (fun y hy => by
                  rcases hy with hy | hy
                  · exact .inl (.inl hy)
                  · exact (hgD y hy).imp .inr id)
                simp (implicitDefEqProofs := false) only [go_sem]
                refine Sto_one hbD (by simp) rfl fun HE hbE hfE hsE => ?_
                have hcE := hcD.fr hfE (by simp; omega)
                have hNE := hND.fr (B' := fun x => x ≤ X ∨ gpD = some x) hfE (by simp) (fun y hy => by have := hP.an y hy; simp; omega) (fun y hy => .inl hy)
                have hapD : ∀ y, gpD = some y → X < y := fun y hy => by
                  have := hfB.size; have := hfC.size
                  rcases hgD y hy with q | q
                  · exact hP.ap y q
                  · omega
                have hPE := hPD.fr (B' := fun x => x ≤ X ∨ gn = some x) hfE (by simp) (fun y hy => by have := hapD y hy; simp; omega) (fun y hy => .inl hy)
                have hgX : ∀ x ∈ gp.toList, X < x := fun x hx => hP.ap x (by simpa using hx)
                have hrE := ((hrB.ext hfC).fr hfD (fun hm => by have := hgX b hm; omega) (fun y hy hm => by have := hgX y hm; have := hgl y hy; omega)).fr hfE (by simp; omega) (fun y hy => by have := hgl y hy; simp; omega)
                have hFE := ((((hP.fr).trans hfB).trans (hfC.mono (by simp))).trans' hfD (fun x hx => .inr (by have := hgX x hx; omega))).trans' hfE (by simp; omega)
                simp (implicitDefEqProofs := false) only [go_sem]
                refine loopK_intro (i + 1, nd, pd ++ [(rT L lv (some p)).1], vn, gn, .slice a1 ((pd.map Lt.dat).length + 1) c1, gpD, (rT L lv (some p)).2) (by show hd.n - (i + 1) < hd.n - i; omega) ?_ ⟨hlt, by simp [hP.npd], by have := hP.nnd; show nd.length ≤ i + 1; omega, by simpa using hbE, hcE, hNE, by simpa using hPE, hP.an, hapD, hrE, hFE, ?_⟩
                · simp (implicitDefEqProofs := false) only [go_sem, hw]
                · simp only [kb]; rw [← hEq]; simp
          · have hge' : ¬ (i : Int) < (hd.n : Int) := by omega
            have hq := hP.eq
            rw [show hd.n - i = 0 by omega, partsO_zero] at hq
            simp only [List.append_nil] at hq
            simp (implicitDefEqProofs := false) only [go_sem, hge']
            exact hK _ _ ⟨_, _, _, _, _, _, _, _, _, _, _, _, _, _, _, _, _, _, _, rfl, i, nd, pd, vn, gn, vp, gp, s', hP, hq⟩
      · rintro σ H6 ⟨a1, a3, a5, a6, a7, a8, a9, a10, a11, a12, a13, a14, a15, a16, a17, a18, a19, a20, a21, rfl, i, nd, pd, vn, gn, vp, gp, s', hP, hE⟩
        rw [← hE]
        have hx := hP.blk.cell
        have hXs := hP.blk.lt
        have hN : LsO H6 (fun x => x ≤ X) 9 1 vn ((hd.names ++ nd).map strD) gn := hP.names.ext (Fr.refl _ _) (fun y hy => .inl (.inl hy))
        have hP' : LsO H6 (fun x => x ≤ X) 26 6 vp (pd.map Lt.dat) gp := hP.parts.ext (Fr.refl _ _) (fun y hy => .inl (.inl hy))
        have rN := hN.rep (fun y hy => by have := hP.an y hy; omega)
        have rP := hP'.rep (fun y hy => by have := hP.ap y hy; omega)
        have oN := hN.one
        have oP := hP'.one
        by_cases k10 : k = 10
        case neg =>
          have k10' : ¬ (k : Int) = 10 := by omega
          rw [if_neg k10]
          simp (implicitDefEqProofs := false) only [go_sem, hx, k10']
          refine Sto_all hP.cell rfl (one6 oN oP rfl) fun H7 hn7 hf7 hs7 => ?_
          have hc7 := hn7.cell
          simp (implicitDefEqProofs := false) only [go_sem, hc7]
          exact ⟨_, rfl, lt_repP (rN.fr hf7 (by simp; omega) (fun y hy => .inl (by omega))) (rP.fr hf7 (by simp; omega) (fun y hy => .inl (by omega))) (RepP.nil 2), hP.rd.fr hf7 (by simp; omega) (fun y hy => by have := hgl y hy; simp; omega), hP.fr.trans' hf7 (by simp)⟩
        have k10' : (k : Int) = 10 := by omega
        rw [if_pos k10]
        simp (implicitDefEqProofs := false) only [go_sem, hx, k10']
        refine (rcount_o hP.rd).mono ?_
        rintro r H7 ⟨rfl, hr7, hf7⟩
        have hn := countO_le L s'
        obtain ⟨n, hnn⟩ : ∃ n, n = (countO L s').1 := ⟨_, rfl⟩
        obtain ⟨s2, hs2⟩ : ∃ s2, s2 = (countO L s').2 := ⟨_, rfl⟩
        rw [← hnn] at hn ⊢
        rw [← hs2] at hr7 ⊢
        have hb7 := hP.blk.fr hf7 (by simp; omega)
        have hc7 := hP.cell.fr hf7 (by simp; omega)
        have hsz7 := hf7.size
        have hrN7 := rN.fr (B' := fun y => y ≤ X ∨ H7.size ≤ y) hf7 (by simp; omega) (fun y hy => hy.imp id (by omega))
        have hrP7 := rP.fr (B' := fun y => y ≤ X ∨ H7.size ≤ y) hf7 (by simp; omega) (fun y hy => hy.imp id (by omega))
        have hF7 := hP.fr.trans hf7
        simp (implicitDefEqProofs := false) only [go_sem]
        refine vc_mid (fun σ H' => ∃ a1 a3 a5 a6 a7 a8 a9 a10 a11 a12 a13 a14 a15 a16 a17 a18 a19 a20 a21, σ = [some (.pointer (some ⟨b, 0, none⟩)), a1, some (.pointer (some ⟨H.size, 0, none⟩)), a3, some (.pointer (some ⟨X, 0, none⟩)), a5, a6, a7, a8, a9, a10, a11, a12, a13, a14, a15, a16, a17, a18, a19, a20, a21] ∧ ∃ i rd vr gr s', RuS H b L g X k hd H7 n vn vp H' i rd vr gr s' (hd.names ++ nd) pd ∧ (rd, s') = rulesO L n s2) ?_ ?_
        · intro K hK
          simp (implicitDefEqProofs := false) only [go_sem, c42s73eq]
          refine vc_loop (fun (x : Nat × List Rl × Value × Option Nat × Pl) H' => RuS H b L g X k hd H7 n vn vp H' x.1 x.2.1 x.2.2.1 x.2.2.2.1 x.2.2.2.2 (hd.names ++ nd) pd ∧ (x.2.1 ++ (rulesO L (n - x.1) x.2.2.2.2).1, (rulesO L (n - x.1) x.2.2.2.2).2) = rulesO L n s2)
            (fun x => [(0, .pointer (some ⟨b, 0, none⟩)), (4, .pointer (some ⟨H.size, 0, none⟩)), (6, .pointer (some ⟨X, 0, none⟩)), (87, .int .i64 n), (88, .int .i64 x.1)]) (fun x => n - x.1) (0, [], .slice none 0 0, none, s2) ?_ ?_ ?_
          · exact ⟨⟨Nat.zero_le _, rfl, hb7, hc7, hrN7, hrP7, LsO.nil, by simp, hr7, hF7, Nat.le_refl _⟩, by simp⟩
          · simp (implicitDefEqProofs := false) only [go_sem]
          · rintro ⟨i, rd, vr, gr, s'⟩ H' ⟨hR, hE'⟩
            simp only at hR hE' ⊢
            have hbX := hR.blk.lt
            have hHs := hR.fr.size
            have hx := hR.blk.cell
            have hS7 := hR.up
            rcases Nat.lt_or_ge i n with hlt | hge
            · have hlt' : (i : Int) < (n : Int) := by omega
              have hw := succ_i64 i n hlt (by unfold maxLen; omega)
              have e1 : n - i = (n - (i + 1)) + 1 := by omega
              rw [e1] at hE'
              simp (implicitDefEqProofs := false) only [go_sem, hlt']
              refine (readList_ok hR.rd).mono ?_
              rintro r H8 ⟨gi, hl8, hg8, hr8, hf8⟩
              obtain ⟨ia, ic, rfl, _, _⟩ := hl8.slice
              have hs8 := hf8.size
              have rI := hl8.rep (fun y hy => by have := hg8 y hy; omega)
              have hb8 := hR.blk.fr hf8 (by simp; omega)
              have hc8 := hR.cell.fr hf8 (by simp; omega)
              have hN8 := hR.names.fr (B' := fun y => y ≤ X ∨ H7.size ≤ y) hf8 (by simp; omega) (fun y hy => .inl hy)
              have hP8 := hR.parts.fr (B' := fun y => y ≤ X ∨ H7.size ≤ y) hf8 (by simp; omega) (fun y hy => .inl hy)
              have hL8 := hR.rules.fr (B' := fun y => y ≤ X) hf8 (by simp; omega) (fun y hy => by have := hR.ar y hy; simp; omega) (fun y hy => .inl hy)
              simp (implicitDefEqProofs := false) only [go_sem]
              refine NewP_intro fun H9 hn9 hf9 hs9 => ?_
              simp (implicitDefEqProofs := false) only [go_sem]
              refine Sto_all hn9 rfl (one2 rfl rfl) fun H10 hn10 hf10 hs10 => ?_
              have hf910 := new_fr hf9 hf10
              have hr10 := hr8.ext hf910
              obtain ⟨tx, s3, hbx⟩ : ∃ tx s3, bytesO L (listO L s').2 = (tx, s3) := ⟨_, _, rfl⟩
              simp (implicitDefEqProofs := false) only [go_sem]
              refine (rtext_o hr10).mono ?_
              rw [hbx]
              rintro r H11 ⟨rfl, hr11, hf11⟩
              simp only at hr11
              have hs910 := hf910.size
              have hn10l := hn10.lt
              have hn11 := hn10.fr hf11 (by simp; omega)
              simp (implicitDefEqProofs := false) only [go_sem]
              refine Sto_one hn11 (by simp) rfl fun H12 hn12 hf12 hs12 => ?_
              have hs11 := hf11.size
              have hr12 := hr11.fr hf12 (by simp; omega) (fun y hy => by have := hgl y hy; simp; omega)
              have hb12 := ((hb8.ext hf910).fr hf11 (by simp; omega)).fr hf12 (by simp; omega)
              have hc12 := ((hc8.ext hf910).fr hf11 (by simp; omega)).fr hf12 (by simp; omega)
              have hN12 := ((hN8.ext (B' := fun y => y ≤ X ∨ H7.size ≤ y) hf910 (fun y hy => .inl hy)).fr (B' := fun y => y ≤ X ∨ H7.size ≤ y) hf11 (by simp; omega) (fun y hy => .inl hy)).fr (B' := fun y => y ≤ X ∨ H7.size ≤ y) hf12 (by simp; omega) (fun y hy => .inl hy)
              have hP12 := ((hP8.ext (B' := fun y => y ≤ X ∨ H7.size ≤ y) hf910 (fun y hy => .inl hy)).fr (B' := fun y => y ≤ X ∨ H7.size ≤ y) hf11 (by simp; omega) (fun y hy => .inl hy)).fr (B' := fun y => y ≤ X ∨ H7.size ≤ y) hf12 (by simp; omega) (fun y hy => .inl hy)
              have hL12 := ((hL8.ext (B' := fun y => y ≤ X ∨ y = H8.size) hf910 (fun y hy => hy.imp id (by omega))).fr (B' := fun y => y ≤ X ∨ y = H8.size) hf11 (by simp; omega) (fun y hy => by have := hR.ar y hy; simp; omega) (fun y hy => .inl hy)).fr (B' := fun y => y ≤ X) hf12 (by simp) (fun y hy hm => by have := hL8.lt hy; simp at hm; omega) (fun y hy => .inl (.inl hy))
              have hI12 := ((rI.ext (B' := fun y => y < H'.size ∨ y = H8.size) hf910 (fun y hy => hy.imp id (by omega))).fr (B' := fun y => y < H'.size ∨ y = H8.size) hf11 (by simp; omega) (fun y hy => .inl hy)).fr (B' := fun y => y < H'.size) hf12 (by simp) (fun y hy => .inl (.inl hy))
              have hF12 := (((hR.fr.trans hf8).trans (hf910.mono (by simp))).trans hf11).trans' hf12 (by simp; omega)
              have hsz12 := hf12.size
              simp (implicitDefEqProofs := false) only [go_sem, hb12.cell, hn12.cell]
              refine NewS_intro fun H13 hn13 hf13 hs13 => ?_
              have hb13 := hb12.ext hf13
              have hL13 := hL12.ext (B' := fun y => y ≤ X) hf13 (fun y hy => .inl hy)
              have hI13 : RepP H13 (fun y => y ≤ X ∨ gr = some y) (strsD (listO L s').1) [.slice ia ((listO L s').1.map strD).length ic] := hI12.ext hf13 (by
                rintro y (hy | hy)
                · exact .inl (by omega)
                · exact .inl (hR.rules.lt hy))
              have hd13 : RepP H13 (fun y => y ≤ X ∨ gr = some y) (ruleD ⟨(listO L s').1, tx⟩) [.slice ia ((listO L s').1.map strD).length ic, .string ⟨⟨tx⟩⟩] := RepP.agg (RepsP.cons hI13 (RepsP.cons (RepP.v _) RepsP.nil)) rfl
              have hpl : (rd.map ruleD).length = i := by simpa using hR.len
              simp (implicitDefEqProofs := false) only [go_sem]
              refine App_ls ER hL13 Try.underlying24 hn13 rfl (one2 rfl rfl) hd13 rfl (by unfold maxLen; omega) (by omega) fun a1 c1 H14 gr14 hL14 hf14 hg14 => ?_
              have hgR : ∀ x ∈ gr.toList, H7.size ≤ x ∧ X < x := fun x hx => hR.ar x (by simpa using hx)
              have hb14 := hb13.fr hf14 (fun hm => by have := hgR X hm; omega)
              simp (implicitDefEqProofs := false) only [go_sem]
              refine Sto_one hb14 (by simp) rfl fun H15 hb15 hf15 hs15 => ?_
              have har : ∀ y, gr14 = some y → H7.size ≤ y ∧ X < y := fun y hy => by
                have := hf13.size
                rcases hg14 y hy with q | q
                · exact hR.ar y q
                · omega
              have hs14 := hf14.size
              have hs13' := hf13.size
              have hr15 := ((hr12.ext hf13).fr hf14 (fun hm => by have := hgR b hm; omega) (fun y hy hm => by have := hgR y hm; have := hgl y hy; omega)).fr hf15 (by simp; omega) (fun y hy => by have := hgl y hy; simp; omega)
              have hS : RuS H b L g X k hd H7 n vn vp H15 (i + 1) (rd ++ [⟨(listO L s').1, tx⟩]) (.slice a1 ((rd.map ruleD).length + 1) c1) gr14 s3 (hd.names ++ nd) pd := by
                refine ⟨hlt, by simp [hR.len], by simpa using hb15, ?_, ?_, ?_, ?_, har, hr15, ?_, by omega⟩
                · exact (((hc12.ext hf13).fr hf14 (fun hm => by have := hgR H.size hm; omega)).fr hf15 (by simp; omega))
                · exact ((hN12.ext (B' := fun y => y ≤ X ∨ H7.size ≤ y) hf13 (fun y hy => .inl hy)).fr (B' := fun y => y ≤ X ∨ H7.size ≤ y) hf14 (fun x hx => .inl (.inr (hgR x hx).1)) (fun y hy => .inl hy)).fr hf15 (by simp) (fun y hy => .inl hy)
                · exact ((hP12.ext (B' := fun y => y ≤ X ∨ H7.size ≤ y) hf13 (fun y hy => .inl hy)).fr (B' := fun y => y ≤ X ∨ H7.size ≤ y) hf14 (fun x hx => .inl (.inr (hgR x hx).1)) (fun y hy => .inl hy)).fr hf15 (by simp) (fun y hy => .inl hy)
                · have := hL14.fr (B' := fun y => y ≤ X) hf15 (by simp) (fun y hy => by have := har y hy; simp; omega) (fun y hy => .inl hy)
                  simpa using this
                · exact ((hF12.trans (hf13.mono (by simp))).trans' hf14 (fun x hx => .inr (by have := hgR x hx; omega))).trans' hf15 (by simp; omega)
              simp (implicitDefEqProofs := false) only [go_sem]
              refine (rerr_o hr15).mono ?_
              rintro r H16 ⟨rfl, hEq⟩
              obtain rfl := hEq.symm
              simp only [rulesO, hbx] at hE'
              cases s3 with
              | none =>
                simp only at hE'
                simp (implicitDefEqProofs := false) only [go_sem]
                exact hK _ _ ⟨_, _, _, _, _, _, _, _, _, _, _, _, _, _, _, _, _, _, _, rfl, _, _, _, _, _, hS, by simpa using hE'⟩
              | some p =>
                simp only at hE'
                simp (implicitDefEqProofs := false) only [go_sem]
                refine loopK_intro (i + 1, rd ++ [⟨(listO L s').1, tx⟩], .slice a1 ((rd.map ruleD).length + 1) c1, gr14, some p) (by show n - (i + 1) < n - i; omega) ?_ ⟨hS, by simpa using hE'⟩
                simp (implicitDefEqProofs := false) only [go_sem, hw]
            · have hge' : ¬ (i : Int) < (n : Int) := by omega
              rw [show n - i = 0 by omega] at hE'
              simp only [rulesO, List.append_nil] at hE'
              simp (implicitDefEqProofs := false) only [go_sem, hge']
              exact hK _ _ ⟨_, _, _, _, _, _, _, _, _, _, _, _, _, _, _, _, _, _, _, rfl, i, rd, vr, gr, s', hR, hE'⟩
        · rintro σ H8 ⟨a1, a3, a5, a6, a7, a8, a9, a10, a11, a12, a13, a14, a15, a16, a17, a18, a19, a20, a21, rfl, i, rd, vr, gr, s', hR, hE'⟩
          rw [← hE']
          have hx := hR.blk.cell
          have oR := hR.rules.one
          have hXs := hR.blk.lt
          have rR := hR.rules.rep (fun y hy => by have := hR.ar y hy; have := hR.up; omega)
          have hS7 := hR.up
          simp (implicitDefEqProofs := false) only [go_sem, hx]
          refine Sto_all hR.cell rfl (one6 oN oP oR) fun H9 hn9 hf9 hs9 => ?_
          have hc9 := hn9.cell
          simp (implicitDefEqProofs := false) only [go_sem, hc9]
          exact ⟨_, rfl, by rw [← k10']; exact lt_repP (hR.names.fr (B' := fun y => y < H.size) hf9 (by simp; omega) (fun y hy => .inl (.inl (by omega)))) (hR.parts.fr (B' := fun y => y < H.size) hf9 (by simp; omega) (fun y hy => .inl (.inl (by omega)))) (rR.fr (B' := fun y => y < H.size) hf9 (by simp; omega) (fun y hy => .inl (by omega))), hR.rd.fr hf9 (by simp; omega) (fun y hy => by have := hgl y hy; simp; omega), hR.fr.trans' hf9 (by simp)⟩
end Go.Proofs.Ytcilkhjadljaaaa
